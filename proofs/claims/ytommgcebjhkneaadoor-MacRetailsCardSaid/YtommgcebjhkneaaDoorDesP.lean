/-
  DES, plain: permutations by tables are undone, rounds are undone. Conditions: numbers fit 64 bits.
-/
import Derived.Test.YtommgcebjhkneaaDoorDes2
namespace Go.Proofs.YtommgcebjhkneaaDoor
open Go Go.RowKit
set_option linter.unusedVariables false
set_option linter.unusedSimpArgs false

theorem permN_bit (s : ByteArray) (size x : Nat) : ∀ (m k : Nat), k < m → (permN s size x m).testBit (m - 1 - k) = x.testBit (size - placeAt s k)
  | 0, k, h => by omega
  | m + 1, k, h => by
    rw [permN]
    have hb := Nat.mod_two_eq_zero_or_one (x / 2 ^ (size - placeAt s k))
    by_cases hk : k = m
    · subst hk
      rw [show k + 1 - 1 - k = 0 by omega, Nat.testBit_zero, Nat.testBit_eq_decide_div_mod_eq]
      congr 1
      rw [eq_iff_iff]
      omega
    · rw [show m + 1 - 1 - k = (m - 1 - k) + 1 by omega, Nat.testBit_succ, show (2 * permN s size x m + x / 2 ^ (size - placeAt s m) % 2) / 2 = permN s size x m by omega]
      exact permN_bit s size x m k (by omega)
theorem unpermN_bit (s : ByteArray) (x : Nat) (j : Nat) : ∀ (m : Nat), (unpermN s x m).testBit j = (List.range m).any fun k => 64 - placeAt s k == j && x.testBit (63 - k)
  | 0 => by simp [unpermN]
  | m + 1 => by
    rw [unpermN, Nat.testBit_or, unpermN_bit s x j m, List.range_succ, List.any_append]
    congr 1
    simp only [List.any_cons, List.any_nil, Bool.or_false]
    rw [Nat.testBit_mul_two_pow, Nat.testBit_eq_decide_div_mod_eq (x := x)]
    have hb := Nat.mod_two_eq_zero_or_one (x / 2 ^ (63 - m))
    by_cases h : 64 - placeAt s m = j
    · subst h
      rcases hb with hb | hb <;> simp [hb]
    · rw [show (64 - placeAt s m == j) = false by simpa using h, Bool.false_and]
      by_cases h2 : 64 - placeAt s m ≤ j
      · rw [show j - (64 - placeAt s m) = (j - (64 - placeAt s m) - 1) + 1 by omega, Nat.testBit_succ]
        rcases hb with hb | hb <;> simp [hb]
      · simp [h2]

/-- A table that names each of 64 places once. -/
def fullB (s : ByteArray) : Bool :=
  ((List.range 64).all fun j => (List.range 64).any fun k => 64 - placeAt s k == j) && ((List.range 64).all fun j => (List.range 64).all fun k => decide (j = k) || !(64 - placeAt s k == 64 - placeAt s j))
theorem unperm_perm (s : ByteArray) (h : fullB s = true) (x : Nat) (hx : x < 2 ^ 64) (hp : ∀ i, i < 64 → 1 ≤ placeAt s i ∧ placeAt s i ≤ 64) : unpermN s (permN s 64 x 64) 64 = x := by
  simp only [fullB, Bool.and_eq_true] at h
  apply Nat.eq_of_testBit_eq
  intro j
  by_cases hj : j < 64
  · rw [unpermN_bit, Bool.eq_iff_iff]
    constructor
    · intro ha
      obtain ⟨k, hk, hb⟩ := List.any_eq_true.1 ha
      have hk := List.mem_range.1 hk
      simp only [Bool.and_eq_true, beq_iff_eq] at hb
      have := permN_bit s 64 x 64 k hk
      rw [show 64 - 1 - k = 63 - k by omega, hb.2, hb.1] at this
      exact this.symm
    · intro hb
      obtain ⟨k, hk, he⟩ := List.any_eq_true.1 (List.all_eq_true.1 h.1 j (List.mem_range.2 hj))
      refine List.any_eq_true.2 ⟨k, hk, ?_⟩
      have hk := List.mem_range.1 hk
      have := permN_bit s 64 x 64 k hk
      rw [show 64 - 1 - k = 63 - k by omega] at this
      simp only [beq_iff_eq] at he
      simp [he, this, hb]
  · rw [Nat.testBit_lt_two_pow (Nat.lt_of_lt_of_le (unpermN_lt s _ 64 hp) (Nat.pow_le_pow_right (by decide) (by omega))), Nat.testBit_lt_two_pow (Nat.lt_of_lt_of_le hx (Nat.pow_le_pow_right (by decide) (by omega)))]
theorem perm_unperm (s : ByteArray) (h : fullB s = true) (x : Nat) (hx : x < 2 ^ 64) : permN s 64 (unpermN s x 64) 64 = x := by
  simp only [fullB, Bool.and_eq_true] at h
  apply Nat.eq_of_testBit_eq
  intro j
  by_cases hj : j < 64
  · have := permN_bit s 64 (unpermN s x 64) 64 (63 - j) (by omega)
    rw [show 64 - 1 - (63 - j) = j by omega] at this
    rw [this, unpermN_bit, Bool.eq_iff_iff]
    constructor
    · intro ha
      obtain ⟨k, hk, hb⟩ := List.any_eq_true.1 ha
      have h2 := List.all_eq_true.1 (List.all_eq_true.1 h.2 (63 - j) (List.mem_range.2 (by omega))) k hk
      have hk := List.mem_range.1 hk
      simp only [Bool.and_eq_true, beq_iff_eq] at hb
      rw [show (64 - placeAt s k == 64 - placeAt s (63 - j)) = true by simp [hb.1]] at h2
      simp only [Bool.not_true, Bool.or_false, decide_eq_true_eq] at h2
      rw [← h2, show 63 - (63 - j) = j by omega] at hb
      exact hb.2
    · intro hb
      exact List.any_eq_true.2 ⟨63 - j, List.mem_range.2 (by omega), by simp [show 63 - (63 - j) = j by omega, hb]⟩
  · rw [Nat.testBit_lt_two_pow (Nat.lt_of_lt_of_le (permN_lt s 64 _ 64) (Nat.pow_le_pow_right (by decide) (by omega))), Nat.testBit_lt_two_pow (Nat.lt_of_lt_of_le hx (Nat.pow_le_pow_right (by decide) (by omega)))]

/-- Rounds that turn two halves. -/
def feist (f : Nat → Nat → Nat) (l r : Nat) : Nat → Nat × Nat
  | 0 => (l, r)
  | i + 1 => ((feist f l r i).2, (feist f l r i).1 ^^^ f i (feist f l r i).2)
theorem feist_lt (f : Nat → Nat → Nat) (hf : ∀ i x, f i x < 2 ^ 32) (l r : Nat) (hl : l < 2 ^ 32) (hr : r < 2 ^ 32) (i : Nat) : (feist f l r i).1 < 2 ^ 32 ∧ (feist f l r i).2 < 2 ^ 32 := by
  induction i with
  | zero => exact ⟨hl, hr⟩
  | succ i ih => exact ⟨ih.2, Nat.xor_lt_two_pow ih.1 (hf _ _)⟩
theorem feist_back (f g : Nat → Nat → Nat) (h : ∀ i, i < 16 → g i = f (15 - i)) (l r : Nat) :
    ∀ i, i ≤ 16 → feist g (feist f l r 16).2 (feist f l r 16).1 i = ((feist f l r (16 - i)).2, (feist f l r (16 - i)).1)
  | 0, _ => rfl
  | i + 1, hi => by
    have e : 16 - i = (16 - (i + 1)) + 1 := by omega
    rw [feist, feist_back f g h l r i (by omega), e, feist, h i (by omega), show 15 - i = 16 - (i + 1) by omega]
    simp only [Prod.mk.injEq, true_and]
    rw [Nat.xor_assoc, Nat.xor_self, Nat.xor_zero]

/-- A block, as a number, of a table and round functions. -/
def blockG (ip : ByteArray) (f : Nat → Nat → Nat) (x : Nat) : Nat :=
  unpermN ip ((feist f (permN ip 64 x 64 / 2 ^ 32) (permN ip 64 x 64 % 2 ^ 32) 16).2 * 2 ^ 32 + (feist f (permN ip 64 x 64 / 2 ^ 32) (permN ip 64 x 64 % 2 ^ 32) 16).1) 64
theorem blockG_back (ip : ByteArray) (hip : fullB ip = true) (hp : ∀ i, i < 64 → 1 ≤ placeAt ip i ∧ placeAt ip i ≤ 64) (f g : Nat → Nat → Nat) (hf : ∀ i x, f i x < 2 ^ 32) (h : ∀ i, i < 16 → g i = f (15 - i)) (x : Nat) (hx : x < 2 ^ 64) :
    blockG ip g (blockG ip f x) = x := by
  obtain ⟨y, hy⟩ : ∃ y, permN ip 64 x 64 = y := ⟨_, rfl⟩
  have hy64 : y < 2 ^ 64 := hy ▸ permN_lt ip 64 x 64
  have hlt := feist_lt f hf (y / 2 ^ 32) (y % 2 ^ 32) (by omega) (Nat.mod_lt _ (by decide)) 16
  have hb := feist_back f g h (y / 2 ^ 32) (y % 2 ^ 32) 16 (Nat.le_refl _)
  rw [show 16 - 16 = 0 from rfl] at hb
  have hbx : blockG ip f x = unpermN ip ((feist f (y / 2 ^ 32) (y % 2 ^ 32) 16).2 * 2 ^ 32 + (feist f (y / 2 ^ 32) (y % 2 ^ 32) 16).1) 64 := by rw [blockG, hy]
  generalize feist f (y / 2 ^ 32) (y % 2 ^ 32) 16 = p at *
  have hz : permN ip 64 (blockG ip f x) 64 = p.2 * 2 ^ 32 + p.1 := by
    rw [hbx, perm_unperm ip hip _ (by omega)]
  have hd : (p.2 * 2 ^ 32 + p.1) / 2 ^ 32 = p.2 := by omega
  have hm : (p.2 * 2 ^ 32 + p.1) % 2 ^ 32 = p.1 := by omega
  rw [blockG, hz, hd, hm, hb]
  show unpermN ip (y / 2 ^ 32 * 2 ^ 32 + y % 2 ^ 32) 64 = x
  rw [Nat.div_add_mod', ← hy]
  exact unperm_perm ip hip x hx hp

/-! Eight bytes and their number. -/
theorem bytesTo_get (x : Nat) : ∀ (k j : Nat), k ≤ 8 → j < 8 → (bytesTo x k).getD j 0 = if j < k then ((x / 2 ^ (56 - 8 * j) % 256 : Nat) : Int) else 0
  | 0, j, _, hj => by
    rw [if_neg (by omega)]
    simp only [bytesTo, List.getD_eq_getElem?_getD]
    rw [List.getElem?_replicate]
    simp [hj]
  | k + 1, j, hk, hj => by
    rw [bytesTo, List.getD_eq_getElem?_getD, List.getElem?_set, bytesTo_length]
    by_cases h : k = j
    · subst h
      rw [if_pos rfl, if_pos (by omega), if_pos (by omega)]
      rfl
    · rw [if_neg h, ← List.getD_eq_getElem?_getD, bytesTo_get x k j (by omega) hj]
      by_cases h2 : j < k
      · rw [if_pos h2, if_pos (by omega)]
      · rw [if_neg h2, if_neg (by omega)]
theorem num_bytes (x : Nat) (hx : x < 2 ^ 64) : numTo (bytesTo x 8) 8 = x := by
  have h : ∀ k, k ≤ 8 → numTo (bytesTo x 8) k = x / 2 ^ (64 - 8 * k) := by
    intro k
    induction k with
    | zero => intro _; rw [numTo]; omega
    | succ k ih =>
      intro hk
      rw [numTo, ih (by omega), bytesTo_get x 8 k (by omega) (by omega), if_pos (by omega), Int.toNat_natCast, Nat.mod_mod]
      have e : 2 ^ (64 - 8 * k) = 2 ^ (56 - 8 * k) * 256 := by rw [show 64 - 8 * k = (56 - 8 * k) + 8 by omega, Nat.pow_add]
      rw [show 64 - 8 * (k + 1) = 56 - 8 * k by omega, e, ← Nat.div_div_eq_div_mul]
      omega
  rw [h 8 (by omega)]
  simp
theorem num_byte (xs : List Int) (j : Nat) : ∀ k, j < k → numTo xs k / 2 ^ (8 * (k - 1 - j)) % 256 = (xs.getD j 0).toNat % 256
  | 0, h => by omega
  | k + 1, h => by
    have hm := Nat.mod_lt (xs.getD k 0).toNat (show 0 < 256 by decide)
    rw [numTo]
    by_cases hk : j = k
    · subst hk
      rw [show 8 * (j + 1 - 1 - j) = 0 by omega]
      omega
    · rw [show 8 * (k + 1 - 1 - j) = 8 + 8 * (k - 1 - j) by omega, Nat.pow_add, ← Nat.div_div_eq_div_mul, show (256 * numTo xs k + (xs.getD k 0).toNat % 256) / 2 ^ 8 = numTo xs k by omega]
      exact num_byte xs j k (by omega)
theorem bytes_num (xs : List Int) (hl : xs.length = 8) (hb : ∀ x ∈ xs, 0 ≤ x ∧ x ≤ 255) : bytesTo (numTo xs 8) 8 = xs := by
  apply List.ext_getElem
  · rw [bytesTo_length, hl]
  · intro j h1 h2
    have h := bytesTo_get (numTo xs 8) 8 j (Nat.le_refl 8) (by omega)
    rw [if_pos (by omega)] at h
    have h3 := num_byte xs j 8 (by omega)
    rw [show 8 * (8 - 1 - j) = 56 - 8 * j by omega] at h3
    have hg : ∀ (ys : List Int) (hy : j < ys.length), ys.getD j 0 = ys[j] := fun ys hy => by simp [List.getD, hy]
    rw [hg _ h1] at h
    rw [h, h3, hg _ h2]
    have := hb _ (List.getElem_mem h2)
    omega
theorem bytes_byt (x : Nat) (k : Nat) : ∀ y ∈ bytesTo x k, 0 ≤ y ∧ y ≤ 255 := by
  induction k with
  | zero => intro y hy; have := List.eq_of_mem_replicate hy; omega
  | succ k ih =>
    intro y hy
    rcases List.mem_or_eq_of_mem_set hy with h | rfl
    · exact ih y h
    · omega
theorem num8_lt (xs : List Int) : numTo xs 8 < 2 ^ 64 := numTo_lt xs 8
end Go.Proofs.YtommgcebjhkneaaDoor

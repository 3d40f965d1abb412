/-
  des: bits moved by a table. Conditions: the table's places lie in 1 to the number of bits.
-/
import Derived.Test.YtommgcebjhkneaaDoorArr
namespace Go.Proofs.YtommgcebjhkneaaDoor
open Go Go.RowKit
set_option linter.unusedVariables false
set_option linter.unusedSimpArgs false

theorem get_bang (s : ByteArray) (i : Nat) (h : i < s.size) : s[i]'h = s.get! i := by
  obtain ⟨bs⟩ := s
  show bs[i]'h = bs[i]!
  exact (getElem!_pos bs i h).symm
theorem ofInt_u64 (a : Nat) (ha : a < 2 ^ 64) : (BitVec.ofInt 64 (a : Int)).toNat = a := by
  rw [BitVec.toNat_ofInt]; omega
theorem wrap_u64 (a : Nat) (ha : a < 2 ^ 64) : IntKind.u64.wrap (a : Int) = (a : Int) := by
  simp [IntKind.wrap, IntKind.signed, IntKind.bits]; omega
theorem or_u64 (a b : Nat) (ha : a < 2 ^ 64) (hb : b < 2 ^ 64) : bits .or .u64 (a : Int) (b : Int) = ((a ||| b : Nat) : Int) := by
  show IntKind.u64.wrap ((BitVec.ofInt 64 (a : Int) ||| BitVec.ofInt 64 (b : Int)).toNat : Int) = _
  rw [BitVec.toNat_or, ofInt_u64 a ha, ofInt_u64 b hb, wrap_u64 _ (Nat.or_lt_two_pow ha hb)]
theorem and_u64 (a b : Nat) (ha : a < 2 ^ 64) (hb : b < 2 ^ 64) : bits .and .u64 (a : Int) (b : Int) = ((a &&& b : Nat) : Int) := by
  show IntKind.u64.wrap ((BitVec.ofInt 64 (a : Int) &&& BitVec.ofInt 64 (b : Int)).toNat : Int) = _
  rw [BitVec.toNat_and, ofInt_u64 a ha, ofInt_u64 b hb, wrap_u64 _ (Nat.and_lt_two_pow a hb)]
theorem xor_u64 (a b : Nat) (ha : a < 2 ^ 64) (hb : b < 2 ^ 64) : bits .xor .u64 (a : Int) (b : Int) = ((a ^^^ b : Nat) : Int) := by
  show IntKind.u64.wrap ((BitVec.ofInt 64 (a : Int) ^^^ BitVec.ofInt 64 (b : Int)).toNat : Int) = _
  rw [BitVec.toNat_xor, ofInt_u64 a ha, ofInt_u64 b hb, wrap_u64 _ (Nat.xor_lt_two_pow ha hb)]
theorem or_at (P y d : Nat) (hP : P < 2 ^ 64) (hy : y < 2 ^ 64) (hd : d < 64) : bits .or .u64 (P : Int) (IntKind.u64.wrap (bits .and .u64 (y : Int) 1 * 2 ^ d)) = ((P ||| (y % 2) * 2 ^ d : Nat) : Int) := by
  have h1 := and_u64 y 1 hy (by decide)
  rw [show ((1 : Nat) : Int) = 1 from rfl, Nat.and_one_is_mod] at h1
  have hlt : (y % 2) * 2 ^ d < 2 ^ 64 := by
    calc (y % 2) * 2 ^ d ≤ 1 * 2 ^ d := Nat.mul_le_mul_right _ (by omega)
      _ = 2 ^ d := Nat.one_mul _
      _ < 2 ^ 64 := Nat.pow_lt_pow_right (by decide) hd
  rw [h1, show ((y % 2 : Nat) : Int) * 2 ^ d = (((y % 2) * 2 ^ d : Nat) : Int) by push_cast; rfl, wrap_u64 _ hlt, or_u64 P _ hP hlt]
theorem or_bit (P y : Nat) (hP : P < 2 ^ 63) (hy : y < 2 ^ 64) : bits .or .u64 ((P : Int) * 2) (bits .and .u64 (y : Int) 1) = ((2 * P + y % 2 : Nat) : Int) := by
  have h1 := and_u64 y 1 hy (by decide)
  rw [show ((1 : Nat) : Int) = 1 from rfl, Nat.and_one_is_mod] at h1
  have h2 := or_u64 (2 * P) (y % 2) (by omega) (by omega)
  rw [h1, show (P : Int) * 2 = ((2 * P : Nat) : Int) by omega, h2]
  have h3 := Nat.two_pow_add_eq_or_of_lt (i := 1) (b := y % 2) (by omega) P
  simp only [Nat.pow_one] at h3
  rw [h3]
/-- The place that two digits of a table name. -/
def placeAt (s : ByteArray) (i : Nat) : Nat := ((s.get! (2 * i)).toNat - 48) * 10 + ((s.get! (2 * i + 1)).toNat - 48)
/-- Bits by a table: the number of the first k of them. -/
def permN (s : ByteArray) (size x : Nat) : Nat → Nat
  | 0 => 0
  | k + 1 => 2 * permN s size x k + x / 2 ^ (size - placeAt s k) % 2
theorem permN_lt (s : ByteArray) (size x k : Nat) : permN s size x k < 2 ^ k := by
  induction k with
  | zero => simp [permN]
  | succ k ih => rw [permN, Nat.pow_succ]; have := Nat.mod_lt (x / 2 ^ (size - placeAt s k)) (show 0 < 2 by decide); omega
/-- A table of m places, each in 1 to size. -/
structure Tbl (s : ByteArray) (size m : Nat) : Prop where
  len : s.size = 2 * m
  dig : ∀ i, i < 2 * m → 48 ≤ (s.get! i).toNat ∧ (s.get! i).toNat ≤ 57
  pl : ∀ i, i < m → 1 ≤ placeAt s i ∧ placeAt s i ≤ size

/-- What unpermute has put together out of the first k bits. -/
def unpermN (s : ByteArray) (x : Nat) : Nat → Nat
  | 0 => 0
  | k + 1 => unpermN s x k ||| (x / 2 ^ (63 - k) % 2) * 2 ^ (64 - placeAt s k)
theorem unpermN_lt (s : ByteArray) (x k : Nat) (h : ∀ i, i < k → 1 ≤ placeAt s i ∧ placeAt s i ≤ 64) : unpermN s x k < 2 ^ 64 := by
  induction k with
  | zero => simp [unpermN]
  | succ k ih =>
    have h1 := (h k (by omega)).1
    rw [unpermN]
    refine Nat.or_lt_two_pow (ih fun i hi => h i (by omega)) ?_
    calc (x / 2 ^ (63 - k) % 2) * 2 ^ (64 - placeAt s k) ≤ 1 * 2 ^ (64 - placeAt s k) := Nat.mul_le_mul_right _ (by omega)
      _ = 2 ^ (64 - placeAt s k) := Nat.one_mul _
      _ < 2 ^ 64 := Nat.pow_lt_pow_right (by decide) (by omega)

set_option maxRecDepth 100000 in
set_option maxHeartbeats 2000000 in
theorem permute_any (x : Nat) (hx : x < 2 ^ 64) (size m : Nat) (s : ByteArray) (hT : Tbl s size m) (hm : m ≤ 64) (hsz : size ≤ 64) (w : World) :
    Calls Tryd.prog 59 #[.int .u64 x, .int .i64 size, .string s] w fun e w' => e = .returned (.int .u64 (permN s size x m : Nat)) ∧ ∃ k, w' = w.drewN k := by
  have HT := Hd.mk hT
  have hlen : s.size = 2 * m := hT.len
  clear hT
  go_enter Tryd.func59, Tryd.ntmps59
  go_wp2
  go_loopg [7, 8] (m + 1) (fun q v7 v8 wr => ∃ (k i kk : Nat), k ≤ m ∧ Hd (q + k = m + 1) ∧ v8 = .int .i64 i ∧ Hd (i = 2 * k) ∧ v7 = .int .u64 (permN s size x k : Nat) ∧ Hd (wr = w.drewN kk))
  case atStart => exact ⟨0, 0, 0, by omega, ⟨by omega⟩, rfl, ⟨rfl⟩, rfl, ⟨rfl⟩⟩
  case round =>
    obtain ⟨k, i, kk, hk, hq, rfl, hi, rfl, hw⟩ := hrel
    obtain rfl := hw.out
    clear hw
    by_cases hlt : k < m
    · have b1 : i + 1 < s.size := by have := hi.out; omega
      have hd1 := HT.out.dig (2 * k) (by omega)
      have hd2 := HT.out.dig (2 * k + 1) (by omega)
      have b2 : (i : Int) < 2 * (m : Int) := by have := hi.out; omega
      have b3 : (i : Int) + 1 < 2 * (m : Int) := by have := hi.out; omega
      have b4 : 0 ≤ (i : Int) + 1 := by omega
      obtain ⟨A, hA⟩ : ∃ A : Nat, Hd ((s.get! (2 * k)).toNat = A) := ⟨_, ⟨rfl⟩⟩
      obtain ⟨B, hB⟩ : ∃ B : Nat, Hd ((s.get! (2 * k + 1)).toNat = B) := ⟨_, ⟨rfl⟩⟩
      rw [hA.out] at hd1
      rw [hB.out] at hd2
      have e5 : ∀ h : i < s.size, ((s[i]'h).toNat : Int) = (A : Int) := fun h => by
        have h1 := hA.out; have h2 := hi.out; subst h2
        rw [← h1, get_bang s _ h]
      have e6 : ∀ h : i + 1 < s.size, ((s[i + 1]'h).toNat : Int) = (B : Int) := fun h => by
        have h1 := hB.out; have h2 := hi.out; subst h2
        rw [← h1, get_bang s _ h]
      obtain ⟨n, hn⟩ : ∃ n : Nat, Hd (n = placeAt s k) := ⟨_, ⟨rfl⟩⟩
      have hn2 : Hd (n = (A - 48) * 10 + (B - 48)) := ⟨by rw [hn.out, placeAt, hA.out, hB.out]⟩
      have hpl : 1 ≤ n ∧ n ≤ size := by have := HT.out.pl k hlt; rw [hn.out]; exact this
      have f1 : ((A : Int) - 48) % 256 = (A : Int) - 48 := by omega
      have f2 : ((B : Int) - 48) % 256 = (B : Int) - 48 := by omega
      have f3 : ((A : Int) - 48) * 10 + ((B : Int) - 48) = (n : Int) := by have := hn2.out; omega
      obtain ⟨P, hP⟩ : ∃ P, Hd (permN s size x k = P) := ⟨_, ⟨rfl⟩⟩
      have hP2 : P < 2 ^ 63 := by
        rw [← hP.out]
        exact Nat.lt_of_lt_of_le (permN_lt s size x k) (Nat.pow_le_pow_right (by decide) (by omega))
      rw [hP.out]
      have HI := Hd.mk hi.out
      clear hd1 hd2 hi
      go_wp2
      go_quiet (fail)
      go_wp2
      have hi2 : Hd ((i : Int) + 2 = ((i + 2 : Nat) : Int)) := ⟨by omega⟩
      have hval : Hd (bits .or .u64 ((P : Int) * 2) (bits .and .u64 ((x : Int) / 2 ^ (size - n)) 1) = ((permN s size x (k + 1) : Nat) : Int)) := ⟨by
        rw [permN, hP.out, ← hn.out, ← or_bit P (x / 2 ^ (size - n)) hP2 (Nat.lt_of_le_of_lt (Nat.div_le_self _ _) hx)]
        push_cast
        rfl⟩
      go_roundg (m + 1 - (k + 1))
      case measure => have := hq.out; omega
      case rel => exact ⟨k + 1, i + 2, _, by omega, ⟨by omega⟩, by rw [hi2.out], ⟨by have := HI.out; omega⟩, by rw [hval.out], ⟨rfl⟩⟩
    · obtain rfl : k = m := by omega
      have b2 : ¬ ((i : Int) < 2 * (k : Int)) := by have := hi.out; omega
      clear hi
      go_wp2
      go_ret
      exact ⟨rfl, _, rfl⟩

set_option maxRecDepth 100000 in
set_option maxHeartbeats 2000000 in
theorem unpermute_any (x : Nat) (hx : x < 2 ^ 64) (m : Nat) (s : ByteArray) (hT : Tbl s 64 m) (hm : m ≤ 64) (w : World) :
    Calls Tryd.prog 63 #[.int .u64 x, .string s] w fun e w' => e = .returned (.int .u64 (unpermN s x m : Nat)) ∧ ∃ k, w' = w.drewN k := by
  have HT := Hd.mk hT
  have hlen : s.size = 2 * m := hT.len
  clear hT
  go_enter Tryd.func63, Tryd.ntmps63
  go_wp2
  go_loopg [5, 6] (m + 1) (fun q v5 v6 wr => ∃ (k i kk : Nat), k ≤ m ∧ Hd (q + k = m + 1) ∧ v6 = .int .i64 i ∧ Hd (i = 2 * k) ∧ v5 = .int .u64 (unpermN s x k : Nat) ∧ Hd (wr = w.drewN kk))
  case atStart => exact ⟨0, 0, 0, by omega, ⟨by omega⟩, rfl, ⟨rfl⟩, rfl, ⟨rfl⟩⟩
  case round =>
    obtain ⟨k, i, kk, hk, hq, rfl, hi, rfl, hw⟩ := hrel
    obtain rfl := hw.out
    clear hw
    by_cases hlt : k < m
    · have b1 : i + 1 < s.size := by have := hi.out; omega
      have hd1 := HT.out.dig (2 * k) (by omega)
      have hd2 := HT.out.dig (2 * k + 1) (by omega)
      have b2 : (i : Int) < 2 * (m : Int) := by have := hi.out; omega
      have b3 : (i : Int) + 1 < 2 * (m : Int) := by have := hi.out; omega
      have b4 : 0 ≤ (i : Int) + 1 := by omega
      obtain ⟨A, hA⟩ : ∃ A : Nat, Hd ((s.get! (2 * k)).toNat = A) := ⟨_, ⟨rfl⟩⟩
      obtain ⟨B, hB⟩ : ∃ B : Nat, Hd ((s.get! (2 * k + 1)).toNat = B) := ⟨_, ⟨rfl⟩⟩
      rw [hA.out] at hd1
      rw [hB.out] at hd2
      have e5 : ∀ h : i < s.size, ((s[i]'h).toNat : Int) = (A : Int) := fun h => by
        have h1 := hA.out; have h2 := hi.out; subst h2
        rw [← h1, get_bang s _ h]
      have e6 : ∀ h : i + 1 < s.size, ((s[i + 1]'h).toNat : Int) = (B : Int) := fun h => by
        have h1 := hB.out; have h2 := hi.out; subst h2
        rw [← h1, get_bang s _ h]
      obtain ⟨n, hn⟩ : ∃ n : Nat, Hd (n = placeAt s k) := ⟨_, ⟨rfl⟩⟩
      have hn2 : Hd (n = (A - 48) * 10 + (B - 48)) := ⟨by rw [hn.out, placeAt, hA.out, hB.out]⟩
      have hpl : 1 ≤ n ∧ n ≤ 64 := by have := HT.out.pl k hlt; rw [hn.out]; exact this
      have f1 : ((A : Int) - 48) % 256 = (A : Int) - 48 := by omega
      have f2 : ((B : Int) - 48) % 256 = (B : Int) - 48 := by omega
      have f3 : ((A : Int) - 48) * 10 + ((B : Int) - 48) = (n : Int) := by have := hn2.out; omega
      obtain ⟨P, hP⟩ : ∃ P, Hd (unpermN s x k = P) := ⟨_, ⟨rfl⟩⟩
      have hP2 : P < 2 ^ 64 := by rw [← hP.out]; exact unpermN_lt s x k (fun i hi => HT.out.pl i (by omega))
      have hdiv : (i : Int).tdiv 2 = (k : Int) := by rw [Int.tdiv_eq_ediv_of_nonneg (by omega)]; have := hi.out; omega
      have hk64 : k < 64 := by omega
      rw [hP.out]
      have HI := Hd.mk hi.out
      clear hd1 hd2 hi
      go_wp2
      go_quiet (fail)
      go_wp2
      have hi2 : Hd ((i : Int) + 2 = ((i + 2 : Nat) : Int)) := ⟨by omega⟩
      have hval : Hd (bits .or .u64 (P : Int) (IntKind.u64.wrap (bits .and .u64 ((x : Int) / 2 ^ (63 - k)) 1 * 2 ^ (64 - n))) = ((unpermN s x (k + 1) : Nat) : Int)) := ⟨by
        rw [unpermN, hP.out, ← hn.out, ← or_at P (x / 2 ^ (63 - k)) (64 - n) hP2 (Nat.lt_of_le_of_lt (Nat.div_le_self _ _) hx) (by omega)]
        push_cast
        rfl⟩
      go_roundg (m + 1 - (k + 1))
      case measure => have := hq.out; omega
      case rel => exact ⟨k + 1, i + 2, _, by omega, ⟨by omega⟩, by rw [hi2.out], ⟨by have := HI.out; omega⟩, by rw [hval.out], ⟨rfl⟩⟩
    · obtain rfl : k = m := by omega
      have b2 : ¬ ((i : Int) < 2 * (k : Int)) := by have := hi.out; omega
      clear hi
      go_wp2
      go_ret
      exact ⟨rfl, _, rfl⟩
end Go.Proofs.YtommgcebjhkneaaDoor

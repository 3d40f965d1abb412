/-
  Lists of bits and their numbers: plain. No condition on a program.
-/
import Derived.Test.YtommgcebjhkneaaDoorDes6
namespace Go.Proofs.YtommgcebjhkneaaDoor
open Go Go.RowKit
set_option linter.unusedVariables false
set_option linter.unusedSimpArgs false

/-- A number's bit, as a number. -/
def bitI (x j : Nat) : Int := ((x.testBit j).toNat : Int)
theorem bitI_eq (x j : Nat) : bitI x j = ((x / 2 ^ j % 2 : Nat) : Int) := by rw [bitI, Nat.toNat_testBit]
theorem bitI_01 (x j : Nat) : bitI x j = 0 ∨ bitI x j = 1 := by
  unfold bitI
  cases x.testBit j <;> simp
/-- The m lowest bits of a number, the highest first. -/
def bitsN (x m : Nat) : List Int := (List.range m).map fun i => bitI x (m - 1 - i)
theorem bitsN_length (x m : Nat) : (bitsN x m).length = m := by simp [bitsN]
theorem bitsN_get (x m i : Nat) (hi : i < m) : (bitsN x m)[i]? = some (bitI x (m - 1 - i)) := by simp [bitsN, hi]
theorem bitsN_getD (x m i : Nat) (hi : i < m) : (bitsN x m).getD i 0 = bitI x (m - 1 - i) := by simp [List.getD, bitsN_get x m i hi]
theorem bitsN_step (x m k : Nat) (hk : k < m) : (bitsN x m).take (k + 1) = (bitsN x m).take k ++ [bitI x (m - 1 - k)] := by
  rw [List.take_add_one, bitsN_get x m k hk]; rfl
theorem bitsN_ext (xs : List Int) (x m : Nat) (hl : xs.length = m) (h : ∀ i, i < m → xs.getD i 0 = bitI x (m - 1 - i)) : xs = bitsN x m := by
  apply List.ext_getElem (by rw [hl, bitsN_length])
  intro i h1 h2
  have := h i (by omega)
  rw [show xs.getD i 0 = xs[i] by simp [List.getD, h1]] at this
  rw [this]
  simp [bitsN]
theorem getD_app (xs ys : List Int) (i : Nat) : (xs ++ ys).getD i 0 = if i < xs.length then xs.getD i 0 else ys.getD (i - xs.length) 0 := by
  simp only [List.getD_eq_getElem?_getD, List.getElem?_append]
  split <;> rfl
theorem bitsN_append (x y a b : Nat) (hy : y < 2 ^ b) : bitsN (x * 2 ^ b + y) (a + b) = bitsN x a ++ bitsN y b := by
  symm
  apply bitsN_ext _ _ _ (by simp [bitsN_length])
  intro i hi
  rw [Nat.mul_comm]
  unfold bitI
  rw [Nat.testBit_two_pow_mul_add x hy]
  by_cases h : i < a
  · rw [if_neg (by omega), getD_app, if_pos (by rw [bitsN_length]; exact h), bitsN_getD x a i h, bitI, show a + b - 1 - i - b = a - 1 - i by omega]
  · rw [if_pos (by omega), getD_app, if_neg (by rw [bitsN_length]; omega), bitsN_length, bitsN_getD y b _ (by omega), bitI, show b - 1 - (i - a) = a + b - 1 - i by omega]
theorem bitsN_split (x a b : Nat) : bitsN x (a + b) = bitsN (x / 2 ^ b) a ++ bitsN (x % 2 ^ b) b := by
  rw [← bitsN_append _ _ _ _ (Nat.mod_lt _ (Nat.two_pow_pos b)), Nat.div_add_mod']
theorem bitsN_take (x a b : Nat) : (bitsN x (a + b)).take a = bitsN (x / 2 ^ b) a := by
  rw [bitsN_split, List.take_append, bitsN_length, Nat.sub_self, List.take_zero, List.append_nil, List.take_of_length_le (by rw [bitsN_length]; exact Nat.le_refl _)]
theorem bitsN_drop (x a b : Nat) : (bitsN x (a + b)).drop a = bitsN (x % 2 ^ b) b := by
  rw [bitsN_split, List.drop_append, bitsN_length, Nat.sub_self, List.drop_zero, List.drop_of_length_le (by rw [bitsN_length]; exact Nat.le_refl _), List.nil_append]
theorem bitsN_nil (x : Nat) : bitsN x 0 = [] := rfl

/-! What moves bits, on lists. -/
theorem permN_bitI (s : ByteArray) (size x m k : Nat) (hk : k < m) : bitI (permN s size x m) (m - 1 - k) = bitI x (size - placeAt s k) := by
  rw [bitI, bitI, permN_bit s size x m k hk]
theorem rot_bits (c n : Nat) (hc : c < 2 ^ 28) (hn : n = 1 ∨ n = 2) : (bitsN c 28).drop n ++ (bitsN c 28).take n = bitsN (turnN c n) 28 := by
  have e : 28 = n + (28 - n) := by omega
  have h1 : (bitsN c 28).drop n = bitsN (c % 2 ^ (28 - n)) (28 - n) := by
    have := bitsN_drop c n (28 - n)
    rwa [← e] at this
  have h2 : (bitsN c 28).take n = bitsN (c / 2 ^ (28 - n)) n := by
    have := bitsN_take c n (28 - n)
    rwa [← e] at this
  have hlt : c / 2 ^ (28 - n) < 2 ^ n := by
    rw [Nat.div_lt_iff_lt_mul (Nat.two_pow_pos _), ← Nat.pow_add, show n + (28 - n) = 28 by omega]; exact hc
  rw [h1, h2, ← bitsN_append _ _ _ _ hlt, show 28 - n + n = 28 by omega]
  congr 1
  unfold turnN
  rw [Nat.mul_comm c, Nat.mul_comm (c % _), ← Nat.two_pow_add_eq_or_of_lt hlt]
  have e2 : 2 ^ 28 = 2 ^ n * 2 ^ (28 - n) := by rw [← Nat.pow_add, show n + (28 - n) = 28 by omega]
  rw [e2, Nat.mul_comm (2 ^ n) c, Nat.add_comm]
  have hm : c = 2 ^ (28 - n) * (c / 2 ^ (28 - n)) + c % 2 ^ (28 - n) := (Nat.div_add_mod c _).symm
  rcases hn with rfl | rfl
  · simp only [Nat.reduceSub, Nat.reducePow, Nat.reduceMul] at *
    omega
  · simp only [Nat.reduceSub, Nat.reducePow, Nat.reduceMul] at *
    omega

/-! The six bits that go into a box. -/
theorem wide_bit (half p : Nat) (hh : half < 2 ^ 32) (hp : p < 34) : (wideN half).testBit p = half.testBit (if p = 33 then 0 else if p = 0 then 31 else p - 1) := by
  unfold wideN
  rw [show (8589934592 : Nat) = 2 ^ 33 from rfl, show (2147483648 : Nat) = 2 ^ 31 from rfl, show half * 2 = half * 2 ^ 1 by rw [Nat.pow_one], Nat.testBit_or, Nat.testBit_or, Nat.testBit_mul_two_pow, Nat.testBit_mul_two_pow, Nat.testBit_div_two_pow, Nat.testBit_and]
  by_cases h33 : p = 33
  · subst h33
    rw [if_pos rfl]
    have h1 : half.testBit 32 = false := Nat.testBit_lt_two_pow hh
    have h2 : half.testBit 64 = false := Nat.testBit_lt_two_pow (Nat.lt_of_lt_of_le hh (by decide))
    simp [h1, h2]
  · rw [if_neg h33]
    by_cases h0 : p = 0
    · subst h0
      simp
    · rw [if_neg h0]
      have h2 : half.testBit (p + 31) = false := Nat.testBit_lt_two_pow (Nat.lt_of_lt_of_le hh (Nat.pow_le_pow_right (by decide) (by omega)))
      simp [h2, show ¬ (33 ≤ p) by omega, show 1 ≤ p by omega, Nat.add_comm]
theorem six_bit (half key i j : Nat) (hh : half < 2 ^ 32) (hi : i < 8) (hj : j < 6) :
    (sixN half key i).testBit (5 - j) = (half.testBit (31 - (4 * i + j + 31) % 32) ^^ key.testBit (47 - (6 * i + j))) := by
  unfold sixN
  rw [show (63 : Nat) = 2 ^ 6 - 1 from rfl, Nat.testBit_xor, Nat.and_two_pow_sub_one_eq_mod, Nat.and_two_pow_sub_one_eq_mod, Nat.testBit_mod_two_pow, Nat.testBit_mod_two_pow, Nat.testBit_div_two_pow, Nat.testBit_div_two_pow, wide_bit half _ hh (by omega)]
  rw [show decide (5 - j < 6) = true by simp; omega, Bool.true_and, Bool.true_and]
  congr 2
  · split
    · omega
    · split <;> omega
  · omega
theorem six_bits (half key i j : Nat) (hh : half < 2 ^ 32) (hi : i < 8) (hj : j < 6) (r : Int) (hr : r = bits .xor .i64 (bitI half (31 - (4 * i + j + 31) % 32)) (bitI key (47 - (6 * i + j)))) : r = bitI (sixN half key i) (5 - j) := by
  rw [hr, bitI, bitI, bitI, six_bit half key i j hh hi hj]
  cases half.testBit (31 - (4 * i + j + 31) % 32) <;> cases key.testBit (47 - (6 * i + j)) <;> rfl
theorem idx_bits (s : Nat) (hs : s < 64) : 16 * (2 * bitI s 5 + bitI s 0) + (8 * bitI s 4 + 4 * bitI s 3 + 2 * bitI s 2 + bitI s 1) = ((idxN s : Nat) : Int) := by
  have h : (List.range 64).all (fun s => decide (16 * (2 * bitI s 5 + bitI s 0) + (8 * bitI s 4 + 4 * bitI s 3 + 2 * bitI s 2 + bitI s 1) = ((idxN s : Nat) : Int))) = true := by kernel_rfl
  simpa using List.all_eq_true.1 h s (List.mem_range.2 hs)
theorem four_bits (v : Nat) (hv : v < 16) : bitsN v 4 = [((v / 8 % 2 : Nat) : Int), ((v / 4 % 2 : Nat) : Int), ((v / 2 % 2 : Nat) : Int), ((v % 2 : Nat) : Int)] := by
  have h : (List.range 16).all (fun v => decide (bitsN v 4 = [((v / 8 % 2 : Nat) : Int), ((v / 4 % 2 : Nat) : Int), ((v / 2 % 2 : Nat) : Int), ((v % 2 : Nat) : Int)])) = true := by kernel_rfl
  simpa using List.all_eq_true.1 h v (List.mem_range.2 hv)
theorem xor_bits (l r : Nat) (i : Nat) : bits .xor .i64 (bitI l i) (bitI r i) = bitI (l ^^^ r) i := by
  rw [bitI, bitI, bitI, Nat.testBit_xor]
  cases l.testBit i <;> cases r.testBit i <;> rfl

/-! Bytes and bits. -/
theorem num_bits (xs : List Int) : ∀ k, k ≤ xs.length → bitsN (numTo xs (k + 1)) (8 * (k + 1)) = bitsN (numTo xs k) (8 * k) ++ bitsN ((xs.getD k 0).toNat % 256) 8 := by
  intro k _
  rw [numTo, Nat.mul_comm 256, show (256 : Nat) = 2 ^ 8 from rfl, show 8 * (k + 1) = 8 * k + 8 by omega]
  exact bitsN_append _ _ _ _ (Nat.mod_lt _ (by decide))
end Go.Proofs.YtommgcebjhkneaaDoor

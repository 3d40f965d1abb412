/-
  AES, plain: what is enciphered and deciphered is what it was, and the other way round. Conditions: a block of sixteen bytes.
-/
import Derived.Test.YtommgcebjhkneaaDoorAesTab
import Derived.Test.YtommgcebjhkneaaDoorAesTb2
import Derived.Test.YtommgcebjhkneaaDoorMode
namespace Go.Proofs.YtommgcebjhkneaaDoor
open Go Go.RowKit
set_option linter.unusedVariables false
set_option linter.unusedSimpArgs false

theorem xor_comm8 (a b : Int) : bits .xor .u8 a b = bits .xor .u8 b a := by rw [xor_u8, xor_u8, BitVec.xor_comm]
theorem xor_assoc8 (a b c : Int) : bits .xor .u8 (bits .xor .u8 a b) c = bits .xor .u8 a (bits .xor .u8 b c) := by
  rw [xor_u8, xor_u8, xor_u8, xor_u8, ofInt_toNat, ofInt_toNat, BitVec.xor_assoc]
theorem xor_zero8 (a : Int) (ha : 0 ≤ a ∧ a ≤ 255) : bits .xor .u8 a 0 = a := by
  rw [xor_u8, show BitVec.ofInt 8 0 = 0#8 from rfl, BitVec.xor_zero, bv_u8 a ha]
theorem zero_xor8 (a : Int) (ha : 0 ≤ a ∧ a ≤ 255) : bits .xor .u8 0 a = a := by rw [xor_comm8, xor_zero8 a ha]

/-! Products are linear in the second factor. -/
theorem nat_xor8 (a b : Nat) (ha : a < 256) (hb : b < 256) : bits .xor .u8 (a : Int) (b : Int) = ((a ^^^ b : Nat) : Int) := by
  rw [xor_u8]
  congr 1
  rw [BitVec.toNat_xor, BitVec.toNat_ofInt, BitVec.toNat_ofInt]
  congr 1 <;> omega
theorem nat_and8 (a : Nat) (ha : a < 256) : bits .and .u8 (a : Int) 1 = ((a % 2 : Nat) : Int) := by
  show IntKind.u8.wrap ((BitVec.ofInt 8 (a : Int) &&& BitVec.ofInt 8 1).toNat : Int) = _
  rw [BitVec.toNat_and, BitVec.toNat_ofInt, BitVec.toNat_ofInt]
  rw [show ((a : Int) % (2 ^ 8 : Nat)).toNat = a by omega, show ((1 : Int) % (2 ^ 8 : Nat)).toNat = 1 by rfl, Nat.and_one_is_mod]
  simp [IntKind.wrap, IntKind.signed, IntKind.bits]
  omega
theorem mulTo_lin (n : Nat) : ∀ (a : Int) (b c : Nat) (o p : Int), b < 256 → c < 256 →
    mulTo n a ((b ^^^ c : Nat) : Int) (bits .xor .u8 o p) = bits .xor .u8 (mulTo n a b o) (mulTo n a c p) := by
  induction n with
  | zero => intro a b c o p _ _; rfl
  | succ n ih =>
    intro a b c o p hb hc
    have hbc : b ^^^ c < 256 := Nat.xor_lt_two_pow (n := 8) hb hc
    have e : ((b ^^^ c : Nat) : Int) / 2 = ((b / 2 ^^^ c / 2 : Nat) : Int) := by
      rw [← Nat.xor_div_two]; omega
    have e1 : ((b : Nat) : Int) / 2 = ((b / 2 : Nat) : Int) := by omega
    have e2 : ((c : Nat) : Int) / 2 = ((c / 2 : Nat) : Int) := by omega
    simp only [mulTo]
    rw [e, e1, e2, nat_and8 _ hb, nat_and8 _ hc, nat_and8 _ hbc]
    have hm : (b ^^^ c) % 2 = (b % 2 + c % 2) % 2 := by
      have := @Nat.xor_mod_two_eq_one b c
      rcases Nat.mod_two_eq_zero_or_one b with h1 | h1 <;> rcases Nat.mod_two_eq_zero_or_one c with h2 | h2 <;> rcases Nat.mod_two_eq_zero_or_one (b ^^^ c) with h3 | h3 <;> simp [h1, h2, h3] at this ⊢
    have e5 : ∀ x y : Int, bits .xor .u8 (bits .xor .u8 x a) (bits .xor .u8 y a) = bits .xor .u8 x y := fun x y => by
      rw [xor_assoc8 x a, ← xor_assoc8 a y a, xor_comm8 a y, xor_assoc8 y a a, ← xor_assoc8, xor_u8 a a, BitVec.xor_self]
      exact xor_zero8 _ (xor_byt _ _)
    rcases Nat.mod_two_eq_zero_or_one b with h1 | h1 <;> rcases Nat.mod_two_eq_zero_or_one c with h2 | h2 <;> rw [h1, h2] at hm <;> rw [h1, h2, hm, ← ih _ _ _ _ _ (by omega) (by omega)] <;> simp
    · rw [xor_assoc8]
    · rw [xor_assoc8, xor_comm8 p a, ← xor_assoc8]
    · rw [e5]
theorem mul_lin (a x y : Int) (hx : 0 ≤ x ∧ x ≤ 255) (hy : 0 ≤ y ∧ y ≤ 255) : mulI a (bits .xor .u8 x y) = bits .xor .u8 (mulI a x) (mulI a y) := by
  obtain ⟨b, rfl⟩ : ∃ n : Nat, x = n := ⟨x.toNat, by omega⟩
  obtain ⟨c, rfl⟩ : ∃ n : Nat, y = n := ⟨y.toNat, by omega⟩
  rw [nat_xor8 b c (by omega) (by omega)]
  have := mulTo_lin 8 a b c 0 0 (by omega) (by omega)
  rw [show bits .xor .u8 0 0 = 0 by rfl] at this
  exact this
theorem box_byt (x : Int) : 0 ≤ boxI x ∧ boxI x ≤ 255 := xor_byt _ _
theorem mulTo_byt (n : Nat) : ∀ (a b o : Int), (0 ≤ o ∧ o ≤ 255) → 0 ≤ mulTo n a b o ∧ mulTo n a b o ≤ 255 := by
  induction n with
  | zero => intro a b o h; exact h
  | succ n ih =>
    intro a b o h
    rw [mulTo]
    refine ih _ _ _ ?_
    split
    · exact xor_byt _ _
    · exact h
theorem mul_byt (a b : Int) : 0 ≤ mulI a b ∧ mulI a b ≤ 255 := mulTo_byt 8 a b 0 (by omega)
instance : Std.Associative (bits .xor .u8) := ⟨xor_assoc8⟩
instance : Std.Commutative (bits .xor .u8) := ⟨xor_comm8⟩
/-- One byte of a column multiplied. -/
def colE (m0 m1 m2 m3 x0 x1 x2 x3 : Int) : Int := bits .xor .u8 (bits .xor .u8 (bits .xor .u8 (bits .xor .u8 0 (mulI m0 x0)) (mulI m1 x1)) (mulI m2 x2)) (mulI m3 x3)
theorem colE_eq (m0 m1 m2 m3 x0 x1 x2 x3 : Int) : colE m0 m1 m2 m3 x0 x1 x2 x3 = bits .xor .u8 (bits .xor .u8 (bits .xor .u8 (mulI m0 x0) (mulI m1 x1)) (mulI m2 x2)) (mulI m3 x3) := by
  rw [colE, zero_xor8 _ (mul_byt _ _)]
theorem colE_byt (m0 m1 m2 m3 x0 x1 x2 x3 : Int) : 0 ≤ colE m0 m1 m2 m3 x0 x1 x2 x3 ∧ colE m0 m1 m2 m3 x0 x1 x2 x3 ≤ 255 := xor_byt _ _
theorem mul_col (w m0 m1 m2 m3 x0 x1 x2 x3 : Int) : mulI w (colE m0 m1 m2 m3 x0 x1 x2 x3) = bits .xor .u8 (bits .xor .u8 (bits .xor .u8 (mulI w (mulI m0 x0)) (mulI w (mulI m1 x1))) (mulI w (mulI m2 x2))) (mulI w (mulI m3 x3)) := by
  rw [colE_eq, mul_lin _ _ _ (xor_byt _ _) (mul_byt _ _), mul_lin _ _ _ (xor_byt _ _) (mul_byt _ _), mul_lin _ _ _ (mul_byt _ _) (mul_byt _ _)]
theorem col_law (w0 w1 w2 w3 m0 m1 m2 m3 x0 x1 x2 x3 : Int) (h0 : 0 ≤ x0 ∧ x0 ≤ 255)
    (t0 : bits .xor .u8 (bits .xor .u8 (bits .xor .u8 (mulI w0 (mulI m0 x0)) (mulI w1 (mulI m3 x0))) (mulI w2 (mulI m2 x0))) (mulI w3 (mulI m1 x0)) = x0)
    (t1 : bits .xor .u8 (bits .xor .u8 (bits .xor .u8 (mulI w0 (mulI m1 x1)) (mulI w1 (mulI m0 x1))) (mulI w2 (mulI m3 x1))) (mulI w3 (mulI m2 x1)) = 0)
    (t2 : bits .xor .u8 (bits .xor .u8 (bits .xor .u8 (mulI w0 (mulI m2 x2)) (mulI w1 (mulI m1 x2))) (mulI w2 (mulI m0 x2))) (mulI w3 (mulI m3 x2)) = 0)
    (t3 : bits .xor .u8 (bits .xor .u8 (bits .xor .u8 (mulI w0 (mulI m3 x3)) (mulI w1 (mulI m2 x3))) (mulI w2 (mulI m1 x3))) (mulI w3 (mulI m0 x3)) = 0) :
    colE w0 w1 w2 w3 (colE m0 m1 m2 m3 x0 x1 x2 x3) (colE m0 m1 m2 m3 x1 x2 x3 x0) (colE m0 m1 m2 m3 x2 x3 x0 x1) (colE m0 m1 m2 m3 x3 x0 x1 x2) = x0 := by
  rw [colE_eq, mul_col, mul_col, mul_col, mul_col]
  generalize mulI w0 (mulI m0 x0) = a00, mulI w0 (mulI m1 x1) = a01, mulI w0 (mulI m2 x2) = a02, mulI w0 (mulI m3 x3) = a03,
    mulI w1 (mulI m0 x1) = a11, mulI w1 (mulI m1 x2) = a12, mulI w1 (mulI m2 x3) = a13, mulI w1 (mulI m3 x0) = a10,
    mulI w2 (mulI m0 x2) = a22, mulI w2 (mulI m1 x3) = a23, mulI w2 (mulI m2 x0) = a20, mulI w2 (mulI m3 x1) = a21,
    mulI w3 (mulI m0 x3) = a33, mulI w3 (mulI m1 x0) = a30, mulI w3 (mulI m2 x1) = a31, mulI w3 (mulI m3 x2) = a32 at *
  have : bits .xor .u8 (bits .xor .u8 (bits .xor .u8 (bits .xor .u8 (bits .xor .u8 (bits .xor .u8 a00 a01) a02) a03) (bits .xor .u8 (bits .xor .u8 (bits .xor .u8 a11 a12) a13) a10)) (bits .xor .u8 (bits .xor .u8 (bits .xor .u8 a22 a23) a20) a21)) (bits .xor .u8 (bits .xor .u8 (bits .xor .u8 a33 a30) a31) a32) =
      bits .xor .u8 (bits .xor .u8 (bits .xor .u8 (bits .xor .u8 (bits .xor .u8 (bits .xor .u8 a00 a10) a20) a30) (bits .xor .u8 (bits .xor .u8 (bits .xor .u8 a01 a11) a21) a31)) (bits .xor .u8 (bits .xor .u8 (bits .xor .u8 a02 a12) a22) a32)) (bits .xor .u8 (bits .xor .u8 (bits .xor .u8 a03 a13) a23) a33) := by
    ac_rfl
  rw [this, t0, t1, t2, t3, xor_zero8 _ h0, xor_zero8 _ h0, xor_zero8 _ h0]
theorem col_dec (x0 x1 x2 x3 : Int) (h0 : 0 ≤ x0 ∧ x0 ≤ 255) (h1 : 0 ≤ x1 ∧ x1 ≤ 255) (h2 : 0 ≤ x2 ∧ x2 ≤ 255) (h3 : 0 ≤ x3 ∧ x3 ≤ 255) :
    colE 14 11 13 9 (colE 2 3 1 1 x0 x1 x2 x3) (colE 2 3 1 1 x1 x2 x3 x0) (colE 2 3 1 1 x2 x3 x0 x1) (colE 2 3 1 1 x3 x0 x1 x2) = x0 :=
  col_law _ _ _ _ _ _ _ _ _ _ _ _ h0 (colT0 x0 h0) (colT1 x1 h1) (colT2 x2 h2) (colT3 x3 h3)
theorem col_enc (x0 x1 x2 x3 : Int) (h0 : 0 ≤ x0 ∧ x0 ≤ 255) (h1 : 0 ≤ x1 ∧ x1 ≤ 255) (h2 : 0 ≤ x2 ∧ x2 ≤ 255) (h3 : 0 ≤ x3 ∧ x3 ≤ 255) :
    colE 2 3 1 1 (colE 14 11 13 9 x0 x1 x2 x3) (colE 14 11 13 9 x1 x2 x3 x0) (colE 14 11 13 9 x2 x3 x0 x1) (colE 14 11 13 9 x3 x0 x1 x2) = x0 :=
  col_law _ _ _ _ _ _ _ _ _ _ _ _ h0 (colU0 x0 h0) (colU1 x1 h1) (colU2 x2 h2) (colU3 x3 h3)
end Go.Proofs.YtommgcebjhkneaaDoor

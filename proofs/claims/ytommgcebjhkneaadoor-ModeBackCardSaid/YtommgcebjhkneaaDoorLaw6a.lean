/-
  lockboxlaw06.ModeXors answers true, whatever the bytes. Conditions: the slices can be read.
-/
import Derived.Test.YtommgcebjhkneaaDoorAwake6
import Derived.Test.YtommgcebjhkneaaDoorValZ
namespace Go.Proofs.YtommgcebjhkneaaDoor
open Go Go.RowKit
set_option linter.unusedVariables false
set_option linter.unusedSimpArgs false

/-! The two facts that awake asks of AES. -/
theorem aesv0 : encI (List.replicate 16 0) 4 (List.replicate 16 0) = vzs0_10 := vzval0
theorem aesv1 : encI (List.replicate 16 0) 4 vzs0_10 = vzs1_10 := vzval1
theorem X6_val : X6 = ([] ++ vzs0_10) ++ vzs1_10 := by
  show ([] ++ encI (List.replicate 16 0) 4 (xorI (blk 16 (List.replicate 32 0) 0) (List.replicate 16 0))) ++ encI (List.replicate 16 0) 4 (xorI (blk 16 (List.replicate 32 0) 1) (encI (List.replicate 16 0) 4 (xorI (blk 16 (List.replicate 32 0) 0) (List.replicate 16 0)))) = _
  rw [show xorI (blk 16 (List.replicate 32 0) 0) (List.replicate 16 0) = List.replicate 16 0 by kernel_rfl, aesv0, show xorI (blk 16 (List.replicate 32 0) 1) vzs0_10 = vzs0_10 by kernel_rfl, aesv1]
theorem Y6_val : Y6 = vzs0_10 := by
  show [] ++ encI (List.replicate 16 0) 4 (blk 16 (List.replicate 16 0) 0) = _
  rw [show blk 16 (List.replicate 16 0) 0 = List.replicate 16 0 by kernel_rfl, aesv0]
  rfl
theorem awake6_1 : X6.take 16 = Y6 := by rw [X6_val, Y6_val]; kernel_rfl
theorem awake6_2 : X6.drop 16 ≠ Y6 := by rw [X6_val, Y6_val]; decide +kernel

theorem RetNew.len {xs : List Int} {w w' : World} {e : Ending} (h : RetNew xs w e w') (n : Nat) (hn : xs.length = n) :
    ∃ A c, e = .returned (.slice A n c) ∧ New w' w.heap.size (.slice A n c) xs ∧ n ≤ c ∧ Rd .u8 w' A xs ∧ (A = none → c = 0) ∧ Below w.heap.size w w' := by
  subst hn
  obtain ⟨v, rfl, h1, h2⟩ := h
  obtain ⟨A, c, rfl, k1, k2, k3, k4⟩ := id h1
  exact ⟨A, c, rfl, h1, k1, k2, k3, h2⟩

set_option maxRecDepth 100000 in
set_option maxHeartbeats 4000000 in
theorem ModeXors_any (A A2 : Option Addr) (n c n2 c2 : Nat) (xs ys : List Int) (w : World) (hx : n = xs.length) (hy : n2 = ys.length) (hb : Byt xs) (hr : Rd .u8 w A xs) (hr2 : Rd .u8 w A2 ys) (hL : Laid w) :
    Calls Tryd.prog 3 #[.slice A n c, .slice A2 n2 c2] w fun e w' => e = .returned (.bool true) ∧ Below w.heap.size w w' := by
  have HX := Hd.mk hx; have HY := Hd.mk hy; have HR := Hd.mk hr; have HR2 := Hd.mk hr2; have HL := Hd.mk hL; have HB := Hd.mk hb
  have AW := Hd.mk (fun w hL => awake6 awake6_1 awake6_2 w hL)
  clear hx hy hr hr2 hL hb
  by_cases h1 : (200 : Int) < (n : Int)
  · go_enter Tryd.func3, Tryd.ntmps3
    go_wp2_with (first
      | (go_at_call 8; (with_reducible refine (AW.out _ HL.out).mono ?_); rintro e w1 ⟨rfl, k1⟩)
      | (go_at_call 8; (with_reducible refine (AW.out _ (HL.out.below k1)).mono ?_); rintro e w2 ⟨rfl, k2⟩))
    go_ret
    exact ⟨rfl, k1.trans (k2.mono k1.size)⟩
  · by_cases h2 : (200 : Int) < (n2 : Int)
    · go_enter Tryd.func3, Tryd.ntmps3
      go_wp2_with (first
        | (go_at_call 8; (with_reducible refine (AW.out _ HL.out).mono ?_); rintro e w1 ⟨rfl, k1⟩)
        | (go_at_call 8; (with_reducible refine (AW.out _ (HL.out.below k1)).mono ?_); rintro e w2 ⟨rfl, k2⟩))
      go_ret
      exact ⟨rfl, k1.trans (k2.mono k1.size)⟩
    · by_cases hne : n = n2
      · have hne' : (n : Int) = (n2 : Int) := by omega
        have hxl : Hd ((xorI xs ys).length = n) := ⟨by rw [xorI_length _ _ (by have := HX.out; have := HY.out; omega), ← HX.out]⟩
        have hxx : Hd (xorI (xorI xs ys) ys = xs) := ⟨xorI_xorI xs ys HB.out (by have := HX.out; have := HY.out; omega)⟩
        subst hne
        go_enter Tryd.func3, Tryd.ntmps3
        go_wp2_with (first
          | (go_at_call 8; (with_reducible refine (AW.out _ HL.out).mono ?_); rintro e w1 ⟨rfl, k1⟩;
             have X1 := Hd.mk (Xor_ok A A2 n c c2 xs ys w1 HX.out HY.out (by omega) (HR.out.below k1) (HR2.out.below k1)))
          | (go_at_call 9; (with_reducible refine X1.out.mono ?_); intro e w2 hh; obtain ⟨A3, c3, rfl, a1, a2, a3, a4, a5, a6⟩ := hh.len n hxl.out;
             have X2 := Hd.mk (Xor_ok A3 A2 n c3 c2 (xorI xs ys) ys w2 hxl.out.symm HY.out (by omega) a3 ((HR2.out.below k1).below a6)))
          | (go_at_call 9; (with_reducible refine X2.out.mono ?_); intro e w3 hh; rw [hxx.out] at hh; obtain ⟨A4, c4, rfl, b1, b2, b3, b4, b5, b6⟩ := hh.len n HX.out.symm;
             have X3 := Hd.mk (RefXor_any A A2 n c n c2 xs ys w3 HX.out HY.out (by omega) (((HR.out.below k1).below a6).below b6) (((HR2.out.below k1).below a6).below b6)))
          | (go_at_call 12; (with_reducible refine X3.out.mono ?_); intro e w4 hh; obtain ⟨A5, c5, rfl, d1, d2, d3, d4, d5⟩ := hh.len n hxl.out;
             have X4 := Hd.mk (Same_true A3 A5 n c3 n c5 _ _ w4 hxl.out.symm hxl.out.symm (by omega) ((a3.below b6).below d5) d3 rfl);
             have X5 := Hd.mk (fun q => Same_true A4 A n c4 n c xs xs (w4.drewN q) HX.out HX.out (by omega) ((b3.below d5).drewN q) (((((HR.out.below k1).below a6).below b6).below d5).drewN q) rfl))
          | (go_at_call 11; (with_reducible refine X4.out.mono ?_); rintro e w5 ⟨rfl, q, rfl⟩)
          | (go_at_call 11; (with_reducible refine (X5.out _).mono ?_); rintro e w6 ⟨rfl, q2, rfl⟩))
        go_ret
        refine ⟨rfl, below_drewN ?_ _⟩
        exact (((k1.trans (a6.mono k1.size)).trans (b6.mono (Nat.le_trans k1.size a6.size))).trans (d5.mono (Nat.le_trans (Nat.le_trans k1.size a6.size) b6.size)))
      · have hne' : ¬ ((n : Int) = (n2 : Int)) := by omega
        go_enter Tryd.func3, Tryd.ntmps3
        go_wp2_with (first
          | (go_at_call 8; (with_reducible refine (AW.out _ HL.out).mono ?_); rintro e w1 ⟨rfl, k1⟩;
             have X1 := Hd.mk (Xor_no A A2 n c n2 c2 w1 hne); have X2 := Hd.mk (Code_some 2 w1 (HL.out.below k1)))
          | (go_at_call 9; (with_reducible refine X1.out.mono ?_); rintro e w2 ⟨rfl, rfl⟩)
          | (go_at_call 10; (with_reducible refine X2.out.mono ?_); rintro e w3 ⟨rfl, k3⟩))
        go_ret
        exact ⟨rfl, k1.trans (k3.mono k1.size)⟩
end Go.Proofs.YtommgcebjhkneaaDoor

/-
  Law 7, MacRetails: the law. Condition: errors.errorType holds what the program's text lays into it; the slices can be read.
-/
import Derived.Test.YtommgcebjhkneaaDoorLaw7
namespace Go.Proofs.YtommgcebjhkneaaDoor
open Go Go.RowKit
set_option linter.unusedVariables false
set_option linter.unusedSimpArgs false

set_option maxRecDepth 100000 in
set_option maxHeartbeats 8000000 in
theorem MacRetails_any (A A2 : Option Addr) (nk c n2 c2 : Nat) (key txt : List Int) (z : Int) (mm : Nat) (hmm : mm ≤ 255) (w : World) (hx : nk = key.length) (hy : n2 = txt.length) (hc1 : nk ≤ c)
    (hr : Rd .u8 w A key) (hr2 : Rd .u8 w A2 txt) (hbk : Byt key) (hbt : Byt txt) (h02 : A2 = none → c2 = 0) (hL : Laid w) :
    Calls Tryd.prog 7 #[.slice A nk c, .slice A2 n2 c2, .int .i64 z, .int .u8 mm] w fun e w' => e = .returned (.bool true) ∧ Below w.heap.size w w' := by
  have HX := Hd.mk hx; have HY := Hd.mk hy; have HR := Hd.mk hr; have HR2 := Hd.mk hr2; have HL := Hd.mk hL; have HBT := Hd.mk hbt; have HBK := Hd.mk hbk; have H02 := Hd.mk h02
  have AW := Hd.mk awake7
  clear hx hy hr hr2 hL h02 hbt hbk
  by_cases h1 : (100 : Int) < (nk : Int)
  · go_enter Tryd.func7, Tryd.ntmps7
    go_wp2_with (first
      | (go_at_call 18; (with_reducible refine (AW.out _ HL.out).mono ?_); rintro e w1 ⟨rfl, k1⟩)
      | (go_at_call 18; (with_reducible refine (AW.out _ (HL.out.below k1)).mono ?_); rintro e w2 ⟨rfl, k2⟩))
    go_ret
    exact ⟨rfl, k1.trans (k2.mono k1.size)⟩
  by_cases h2 : (200 : Int) < (n2 : Int)
  · go_enter Tryd.func7, Tryd.ntmps7
    go_wp2_with (first
      | (go_at_call 18; (with_reducible refine (AW.out _ HL.out).mono ?_); rintro e w1 ⟨rfl, k1⟩)
      | (go_at_call 18; (with_reducible refine (AW.out _ (HL.out.below k1)).mono ?_); rintro e w2 ⟨rfl, k2⟩))
    go_ret
    exact ⟨rfl, k1.trans (k2.mono k1.size)⟩
  have hn2 : n2 ≤ 200 := by omega
  obtain ⟨k0, hk0⟩ : ∃ k0, Hd (mm % 64 = k0) := ⟨_, ⟨rfl⟩⟩
  have k0l : k0 < 64 := by rw [← hk0.out]; omega
  have g1 : (mm : Int).tmod 64 = (k0 : Int) := by rw [← hk0.out]; rfl
  obtain ⟨kk, hkk⟩ : ∃ kk, Hd (kk = 1 + k0) := ⟨_, ⟨rfl⟩⟩
  have kkl : kk ≤ 64 := by have := hkk.out; omega
  have g2 : IntKind.i64.wrap (1 + (k0 : Int)) = (kk : Int) := by rw [wrap_id (by omega) (by omega)]; have := hkk.out; omega
  have g3 : 1 + (k0 : Int) = (kk : Int) := by have := hkk.out; omega
  obtain ⟨P, hP⟩ : ∃ P, Hd (padI txt kk = P) := ⟨_, ⟨rfl⟩⟩
  obtain ⟨N, hN⟩ : ∃ N, Hd (P.length = N) := ⟨_, ⟨rfl⟩⟩
  have hN2 : Hd (N ≤ 1000) := ⟨by have h := padI_length txt kk; have h2 := padZ_lt txt.length kk (by have := hkk.out; omega); rw [hP.out, hN.out] at h; have := HY.out; omega⟩
  have cM : Hd (∀ w', Rd .u8 w' A2 txt → Calls Tryd.prog 19 #[.slice A2 n2 c2, .int .i64 kk] w' (RetOwn P w')) := ⟨fun w' h => by rw [← hP.out]; exact Pad_any A2 n2 c2 txt kk w' HY.out h H02.out (by omega) (by have := hkk.out; omega) (by omega)⟩
  have cF : Hd (∀ w', Rd .u8 w' A2 txt → Calls Tryd.prog 20 #[.slice A2 n2 c2, .int .i64 kk] w' (RetOwn P w')) := ⟨fun w' h => by rw [← hP.out]; exact Pad7 A2 n2 c2 txt kk w' HY.out h H02.out (by omega) (by have := hkk.out; omega) (by omega)⟩
  clear hk0 hkk hP
  by_cases t1 : z < 1
  · have cR := Hd.mk (fun w' => Retail_arg A A2 nk c n2 c2 z w' (.inl t1))
    go_enter Tryd.func7, Tryd.ntmps7
    go_wp2_with (first
      | (go_at_call 18; (with_reducible refine (AW.out _ HL.out).mono ?_); rintro e w1 ⟨rfl, k1⟩; have B1 := Hd.mk k1; have XM := Hd.mk (cM.out w1 (HR2.out.below k1)); clear k1)
      | (go_at_call 19; (with_reducible refine XM.out.mono ?_); intro e w3 hh; obtain ⟨A3, c3, rfl, p1, p2, p3, p4, p5⟩ := hh.len N hN.out;
         have B3 := Hd.mk (B1.out.trans (p5.mono B1.out.size)); have R3 := Hd.mk p3; have XF := Hd.mk (cF.out w3 (HR2.out.below B3.out)); clear p1 p2 p3 p4 p5 XM)
      | (go_at_call 20; (with_reducible refine XF.out.mono ?_); intro e w4 hh; obtain ⟨A4, c4, rfl, p1, p2, p3, p4, p5⟩ := hh.len N hN.out;
         have B4 := Hd.mk (B3.out.trans (p5.mono B3.out.size)); have XS := Hd.mk (Same_true A3 A4 N c3 N c4 P P w4 hN.out.symm hN.out.symm (by have := hN2.out; omega) (R3.out.below p5) p3 rfl); clear p1 p2 p3 p4 p5 XF)
      | (go_at_call 11; (with_reducible refine XS.out.mono ?_); rintro e w5 ⟨rfl, kq, rfl⟩; have B5 := Hd.mk (below_drewN B4.out kq); clear XS)
      | (go_at_call 21; (with_reducible refine (cR.out _).mono ?_); rintro e w6 ⟨rfl, rfl⟩; have XC := Hd.mk (Code_some 1 (w4.drewN kq) (HL.out.below B5.out)))
      | (go_at_call 10; (with_reducible refine XC.out.mono ?_); rintro e w7 ⟨rfl, k7⟩))
    go_ret
    exact ⟨rfl, B5.out.trans (k7.mono B5.out.size)⟩
  by_cases t2 : 8 < z
  · have cR := Hd.mk (fun w' => Retail_arg A A2 nk c n2 c2 z w' (.inr t2))
    go_enter Tryd.func7, Tryd.ntmps7
    go_wp2_with (first
      | (go_at_call 18; (with_reducible refine (AW.out _ HL.out).mono ?_); rintro e w1 ⟨rfl, k1⟩; have B1 := Hd.mk k1; have XM := Hd.mk (cM.out w1 (HR2.out.below k1)); clear k1)
      | (go_at_call 19; (with_reducible refine XM.out.mono ?_); intro e w3 hh; obtain ⟨A3, c3, rfl, p1, p2, p3, p4, p5⟩ := hh.len N hN.out;
         have B3 := Hd.mk (B1.out.trans (p5.mono B1.out.size)); have R3 := Hd.mk p3; have XF := Hd.mk (cF.out w3 (HR2.out.below B3.out)); clear p1 p2 p3 p4 p5 XM)
      | (go_at_call 20; (with_reducible refine XF.out.mono ?_); intro e w4 hh; obtain ⟨A4, c4, rfl, p1, p2, p3, p4, p5⟩ := hh.len N hN.out;
         have B4 := Hd.mk (B3.out.trans (p5.mono B3.out.size)); have XS := Hd.mk (Same_true A3 A4 N c3 N c4 P P w4 hN.out.symm hN.out.symm (by have := hN2.out; omega) (R3.out.below p5) p3 rfl); clear p1 p2 p3 p4 p5 XF)
      | (go_at_call 11; (with_reducible refine XS.out.mono ?_); rintro e w5 ⟨rfl, kq, rfl⟩; have B5 := Hd.mk (below_drewN B4.out kq); clear XS)
      | (go_at_call 21; (with_reducible refine (cR.out _).mono ?_); rintro e w6 ⟨rfl, rfl⟩; have XC := Hd.mk (Code_some 1 (w4.drewN kq) (HL.out.below B5.out)))
      | (go_at_call 10; (with_reducible refine XC.out.mono ?_); rintro e w7 ⟨rfl, k7⟩))
    go_ret
    exact ⟨rfl, B5.out.trans (k7.mono B5.out.size)⟩
  by_cases t3 : ¬ (nk = 16)
  · have cR := Hd.mk (fun w' => Retail_key A A2 nk c n2 c2 z w' t1 t2 t3)
    have t4 : ¬ ((nk : Int) = 16) := by omega
    go_enter Tryd.func7, Tryd.ntmps7
    go_wp2_with (first
      | (go_at_call 18; (with_reducible refine (AW.out _ HL.out).mono ?_); rintro e w1 ⟨rfl, k1⟩; have B1 := Hd.mk k1; have XM := Hd.mk (cM.out w1 (HR2.out.below k1)); clear k1)
      | (go_at_call 19; (with_reducible refine XM.out.mono ?_); intro e w3 hh; obtain ⟨A3, c3, rfl, p1, p2, p3, p4, p5⟩ := hh.len N hN.out;
         have B3 := Hd.mk (B1.out.trans (p5.mono B1.out.size)); have R3 := Hd.mk p3; have XF := Hd.mk (cF.out w3 (HR2.out.below B3.out)); clear p1 p2 p3 p4 p5 XM)
      | (go_at_call 20; (with_reducible refine XF.out.mono ?_); intro e w4 hh; obtain ⟨A4, c4, rfl, p1, p2, p3, p4, p5⟩ := hh.len N hN.out;
         have B4 := Hd.mk (B3.out.trans (p5.mono B3.out.size)); have XS := Hd.mk (Same_true A3 A4 N c3 N c4 P P w4 hN.out.symm hN.out.symm (by have := hN2.out; omega) (R3.out.below p5) p3 rfl); clear p1 p2 p3 p4 p5 XF)
      | (go_at_call 11; (with_reducible refine XS.out.mono ?_); rintro e w5 ⟨rfl, kq, rfl⟩; have B5 := Hd.mk (below_drewN B4.out kq); clear XS)
      | (go_at_call 21; (with_reducible refine (cR.out _).mono ?_); rintro e w6 ⟨rfl, rfl⟩; have XC := Hd.mk (Code_some 2 (w4.drewN kq) (HL.out.below B5.out)))
      | (go_at_call 10; (with_reducible refine XC.out.mono ?_); rintro e w7 ⟨rfl, k7⟩))
    go_ret
    exact ⟨rfl, B5.out.trans (k7.mono B5.out.size)⟩
  obtain rfl : nk = 16 := by omega
  obtain ⟨nn, hnn⟩ : ∃ nn : Nat, z = (nn : Int) := ⟨z.toNat, by omega⟩
  subst hnn
  obtain ⟨ad, eA, _⟩ := HR.out.get 0 (by rw [← HX.out]; decide)
  subst eA
  obtain ⟨Y, hY⟩ : ∃ Y, Hd (retailI key txt = Y) := ⟨_, ⟨rfl⟩⟩
  have hYl : Hd (Y.length = 8) := ⟨by rw [← hY.out]; exact retailI_length _ _⟩
  have hYt : Hd ((Y.take nn).length = nn) := ⟨by rw [List.length_take, hYl.out]; omega⟩
  have cR : Hd (∀ w', Rd .u8 w' (some ad) key → Rd .u8 w' A2 txt → Calls Tryd.prog 21 #[.slice (some ad) 16 c, .slice A2 n2 c2, .int .i64 nn] w' (RetNewNil (Y.take nn) w')) := ⟨fun w' h h' => by
    rw [← hY.out]; exact Retail_ok ad c key HX.out.symm hc1 A2 n2 c2 txt nn w' h HBK.out HY.out (by omega) h' H02.out HBT.out (by omega) (by omega)⟩
  have cG : Hd (∀ w', Rd .u8 w' (some ad) key → Rd .u8 w' A2 txt → Calls Tryd.prog 22 #[.slice (some ad) 16 c, .slice A2 n2 c2] w' (RetOwn Y w')) := ⟨fun w' h h' => by
    rw [← hY.out]; exact Retail7 ad c key HX.out.symm hc1 A2 n2 c2 txt w' h HBK.out HY.out (by omega) h' H02.out HBT.out⟩
  have hn1 : 1 ≤ nn := by omega
  have hn8 : nn ≤ 8 := by omega
  clear hY t1 t2
  go_enter Tryd.func7, Tryd.ntmps7
  go_wp2_with (first
    | (go_at_call 18; (with_reducible refine (AW.out _ HL.out).mono ?_); rintro e w1 ⟨rfl, k1⟩; have B1 := Hd.mk k1; have XM := Hd.mk (cM.out w1 (HR2.out.below k1)); clear k1)
    | (go_at_call 19; (with_reducible refine XM.out.mono ?_); intro e w3 hh; obtain ⟨A3, c3, rfl, p1, p2, p3, p4, p5⟩ := hh.len N hN.out;
       have B3 := Hd.mk (B1.out.trans (p5.mono B1.out.size)); have R3 := Hd.mk p3; have XF := Hd.mk (cF.out w3 (HR2.out.below B3.out)); clear p1 p2 p3 p4 p5 XM)
    | (go_at_call 20; (with_reducible refine XF.out.mono ?_); intro e w4 hh; obtain ⟨A4, c4, rfl, p1, p2, p3, p4, p5⟩ := hh.len N hN.out;
       have B4 := Hd.mk (B3.out.trans (p5.mono B3.out.size)); have XS := Hd.mk (Same_true A3 A4 N c3 N c4 P P w4 hN.out.symm hN.out.symm (by have := hN2.out; omega) (R3.out.below p5) p3 rfl); clear p1 p2 p3 p4 p5 XF)
    | (go_at_call 11; (with_reducible refine XS.out.mono ?_); rintro e w5 ⟨rfl, kq, rfl⟩; have B5 := Hd.mk (below_drewN B4.out kq); clear XS)
    | (go_at_call 21; (with_reducible refine (cR.out _ (HR.out.below B5.out) (HR2.out.below B5.out)).mono ?_); intro e w6 hh; obtain ⟨A6, c6, rfl, p1, p2, p3, p4, p5, p6⟩ := hh.len nn hYt.out;
       have B6 := Hd.mk (B5.out.trans (p6.mono B5.out.size)); have R6 := Hd.mk p3; have XG := Hd.mk (cG.out w6 (HR.out.below B6.out) (HR2.out.below B6.out)); clear p1 p2 p3 p4 p5 p6)
    | (go_at_call 22; (with_reducible refine XG.out.mono ?_); intro e w7 hh; obtain ⟨g7, c7, rfl, p1, p2, p3, p4⟩ := hh.form 8 hYl.out (by decide);
       have B7 := Hd.mk (B6.out.trans (p4.mono B6.out.size)); have hc7 : nn ≤ c7 := (by omega); have hc8 : (nn : Int) ≤ (c7 : Int) := (by omega);
       have XT := Hd.mk (Same_true A6 (some ⟨g7, 0, none⟩) nn c6 nn c7 (Y.take nn) (Y.take nn) w7 hYt.out.symm hYt.out.symm (by omega) (R6.out.below p4) (p2.take_ nn) rfl); clear p1 p2 p3 p4)
    | (go_at_call 11; (with_reducible refine XT.out.mono ?_); rintro e w8 ⟨rfl, kr, rfl⟩))
  go_ret
  exact ⟨rfl, below_drewN B7.out kr⟩
end Go.Proofs.YtommgcebjhkneaaDoor

/-
  mac.Retail: the retail code. Conditions: the slices can be read; the text has at most 100,000 bytes.
-/
import Derived.Test.YtommgcebjhkneaaDoorMac2
namespace Go.Proofs.YtommgcebjhkneaaDoor
open Go Go.RowKit
set_option linter.unusedVariables false
set_option linter.unusedSimpArgs false

/-- A text's retail code. -/
def retailI (key text : List Int) : List Int :=
  tripleI (key.take 8) false (tripleI (key.drop 8) true (lastF (tripleI (key.take 8) false) 8 (List.replicate 8 0) (padI text 8) ((padI text 8).length / 8)))
theorem retailI_length (key text : List Int) : (retailI key text).length = 8 := tripleI_length _ _ _
theorem retailI_byt (key text : List Int) : Byt (retailI key text) := tripleI_byt _ _ _

set_option maxRecDepth 100000 in
theorem Retail_arg (Ak A : Option Addr) (nk ck L c : Nat) (z : Int) (w : World) (hz : z < 1 ∨ 8 < z) :
    Calls Tryd.prog 21 #[.slice Ak nk ck, .slice A L c, .int .i64 z] w fun e w' => e = .returned (.tuple #[.slice none 0 0, errV (some 1)]) ∧ w = w' := by
  by_cases h1 : z < 1
  · go_enter Tryd.func21, Tryd.ntmps21
    go_wp2
    go_ret2
    exact ⟨rfl, rfl⟩
  · have h2 : 8 < z := by omega
    go_enter Tryd.func21, Tryd.ntmps21
    go_wp2
    go_ret2
    exact ⟨rfl, rfl⟩
set_option maxRecDepth 100000 in
theorem Retail_key (Ak A : Option Addr) (nk ck L c : Nat) (z : Int) (w : World) (hz : ¬ (z < 1)) (hz2 : ¬ (8 < z)) (hk : nk ≠ 16) :
    Calls Tryd.prog 21 #[.slice Ak nk ck, .slice A L c, .int .i64 z] w fun e w' => e = .returned (.tuple #[.slice none 0 0, errV (some 2)]) ∧ w = w' := by
  have hk' : ¬ ((nk : Int) = 16) := by omega
  go_enter Tryd.func21, Tryd.ntmps21
  go_wp2
  go_ret2
  exact ⟨rfl, rfl⟩

set_option maxRecDepth 100000 in
set_option maxHeartbeats 4000000 in
theorem Retail_ok (adk : Addr) (ck : Nat) (key : List Int) (hkl : key.length = 16) (hck : 16 ≤ ck) (A : Option Addr) (L c : Nat) (text : List Int) (nn : Nat) (w : World)
    (hrk : Rd .u8 w (some adk) key) (hkb : Byt key) (hL : L = text.length) (hL2 : L ≤ 100000) (hr : Rd .u8 w A text) (h0 : A = none → c = 0) (hb : Byt text) (hn1 : 1 ≤ nn) (hn2 : nn ≤ 8) :
    Calls Tryd.prog 21 #[.slice (some adk) 16 ck, .slice A L c, .int .i64 nn] w (RetNewNil ((retailI key text).take nn) w) := by
  have HRK1 := Hd.mk (hrk.take_ 8)
  have HRK2 : Hd (Rd .u8 w (some ⟨adk.block, adk.off + 8, none⟩) (key.drop 8)) := ⟨by have h := hrk.cut 8 ck (by omega); rw [if_neg (by omega), Option.map_some, add_succ adk 7] at h; exact h⟩
  have c8 : ¬ (ck = 8) := by omega
  have c88 : 8 ≤ ck := by omega
  have l1 : Hd ((key.take 8).length = 8) := ⟨by simp [hkl]⟩
  have l2 : Hd ((key.drop 8).length = 8) := ⟨by simp [hkl]⟩
  have y1 : Hd (Byt (key.take 8)) := ⟨fun x hx => hkb x (List.mem_of_mem_take hx)⟩
  have y2 : Hd (Byt (key.drop 8)) := ⟨fun x hx => hkb x (List.mem_of_mem_drop hx)⟩
  obtain ⟨N, hN⟩ : ∃ N, Hd ((padI text 8).length = N) := ⟨_, ⟨rfl⟩⟩
  obtain ⟨m, hm⟩ : ∃ m, Hd (N = 8 * (m + 1)) := by
    have h := padZ_end text.length 8 (by decide)
    have h2 := padI_length text 8
    refine ⟨(text.length + 1 + padZ text.length 8) / 8 - 1, ⟨?_⟩⟩
    rw [← hN.out, h2]
    omega
  have hN2 : Hd (N ≤ 200000) := ⟨by have := padZ_lt text.length 8 (by decide); rw [← hN.out, padI_length]; omega⟩
  have HP : Hd (∀ w', Rd .u8 w' A text → Calls Tryd.prog 19 #[.slice A L c, .int .i64 8] w' (RetOwn (padI text 8) w')) := Hd.mk (fun w' (h : Rd .u8 w' A text) => Pad_any A L c text 8 w' hL h h0 (by omega) (by decide) (by decide))
  have hPb : Hd (Byt (padI text 8)) := ⟨padI_byt text 8 hb⟩
  have HR := Hd.mk hr
  obtain ⟨X, hX⟩ : ∃ X, Hd (lastF (tripleI (key.take 8) false) 8 (List.replicate 8 0) (padI text 8) (m + 1) = X) := ⟨_, ⟨rfl⟩⟩
  have hXl : Hd (X.length = 8) := ⟨by rw [← hX.out, lastF]; exact tripleI_length _ _ _⟩
  have hXb : Hd (Byt X) := ⟨by rw [← hX.out, lastF]; exact tripleI_byt _ _ _⟩
  obtain ⟨Y, hY⟩ : ∃ Y, Hd (tripleI (key.drop 8) true X = Y) := ⟨_, ⟨rfl⟩⟩
  have hYl : Hd (Y.length = 8) := ⟨by rw [← hY.out]; exact tripleI_length _ _ _⟩
  have hYb : Hd (Byt Y) := ⟨by rw [← hY.out]; exact tripleI_byt _ _ _⟩
  obtain ⟨R, hR⟩ : ∃ R, Hd (tripleI (key.take 8) false Y = R) := ⟨_, ⟨rfl⟩⟩
  have hRl : Hd (R.length = 8) := ⟨by rw [← hR.out]; exact tripleI_length _ _ _⟩
  have hres : Hd (retailI key text = R) := ⟨by rw [retailI, hN.out, hm.out, Nat.mul_div_cancel_left _ (by decide), hX.out, hY.out, hR.out]⟩
  have D1 := Hd.mk (doDes (key.take 8) none false (.inl l1.out) y1.out)
  have D2 := Hd.mk (doDes (key.drop 8) none true (.inl l2.out) y2.out)
  have XN1 := Hd.mk (New_ok 2 (.inr rfl) (some adk) 8 ck (key.take 8) none w l1.out.symm rfl HRK1.out (fun e => by cases e))
  rw [hres.out]
  clear hrk hkb hL hr h0 hb hkl
  generalize key.take 8 = k1 at *
  generalize key.drop 8 = k2 at *
  generalize padI text 8 = P at *
  go_enter Tryd.func21, Tryd.ntmps21
  go_wp2_with (first
    | (go_at_call 23; (with_reducible refine XN1.out.mono ?_); rintro e w1 ⟨g1, rfl, _, a2, a3⟩;
       have C1 := Hd.mk a2; have B1 := Hd.mk a3;
       have XN2 := Hd.mk (New_ok 2 (.inr rfl) (some ⟨adk.block, adk.off + 8, none⟩) 8 (ck - 8) k2 none w1 l2.out.symm rfl (HRK2.out.below a3) (fun e => by cases e)); clear XN1 a2 a3)
    | (go_at_call 23; (with_reducible refine XN2.out.mono ?_); rintro e w2 ⟨g2, rfl, _, a2, a3⟩;
       have C2 := Hd.mk a2; have C12 := Hd.mk (C1.out.below a3 (Nat.le_refl _)); have B2 := Hd.mk (B1.out.trans (a3.mono B1.out.size));
       have XP := Hd.mk (HP.out w2 (HR.out.below B2.out)); clear XN2 a2 a3)
    | (go_at_call 19; (with_reducible refine XP.out.mono ?_); intro e w3 hh; obtain ⟨A3, c3, rfl, p1, p2, p3, p4, p5⟩ := hh.len N hN.out;
       have B3 := Hd.mk (B2.out.trans (p5.mono B2.out.size)); have C13 := Hd.mk (C12.out.below p5 C12.out.size); have C23 := Hd.mk (C2.out.below p5 (Nat.le_refl _));
       have XC := Hd.mk (mchain_ok 8 m _ g1 2 k1 none _ D1.out A3 N c3 P w3 C13.out hN.out.symm (by rw [hN.out, hm.out]) (by have := hN2.out; omega) p2 p3 hPb.out); rw [hX.out] at XC; clear p1 p2 p3 p4 p5 XP)
    | (go_at_call 33; (with_reducible refine XC.out.mono ?_); intro e w4 hh; obtain ⟨A4, c4, rfl, p1, p2, p3, p4, p5, p6⟩ := hh.len 8 hXl.out;
       have B4 := Hd.mk (B3.out.trans (p6.mono B3.out.size)); have C14 := Hd.mk (C13.out.below p6 C13.out.size); have C24 := Hd.mk (C23.out.below p6 C23.out.size);
       have XD := Hd.mk (D2.out.run _ g2 w4 A4 c4 X C24.out hXl.out hXb.out p3); rw [hY.out] at XD; clear p1 p2 p3 p4 p5 p6 XC)
    | (go_at_call 29; (with_reducible refine XD.out.mono ?_); intro e w5 hh; obtain ⟨A5, c5, rfl, p1, p2, p3, p4, p5, p6⟩ := hh.len 8 hYl.out;
       have B5 := Hd.mk (B4.out.trans (p6.mono B4.out.size)); have C15 := Hd.mk (C14.out.below p6 C14.out.size);
       have XE := Hd.mk (D1.out.run _ g1 w5 A5 c5 Y C15.out hYl.out hYb.out p3); rw [hR.out] at XE; clear p1 p2 p3 p4 p5 p6 XD)
    | (go_at_call 29; (with_reducible refine XE.out.mono ?_); intro e w6 hh; obtain ⟨A6, c6, rfl, p1, p2, p3, p4, p5, p6⟩ := hh.len 8 hRl.out;
       have B6 := Hd.mk (B5.out.trans (p6.mono B5.out.size)); have hc6 : nn ≤ c6 := by omega;
       have XZ := Hd.mk (Clone_any A6 nn c6 (R.take nn) w6 (by rw [List.length_take, hRl.out]; omega) (p3.take_ nn) p4 (by rw [List.length_take, hRl.out]; omega)); clear p1 p2 p3 p4 p5 p6 XE)
    | (go_at_call 32; (with_reducible refine XZ.out.mono ?_); rintro e w7 ⟨v7, rfl, m1, m2⟩))
  go_ret2
  exact ⟨_, rfl, m1.lower B6.out.size, B6.out.trans (m2.mono B6.out.size)⟩
end Go.Proofs.YtommgcebjhkneaaDoor

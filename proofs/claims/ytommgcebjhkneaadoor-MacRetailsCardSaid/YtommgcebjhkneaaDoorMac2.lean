/-
  mac: CMAC and the retail code, over whatever a cipher's Do computes. Conditions: the text can be read, of at most 100,000 bytes.
-/
import Derived.Test.YtommgcebjhkneaaDoorMac
namespace Go.Proofs.YtommgcebjhkneaaDoor
open Go Go.RowKit
set_option linter.unusedVariables false
set_option linter.unusedSimpArgs false

/-- Bytes turned from a place on. -/
def xTo (full d : List Int) (at_ : Nat) : Nat → List Int
  | 0 => full
  | k + 1 => (xTo full d at_ k).set (at_ + k) (bits .xor .u8 ((xTo full d at_ k).getD (at_ + k) 0) (d.getD k 0))
theorem xTo_length (full d : List Int) (at_ k : Nat) : (xTo full d at_ k).length = full.length := by
  induction k with
  | zero => rfl
  | succ k ih => rw [xTo, List.length_set, ih]
theorem set_byt (xs : List Int) (k : Nat) (v : Int) (h : Byt xs) (hv : 0 ≤ v ∧ v ≤ 255) : Byt (xs.set k v) := by
  intro x hx
  rcases List.mem_or_eq_of_mem_set hx with hx | rfl
  · exact h x hx
  · exact hv
theorem xTo_byt (full d : List Int) (at_ : Nat) (h : Byt full) : ∀ k, Byt (xTo full d at_ k)
  | 0 => h
  | k + 1 => set_byt _ _ _ (xTo_byt full d at_ h k) (xor_byt _ _)
/-- Is a text to be filled up? -/
def part (L n : Nat) : Bool := L == 0 || L % n != 0
def macFull (n : Nat) (text : List Int) : List Int := if part text.length n = true then padI text n else text
def macTurn (F : List Int → List Int) (n : Nat) (text : List Int) : List Int := if part text.length n = true then doubledI (doubledI (F (List.replicate n 0))) else doubledI (F (List.replicate n 0))
def macText (F : List Int → List Int) (n : Nat) (text : List Int) : List Int := xTo (macFull n text) (macTurn F n text) ((macFull n text).length - n) n
/-- A text's CMAC. -/
def cmacI (F : List Int → List Int) (n : Nat) (text : List Int) : List Int := lastF F n (List.replicate n 0) (macText F n text) ((macFull n text).length / n)
theorem macFull_length (n : Nat) (text : List Int) (hn : 0 < n) : ∃ m, (macFull n text).length = n * (m + 1) := by
  have : ∃ q, (macFull n text).length = n * q ∧ 0 < (macFull n text).length := by
    unfold macFull
    split
    · rw [padI_length]
      have h := padZ_end text.length n hn
      exact ⟨(text.length + 1 + padZ text.length n) / n, by rw [Nat.mul_div_cancel' (Nat.dvd_of_mod_eq_zero h)], by omega⟩
    · rename_i h
      simp only [part, Bool.or_eq_true, beq_iff_eq, bne_iff_ne, ne_eq, not_or, Decidable.not_not] at h
      exact ⟨text.length / n, by rw [Nat.mul_div_cancel' (Nat.dvd_of_mod_eq_zero h.2)], by omega⟩
  obtain ⟨q, h1, h2⟩ := this
  cases q with
  | zero => rw [h1] at h2; simp at h2
  | succ m => exact ⟨m, h1⟩
theorem macFull_byt (n : Nat) (text : List Int) (h : Byt text) : Byt (macFull n text) := by
  unfold macFull
  split
  · exact padI_byt text n h
  · exact h

set_option maxRecDepth 100000 in
theorem Cmac_no (n B gc : Nat) (kind : Int) (key : List Int) (bk : Option Addr) (hsz : (n : Int) = if kind = 2 then 8 else 16) (A : Option Addr) (L c : Nat) (z : Int) (w : World) (hc : Ciph B w gc kind key bk) (hz : z < 1 ∨ (n : Int) < z) :
    Calls Tryd.prog 31 #[.pointer (some ⟨gc, 0, none⟩), .slice A L c, .int .i64 z] w fun e w' => e = .returned (.tuple #[.slice none 0 0, errV (some 1)]) ∧ w = w' := by
  have hS := Hd.mk (Size_any B gc w kind key bk hc)
  rw [← hsz] at hS
  clear hc hsz
  rcases hz with hz | hz
  · go_enter Tryd.func31, Tryd.ntmps31
    go_wp2_with (first
      | (go_at_call 15; (with_reducible refine hS.out.mono ?_); rintro e w' ⟨rfl, rfl⟩))
    go_ret2
    exact ⟨rfl, rfl⟩
  · by_cases h1 : z < 1
    · go_enter Tryd.func31, Tryd.ntmps31
      go_wp2_with (first
        | (go_at_call 15; (with_reducible refine hS.out.mono ?_); rintro e w' ⟨rfl, rfl⟩))
      go_ret2
      exact ⟨rfl, rfl⟩
    · go_enter Tryd.func31, Tryd.ntmps31
      go_wp2_with (first
        | (go_at_call 15; (with_reducible refine hS.out.mono ?_); rintro e w' ⟨rfl, rfl⟩))
      go_ret2
      exact ⟨rfl, rfl⟩

set_option maxRecDepth 100000 in
set_option maxHeartbeats 8000000 in
theorem Cmac_ok (n B gc : Nat) (kind : Int) (key : List Int) (bk : Option Addr) (F : List Int → List Int) (hF : DoOk n kind key bk false F) (A : Option Addr) (L c : Nat) (text : List Int) (nn : Nat) (w : World)
    (hc : Ciph B w gc kind key bk) (hL : L = text.length) (hL2 : L ≤ 100000) (hr : Rd .u8 w A text) (h0 : A = none → c = 0) (hb : Byt text) (hn1 : 1 ≤ nn) (hn2 : nn ≤ n) :
    Calls Tryd.prog 31 #[.pointer (some ⟨gc, 0, none⟩), .slice A L c, .int .i64 nn] w (RetNewNil ((cmacI F n text).take nn) w) := by
  have hn816 : n = 8 ∨ n = 16 := by have := hF.size; split at this <;> omega
  have SZ : Hd (∀ w' B', Ciph B' w' gc kind key bk → Calls Tryd.prog 15 #[.pointer (some ⟨gc, 0, none⟩)] w' fun e w'' => e = .returned (.int .i64 (n : Nat)) ∧ w' = w'') := ⟨fun w' B' h => by rw [hF.size]; exact Size_any B' gc w' kind key bk h⟩
  have HF := Hd.mk hF
  have HC := Hd.mk hc; have HR := Hd.mk hr; have HL := Hd.mk hL; have H0 := Hd.mk h0; have HB := Hd.mk hb; have HN := Hd.mk hn816
  have hn16 : n ≤ 16 := by omega
  have hn0 : 0 < n := by omega
  have hnz : ¬ ((n : Int) = 0) := by omega
  obtain ⟨Z, hZ⟩ : ∃ X, Hd (F (List.replicate n 0) = X) := ⟨_, ⟨rfl⟩⟩
  have hZl : Hd (Z.length = n) := ⟨by rw [← hZ.out]; exact hF.len _ (by simp)⟩
  obtain ⟨D1, hD1⟩ : ∃ X, Hd (doubledI Z = X) := ⟨_, ⟨rfl⟩⟩
  have hD1l : Hd (D1.length = n) := ⟨by rw [← hD1.out, doubledI_length, hZl.out]⟩
  obtain ⟨D2, hD2⟩ : ∃ X, Hd (doubledI D1 = X) := ⟨_, ⟨rfl⟩⟩
  have hD2l : Hd (D2.length = n) := ⟨by rw [← hD2.out, doubledI_length, hD1l.out]⟩
  obtain ⟨m, hm⟩ := macFull_length n text hn0
  have HM := Hd.mk hm
  obtain ⟨Q, hQ⟩ : ∃ X, Hd (cmacI F n text = X) := ⟨_, ⟨rfl⟩⟩
  have hQl : Hd (Q.length = n) := ⟨by
    rw [← hQ.out, cmacI, hm, Nat.mul_div_cancel_left _ hn0]
    exact lastF_length F n (m + 1) _ _ hF.len (by simp) (by rw [macText, xTo_length, hm]) (m + 1) (Nat.le_refl _)⟩
  obtain ⟨r, hr0⟩ : ∃ r, Hd (r = L % n) := ⟨_, ⟨rfl⟩⟩
  have hmod : (L : Int).tmod (n : Int) = (r : Int) := by rw [hr0.out, Int.ofNat_tmod]
  rw [hQ.out]
  have hcl := Hd.mk (fun w' (h1 : Rd .u8 w' A text) => CloneO A L c text w' hL h1 h0 (by omega))
  have hpd := Hd.mk (fun w' (h1 : Rd .u8 w' A text) => Pad_any A L c text n w' hL h1 h0 (by omega) hn0 (by omega))
  have hcase : (L = 0 ∧ Hd (part text.length n = true)) ∨ (L ≠ 0 ∧ r ≠ 0 ∧ Hd (part text.length n = true)) ∨ (L ≠ 0 ∧ r = 0 ∧ Hd (part text.length n = false)) := by
    rw [hr0.out, ← hL]
    by_cases h1 : L = 0
    · exact .inl ⟨h1, ⟨by simp [part, h1]⟩⟩
    · by_cases h2 : L % n = 0
      · exact .inr (.inr ⟨h1, h2, ⟨by simp [part, h1, h2]⟩⟩)
      · exact .inr (.inl ⟨h1, h2, ⟨by simp [part, h1, h2]⟩⟩)
  have CH : Hd (∀ (w' : World) B' (FX : List Int) LL g2 c2, Ciph B' w' gc kind key bk → LL = FX.length → FX.length = n * (m + 1) → LL ≤ 1000000 → LL ≤ c2 → Rd .u8 w' (some ⟨g2, 0, none⟩) FX → Byt FX →
      Calls Tryd.prog 33 #[.pointer (some ⟨gc, 0, none⟩), .slice (some ⟨g2, 0, none⟩) LL c2] w' (RetNewNil (lastF F n (List.replicate n 0) FX (m + 1)) w')) :=
    ⟨fun w' B' FX LL g2 c2 h1 h2 h3 h4 h5 h6 h7 => mchain_ok n m B' gc kind key bk F hF _ LL c2 FX w' h1 h2 h3 h4 h5 h6 h7⟩
  clear hc hr hL h0 hb hm hn816
  rcases hcase with ⟨h1, hp⟩ | ⟨h1, h2, hp⟩ | ⟨h1, h2, hp⟩
  · have hL0 := Hd.mk h1
    subst h1
    obtain ⟨FL, hFL⟩ : ∃ X, Hd (padI text n = X) := ⟨_, ⟨rfl⟩⟩
    have hfull : Hd (macFull n text = FL) := ⟨by rw [macFull, if_pos hp.out, hFL.out]⟩
    have hturn : Hd (macTurn F n text = D2) := ⟨by rw [macTurn, if_pos hp.out, hZ.out, hD1.out, hD2.out]⟩
    have hFLl : Hd (FL.length = n * (m + 1)) := ⟨by rw [← hfull.out]; exact HM.out⟩
    have hFLb : Hd (Byt FL) := ⟨by rw [← hfull.out]; exact macFull_byt n text HB.out⟩
    obtain ⟨N, hN⟩ : ∃ N, Hd (FL.length = N) := ⟨_, ⟨rfl⟩⟩
    have hN0 : Hd (n ≤ N ∧ N ≤ 200000) := ⟨by
      refine ⟨by rw [← hN.out, hFLl.out, Nat.mul_succ]; omega, ?_⟩
      rw [← hN.out, ← hFL.out, padI_length]
      have := HL.out
      have := padZ_lt text.length n hn0; omega⟩
    obtain ⟨a0, ha0⟩ : ∃ a0, Hd (N = a0 + n) := ⟨N - n, ⟨by have := hN0.out; omega⟩⟩
    have i0 : (N : Int) - (n : Int) = (a0 : Int) := by have := ha0.out; omega
    have i00 : a0 ≤ 200000 := by have := ha0.out; have := hN0.out; omega
    have hQ2 : Hd (lastF F n (List.replicate n 0) (xTo FL D2 a0 n) (m + 1) = Q) := ⟨by
      rw [← hQ.out, cmacI, macText, hfull.out, hturn.out, hFLl.out, Nat.mul_div_cancel_left _ hn0, ← hFLl.out, hN.out, show N - n = a0 by have := ha0.out; omega]⟩
    go_enter Tryd.func31, Tryd.ntmps31
    go_wp2_with (first
      | (go_at_call 15; (with_reducible refine (SZ.out w _ HC.out).mono ?_); rintro e w' ⟨rfl, rfl⟩)
      | (refine make_any slU8 rfl _ _ rfl n rfl rfl (by omega) ?_; intro g w1 b1 b2 b3 b4;
         have RZ : Hd (Rd .u8 w1 (some ⟨g, 0, none⟩) (List.replicate n 0)) := ⟨by obtain ⟨A', c', e, _, _, r, _⟩ := b4.reads; injection e with e1; rw [← e1] at r; exact r⟩;
         have XD := Hd.mk (HF.out.run B gc w1 (some ⟨g, 0, none⟩) n (List.replicate n 0) (HC.out.below b3 HC.out.size) (by simp) (byt_zeros n) RZ.out))
      | (go_at_call 29; (with_reducible refine XD.out.mono ?_); intro e w2 hh; rw [hZ.out] at hh; obtain ⟨A2, c2, rfl, k1, k2, k3, k4, k5, k6⟩ := hh.len n hZl.out;
         obtain ⟨ad2, e2, _⟩ := k3.get 0 (by rw [hZl.out]; exact hn0); subst e2;
         have B2 := Hd.mk (b3.trans (k6.mono b3.size));
         have XA := Hd.mk (doubled_any ad2 n c2 Z w2 hZl.out.symm k3 HN.out))
      | (go_at_call 42; (with_reducible refine XA.out.mono ?_); intro e w3 hh; rw [hD1.out] at hh; obtain ⟨A3, c3, rfl, d1, d2, d3, d4, d5⟩ := hh.len n hD1l.out;
         obtain ⟨ad3, e3, _⟩ := d3.get 0 (by rw [hD1l.out]; exact hn0); subst e3;
         have B3 := Hd.mk (B2.out.trans (d5.mono B2.out.size));
         have LT3 : Hd (ad3.block < w3.heap.size) := ⟨d3.lt ad3 rfl (by rw [hD1l.out]; exact hn0)⟩; have RD3 := Hd.mk d3;
         have XC := Hd.mk (hcl.out w3 (HR.out.below B3.out)); clear d1 d3 d4 d5 XD XA)
      | (go_at_call 32; (with_reducible refine XC.out.mono ?_); rintro e w4 ⟨v4, rfl, _, q2⟩;
         have B4 := Hd.mk (B3.out.trans (q2.mono B3.out.size)); have RD4 := Hd.mk (RD3.out.below q2);
         have XB := Hd.mk (doubled_any ad3 n c3 D1 w4 hD1l.out.symm RD4.out HN.out); clear q2 XC)
      | (go_at_call 42; (with_reducible refine XB.out.mono ?_); intro e w5 hh; rw [hD2.out] at hh; obtain ⟨A5, c5, rfl, d1, d2', d3, d4, d5⟩ := hh.len n hD2l.out;
         obtain ⟨ad5, e5, _⟩ := d3.get 0 (by rw [hD2l.out]; exact hn0); subst e5;
         have B5 := Hd.mk (B4.out.trans (d5.mono B4.out.size));
         have LT5 : Hd (ad5.block < w5.heap.size) := ⟨d3.lt ad5 rfl (by rw [hD2l.out]; exact hn0)⟩; have RD5 := Hd.mk d3;
         have XP := Hd.mk (hpd.out w5 (HR.out.below B5.out)); clear d1 d3 d4 d5 XB)
      | (go_at_call 19; (with_reducible refine XP.out.mono ?_); rintro e w6 ⟨v6, rfl, p1, p2⟩; rw [hFL.out] at p1;
         obtain ⟨gf, cf, ef, p3, p4, p5⟩ := id (p1.form (by rw [hN.out]; have := hN0.out; omega)); subst ef; rw [hN.out] at p1 p3 ⊢;
         have B6 := Hd.mk (B5.out.trans (p2.mono B5.out.size)); have RD6 := Hd.mk (RD5.out.below p2); have OF := Hd.mk (p1.lower B5.out.size); have LT6 : Hd (ad5.block ≠ gf ∧ w.heap.size ≤ gf) := ⟨by have := LT5.out; omega, Nat.le_trans B5.out.size p4⟩; have hNcf : N ≤ cf := p3; clear p1 p2 p3 p4 p5 XP))
    have C6 := Hd.mk (HC.out.below B6.out HC.out.size)
    go_loopg [61] (n + 1) (fun q v61 wr => ∃ (k : Nat), k ≤ n ∧ Hd (q + k = n + 1) ∧ v61 = .int .i64 k ∧ Hd (Own .u8 5 wr w.heap.size (.slice (some ⟨gf, 0, none⟩) N cf) (xTo FL D2 a0 k)) ∧ Hd (Rd .u8 wr (some ad5) D2) ∧ Hd (Below w.heap.size w wr))
    case atStart => exact ⟨0, by omega, ⟨by omega⟩, rfl, OF, RD6, B6⟩
    case round =>
      clear OF RD6 B6 C6
      obtain ⟨k, hk, hq, rfl, hO, hD, hBl⟩ := hrel
      have hl : Hd (N = (xTo FL D2 a0 k).length) := ⟨by rw [xTo_length]; exact hN.out.symm⟩
      by_cases hlt : k < n
      · obtain ⟨ad', eA, e1⟩ := hD.out.get k (by rw [hD2l.out]; exact hlt)
        cases eA
        obtain ⟨y, hy⟩ : ∃ x, Hd (D2.getD k 0 = x) := ⟨_, ⟨rfl⟩⟩
        rw [hy.out] at e1
        have e3 := hO.out.cell hl.out (a0 + k) (by have := hl.out; have := ha0.out; omega)
        have e4 := hO.out.frozen hl.out (a0 + k)
        obtain ⟨x, hx⟩ : ∃ x, Hd ((xTo FL D2 a0 k).getD (a0 + k) 0 = x) := ⟨_, ⟨rfl⟩⟩
        rw [hx.out] at e3
        have f1 : IntKind.i64.wrap ((a0 : Int) + (k : Int)) = (a0 : Int) + k := wrap_id (by omega) (by have := hN0.out; have := ha0.out; omega)
        have f2 : 0 ≤ (a0 : Int) + (k : Int) := by omega
        have f3 : ((a0 : Int) + (k : Int)).toNat = a0 + k := by omega
        have f4 : (a0 : Int) + (k : Int) < (N : Int) := by have := ha0.out; omega
        go_wp2
        refine Lead.wp_region_lead_drawn 12 (by kernel_rfl) (by kernel_rfl) ?_
        simp only [List.take_succ_cons, List.take_zero, List.drop_succ_cons, List.drop_zero]
        repeat (first | go_big_quiet_step (fail) | quiet_step (fail))
        refine wpQuiet_nil ?_
        intro kq
        clear e1 f1 f2 f3 f4
        go_wp2
        go_roundg (n + 1 - (k + 1))
        case measure => have := hq.out; omega
        case rel =>
          have hst := (hO.out.drewN kq).store hl.out (a0 + k) (bits .xor .u8 x y)
          refine ⟨k + 1, by omega, ⟨by omega⟩, by go_num, ⟨?_⟩, ⟨?_⟩, ⟨?_⟩⟩
          · rw [xTo, hx.out, hy.out]; exact hst.1
          · exact (hD.out.drewN kq).grow hst.2 (fun ad e => by cases e; intro e2; have := LT6.out.1; simp [Value.ownBlock] at e2; omega)
          · exact hst.2.below (below_drewN hBl.out kq) hBl.out.size (fun b' hb' => ((hO.out.drewN kq).lt b' hb').1)
      · obtain rfl : k = n := by omega
        have RF : Hd (Rd .u8 wr (some ⟨gf, 0, none⟩) (xTo FL D2 a0 k)) := ⟨by obtain ⟨A', c', e, _, _, r, _⟩ := hO.out.reads; injection e with e1; rw [← e1] at r; exact r⟩
        have XH := Hd.mk (CH.out wr _ (xTo FL D2 a0 k) N gf cf (HC.out.below hBl.out HC.out.size) hl.out (by rw [xTo_length]; exact hFLl.out) (by have := hN0.out; omega) hNcf RF.out (xTo_byt FL D2 a0 hFLb.out k))
        rw [hQ2.out] at XH
        go_wp2_with (first
          | (go_at_call 33; (with_reducible refine XH.out.mono ?_); intro e w8 hh; obtain ⟨A8, c8, rfl, l1, l2, l3, l4, l5, l6⟩ := hh.len k hQl.out;
             have hc8 : nn ≤ c8 := by omega;
             have B8 := Hd.mk (hBl.out.trans (l6.mono hBl.out.size));
             have XZ := Hd.mk (Clone_any A8 nn c8 (Q.take nn) w8 (by rw [List.length_take, hQl.out]; omega) (l3.take_ nn) l4 (by rw [List.length_take, hQl.out]; omega)))
          | (go_at_call 32; (with_reducible refine XZ.out.mono ?_); rintro e w9 ⟨v9, rfl, m1, m2⟩))
        go_ret2
        exact ⟨_, rfl, m1.lower B8.out.size, B8.out.trans (m2.mono B8.out.size)⟩
  · have t1 : ((L : Int) == 0) = false := by simp; omega
    have t2 : ((r : Int) == 0) = false := by simp; omega
    have t3 : ((r : Int) != 0) = true := by simp; omega
    clear h1 h2
    obtain ⟨FL, hFL⟩ : ∃ X, Hd (padI text n = X) := ⟨_, ⟨rfl⟩⟩
    have hfull : Hd (macFull n text = FL) := ⟨by rw [macFull, if_pos hp.out, hFL.out]⟩
    have hturn : Hd (macTurn F n text = D2) := ⟨by rw [macTurn, if_pos hp.out, hZ.out, hD1.out, hD2.out]⟩
    have hFLl : Hd (FL.length = n * (m + 1)) := ⟨by rw [← hfull.out]; exact HM.out⟩
    have hFLb : Hd (Byt FL) := ⟨by rw [← hfull.out]; exact macFull_byt n text HB.out⟩
    obtain ⟨N, hN⟩ : ∃ N, Hd (FL.length = N) := ⟨_, ⟨rfl⟩⟩
    have hN0 : Hd (n ≤ N ∧ N ≤ 200000) := ⟨by
      refine ⟨by rw [← hN.out, hFLl.out, Nat.mul_succ]; omega, ?_⟩
      rw [← hN.out, ← hFL.out, padI_length]
      have := HL.out
      have := padZ_lt text.length n hn0; omega⟩
    obtain ⟨a0, ha0⟩ : ∃ a0, Hd (N = a0 + n) := ⟨N - n, ⟨by have := hN0.out; omega⟩⟩
    have i0 : (N : Int) - (n : Int) = (a0 : Int) := by have := ha0.out; omega
    have i00 : a0 ≤ 200000 := by have := ha0.out; have := hN0.out; omega
    have hQ2 : Hd (lastF F n (List.replicate n 0) (xTo FL D2 a0 n) (m + 1) = Q) := ⟨by
      rw [← hQ.out, cmacI, macText, hfull.out, hturn.out, hFLl.out, Nat.mul_div_cancel_left _ hn0, ← hFLl.out, hN.out, show N - n = a0 by have := ha0.out; omega]⟩
    go_enter Tryd.func31, Tryd.ntmps31
    go_wp2_with (first
      | (go_at_call 15; (with_reducible refine (SZ.out w _ HC.out).mono ?_); rintro e w' ⟨rfl, rfl⟩)
      | (refine make_any slU8 rfl _ _ rfl n rfl rfl (by omega) ?_; intro g w1 b1 b2 b3 b4;
         have RZ : Hd (Rd .u8 w1 (some ⟨g, 0, none⟩) (List.replicate n 0)) := ⟨by obtain ⟨A', c', e, _, _, r, _⟩ := b4.reads; injection e with e1; rw [← e1] at r; exact r⟩;
         have XD := Hd.mk (HF.out.run B gc w1 (some ⟨g, 0, none⟩) n (List.replicate n 0) (HC.out.below b3 HC.out.size) (by simp) (byt_zeros n) RZ.out))
      | (go_at_call 29; (with_reducible refine XD.out.mono ?_); intro e w2 hh; rw [hZ.out] at hh; obtain ⟨A2, c2, rfl, k1, k2, k3, k4, k5, k6⟩ := hh.len n hZl.out;
         obtain ⟨ad2, e2, _⟩ := k3.get 0 (by rw [hZl.out]; exact hn0); subst e2;
         have B2 := Hd.mk (b3.trans (k6.mono b3.size));
         have XA := Hd.mk (doubled_any ad2 n c2 Z w2 hZl.out.symm k3 HN.out))
      | (go_at_call 42; (with_reducible refine XA.out.mono ?_); intro e w3 hh; rw [hD1.out] at hh; obtain ⟨A3, c3, rfl, d1, d2, d3, d4, d5⟩ := hh.len n hD1l.out;
         obtain ⟨ad3, e3, _⟩ := d3.get 0 (by rw [hD1l.out]; exact hn0); subst e3;
         have B3 := Hd.mk (B2.out.trans (d5.mono B2.out.size));
         have LT3 : Hd (ad3.block < w3.heap.size) := ⟨d3.lt ad3 rfl (by rw [hD1l.out]; exact hn0)⟩; have RD3 := Hd.mk d3;
         have XC := Hd.mk (hcl.out w3 (HR.out.below B3.out)); clear d1 d3 d4 d5 XD XA)
      | (go_at_call 32; (with_reducible refine XC.out.mono ?_); rintro e w4 ⟨v4, rfl, _, q2⟩;
         have B4 := Hd.mk (B3.out.trans (q2.mono B3.out.size)); have RD4 := Hd.mk (RD3.out.below q2);
         have XB := Hd.mk (doubled_any ad3 n c3 D1 w4 hD1l.out.symm RD4.out HN.out); clear q2 XC)
      | (go_at_call 42; (with_reducible refine XB.out.mono ?_); intro e w5 hh; rw [hD2.out] at hh; obtain ⟨A5, c5, rfl, d1, d2', d3, d4, d5⟩ := hh.len n hD2l.out;
         obtain ⟨ad5, e5, _⟩ := d3.get 0 (by rw [hD2l.out]; exact hn0); subst e5;
         have B5 := Hd.mk (B4.out.trans (d5.mono B4.out.size));
         have LT5 : Hd (ad5.block < w5.heap.size) := ⟨d3.lt ad5 rfl (by rw [hD2l.out]; exact hn0)⟩; have RD5 := Hd.mk d3;
         have XP := Hd.mk (hpd.out w5 (HR.out.below B5.out)); clear d1 d3 d4 d5 XB)
      | (go_at_call 19; (with_reducible refine XP.out.mono ?_); rintro e w6 ⟨v6, rfl, p1, p2⟩; rw [hFL.out] at p1;
         obtain ⟨gf, cf, ef, p3, p4, p5⟩ := id (p1.form (by rw [hN.out]; have := hN0.out; omega)); subst ef; rw [hN.out] at p1 p3 ⊢;
         have B6 := Hd.mk (B5.out.trans (p2.mono B5.out.size)); have RD6 := Hd.mk (RD5.out.below p2); have OF := Hd.mk (p1.lower B5.out.size); have LT6 : Hd (ad5.block ≠ gf ∧ w.heap.size ≤ gf) := ⟨by have := LT5.out; omega, Nat.le_trans B5.out.size p4⟩; have hNcf : N ≤ cf := p3; clear p1 p2 p3 p4 p5 XP))
    have C6 := Hd.mk (HC.out.below B6.out HC.out.size)
    go_loopg [61] (n + 1) (fun q v61 wr => ∃ (k : Nat), k ≤ n ∧ Hd (q + k = n + 1) ∧ v61 = .int .i64 k ∧ Hd (Own .u8 5 wr w.heap.size (.slice (some ⟨gf, 0, none⟩) N cf) (xTo FL D2 a0 k)) ∧ Hd (Rd .u8 wr (some ad5) D2) ∧ Hd (Below w.heap.size w wr))
    case atStart => exact ⟨0, by omega, ⟨by omega⟩, rfl, OF, RD6, B6⟩
    case round =>
      clear OF RD6 B6 C6
      obtain ⟨k, hk, hq, rfl, hO, hD, hBl⟩ := hrel
      have hl : Hd (N = (xTo FL D2 a0 k).length) := ⟨by rw [xTo_length]; exact hN.out.symm⟩
      by_cases hlt : k < n
      · obtain ⟨ad', eA, e1⟩ := hD.out.get k (by rw [hD2l.out]; exact hlt)
        cases eA
        obtain ⟨y, hy⟩ : ∃ x, Hd (D2.getD k 0 = x) := ⟨_, ⟨rfl⟩⟩
        rw [hy.out] at e1
        have e3 := hO.out.cell hl.out (a0 + k) (by have := hl.out; have := ha0.out; omega)
        have e4 := hO.out.frozen hl.out (a0 + k)
        obtain ⟨x, hx⟩ : ∃ x, Hd ((xTo FL D2 a0 k).getD (a0 + k) 0 = x) := ⟨_, ⟨rfl⟩⟩
        rw [hx.out] at e3
        have f1 : IntKind.i64.wrap ((a0 : Int) + (k : Int)) = (a0 : Int) + k := wrap_id (by omega) (by have := hN0.out; have := ha0.out; omega)
        have f2 : 0 ≤ (a0 : Int) + (k : Int) := by omega
        have f3 : ((a0 : Int) + (k : Int)).toNat = a0 + k := by omega
        have f4 : (a0 : Int) + (k : Int) < (N : Int) := by have := ha0.out; omega
        go_wp2
        refine Lead.wp_region_lead_drawn 12 (by kernel_rfl) (by kernel_rfl) ?_
        simp only [List.take_succ_cons, List.take_zero, List.drop_succ_cons, List.drop_zero]
        repeat (first | go_big_quiet_step (fail) | quiet_step (fail))
        refine wpQuiet_nil ?_
        intro kq
        clear e1 f1 f2 f3 f4
        go_wp2
        go_roundg (n + 1 - (k + 1))
        case measure => have := hq.out; omega
        case rel =>
          have hst := (hO.out.drewN kq).store hl.out (a0 + k) (bits .xor .u8 x y)
          refine ⟨k + 1, by omega, ⟨by omega⟩, by go_num, ⟨?_⟩, ⟨?_⟩, ⟨?_⟩⟩
          · rw [xTo, hx.out, hy.out]; exact hst.1
          · exact (hD.out.drewN kq).grow hst.2 (fun ad e => by cases e; intro e2; have := LT6.out.1; simp [Value.ownBlock] at e2; omega)
          · exact hst.2.below (below_drewN hBl.out kq) hBl.out.size (fun b' hb' => ((hO.out.drewN kq).lt b' hb').1)
      · obtain rfl : k = n := by omega
        have RF : Hd (Rd .u8 wr (some ⟨gf, 0, none⟩) (xTo FL D2 a0 k)) := ⟨by obtain ⟨A', c', e, _, _, r, _⟩ := hO.out.reads; injection e with e1; rw [← e1] at r; exact r⟩
        have XH := Hd.mk (CH.out wr _ (xTo FL D2 a0 k) N gf cf (HC.out.below hBl.out HC.out.size) hl.out (by rw [xTo_length]; exact hFLl.out) (by have := hN0.out; omega) hNcf RF.out (xTo_byt FL D2 a0 hFLb.out k))
        rw [hQ2.out] at XH
        go_wp2_with (first
          | (go_at_call 33; (with_reducible refine XH.out.mono ?_); intro e w8 hh; obtain ⟨A8, c8, rfl, l1, l2, l3, l4, l5, l6⟩ := hh.len k hQl.out;
             have hc8 : nn ≤ c8 := by omega;
             have B8 := Hd.mk (hBl.out.trans (l6.mono hBl.out.size));
             have XZ := Hd.mk (Clone_any A8 nn c8 (Q.take nn) w8 (by rw [List.length_take, hQl.out]; omega) (l3.take_ nn) l4 (by rw [List.length_take, hQl.out]; omega)))
          | (go_at_call 32; (with_reducible refine XZ.out.mono ?_); rintro e w9 ⟨v9, rfl, m1, m2⟩))
        go_ret2
        exact ⟨_, rfl, m1.lower B8.out.size, B8.out.trans (m2.mono B8.out.size)⟩
  · have t1 : ¬ ((L : Int) = 0) := by omega
    have t2 : (r : Int) = 0 := by omega
    have HL0 := Hd.mk h1
    clear h1 h2
    obtain ⟨FL, hFL⟩ : ∃ X, Hd (text = X) := ⟨_, ⟨rfl⟩⟩
    have hfull : Hd (macFull n text = FL) := ⟨by rw [macFull, if_neg (by rw [hp.out]; simp), hFL.out]⟩
    have hturn : Hd (macTurn F n text = D1) := ⟨by rw [macTurn, if_neg (by rw [hp.out]; simp), hZ.out, hD1.out]⟩
    have hFLl : Hd (FL.length = n * (m + 1)) := ⟨by rw [← hfull.out]; exact HM.out⟩
    have hFLb : Hd (Byt FL) := ⟨by rw [← hfull.out]; exact macFull_byt n text HB.out⟩
    obtain ⟨N, hN⟩ : ∃ N, Hd (FL.length = N) := ⟨_, ⟨rfl⟩⟩
    have hN0 : Hd (n ≤ N ∧ N ≤ 200000) := ⟨by
      refine ⟨by rw [← hN.out, hFLl.out, Nat.mul_succ]; omega, ?_⟩
      rw [← hN.out, ← hFL.out]
      have := HL.out
      omega⟩
    obtain ⟨a0, ha0⟩ : ∃ a0, Hd (N = a0 + n) := ⟨N - n, ⟨by have := hN0.out; omega⟩⟩
    have i0 : (N : Int) - (n : Int) = (a0 : Int) := by have := ha0.out; omega
    have i00 : a0 ≤ 200000 := by have := ha0.out; have := hN0.out; omega
    have hQ2 : Hd (lastF F n (List.replicate n 0) (xTo FL D1 a0 n) (m + 1) = Q) := ⟨by
      rw [← hQ.out, cmacI, macText, hfull.out, hturn.out, hFLl.out, Nat.mul_div_cancel_left _ hn0, ← hFLl.out, hN.out, show N - n = a0 by have := ha0.out; omega]⟩
    go_enter Tryd.func31, Tryd.ntmps31
    go_wp2_with (first
      | (go_at_call 15; (with_reducible refine (SZ.out w _ HC.out).mono ?_); rintro e w' ⟨rfl, rfl⟩)
      | (refine make_any slU8 rfl _ _ rfl n rfl rfl (by omega) ?_; intro g w1 b1 b2 b3 b4;
         have RZ : Hd (Rd .u8 w1 (some ⟨g, 0, none⟩) (List.replicate n 0)) := ⟨by obtain ⟨A', c', e, _, _, r, _⟩ := b4.reads; injection e with e1; rw [← e1] at r; exact r⟩;
         have XD := Hd.mk (HF.out.run B gc w1 (some ⟨g, 0, none⟩) n (List.replicate n 0) (HC.out.below b3 HC.out.size) (by simp) (byt_zeros n) RZ.out))
      | (go_at_call 29; (with_reducible refine XD.out.mono ?_); intro e w2 hh; rw [hZ.out] at hh; obtain ⟨A2, c2, rfl, k1, k2, k3, k4, k5, k6⟩ := hh.len n hZl.out;
         obtain ⟨ad2, e2, _⟩ := k3.get 0 (by rw [hZl.out]; exact hn0); subst e2;
         have B2 := Hd.mk (b3.trans (k6.mono b3.size));
         have XA := Hd.mk (doubled_any ad2 n c2 Z w2 hZl.out.symm k3 HN.out))
      | (go_at_call 42; (with_reducible refine XA.out.mono ?_); intro e w3 hh; rw [hD1.out] at hh; obtain ⟨A3, c3, rfl, d1, d2, d3, d4, d5⟩ := hh.len n hD1l.out;
         obtain ⟨ad3, e3, _⟩ := d3.get 0 (by rw [hD1l.out]; exact hn0); subst e3;
         have B3 := Hd.mk (B2.out.trans (d5.mono B2.out.size));
         have LT3 : Hd (ad3.block < w3.heap.size) := ⟨d3.lt ad3 rfl (by rw [hD1l.out]; exact hn0)⟩; have RD3 := Hd.mk d3;
         have XC := Hd.mk (hcl.out w3 (HR.out.below B3.out)); clear d1 d3 d4 d5 XD XA)
      | (go_at_call 32; (with_reducible refine XC.out.mono ?_); rintro e w6 ⟨v6, rfl, p1, p2⟩; rw [hFL.out] at p1;
         obtain ⟨gf, cf, ef, p3, p4, p5⟩ := id (p1.form (by rw [hN.out]; have := hN0.out; omega)); subst ef; rw [hN.out] at p1 p3 ⊢;
         have B6 := Hd.mk (B3.out.trans (p2.mono B3.out.size)); have RD6 := Hd.mk (RD3.out.below p2); have OF := Hd.mk (p1.lower B3.out.size); have LT6 : Hd (ad3.block ≠ gf ∧ w.heap.size ≤ gf) := ⟨by have := LT3.out; omega, Nat.le_trans B3.out.size p4⟩; have hNcf : N ≤ cf := p3; clear p1 p2 p3 p4 p5 XC))
    have C6 := Hd.mk (HC.out.below B6.out HC.out.size)
    go_loopg [61] (n + 1) (fun q v61 wr => ∃ (k : Nat), k ≤ n ∧ Hd (q + k = n + 1) ∧ v61 = .int .i64 k ∧ Hd (Own .u8 5 wr w.heap.size (.slice (some ⟨gf, 0, none⟩) N cf) (xTo FL D1 a0 k)) ∧ Hd (Rd .u8 wr (some ad3) D1) ∧ Hd (Below w.heap.size w wr))
    case atStart => exact ⟨0, by omega, ⟨by omega⟩, rfl, OF, RD6, B6⟩
    case round =>
      clear OF RD6 B6 C6
      obtain ⟨k, hk, hq, rfl, hO, hD, hBl⟩ := hrel
      have hl : Hd (N = (xTo FL D1 a0 k).length) := ⟨by rw [xTo_length]; exact hN.out.symm⟩
      by_cases hlt : k < n
      · obtain ⟨ad', eA, e1⟩ := hD.out.get k (by rw [hD1l.out]; exact hlt)
        cases eA
        obtain ⟨y, hy⟩ : ∃ x, Hd (D1.getD k 0 = x) := ⟨_, ⟨rfl⟩⟩
        rw [hy.out] at e1
        have e3 := hO.out.cell hl.out (a0 + k) (by have := hl.out; have := ha0.out; omega)
        have e4 := hO.out.frozen hl.out (a0 + k)
        obtain ⟨x, hx⟩ : ∃ x, Hd ((xTo FL D1 a0 k).getD (a0 + k) 0 = x) := ⟨_, ⟨rfl⟩⟩
        rw [hx.out] at e3
        have f1 : IntKind.i64.wrap ((a0 : Int) + (k : Int)) = (a0 : Int) + k := wrap_id (by omega) (by have := hN0.out; have := ha0.out; omega)
        have f2 : 0 ≤ (a0 : Int) + (k : Int) := by omega
        have f3 : ((a0 : Int) + (k : Int)).toNat = a0 + k := by omega
        have f4 : (a0 : Int) + (k : Int) < (N : Int) := by have := ha0.out; omega
        go_wp2
        refine Lead.wp_region_lead_drawn 12 (by kernel_rfl) (by kernel_rfl) ?_
        simp only [List.take_succ_cons, List.take_zero, List.drop_succ_cons, List.drop_zero]
        repeat (first | go_big_quiet_step (fail) | quiet_step (fail))
        refine wpQuiet_nil ?_
        intro kq
        clear e1 f1 f2 f3 f4
        go_wp2
        go_roundg (n + 1 - (k + 1))
        case measure => have := hq.out; omega
        case rel =>
          have hst := (hO.out.drewN kq).store hl.out (a0 + k) (bits .xor .u8 x y)
          refine ⟨k + 1, by omega, ⟨by omega⟩, by go_num, ⟨?_⟩, ⟨?_⟩, ⟨?_⟩⟩
          · rw [xTo, hx.out, hy.out]; exact hst.1
          · exact (hD.out.drewN kq).grow hst.2 (fun ad e => by cases e; intro e2; have := LT6.out.1; simp [Value.ownBlock] at e2; omega)
          · exact hst.2.below (below_drewN hBl.out kq) hBl.out.size (fun b' hb' => ((hO.out.drewN kq).lt b' hb').1)
      · obtain rfl : k = n := by omega
        have RF : Hd (Rd .u8 wr (some ⟨gf, 0, none⟩) (xTo FL D1 a0 k)) := ⟨by obtain ⟨A', c', e, _, _, r, _⟩ := hO.out.reads; injection e with e1; rw [← e1] at r; exact r⟩
        have XH := Hd.mk (CH.out wr _ (xTo FL D1 a0 k) N gf cf (HC.out.below hBl.out HC.out.size) hl.out (by rw [xTo_length]; exact hFLl.out) (by have := hN0.out; omega) hNcf RF.out (xTo_byt FL D1 a0 hFLb.out k))
        rw [hQ2.out] at XH
        go_wp2_with (first
          | (go_at_call 33; (with_reducible refine XH.out.mono ?_); intro e w8 hh; obtain ⟨A8, c8, rfl, l1, l2, l3, l4, l5, l6⟩ := hh.len k hQl.out;
             have hc8 : nn ≤ c8 := by omega;
             have B8 := Hd.mk (hBl.out.trans (l6.mono hBl.out.size));
             have XZ := Hd.mk (Clone_any A8 nn c8 (Q.take nn) w8 (by rw [List.length_take, hQl.out]; omega) (l3.take_ nn) l4 (by rw [List.length_take, hQl.out]; omega)))
          | (go_at_call 32; (with_reducible refine XZ.out.mono ?_); rintro e w9 ⟨v9, rfl, m1, m2⟩))
        go_ret2
        exact ⟨_, rfl, m1.lower B8.out.size, B8.out.trans (m2.mono B8.out.size)⟩
end Go.Proofs.YtommgcebjhkneaaDoor

/-
  lockboxlaw06.ModeParts answers true, whatever the bytes. Conditions: the slices can be read.
-/
import Derived.Test.YtommgcebjhkneaaDoorDesBack
namespace Go.Proofs.YtommgcebjhkneaaDoor
open Go Go.RowKit
set_option linter.unusedVariables false
set_option linter.unusedSimpArgs false

/-- What is known of a kind of the two: its number, its block's and its key's length. -/
structure Kind (kd : Nat) (kind : Int) (n kl : Nat) : Prop where
  kind_ : kind = 1 + ((kd % 2 : Nat) : Int)
  cases_ : (kind = 1 ∧ n = 16 ∧ kl = 16) ∨ (kind = 2 ∧ n = 8 ∧ kl = 24)
theorem kind_of (kd : Nat) : ∃ kind n kl, Kind kd kind n kl := by
  rcases Nat.mod_two_eq_zero_or_one kd with h | h
  · exact ⟨1, 16, 16, by rw [h]; rfl, .inl ⟨rfl, rfl, rfl⟩⟩
  · exact ⟨2, 8, 24, by rw [h]; rfl, .inr ⟨rfl, rfl, rfl⟩⟩
/-- What a kind's Do computes. -/
def kindF (kind : Int) (key : List Int) (back : Bool) : List Int → List Int :=
  if kind = 1 then (if back then decI key 4 else encI key 4) else tripleI key back
theorem Kind.doOk {kd n kl : Nat} {kind : Int} (h : Kind kd kind n kl) (key : List Int) (bk : Option Addr) (back : Bool) (hk : key.length = kl) (hb : Byt key) : DoOk n kind key bk back (kindF kind key back) := by
  rcases h.cases_ with ⟨rfl, rfl, rfl⟩ | ⟨rfl, rfl, rfl⟩
  · cases back with
    | false => exact doAesE 4 (.inl rfl) key bk hk
    | true => exact doAesD 4 (.inl rfl) key bk hk
  · exact doDes key bk back (by omega) hb
theorem Kind.undo {kd n kl : Nat} {kind : Int} (h : Kind kd kind n kl) (key : List Int) (back : Bool) : Undo n (kindF kind key back) (kindF kind key (!back)) := by
  rcases h.cases_ with ⟨rfl, rfl, rfl⟩ | ⟨rfl, rfl, rfl⟩
  · cases back with
    | false => exact undoAesE key 4
    | true => exact undoAesD key 4
  · exact undoDes key back
theorem Kind.size {kd n kl : Nat} {kind : Int} (h : Kind kd kind n kl) : (n : Int) = if kind = 2 then 8 else 16 := by
  rcases h.cases_ with ⟨rfl, rfl, rfl⟩ | ⟨rfl, rfl, rfl⟩ <;> rfl
theorem Kind.fits {kd n kl : Nat} {kind : Int} (h : Kind kd kind n kl) : fitsI kind kl = true := by
  rcases h.cases_ with ⟨rfl, rfl, rfl⟩ | ⟨rfl, rfl, rfl⟩ <;> rfl

section
variable {P : Program} {ops : Array Oper} {rest : List Oper} {o : Oper} {a : Act} {w : World} {Q : Exit → Act → World → Prop}
/-- An operation behind a guard that holds, as one without a guard. -/
theorem want_op (hw : Region.wanted o (yielded ops a.tmps) = true) (h : wpList P ops Q ({ o with guard := none } :: rest) a w) : wpList P ops Q (o :: rest) a w := by
  unfold wpList at h ⊢
  rw [if_pos (by simp [Region.wanted])] at h
  rw [if_pos hw]
  exact h
end

theorem slice16 (n : Nat) (hn : n = 8 ∨ n = 16) (g : Nat) (w : World) : (Instr.sliceAt 31 (.pointer (some ⟨g, 0, none⟩)) none (some (.int .i64 (n : Int))) none).run Tryd.prog w = .ok (.slice (some ⟨g, 0, none⟩) n 16) w := by
  rcases hn with rfl | rfl <;> kernel_rfl
theorem lastF_at (F : List Int → List Int) (n j : Nat) (start xs : List Int) (hF : ∀ x, x.length = n → (F x).length = n) (hs : start.length = n) (hx : (xs.take (n * (j + 1))).length = n * (j + 1)) :
    (chainF F n (j + 1) start (xs.take (n * (j + 1)))).drop (n * j) = lastF F n start xs (j + 1) := by
  rw [chain_last F n j start _ (fun i hi => lastF_length F n (j + 1) start _ hF hs hx i hi), lastF_take F n start xs (j + 1) (j + 1) (Nat.le_refl _)]

set_option maxRecDepth 100000 in
set_option maxHeartbeats 4000000 in
theorem ModeParts_any (kd : Nat) (hkd : kd ≤ 255) (ct : Nat) (hct : ct ≤ 255) (A A2 : Option Addr) (nk c n2 c2 : Nat) (key st txt : List Int) (w : World) (hx : nk = key.length) (hy : n2 = txt.length) (hst : st.length = 16) (hc2 : n2 ≤ c2)
    (hr : Rd .u8 w A key) (hr2 : Rd .u8 w A2 txt) (hbk : Byt key) (hbt : Byt txt) (h02 : A2 = none → c2 = 0) (hL : Laid w) :
    Calls Tryd.prog 5 #[.int .u8 kd, .slice A nk c, .agg (bs st).toArray, .slice A2 n2 c2, .int .u8 ct] w fun e w' => e = .returned (.bool true) ∧ Below w.heap.size w w' := by
  have HX := Hd.mk hx; have HY := Hd.mk hy; have HS := Hd.mk hst; have HR := Hd.mk hr; have HR2 := Hd.mk hr2; have HL := Hd.mk hL; have HBT := Hd.mk hbt; have HBK := Hd.mk hbk; have H02 := Hd.mk h02
  have AW := Hd.mk (fun w hL => awake6 awake6_1 awake6_2 w hL)
  clear hx hy hr hr2 hL hst h02 hbt hbk
  by_cases h1 : (100 : Int) < (nk : Int)
  · go_enter Tryd.func5, Tryd.ntmps5
    go_wp2_with (first
      | (refine box_arr rfl _ rfl rfl ?_; intro gb w0 b1 b2 b3 b4)
      | (go_at_call 8; (with_reducible refine (AW.out _ (HL.out.below b3)).mono ?_); rintro e w1 ⟨rfl, k1⟩)
      | (go_at_call 8; (with_reducible refine (AW.out _ ((HL.out.below b3).below k1)).mono ?_); rintro e w2 ⟨rfl, k2⟩))
    go_ret
    exact ⟨rfl, (b3.trans (k1.mono b3.size)).trans (k2.mono (Nat.le_trans b3.size k1.size))⟩
  by_cases h2 : (200 : Int) < (n2 : Int)
  · go_enter Tryd.func5, Tryd.ntmps5
    go_wp2_with (first
      | (refine box_arr rfl _ rfl rfl ?_; intro gb w0 b1 b2 b3 b4)
      | (go_at_call 8; (with_reducible refine (AW.out _ (HL.out.below b3)).mono ?_); rintro e w1 ⟨rfl, k1⟩)
      | (go_at_call 8; (with_reducible refine (AW.out _ ((HL.out.below b3).below k1)).mono ?_); rintro e w2 ⟨rfl, k2⟩))
    go_ret
    exact ⟨rfl, (b3.trans (k1.mono b3.size)).trans (k2.mono (Nat.le_trans b3.size k1.size))⟩
  obtain ⟨kind, n, kl, hK⟩ := kind_of kd
  have HK := Hd.mk hK
  have hn816 : n = 8 ∨ n = 16 := by rcases hK.cases_ with ⟨_, h, _⟩ | ⟨_, h, _⟩ <;> omega
  have hkl : Hd (kl ≤ 24) := ⟨by rcases hK.cases_ with ⟨_, _, h⟩ | ⟨_, _, h⟩ <;> omega⟩
  have hkind : 1 + (kd : Int) % 2 = kind := by rw [hK.kind_]; omega
  obtain ⟨m, hm⟩ : ∃ m, Hd (m = n2 / n) := ⟨_, ⟨rfl⟩⟩
  obtain ⟨N, hN⟩ : ∃ N, Hd (N = n * m) := ⟨_, ⟨rfl⟩⟩
  have hNn : N ≤ n2 := by rw [hN.out, hm.out]; exact Nat.mul_div_le n2 n
  have hnz : ¬ ((n : Int) = 0) := by omega
  have hq : (n2 : Int).tdiv (n : Int) = (m : Int) := by rw [hm.out, Int.ofNat_tdiv]
  have hq2 : (m : Int) * (n : Int) = (N : Int) := by rw [hN.out, Nat.mul_comm]; push_cast; rfl
  have hq3 : (N : Int).tdiv (n : Int) = (m : Int) := by rw [hN.out, ← Int.ofNat_tdiv, Nat.mul_div_cancel_left m (by omega)]
  obtain ⟨j, hj⟩ : ∃ j, Hd (j = ct % (m + 1)) := ⟨_, ⟨rfl⟩⟩
  have hjm : j ≤ m := by rw [hj.out]; have := Nat.mod_lt ct (show 0 < m + 1 by omega); omega
  have hq4 : (ct : Int).tmod ((m : Int) + 1) = (j : Int) := by rw [hj.out, show ((m : Int) + 1) = ((m + 1 : Nat) : Int) by push_cast; rfl, Int.ofNat_tmod]
  have hz2 : ¬ ((m : Int) + 1 = 0) := by omega
  obtain ⟨J, hJ⟩ : ∃ J, Hd (J = n * j) := ⟨_, ⟨rfl⟩⟩
  have hq5 : (j : Int) * (n : Int) = (J : Int) := by rw [hJ.out, Nat.mul_comm]; push_cast; rfl
  have hJN : J ≤ N := by rw [hJ.out, hN.out]; exact Nat.mul_le_mul_left n hjm
  have hNc : N ≤ c2 := by omega
  have hJc : J ≤ c2 := by omega
  have hn16 : n ≤ 16 := by omega
  have hsl := slice16 n hn816
  have HN816 := Hd.mk hn816
  clear hn816
  have hm200 : m ≤ 200 := by rw [hm.out]; exact Nat.le_trans (Nat.div_le_self _ _) (by omega)
  have hN2 : Hd (N ≤ 200) := ⟨by omega⟩
  have hnk : Hd (nk ≤ 1000000) := ⟨by omega⟩
  obtain ⟨T, hT⟩ : ∃ T, Hd (txt.take N = T) := ⟨_, ⟨rfl⟩⟩
  have hTl : Hd (N = T.length) := ⟨by rw [← hT.out, List.length_take]; have := HY.out; omega⟩
  have HRT : Hd (Rd .u8 w A2 T) := ⟨hT.out ▸ HR2.out.take_ N⟩
  have BT : Hd (Byt T) := ⟨hT.out ▸ fun x hx => HBT.out x (List.mem_of_mem_take hx)⟩
  obtain ⟨key2, hk2⟩ : ∃ K, Hd (rightTo key kl = K) := ⟨_, ⟨rfl⟩⟩
  have hk2l : Hd (key2.length = kl) := ⟨by rw [← hk2.out]; exact rightTo_length key kl⟩
  have hk2b : Hd (Byt key2) := ⟨by rw [← hk2.out]; exact rightTo_byt key HBK.out kl⟩
  obtain ⟨F, hF⟩ : ∃ F, Hd (kindF kind key2 false = F) := ⟨_, ⟨rfl⟩⟩
  have DO : Hd (∀ bk, DoOk n kind key2 bk false F) := ⟨fun bk => hF.out ▸ hK.doOk key2 bk false hk2l.out hk2b.out⟩
  have SZ := Hd.mk hK.size
  have FT := Hd.mk hK.fits
  have KC : Hd (kind = 1 ∨ kind = 2) := ⟨by rcases hK.cases_ with ⟨h, _, _⟩ | ⟨h, _, _⟩ <;> omega⟩
  have RK : Hd ((kind = 1 ∧ kl = 16) ∨ (kind = 2 ∧ kl = 24) ∨ (kind = 3 ∧ kl = 4)) := ⟨by rcases hK.cases_ with ⟨h, _, h'⟩ | ⟨h, _, h'⟩ <;> simp [h, h']⟩
  obtain ⟨S, hS⟩ : ∃ S, Hd (st.take n = S) := ⟨_, ⟨rfl⟩⟩
  have hSl : Hd (S.length = n) := ⟨by rw [← hS.out, List.length_take, HS.out]; omega⟩
  obtain ⟨ALL, hALL⟩ : ∃ X, Hd (chainF F n m S T = X) := ⟨_, ⟨rfl⟩⟩
  have hALLl : Hd (ALL.length = N) := ⟨by
    have := chain_len n m kind key2 none false F (DO.out none) S T hSl.out (by rw [← hTl.out, hN.out])
    rw [← hALL.out, hN.out]; simpa using this⟩
  obtain ⟨PA, hPA⟩ : ∃ X, Hd (chainF F n j S (T.take J) = X) := ⟨_, ⟨rfl⟩⟩
  have hTJ : Hd ((T.take J).length = J) := ⟨by rw [List.length_take, ← hTl.out]; omega⟩
  have hPAl : Hd (PA.length = J) := ⟨by
    have := chain_len n j kind key2 none false F (DO.out none) S (T.take J) hSl.out (by rw [hTJ.out, hJ.out])
    rw [← hPA.out, hJ.out]; simpa [hJ.out] using this⟩
  obtain ⟨NX, hNX⟩ : ∃ X, Hd (lastF F n S T j = X) := ⟨_, ⟨rfl⟩⟩
  have hNXl : Hd (NX.length = n) := ⟨by rw [← hNX.out]; exact lastF_length F n m S T (DO.out none).len hSl.out (by rw [← hTl.out, hN.out]) j hjm⟩
  obtain ⟨PB, hPB⟩ : ∃ X, Hd (chainF F n (m - j) NX (T.drop J) = X) := ⟨_, ⟨rfl⟩⟩
  have hTD : Hd ((T.drop J).length = N - J) := ⟨by rw [List.length_drop, ← hTl.out]⟩
  have hTD2 : Hd (N - J = n * (m - j)) := ⟨by rw [hN.out, hJ.out, Nat.mul_sub]⟩
  have hPBl : Hd (PB.length = N - J) := ⟨by
    have := chain_len n (m - j) kind key2 none false F (DO.out none) NX (T.drop J) hNXl.out (by rw [hTD.out, hTD2.out])
    rw [← hPB.out, hTD2.out]; simpa using this⟩
  have hEQ : Hd (ALL = [] ++ PA ++ PB) := ⟨by
    have h := chain_parts F n j (m - j) S T
    rw [show j + (m - j) = m by omega, ← hJ.out, hALL.out, hPA.out, hNX.out, hPB.out] at h
    simpa using h⟩
  have hcase : (c2 = J ∧ Hd (True)) ∨ (∃ ad, A2 = some ad ∧ ¬ (c2 = J)) := by
    by_cases h : c2 = J
    · exact .inl ⟨h, ⟨trivial⟩⟩
    · refine .inr ?_
      cases hA : A2 with
      | none => have := H02.out hA; omega
      | some ad => exact ⟨ad, rfl, h⟩
  rcases hcase with ⟨hcJ0, _⟩ | ⟨ad, rfl, hcJ⟩
  · have hcJ1 := hcJ0.symm
    subst hcJ1
    have hPBl0 : Hd (PB.length = 0) := ⟨by rw [hPBl.out]; omega⟩
    rcases Nat.eq_zero_or_pos j with hj00 | hj00
    · have hj0 := Hd.mk hj00
      clear hj00
      have hJ0 : ¬ ((0 : Int) < (J : Int)) := by rw [hJ.out, hj0.out]; simp
      have hNXS : Hd (NX = S) := ⟨by rw [← hNX.out, hj0.out]; rfl⟩
      go_enter Tryd.func5, Tryd.ntmps5
      go_wp2_with (first
        | (refine box_arr rfl _ rfl rfl ?_; intro gb w0 b1 b2 b3 b4)
        | (go_at_call 8; (with_reducible refine (AW.out _ (HL.out.below b3)).mono ?_); rintro e w1 ⟨rfl, k1⟩;
           have X1 := Hd.mk (right_any kind kl RK.out A nk c key w1 HX.out ((HR.out.below b3).below k1) hnk.out))
        | (go_at_call 14; (with_reducible refine X1.out.mono ?_); intro e w2 hh; rw [hk2.out] at hh; obtain ⟨A3, c3, rfl, a1, a2, a3, a4, a5⟩ := hh.len kl hk2l.out;
           have X2 := Hd.mk (cipher_ok kind KC.out A3 kl c3 key2 none 0 0 [] w2 hk2l.out.symm FT.out a3 a4 rfl Rd.nil (fun _ => rfl) (by omega)))
        | (go_at_call 13; (with_reducible refine X2.out.mono ?_); rintro e w3 ⟨gc, gbk, gt, rfl, c1, _, _, _, c5⟩;
           have B3 := Hd.mk (((b3.trans (k1.mono b3.size)).trans (a5.mono (Nat.le_trans b3.size k1.size))).trans (c5.mono (Nat.le_trans (Nat.le_trans b3.size k1.size) a5.size)));
           have hgb : Hd (gb < w3.heap.size) := ⟨Nat.lt_of_lt_of_le b2 (Nat.le_trans k1.size (Nat.le_trans a5.size c5.size))⟩;
           have R3 := Hd.mk (((b4.below k1 b2).below a5 (Nat.lt_of_lt_of_le b2 k1.size)).below c5 (Nat.lt_of_lt_of_le b2 (Nat.le_trans k1.size a5.size)));
           have C3 := Hd.mk c1;
           have XS : Hd (Calls Tryd.prog 15 #[.pointer (some ⟨gc, 0, none⟩)] w3 fun e w' => e = .returned (.int .i64 (n : Nat)) ∧ w3 = w') := ⟨by rw [SZ.out]; exact Size_any _ gc w3 kind key2 _ c1⟩;
           clear b1 b2 b3 b4 k1 a1 a2 a3 a4 a5 c1 c5 X1 X2)
        | (go_at_call 15; (with_reducible refine XS.out.mono ?_); rintro e w' ⟨rfl, rfl⟩;
           have RS3 : Hd (Rd .u8 w3 (some ⟨gb, 0, none⟩) S) := ⟨hS.out ▸ (Rd.of_row R3.out).take_ n⟩;
           have X3 := Hd.mk (Chained_ok n m _ gc kind key2 _ false F (DO.out _) A2 (some ⟨gb, 0, none⟩) N J 16 S T w3 C3.out hSl.out RS3.out hTl.out (by rw [← hTl.out, hN.out]) (by have := hN2.out; omega) hNc (HRT.out.below B3.out) BT.out))
        | (go_at_call 17; (with_reducible refine X3.out.mono ?_); intro e w4 hh; rw [if_neg Bool.false_ne_true, hALL.out] at hh; obtain ⟨Ax, cx, rfl, l1, l2, l3, l4, l5, l6⟩ := hh.len N hALLl.out;
           have E4 := Hd.mk (below_drewN l6 1); have C4 := Hd.mk ((C3.out.below l6 (Nat.le_refl _)).drewN 1); have RA4 := Hd.mk (l3.drewN 1);
           have X4 : Hd (Calls Tryd.prog 17 #[.pointer (some ⟨gc, 0, none⟩), .slice (some ⟨gb, 0, none⟩) n 16, .slice A2 J J, .bool false] w4.drew (RetNewNil PA w4.drew)) := ⟨by
             have h := Chained_ok n j _ gc kind key2 _ false F (DO.out _) A2 (some ⟨gb, 0, none⟩) J J 16 S (T.take J) w4.drew C4.out hSl.out (RS3.out.below E4.out) hTJ.out.symm (by rw [hTJ.out, hJ.out]) (by have := hN2.out; omega) hJc ((HRT.out.below (B3.out.trans (E4.out.mono B3.out.size))).take_ J) (fun x hx => BT.out x (List.mem_of_mem_take hx))
             rw [if_neg Bool.false_ne_true, hPA.out] at h; exact h⟩;
           clear l1 l2 l3 l4 l5 l6 X3 XS))
      go_region_held3 (fun _ => True) (trivial) (first
        | (go_at_call 17; (with_reducible refine X4.out.mono ?_); intro e w5 hh; obtain ⟨Aa, ca, rfl, p1, p2, p3, p4, p5, p6⟩ := hh.len J hPAl.out))
      have E5 := Hd.mk (E4.out.trans (p6.mono E4.out.size))
      have B5 := Hd.mk (B3.out.trans (E5.out.mono B3.out.size))
      have C5 := Hd.mk (C4.out.below p6 C4.out.size)
      have RA5 := Hd.mk (RA4.out.below p6)
      have RP5 := Hd.mk p3; have HPn := Hd.mk p4
      have RS5 := Hd.mk (RS3.out.below E5.out)
      have RT5 := Hd.mk (HRT.out.below B5.out)
      clear X4 p1 p3 p4 p5 p6
      have RTD : Hd (Rd .u8 w5 A2 (T.drop J)) := ⟨by have h := RT5.out.cut J J (by rw [← hTl.out]; exact hNc); rw [if_pos rfl] at h; exact h⟩
      have X5 : Hd (Calls Tryd.prog 17 #[.pointer (some ⟨gc, 0, none⟩), .slice (some ⟨gb, 0, none⟩) n 16, .slice A2 0 0, .bool false] w5 (RetNewNil PB w5)) := ⟨by
        have h := Chained_ok n (m - j) _ gc kind key2 _ false F (DO.out _) A2 _ 0 0 16 NX (T.drop J) w5 C5.out hNXl.out (hNXS.out ▸ RS5.out) (by rw [hTD.out]; omega) (by rw [hTD.out, hTD2.out]) (by have := hN2.out; omega) (by omega) RTD.out (fun x hx => BT.out x (List.mem_of_mem_drop hx))
        rw [if_neg Bool.false_ne_true, hPB.out] at h; exact h⟩
      go_wp2_with (first
        | (go_at_call 17; (with_reducible refine X5.out.mono ?_); intro e w6 hh; obtain ⟨Ab, cb, rfl, q1, q2, q3, q4, q5, q6⟩ := hh.len 0 hPBl0.out;
           have RA6 := Hd.mk (RA5.out.below q6); have RP6 := Hd.mk (RP5.out.below q6); have RB6 := Hd.mk q3; have HBn := Hd.mk q4; have E6 := Hd.mk q6; clear X5 q1 q3 q4 q5 q6)
        | (refine want_op (by rfl) ?_; refine empty_any (k := .u8) rfl emU8 rfl ?_; intro g7 w7 d1 d2 d3 d4)
        | (at_builtin; refine want_op (by rfl) ?_; (refine append_any slU8 rfl _ _ rfl rfl d4 rfl hPAl.out.symm (RP6.out.below d3) (fun _ e => HPn.out e) (by rw [hPAl.out]; have := hN2.out; simp only [List.length_nil]; omega) d3.size ?_); intro v8 w8 f1 f2 f3;
           have D8 := Hd.mk (f2.below d3 d3.size (fun b hb => (d4.lt b hb).1)))
        | (at_builtin; refine want_op (by rfl) ?_; (refine append_any slU8 rfl _ _ rfl rfl f1 rfl hPBl0.out.symm (RB6.out.below D8.out) (fun _ e => HBn.out e) (by rw [List.length_append, hPAl.out, hPBl0.out]; have := hN2.out; simp only [List.length_nil]; omega) D8.out.size ?_); intro v9 w9 i1 i2 i3;
           have D9 := Hd.mk (i2.below D8.out D8.out.size (fun b hb => (f1.lt b hb).1));
           obtain ⟨A9, c9, ev9, j1, j2, j3, j4⟩ := i1.reads; subst ev9;
           have sT := Hd.mk (Same_true Ax A9 N cx (PA.length + PB.length) c9 ALL (([] ++ PA) ++ PB) w9 hALLl.out.symm (by simp) (by have := hN2.out; omega) (RA6.out.below D9.out) j3 hEQ.out))
        | (refine want_op (by rfl) ?_; (go_at_call 11; (with_reducible refine sT.out.mono ?_)); rintro e w11 ⟨rfl, qq, rfl⟩)
        | (go_at_call 11; (with_reducible refine sT.out.mono ?_); rintro e w11 ⟨rfl, qq, rfl⟩))
      go_ret
      have B6 := B5.out.trans (E6.out.mono B5.out.size)
      exact ⟨rfl, below_drewN (B6.trans (D9.out.mono B6.size)) _⟩
    · obtain ⟨j', hj1⟩ : ∃ j', j = j' + 1 := ⟨j - 1, by omega⟩
      have hj0 := Hd.mk hj1
      clear hj1 hj00
      have hJ0 : (0 : Int) < (J : Int) := by rw [hJ.out, hj0.out, Nat.mul_succ]; omega
      obtain ⟨Jn, hJn⟩ : ∃ Jn, Hd (Jn = n * j') := ⟨_, ⟨rfl⟩⟩
      have hJJ : J = Jn + n := by rw [hJ.out, hj0.out, Nat.mul_succ, hJn.out]
      have hsub : (J : Int) - (n : Int) = (Jn : Int) := by omega
      have hJle : Jn ≤ J := by omega
      have hJd : J - Jn = n := by omega
      have HJJ := Hd.mk hJJ
      clear hJJ
      have hPX : Hd (PA.drop Jn = NX) := ⟨by rw [← hPA.out, ← hNX.out, hJn.out, hJ.out, hj0.out]; exact lastF_at F n j' S T (DO.out none).len hSl.out (by have := hTJ.out; rw [hJ.out, hj0.out] at this; exact this)⟩
      go_enter Tryd.func5, Tryd.ntmps5
      go_wp2_with (first
        | (refine box_arr rfl _ rfl rfl ?_; intro gb w0 b1 b2 b3 b4)
        | (go_at_call 8; (with_reducible refine (AW.out _ (HL.out.below b3)).mono ?_); rintro e w1 ⟨rfl, k1⟩;
           have X1 := Hd.mk (right_any kind kl RK.out A nk c key w1 HX.out ((HR.out.below b3).below k1) hnk.out))
        | (go_at_call 14; (with_reducible refine X1.out.mono ?_); intro e w2 hh; rw [hk2.out] at hh; obtain ⟨A3, c3, rfl, a1, a2, a3, a4, a5⟩ := hh.len kl hk2l.out;
           have X2 := Hd.mk (cipher_ok kind KC.out A3 kl c3 key2 none 0 0 [] w2 hk2l.out.symm FT.out a3 a4 rfl Rd.nil (fun _ => rfl) (by omega)))
        | (go_at_call 13; (with_reducible refine X2.out.mono ?_); rintro e w3 ⟨gc, gbk, gt, rfl, c1, _, _, _, c5⟩;
           have B3 := Hd.mk (((b3.trans (k1.mono b3.size)).trans (a5.mono (Nat.le_trans b3.size k1.size))).trans (c5.mono (Nat.le_trans (Nat.le_trans b3.size k1.size) a5.size)));
           have hgb : Hd (gb < w3.heap.size) := ⟨Nat.lt_of_lt_of_le b2 (Nat.le_trans k1.size (Nat.le_trans a5.size c5.size))⟩;
           have R3 := Hd.mk (((b4.below k1 b2).below a5 (Nat.lt_of_lt_of_le b2 k1.size)).below c5 (Nat.lt_of_lt_of_le b2 (Nat.le_trans k1.size a5.size)));
           have C3 := Hd.mk c1;
           have XS : Hd (Calls Tryd.prog 15 #[.pointer (some ⟨gc, 0, none⟩)] w3 fun e w' => e = .returned (.int .i64 (n : Nat)) ∧ w3 = w') := ⟨by rw [SZ.out]; exact Size_any _ gc w3 kind key2 _ c1⟩;
           clear b1 b2 b3 b4 k1 a1 a2 a3 a4 a5 c1 c5 X1 X2)
        | (go_at_call 15; (with_reducible refine XS.out.mono ?_); rintro e w' ⟨rfl, rfl⟩;
           have RS3 : Hd (Rd .u8 w3 (some ⟨gb, 0, none⟩) S) := ⟨hS.out ▸ (Rd.of_row R3.out).take_ n⟩;
           have X3 := Hd.mk (Chained_ok n m _ gc kind key2 _ false F (DO.out _) A2 (some ⟨gb, 0, none⟩) N J 16 S T w3 C3.out hSl.out RS3.out hTl.out (by rw [← hTl.out, hN.out]) (by have := hN2.out; omega) hNc (HRT.out.below B3.out) BT.out))
        | (go_at_call 17; (with_reducible refine X3.out.mono ?_); intro e w4 hh; rw [if_neg Bool.false_ne_true, hALL.out] at hh; obtain ⟨Ax, cx, rfl, l1, l2, l3, l4, l5, l6⟩ := hh.len N hALLl.out;
           have E4 := Hd.mk (below_drewN l6 1); have C4 := Hd.mk ((C3.out.below l6 (Nat.le_refl _)).drewN 1); have RA4 := Hd.mk (l3.drewN 1);
           have X4 : Hd (Calls Tryd.prog 17 #[.pointer (some ⟨gc, 0, none⟩), .slice (some ⟨gb, 0, none⟩) n 16, .slice A2 J J, .bool false] w4.drew (RetNewNil PA w4.drew)) := ⟨by
             have h := Chained_ok n j _ gc kind key2 _ false F (DO.out _) A2 (some ⟨gb, 0, none⟩) J J 16 S (T.take J) w4.drew C4.out hSl.out (RS3.out.below E4.out) hTJ.out.symm (by rw [hTJ.out, hJ.out]) (by have := hN2.out; omega) hJc ((HRT.out.below (B3.out.trans (E4.out.mono B3.out.size))).take_ J) (fun x hx => BT.out x (List.mem_of_mem_take hx))
             rw [if_neg Bool.false_ne_true, hPA.out] at h; exact h⟩;
           clear l1 l2 l3 l4 l5 l6 X3 XS))
      go_region_held3 (fun _ => True) (trivial) (first
        | (go_at_call 17; (with_reducible refine X4.out.mono ?_); intro e w5 hh; obtain ⟨Aa, ca, rfl, p1, p2, p3, p4, p5, p6⟩ := hh.len J hPAl.out))
      have E5 := Hd.mk (E4.out.trans (p6.mono E4.out.size))
      have B5 := Hd.mk (B3.out.trans (E5.out.mono B3.out.size))
      have C5 := Hd.mk (C4.out.below p6 C4.out.size)
      have RA5 := Hd.mk (RA4.out.below p6)
      have RP5 := Hd.mk p3; have HPn := Hd.mk p4
      have RS5 := Hd.mk (RS3.out.below E5.out)
      have RT5 := Hd.mk (HRT.out.below B5.out)
      clear X4 p1 p3 p4 p5 p6
      have RTD : Hd (Rd .u8 w5 A2 (T.drop J)) := ⟨by have h := RT5.out.cut J J (by rw [← hTl.out]; exact hNc); rw [if_pos rfl] at h; exact h⟩
      obtain ⟨aa, hAa⟩ : ∃ aa, Aa = some aa := by
        obtain ⟨aa, e, _⟩ := RP5.out.get 0 (by rw [hPAl.out]; omega)
        exact ⟨aa, e⟩
      subst hAa
      have hca : ¬ (ca = Jn) := by have := HJJ.out; omega
      have hJca : Jn ≤ ca := by omega
      have RN5 : Hd (Rd .u8 w5 (some (aa.add Jn)) NX) := ⟨by have h := RP5.out.cut Jn ca (by rw [hPAl.out]; exact p2); rw [if_neg hca, hPX.out] at h; exact h⟩
      have X5 : Hd (Calls Tryd.prog 17 #[.pointer (some ⟨gc, 0, none⟩), .slice (some (aa.add Jn)) n (ca - Jn), .slice A2 0 0, .bool false] w5 (RetNewNil PB w5)) := ⟨by
        have h := Chained_ok n (m - j) _ gc kind key2 _ false F (DO.out _) A2 _ 0 0 (ca - Jn) NX (T.drop J) w5 C5.out hNXl.out RN5.out (by rw [hTD.out]; omega) (by rw [hTD.out, hTD2.out]) (by have := hN2.out; omega) (by omega) RTD.out (fun x hx => BT.out x (List.mem_of_mem_drop hx))
        rw [if_neg Bool.false_ne_true, hPB.out] at h; exact h⟩
      go_wp2_with (first
        | (go_at_call 17; (with_reducible refine X5.out.mono ?_); intro e w6 hh; obtain ⟨Ab, cb, rfl, q1, q2, q3, q4, q5, q6⟩ := hh.len 0 hPBl0.out;
           have RA6 := Hd.mk (RA5.out.below q6); have RP6 := Hd.mk (RP5.out.below q6); have RB6 := Hd.mk q3; have HBn := Hd.mk q4; have E6 := Hd.mk q6; clear X5 q1 q3 q4 q5 q6)
        | (refine want_op (by rfl) ?_; refine empty_any (k := .u8) rfl emU8 rfl ?_; intro g7 w7 d1 d2 d3 d4)
        | (at_builtin; refine want_op (by rfl) ?_; (refine append_any slU8 rfl _ _ rfl rfl d4 rfl hPAl.out.symm (RP6.out.below d3) (fun _ e => HPn.out e) (by rw [hPAl.out]; have := hN2.out; simp only [List.length_nil]; omega) d3.size ?_); intro v8 w8 f1 f2 f3;
           have D8 := Hd.mk (f2.below d3 d3.size (fun b hb => (d4.lt b hb).1)))
        | (at_builtin; refine want_op (by rfl) ?_; (refine append_any slU8 rfl _ _ rfl rfl f1 rfl hPBl0.out.symm (RB6.out.below D8.out) (fun _ e => HBn.out e) (by rw [List.length_append, hPAl.out, hPBl0.out]; have := hN2.out; simp only [List.length_nil]; omega) D8.out.size ?_); intro v9 w9 i1 i2 i3;
           have D9 := Hd.mk (i2.below D8.out D8.out.size (fun b hb => (f1.lt b hb).1));
           obtain ⟨A9, c9, ev9, j1, j2, j3, j4⟩ := i1.reads; subst ev9;
           have sT := Hd.mk (Same_true Ax A9 N cx (PA.length + PB.length) c9 ALL (([] ++ PA) ++ PB) w9 hALLl.out.symm (by simp) (by have := hN2.out; omega) (RA6.out.below D9.out) j3 hEQ.out))
        | (refine want_op (by rfl) ?_; (go_at_call 11; (with_reducible refine sT.out.mono ?_)); rintro e w11 ⟨rfl, qq, rfl⟩)
        | (go_at_call 11; (with_reducible refine sT.out.mono ?_); rintro e w11 ⟨rfl, qq, rfl⟩))
      go_ret
      have B6 := B5.out.trans (E6.out.mono B5.out.size)
      exact ⟨rfl, below_drewN (B6.trans (D9.out.mono B6.size)) _⟩
  · rcases Nat.eq_zero_or_pos j with hj00 | hj00
    · have hj0 := Hd.mk hj00
      clear hj00
      have hJ0 : ¬ ((0 : Int) < (J : Int)) := by rw [hJ.out, hj0.out]; simp
      have hNXS : Hd (NX = S) := ⟨by rw [← hNX.out, hj0.out]; rfl⟩
      go_enter Tryd.func5, Tryd.ntmps5
      go_wp2_with (first
        | (refine box_arr rfl _ rfl rfl ?_; intro gb w0 b1 b2 b3 b4)
        | (go_at_call 8; (with_reducible refine (AW.out _ (HL.out.below b3)).mono ?_); rintro e w1 ⟨rfl, k1⟩;
           have X1 := Hd.mk (right_any kind kl RK.out A nk c key w1 HX.out ((HR.out.below b3).below k1) hnk.out))
        | (go_at_call 14; (with_reducible refine X1.out.mono ?_); intro e w2 hh; rw [hk2.out] at hh; obtain ⟨A3, c3, rfl, a1, a2, a3, a4, a5⟩ := hh.len kl hk2l.out;
           have X2 := Hd.mk (cipher_ok kind KC.out A3 kl c3 key2 none 0 0 [] w2 hk2l.out.symm FT.out a3 a4 rfl Rd.nil (fun _ => rfl) (by omega)))
        | (go_at_call 13; (with_reducible refine X2.out.mono ?_); rintro e w3 ⟨gc, gbk, gt, rfl, c1, _, _, _, c5⟩;
           have B3 := Hd.mk (((b3.trans (k1.mono b3.size)).trans (a5.mono (Nat.le_trans b3.size k1.size))).trans (c5.mono (Nat.le_trans (Nat.le_trans b3.size k1.size) a5.size)));
           have hgb : Hd (gb < w3.heap.size) := ⟨Nat.lt_of_lt_of_le b2 (Nat.le_trans k1.size (Nat.le_trans a5.size c5.size))⟩;
           have R3 := Hd.mk (((b4.below k1 b2).below a5 (Nat.lt_of_lt_of_le b2 k1.size)).below c5 (Nat.lt_of_lt_of_le b2 (Nat.le_trans k1.size a5.size)));
           have C3 := Hd.mk c1;
           have XS : Hd (Calls Tryd.prog 15 #[.pointer (some ⟨gc, 0, none⟩)] w3 fun e w' => e = .returned (.int .i64 (n : Nat)) ∧ w3 = w') := ⟨by rw [SZ.out]; exact Size_any _ gc w3 kind key2 _ c1⟩;
           clear b1 b2 b3 b4 k1 a1 a2 a3 a4 a5 c1 c5 X1 X2)
        | (go_at_call 15; (with_reducible refine XS.out.mono ?_); rintro e w' ⟨rfl, rfl⟩;
           have RS3 : Hd (Rd .u8 w3 (some ⟨gb, 0, none⟩) S) := ⟨hS.out ▸ (Rd.of_row R3.out).take_ n⟩;
           have X3 := Hd.mk (Chained_ok n m _ gc kind key2 _ false F (DO.out _) (some ad) (some ⟨gb, 0, none⟩) N c2 16 S T w3 C3.out hSl.out RS3.out hTl.out (by rw [← hTl.out, hN.out]) (by have := hN2.out; omega) hNc (HRT.out.below B3.out) BT.out))
        | (go_at_call 17; (with_reducible refine X3.out.mono ?_); intro e w4 hh; rw [if_neg Bool.false_ne_true, hALL.out] at hh; obtain ⟨Ax, cx, rfl, l1, l2, l3, l4, l5, l6⟩ := hh.len N hALLl.out;
           have E4 := Hd.mk (below_drewN l6 1); have C4 := Hd.mk ((C3.out.below l6 (Nat.le_refl _)).drewN 1); have RA4 := Hd.mk (l3.drewN 1);
           have X4 : Hd (Calls Tryd.prog 17 #[.pointer (some ⟨gc, 0, none⟩), .slice (some ⟨gb, 0, none⟩) n 16, .slice (some ad) J c2, .bool false] w4.drew (RetNewNil PA w4.drew)) := ⟨by
             have h := Chained_ok n j _ gc kind key2 _ false F (DO.out _) (some ad) (some ⟨gb, 0, none⟩) J c2 16 S (T.take J) w4.drew C4.out hSl.out (RS3.out.below E4.out) hTJ.out.symm (by rw [hTJ.out, hJ.out]) (by have := hN2.out; omega) hJc ((HRT.out.below (B3.out.trans (E4.out.mono B3.out.size))).take_ J) (fun x hx => BT.out x (List.mem_of_mem_take hx))
             rw [if_neg Bool.false_ne_true, hPA.out] at h; exact h⟩;
           clear l1 l2 l3 l4 l5 l6 X3 XS))
      go_region_held3 (fun _ => True) (trivial) (first
        | (go_at_call 17; (with_reducible refine X4.out.mono ?_); intro e w5 hh; obtain ⟨Aa, ca, rfl, p1, p2, p3, p4, p5, p6⟩ := hh.len J hPAl.out))
      have E5 := Hd.mk (E4.out.trans (p6.mono E4.out.size))
      have B5 := Hd.mk (B3.out.trans (E5.out.mono B3.out.size))
      have C5 := Hd.mk (C4.out.below p6 C4.out.size)
      have RA5 := Hd.mk (RA4.out.below p6)
      have RP5 := Hd.mk p3; have HPn := Hd.mk p4
      have RS5 := Hd.mk (RS3.out.below E5.out)
      have RT5 := Hd.mk (HRT.out.below B5.out)
      clear X4 p1 p3 p4 p5 p6
      have RTD : Hd (Rd .u8 w5 (some (ad.add J)) (T.drop J)) := ⟨by have h := RT5.out.cut J c2 (by rw [← hTl.out]; exact hNc); rw [if_neg hcJ] at h; exact h⟩
      have X5 : Hd (Calls Tryd.prog 17 #[.pointer (some ⟨gc, 0, none⟩), .slice (some ⟨gb, 0, none⟩) n 16, .slice (some (ad.add J)) (N - J) (c2 - J), .bool false] w5 (RetNewNil PB w5)) := ⟨by
        have h := Chained_ok n (m - j) _ gc kind key2 _ false F (DO.out _) (some (ad.add J)) _ (N - J) (c2 - J) 16 NX (T.drop J) w5 C5.out hNXl.out (hNXS.out ▸ RS5.out) hTD.out.symm (by rw [hTD.out, hTD2.out]) (by have := hN2.out; omega) (by omega) RTD.out (fun x hx => BT.out x (List.mem_of_mem_drop hx))
        rw [if_neg Bool.false_ne_true, hPB.out] at h; exact h⟩
      go_wp2_with (first
        | (go_at_call 17; (with_reducible refine X5.out.mono ?_); intro e w6 hh; obtain ⟨Ab, cb, rfl, q1, q2, q3, q4, q5, q6⟩ := hh.len (N - J) hPBl.out;
           have RA6 := Hd.mk (RA5.out.below q6); have RP6 := Hd.mk (RP5.out.below q6); have RB6 := Hd.mk q3; have HBn := Hd.mk q4; have E6 := Hd.mk q6; clear X5 q1 q3 q4 q5 q6)
        | (refine want_op (by rfl) ?_; refine empty_any (k := .u8) rfl emU8 rfl ?_; intro g7 w7 d1 d2 d3 d4)
        | (at_builtin; refine want_op (by rfl) ?_; (refine append_any slU8 rfl _ _ rfl rfl d4 rfl hPAl.out.symm (RP6.out.below d3) (fun _ e => HPn.out e) (by rw [hPAl.out]; have := hN2.out; simp only [List.length_nil]; omega) d3.size ?_); intro v8 w8 f1 f2 f3;
           have D8 := Hd.mk (f2.below d3 d3.size (fun b hb => (d4.lt b hb).1)))
        | (at_builtin; refine want_op (by rfl) ?_; (refine append_any slU8 rfl _ _ rfl rfl f1 rfl hPBl.out.symm (RB6.out.below D8.out) (fun _ e => HBn.out e) (by rw [List.length_append, hPAl.out, hPBl.out]; have := hN2.out; simp only [List.length_nil]; omega) D8.out.size ?_); intro v9 w9 i1 i2 i3;
           have D9 := Hd.mk (i2.below D8.out D8.out.size (fun b hb => (f1.lt b hb).1));
           obtain ⟨A9, c9, ev9, j1, j2, j3, j4⟩ := i1.reads; subst ev9;
           have sT := Hd.mk (Same_true Ax A9 N cx (PA.length + PB.length) c9 ALL (([] ++ PA) ++ PB) w9 hALLl.out.symm (by simp) (by have := hN2.out; omega) (RA6.out.below D9.out) j3 hEQ.out))
        | (refine want_op (by rfl) ?_; (go_at_call 11; (with_reducible refine sT.out.mono ?_)); rintro e w11 ⟨rfl, qq, rfl⟩)
        | (go_at_call 11; (with_reducible refine sT.out.mono ?_); rintro e w11 ⟨rfl, qq, rfl⟩))
      go_ret
      have B6 := B5.out.trans (E6.out.mono B5.out.size)
      exact ⟨rfl, below_drewN (B6.trans (D9.out.mono B6.size)) _⟩
    · obtain ⟨j', hj1⟩ : ∃ j', j = j' + 1 := ⟨j - 1, by omega⟩
      have hj0 := Hd.mk hj1
      clear hj1 hj00
      have hJ0 : (0 : Int) < (J : Int) := by rw [hJ.out, hj0.out, Nat.mul_succ]; omega
      obtain ⟨Jn, hJn⟩ : ∃ Jn, Hd (Jn = n * j') := ⟨_, ⟨rfl⟩⟩
      have hJJ : J = Jn + n := by rw [hJ.out, hj0.out, Nat.mul_succ, hJn.out]
      have hsub : (J : Int) - (n : Int) = (Jn : Int) := by omega
      have hJle : Jn ≤ J := by omega
      have hJd : J - Jn = n := by omega
      have HJJ := Hd.mk hJJ
      clear hJJ
      have hPX : Hd (PA.drop Jn = NX) := ⟨by rw [← hPA.out, ← hNX.out, hJn.out, hJ.out, hj0.out]; exact lastF_at F n j' S T (DO.out none).len hSl.out (by have := hTJ.out; rw [hJ.out, hj0.out] at this; exact this)⟩
      go_enter Tryd.func5, Tryd.ntmps5
      go_wp2_with (first
        | (refine box_arr rfl _ rfl rfl ?_; intro gb w0 b1 b2 b3 b4)
        | (go_at_call 8; (with_reducible refine (AW.out _ (HL.out.below b3)).mono ?_); rintro e w1 ⟨rfl, k1⟩;
           have X1 := Hd.mk (right_any kind kl RK.out A nk c key w1 HX.out ((HR.out.below b3).below k1) hnk.out))
        | (go_at_call 14; (with_reducible refine X1.out.mono ?_); intro e w2 hh; rw [hk2.out] at hh; obtain ⟨A3, c3, rfl, a1, a2, a3, a4, a5⟩ := hh.len kl hk2l.out;
           have X2 := Hd.mk (cipher_ok kind KC.out A3 kl c3 key2 none 0 0 [] w2 hk2l.out.symm FT.out a3 a4 rfl Rd.nil (fun _ => rfl) (by omega)))
        | (go_at_call 13; (with_reducible refine X2.out.mono ?_); rintro e w3 ⟨gc, gbk, gt, rfl, c1, _, _, _, c5⟩;
           have B3 := Hd.mk (((b3.trans (k1.mono b3.size)).trans (a5.mono (Nat.le_trans b3.size k1.size))).trans (c5.mono (Nat.le_trans (Nat.le_trans b3.size k1.size) a5.size)));
           have hgb : Hd (gb < w3.heap.size) := ⟨Nat.lt_of_lt_of_le b2 (Nat.le_trans k1.size (Nat.le_trans a5.size c5.size))⟩;
           have R3 := Hd.mk (((b4.below k1 b2).below a5 (Nat.lt_of_lt_of_le b2 k1.size)).below c5 (Nat.lt_of_lt_of_le b2 (Nat.le_trans k1.size a5.size)));
           have C3 := Hd.mk c1;
           have XS : Hd (Calls Tryd.prog 15 #[.pointer (some ⟨gc, 0, none⟩)] w3 fun e w' => e = .returned (.int .i64 (n : Nat)) ∧ w3 = w') := ⟨by rw [SZ.out]; exact Size_any _ gc w3 kind key2 _ c1⟩;
           clear b1 b2 b3 b4 k1 a1 a2 a3 a4 a5 c1 c5 X1 X2)
        | (go_at_call 15; (with_reducible refine XS.out.mono ?_); rintro e w' ⟨rfl, rfl⟩;
           have RS3 : Hd (Rd .u8 w3 (some ⟨gb, 0, none⟩) S) := ⟨hS.out ▸ (Rd.of_row R3.out).take_ n⟩;
           have X3 := Hd.mk (Chained_ok n m _ gc kind key2 _ false F (DO.out _) (some ad) (some ⟨gb, 0, none⟩) N c2 16 S T w3 C3.out hSl.out RS3.out hTl.out (by rw [← hTl.out, hN.out]) (by have := hN2.out; omega) hNc (HRT.out.below B3.out) BT.out))
        | (go_at_call 17; (with_reducible refine X3.out.mono ?_); intro e w4 hh; rw [if_neg Bool.false_ne_true, hALL.out] at hh; obtain ⟨Ax, cx, rfl, l1, l2, l3, l4, l5, l6⟩ := hh.len N hALLl.out;
           have E4 := Hd.mk (below_drewN l6 1); have C4 := Hd.mk ((C3.out.below l6 (Nat.le_refl _)).drewN 1); have RA4 := Hd.mk (l3.drewN 1);
           have X4 : Hd (Calls Tryd.prog 17 #[.pointer (some ⟨gc, 0, none⟩), .slice (some ⟨gb, 0, none⟩) n 16, .slice (some ad) J c2, .bool false] w4.drew (RetNewNil PA w4.drew)) := ⟨by
             have h := Chained_ok n j _ gc kind key2 _ false F (DO.out _) (some ad) (some ⟨gb, 0, none⟩) J c2 16 S (T.take J) w4.drew C4.out hSl.out (RS3.out.below E4.out) hTJ.out.symm (by rw [hTJ.out, hJ.out]) (by have := hN2.out; omega) hJc ((HRT.out.below (B3.out.trans (E4.out.mono B3.out.size))).take_ J) (fun x hx => BT.out x (List.mem_of_mem_take hx))
             rw [if_neg Bool.false_ne_true, hPA.out] at h; exact h⟩;
           clear l1 l2 l3 l4 l5 l6 X3 XS))
      go_region_held3 (fun _ => True) (trivial) (first
        | (go_at_call 17; (with_reducible refine X4.out.mono ?_); intro e w5 hh; obtain ⟨Aa, ca, rfl, p1, p2, p3, p4, p5, p6⟩ := hh.len J hPAl.out))
      have E5 := Hd.mk (E4.out.trans (p6.mono E4.out.size))
      have B5 := Hd.mk (B3.out.trans (E5.out.mono B3.out.size))
      have C5 := Hd.mk (C4.out.below p6 C4.out.size)
      have RA5 := Hd.mk (RA4.out.below p6)
      have RP5 := Hd.mk p3; have HPn := Hd.mk p4
      have RS5 := Hd.mk (RS3.out.below E5.out)
      have RT5 := Hd.mk (HRT.out.below B5.out)
      clear X4 p1 p3 p4 p5 p6
      have RTD : Hd (Rd .u8 w5 (some (ad.add J)) (T.drop J)) := ⟨by have h := RT5.out.cut J c2 (by rw [← hTl.out]; exact hNc); rw [if_neg hcJ] at h; exact h⟩
      obtain ⟨aa, hAa⟩ : ∃ aa, Aa = some aa := by
        obtain ⟨aa, e, _⟩ := RP5.out.get 0 (by rw [hPAl.out]; omega)
        exact ⟨aa, e⟩
      subst hAa
      have hca : ¬ (ca = Jn) := by have := HJJ.out; omega
      have hJca : Jn ≤ ca := by omega
      have RN5 : Hd (Rd .u8 w5 (some (aa.add Jn)) NX) := ⟨by have h := RP5.out.cut Jn ca (by rw [hPAl.out]; exact p2); rw [if_neg hca, hPX.out] at h; exact h⟩
      have X5 : Hd (Calls Tryd.prog 17 #[.pointer (some ⟨gc, 0, none⟩), .slice (some (aa.add Jn)) n (ca - Jn), .slice (some (ad.add J)) (N - J) (c2 - J), .bool false] w5 (RetNewNil PB w5)) := ⟨by
        have h := Chained_ok n (m - j) _ gc kind key2 _ false F (DO.out _) (some (ad.add J)) _ (N - J) (c2 - J) (ca - Jn) NX (T.drop J) w5 C5.out hNXl.out RN5.out hTD.out.symm (by rw [hTD.out, hTD2.out]) (by have := hN2.out; omega) (by omega) RTD.out (fun x hx => BT.out x (List.mem_of_mem_drop hx))
        rw [if_neg Bool.false_ne_true, hPB.out] at h; exact h⟩
      go_wp2_with (first
        | (go_at_call 17; (with_reducible refine X5.out.mono ?_); intro e w6 hh; obtain ⟨Ab, cb, rfl, q1, q2, q3, q4, q5, q6⟩ := hh.len (N - J) hPBl.out;
           have RA6 := Hd.mk (RA5.out.below q6); have RP6 := Hd.mk (RP5.out.below q6); have RB6 := Hd.mk q3; have HBn := Hd.mk q4; have E6 := Hd.mk q6; clear X5 q1 q3 q4 q5 q6)
        | (refine want_op (by rfl) ?_; refine empty_any (k := .u8) rfl emU8 rfl ?_; intro g7 w7 d1 d2 d3 d4)
        | (at_builtin; refine want_op (by rfl) ?_; (refine append_any slU8 rfl _ _ rfl rfl d4 rfl hPAl.out.symm (RP6.out.below d3) (fun _ e => HPn.out e) (by rw [hPAl.out]; have := hN2.out; simp only [List.length_nil]; omega) d3.size ?_); intro v8 w8 f1 f2 f3;
           have D8 := Hd.mk (f2.below d3 d3.size (fun b hb => (d4.lt b hb).1)))
        | (at_builtin; refine want_op (by rfl) ?_; (refine append_any slU8 rfl _ _ rfl rfl f1 rfl hPBl.out.symm (RB6.out.below D8.out) (fun _ e => HBn.out e) (by rw [List.length_append, hPAl.out, hPBl.out]; have := hN2.out; simp only [List.length_nil]; omega) D8.out.size ?_); intro v9 w9 i1 i2 i3;
           have D9 := Hd.mk (i2.below D8.out D8.out.size (fun b hb => (f1.lt b hb).1));
           obtain ⟨A9, c9, ev9, j1, j2, j3, j4⟩ := i1.reads; subst ev9;
           have sT := Hd.mk (Same_true Ax A9 N cx (PA.length + PB.length) c9 ALL (([] ++ PA) ++ PB) w9 hALLl.out.symm (by simp) (by have := hN2.out; omega) (RA6.out.below D9.out) j3 hEQ.out))
        | (refine want_op (by rfl) ?_; (go_at_call 11; (with_reducible refine sT.out.mono ?_)); rintro e w11 ⟨rfl, qq, rfl⟩)
        | (go_at_call 11; (with_reducible refine sT.out.mono ?_); rintro e w11 ⟨rfl, qq, rfl⟩))
      go_ret
      have B6 := B5.out.trans (E6.out.mono B5.out.size)
      exact ⟨rfl, below_drewN (B6.trans (D9.out.mono B6.size)) _⟩
end Go.Proofs.YtommgcebjhkneaaDoor

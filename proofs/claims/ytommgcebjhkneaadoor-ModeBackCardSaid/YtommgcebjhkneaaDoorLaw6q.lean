/-
  lockboxlaw06.ModeBack answers true, whatever the bytes. Conditions: the slices can be read.
-/
import Derived.Test.YtommgcebjhkneaaDoorLaw6p
namespace Go.Proofs.YtommgcebjhkneaaDoor
open Go Go.RowKit
set_option linter.unusedVariables false
set_option linter.unusedSimpArgs false

theorem catTo_byt (ys : Nat → List Int) : ∀ m, (∀ i, i < m → Byt (ys i)) → Byt (catTo ys m)
  | 0, _ => fun x hx => by cases hx
  | m + 1, h => fun x hx => by
    rw [catTo, List.mem_append] at hx
    rcases hx with hx | hx
    · exact catTo_byt ys m (fun i hi => h i (by omega)) x hx
    · exact h m (by omega) x hx
theorem alone_byt (n m : Nat) (F G : List Int → List Int) (h : Undo n F G) (xs : List Int) (hx : xs.length = n * m) (hb : Byt xs) : Byt (aloneI F n m xs) :=
  catTo_byt _ m fun i hi => h.byt _ (blk_length n m xs hx i hi) (blk_byt n xs hb i)
theorem chain_byt (n m : Nat) (F G : List Int → List Int) (h : Undo n F G) (start xs : List Int) (hs : start.length = n) (hx : xs.length = n * m) (back : Bool) : Byt (if back = true then chainB F n m start xs else chainF F n m start xs) := by
  cases back with
  | false =>
    refine catTo_byt _ m fun i hi => ?_
    have hl := blk_length n m xs hx i hi
    have hll := lastF_length F n m start xs h.len hs hx i (by omega)
    exact h.byt _ (by rw [xorI_length _ _ (by rw [hl, hll]), hl]) (xorI_byt _ _)
  | true => exact catTo_byt _ m fun i hi => xorI_byt _ _
theorem chain_undo (n m : Nat) (F G : List Int → List Int) (h : Undo n F G) (start xs : List Int) (hs : start.length = n) (hx : xs.length = n * m) (hb : Byt xs) (hbs : Byt start) (back : Bool) :
    (if (!back) = true then chainB G n m start (if back = true then chainB F n m start xs else chainF F n m start xs) else chainF G n m start (if back = true then chainB F n m start xs else chainF F n m start xs)) = xs := by
  cases back with
  | false => exact chain_back n m F G h start xs hs hx hb hbs
  | true => exact chain_forth n m F G h start xs hs hx hb hbs

set_option maxRecDepth 100000 in
set_option maxHeartbeats 4000000 in
theorem ModeBack_any (kd : Nat) (hkd : kd ≤ 255) (back : Bool) (A A2 : Option Addr) (nk c n2 c2 : Nat) (key st txt : List Int) (w : World) (hx : nk = key.length) (hy : n2 = txt.length) (hst : st.length = 16) (hc2 : n2 ≤ c2)
    (hr : Rd .u8 w A key) (hr2 : Rd .u8 w A2 txt) (hbk : Byt key) (hbt : Byt txt) (hbs : Byt st) (h02 : A2 = none → c2 = 0) (hL : Laid w) :
    Calls Tryd.prog 4 #[.int .u8 kd, .slice A nk c, .agg (bs st).toArray, .slice A2 n2 c2, .bool back] w fun e w' => e = .returned (.bool true) ∧ Below w.heap.size w w' := by
  have HX := Hd.mk hx; have HY := Hd.mk hy; have HS := Hd.mk hst; have HR := Hd.mk hr; have HR2 := Hd.mk hr2; have HL := Hd.mk hL; have HBT := Hd.mk hbt; have HBK := Hd.mk hbk; have H02 := Hd.mk h02; have HBS := Hd.mk hbs
  have AW := Hd.mk (fun w hL => awake6 awake6_1 awake6_2 w hL)
  clear hx hy hr hr2 hL hst h02 hbt hbk hbs
  by_cases h1 : (100 : Int) < (nk : Int)
  · go_enter Tryd.func4, Tryd.ntmps4
    go_wp2_with (first
      | (refine box_arr rfl _ rfl rfl ?_; intro gb w0 b1 b2 b3 b4)
      | (go_at_call 8; (with_reducible refine (AW.out _ (HL.out.below b3)).mono ?_); rintro e w1 ⟨rfl, k1⟩)
      | (go_at_call 8; (with_reducible refine (AW.out _ ((HL.out.below b3).below k1)).mono ?_); rintro e w2 ⟨rfl, k2⟩))
    go_ret
    exact ⟨rfl, (b3.trans (k1.mono b3.size)).trans (k2.mono (Nat.le_trans b3.size k1.size))⟩
  by_cases h2 : (200 : Int) < (n2 : Int)
  · go_enter Tryd.func4, Tryd.ntmps4
    go_wp2_with (first
      | (refine box_arr rfl _ rfl rfl ?_; intro gb w0 b1 b2 b3 b4)
      | (go_at_call 8; (with_reducible refine (AW.out _ (HL.out.below b3)).mono ?_); rintro e w1 ⟨rfl, k1⟩)
      | (go_at_call 8; (with_reducible refine (AW.out _ ((HL.out.below b3).below k1)).mono ?_); rintro e w2 ⟨rfl, k2⟩))
    go_ret
    exact ⟨rfl, (b3.trans (k1.mono b3.size)).trans (k2.mono (Nat.le_trans b3.size k1.size))⟩
  obtain ⟨kind, n, kl, hK⟩ := kind_of kd
  have HK := Hd.mk hK
  have hn816 : n = 8 ∨ n = 16 := by rcases hK.cases_ with ⟨_, h, _⟩ | ⟨_, h, _⟩ <;> omega
  have hkl : Hd (kl ≤ 24) := ⟨by rcases hK.cases_ with ⟨_, _, h⟩ | ⟨_, _, h⟩ <;> omega⟩
  have hkind : 1 + (kd : Int) % 2 = kind := by rw [hK.kind_]; omega
  obtain ⟨m, hm⟩ : ∃ m, Hd (m = n2 / n) := ⟨_, ⟨rfl⟩⟩
  obtain ⟨N, hN⟩ : ∃ N, Hd (N = n * m) := ⟨_, ⟨rfl⟩⟩
  have hNn : N ≤ n2 := by rw [hN.out, hm.out]; exact Nat.mul_div_le n2 n
  have hnz : ¬ ((n : Int) = 0) := by omega
  have hq : (n2 : Int).tdiv (n : Int) = (m : Int) := by rw [hm.out, Int.ofNat_tdiv]
  have hq2 : (m : Int) * (n : Int) = (N : Int) := by rw [hN.out, Nat.mul_comm]; push_cast; rfl
  have hNc : N ≤ c2 := by omega
  have hn16 : n ≤ 16 := by omega
  have hsl := slice16 n hn816
  have HN816 := Hd.mk hn816
  clear hn816
  have hm200 : m ≤ 200 := by rw [hm.out]; exact Nat.le_trans (Nat.div_le_self _ _) (by omega)
  have hN2 : Hd (N ≤ 200) := ⟨by omega⟩
  have hnk : Hd (nk ≤ 1000000) := ⟨by omega⟩
  obtain ⟨T, hT⟩ : ∃ T, Hd (txt.take N = T) := ⟨_, ⟨rfl⟩⟩
  have hTl : Hd (N = T.length) := ⟨by rw [← hT.out, List.length_take]; have := HY.out; omega⟩
  have HRT : Hd (Rd .u8 w A2 T) := ⟨hT.out ▸ HR2.out.take_ N⟩
  have BT : Hd (Byt T) := ⟨hT.out ▸ fun x hx => HBT.out x (List.mem_of_mem_take hx)⟩
  obtain ⟨key2, hk2⟩ : ∃ K, Hd (rightTo key kl = K) := ⟨_, ⟨rfl⟩⟩
  have hk2l : Hd (key2.length = kl) := ⟨by rw [← hk2.out]; exact rightTo_length key kl⟩
  have hk2b : Hd (Byt key2) := ⟨by rw [← hk2.out]; exact rightTo_byt key HBK.out kl⟩
  have HNM : Hd (T.length = n * m) := ⟨by rw [← hTl.out, hN.out]⟩
  have SZ := Hd.mk hK.size
  have FT := Hd.mk hK.fits
  have KC : Hd (kind = 1 ∨ kind = 2) := ⟨by rcases hK.cases_ with ⟨h, _, _⟩ | ⟨h, _, _⟩ <;> omega⟩
  have RK : Hd ((kind = 1 ∧ kl = 16) ∨ (kind = 2 ∧ kl = 24) ∨ (kind = 3 ∧ kl = 4)) := ⟨by rcases hK.cases_ with ⟨h, _, h'⟩ | ⟨h, _, h'⟩ <;> simp [h, h']⟩
  obtain ⟨S, hS⟩ : ∃ S, Hd (st.take n = S) := ⟨_, ⟨rfl⟩⟩
  have hSl : Hd (S.length = n) := ⟨by rw [← hS.out, List.length_take, HS.out]; omega⟩
  have hSb : Hd (Byt S) := ⟨hS.out ▸ fun x hx => HBS.out x (List.mem_of_mem_take hx)⟩
  obtain ⟨F, hF⟩ : ∃ F, Hd (kindF kind key2 back = F) := ⟨_, ⟨rfl⟩⟩
  obtain ⟨G, hG⟩ : ∃ F, Hd (kindF kind key2 (!back) = F) := ⟨_, ⟨rfl⟩⟩
  have DF : Hd (∀ bk, DoOk n kind key2 bk back F) := ⟨fun bk => hF.out ▸ hK.doOk key2 bk back hk2l.out hk2b.out⟩
  have DG : Hd (∀ bk, DoOk n kind key2 bk (!back) G) := ⟨fun bk => hG.out ▸ hK.doOk key2 bk (!back) hk2l.out hk2b.out⟩
  have UN : Hd (Undo n F G) := ⟨by have := hK.undo key2 back; rw [hF.out, hG.out] at this; exact this⟩
  obtain ⟨PX, hPX⟩ : ∃ X, Hd (aloneI F n m T = X) := ⟨_, ⟨rfl⟩⟩
  have hPXl : Hd (PX.length = N) := ⟨by rw [← hPX.out, hN.out]; exact alone_len n m kind key2 none back F (DF.out none) T HNM.out⟩
  have hPXb : Hd (Byt PX) := ⟨by rw [← hPX.out]; exact alone_byt n m F G UN.out T HNM.out BT.out⟩
  have hPY : Hd (aloneI G n m PX = T) := ⟨by rw [← hPX.out]; exact alone_back n m F G UN.out T HNM.out BT.out⟩
  obtain ⟨PU, hPU⟩ : ∃ X, Hd ((if back = true then chainB F n m S T else chainF F n m S T) = X) := ⟨_, ⟨rfl⟩⟩
  have hPUl : Hd (PU.length = N) := ⟨by rw [← hPU.out, hN.out]; exact chain_len n m kind key2 none back F (DF.out none) S T hSl.out HNM.out⟩
  have hPUb : Hd (Byt PU) := ⟨by rw [← hPU.out]; exact chain_byt n m F G UN.out S T hSl.out HNM.out back⟩
  have hPV : Hd ((if (!back) = true then chainB G n m S PU else chainF G n m S PU) = T) := ⟨by rw [← hPU.out]; exact chain_undo n m F G UN.out S T hSl.out HNM.out BT.out hSb.out back⟩
  go_enter Tryd.func4, Tryd.ntmps4
  go_wp2_with (first
    | (refine box_arr rfl _ rfl rfl ?_; intro gb w0 b1 b2 b3 b4)
    | (go_at_call 8; (with_reducible refine (AW.out _ (HL.out.below b3)).mono ?_); rintro e w1 ⟨rfl, k1⟩;
       have X1 := Hd.mk (right_any kind kl RK.out A nk c key w1 HX.out ((HR.out.below b3).below k1) hnk.out))
    | (go_at_call 14; (with_reducible refine X1.out.mono ?_); intro e w2 hh; rw [hk2.out] at hh; obtain ⟨A3, c3, rfl, a1, a2, a3, a4, a5⟩ := hh.len kl hk2l.out;
       have X2 := Hd.mk (cipher_ok kind KC.out A3 kl c3 key2 none 0 0 [] w2 hk2l.out.symm FT.out a3 a4 rfl Rd.nil (fun _ => rfl) (by omega)))
    | (go_at_call 13; (with_reducible refine X2.out.mono ?_); rintro e w3 ⟨gc, gbk, gt, rfl, c1, _, _, _, c5⟩;
       have B3 := Hd.mk (((b3.trans (k1.mono b3.size)).trans (a5.mono (Nat.le_trans b3.size k1.size))).trans (c5.mono (Nat.le_trans (Nat.le_trans b3.size k1.size) a5.size)));
       have R3 := Hd.mk (((b4.below k1 b2).below a5 (Nat.lt_of_lt_of_le b2 k1.size)).below c5 (Nat.lt_of_lt_of_le b2 (Nat.le_trans k1.size a5.size)));
       have C3 := Hd.mk c1;
       have XS : Hd (Calls Tryd.prog 15 #[.pointer (some ⟨gc, 0, none⟩)] w3 fun e w' => e = .returned (.int .i64 (n : Nat)) ∧ w3 = w') := ⟨by rw [SZ.out]; exact Size_any _ gc w3 kind key2 _ c1⟩;
       clear b1 b2 b3 b4 k1 a1 a2 a3 a4 a5 c1 c5 X1 X2)
    | (go_at_call 15; (with_reducible refine XS.out.mono ?_); rintro e w' ⟨rfl, rfl⟩;
       have RS3 : Hd (Rd .u8 w3 (some ⟨gb, 0, none⟩) S) := ⟨hS.out ▸ (Rd.of_row R3.out).take_ n⟩;
       have RT3 := Hd.mk (HRT.out.below B3.out);
       have X3 : Hd (Calls Tryd.prog 16 #[.pointer (some ⟨gc, 0, none⟩), .slice A2 N c2, .bool back] w3 (RetNewNil PX w3)) := ⟨by
         rw [← hPX.out]; exact Alone_ok n m _ gc kind key2 _ back F (DF.out _) A2 N c2 T w3 C3.out hTl.out HNM.out (by have := hN2.out; omega) hNc RT3.out BT.out⟩)
    | (go_at_call 16; (with_reducible refine X3.out.mono ?_); intro e w4 hh; obtain ⟨Ax, cx, rfl, l1, l2, l3, l4, l5, l6⟩ := hh.len N hPXl.out;
       have B4 := Hd.mk (B3.out.trans (l6.mono B3.out.size)); have C4 := Hd.mk (C3.out.below l6 (Nat.le_refl _)); have RT4 := Hd.mk (RT3.out.below l6); have RS4 := Hd.mk (RS3.out.below l6);
       have X4 : Hd (Calls Tryd.prog 16 #[.pointer (some ⟨gc, 0, none⟩), .slice Ax N cx, .bool (!back)] w4 (RetNewNil T w4)) := ⟨by
         have h := Alone_ok n m _ gc kind key2 _ (!back) G (DG.out _) Ax N cx PX w4 C4.out hPXl.out.symm (by rw [hPXl.out, hN.out]) (by have := hN2.out; omega) l2 l3 hPXb.out
         rw [hPY.out] at h; exact h⟩;
       clear l1 l2 l3 l4 l5 l6 X3 XS)
    | (go_at_call 16; (with_reducible refine X4.out.mono ?_); intro e w5 hh; obtain ⟨Ay, cy, rfl, l1, l2, l3, l4, l5, l6⟩ := hh.len N hTl.out.symm;
       have B5 := Hd.mk (B4.out.trans (l6.mono B4.out.size)); have C5 := Hd.mk (C4.out.below l6 C4.out.size); have RT5 := Hd.mk (RT4.out.below l6); have RS5 := Hd.mk (RS4.out.below l6); have RY5 := Hd.mk l3;
       have X5 : Hd (Calls Tryd.prog 17 #[.pointer (some ⟨gc, 0, none⟩), .slice (some ⟨gb, 0, none⟩) n 16, .slice A2 N c2, .bool back] w5 (RetNewNil PU w5)) := ⟨by
         rw [← hPU.out]; exact Chained_ok n m _ gc kind key2 _ back F (DF.out _) A2 (some ⟨gb, 0, none⟩) N c2 16 S T w5 C5.out hSl.out RS5.out hTl.out HNM.out (by have := hN2.out; omega) hNc RT5.out BT.out⟩;
       clear l1 l2 l3 l4 l5 l6 X4)
    | (go_at_call 17; (with_reducible refine X5.out.mono ?_); intro e w6 hh; obtain ⟨Au, cu, rfl, l1, l2, l3, l4, l5, l6⟩ := hh.len N hPUl.out;
       have B6 := Hd.mk (B5.out.trans (l6.mono B5.out.size)); have C6 := Hd.mk (C5.out.below l6 C5.out.size); have RT6 := Hd.mk (RT5.out.below l6); have RS6 := Hd.mk (RS5.out.below l6); have RY6 := Hd.mk (RY5.out.below l6);
       have X6 : Hd (Calls Tryd.prog 17 #[.pointer (some ⟨gc, 0, none⟩), .slice (some ⟨gb, 0, none⟩) n 16, .slice Au N cu, .bool (!back)] w6 (RetNewNil T w6)) := ⟨by
         have h := Chained_ok n m _ gc kind key2 _ (!back) G (DG.out _) Au (some ⟨gb, 0, none⟩) N cu 16 S PU w6 C6.out hSl.out RS6.out hPUl.out.symm (by rw [hPUl.out, hN.out]) (by have := hN2.out; omega) l2 l3 hPUb.out
         rw [hPV.out] at h; exact h⟩;
       clear l1 l2 l3 l4 l5 l6 X5)
    | (go_at_call 17; (with_reducible refine X6.out.mono ?_); intro e w7 hh; obtain ⟨Av, cv, rfl, l1, l2, l3, l4, l5, l6⟩ := hh.len N hTl.out.symm;
       have B7 := Hd.mk (B6.out.trans (l6.mono B6.out.size)); have RT7 := Hd.mk (RT6.out.below l6); have RY7 := Hd.mk (RY6.out.below l6);
       have sT := Hd.mk (Same_true Ay A2 N cy N c2 T T w7 hTl.out hTl.out (by have := hN2.out; omega) RY7.out RT7.out rfl);
       have sU := Hd.mk (fun q => Same_true Av A2 N cv N c2 T T (w7.drewN q) hTl.out hTl.out (by have := hN2.out; omega) (l3.drewN q) (RT7.out.drewN q) rfl);
       clear l1 l2 l3 l4 l5 l6 X6)
    | (go_at_call 11; (with_reducible refine sT.out.mono ?_); rintro e w11 ⟨rfl, qq, rfl⟩)
    | (go_at_call 11; (with_reducible refine (sU.out _).mono ?_); rintro e w12 ⟨rfl, qr, rfl⟩))
  go_ret
  exact ⟨rfl, below_drewN B7.out _⟩
end Go.Proofs.YtommgcebjhkneaaDoor

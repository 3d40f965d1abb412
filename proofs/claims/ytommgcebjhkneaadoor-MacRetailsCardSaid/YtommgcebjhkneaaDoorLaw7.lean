/-
  Law 7, MacRetails: the reference's padding and retail code, and the law. Conditions: slices that can be read; the text of at most 100,000 bytes.
-/
import Derived.Test.YtommgcebjhkneaaDoorRef3e
import Derived.Test.YtommgcebjhkneaaDoorAwake7
namespace Go.Proofs.YtommgcebjhkneaaDoor
open Go Go.RowKit
set_option linter.unusedVariables false
set_option linter.unusedSimpArgs false

set_option maxRecDepth 100000 in
set_option maxHeartbeats 2000000 in
theorem Pad7 (A : Option Addr) (L c : Nat) (text : List Int) (n : Nat) (w : World) (hL : L = text.length) (hr : Rd .u8 w A text) (h0 : A = none → c = 0) (hL2 : L ≤ 1000000) (hn : 0 < n) (hn2 : n ≤ 1000) :
    Calls Tryd.prog 20 #[.slice A L c, .int .i64 n] w (RetOwn (padI text n) w) := by
  have HR := Hd.mk hr; have H0 := Hd.mk h0
  obtain ⟨Z, hZ⟩ : ∃ Z, Hd (Z = padZ L n) := ⟨_, ⟨rfl⟩⟩
  have hZn : Hd (Z < n) := ⟨by rw [hZ.out]; exact padZ_lt L n hn⟩
  have HL := Hd.mk hL
  have hnz : ¬ ((n : Int) = 0) := by omega
  have rE : Hd (Own .u8 5 (w.alloc (.cells #[] 5)) w.heap.size (.slice (some ⟨w.heap.size, 0, none⟩) 0 0) []) := ⟨own_empty w⟩
  have rB : Hd (Below w.heap.size w (w.alloc (.cells #[] 5))) := ⟨(Below.refl _ _).alloc (Nat.le_refl _) _⟩
  clear hL hr h0
  go_enter Tryd.func20, Tryd.ntmps20
  go_wp2_with (first
    | (refine one_any slU8 rfl _ rfl rfl ?_; intro g2 w2 h3 h4 h5)
    | (at_builtin; refine append_any slU8 rfl _ _ rfl rfl (h1.below h4) rfl rfl h5 (fun e => by cases e) (by have := HL.out; simp only [List.length_cons, List.length_nil]; omega) (Nat.le_trans h2.size h4.size) ?_; intro v3 w3 h6 h7 h8;
       obtain ⟨A3, c3, e3, j1, j2, j3, j4⟩ := h6.reads; subst e3)
    | (at_builtin; refine append_any slU8 rfl _ _ rfl rfl rE.out rfl HL.out (HR.out.below rB.out) (fun _ e => H0.out e) (by have := HL.out; simp only [List.length_nil]; omega) rB.out.size ?_; intro v1 w1 h1 k2 k3;
       have h2 := k2.below rB.out rB.out.size (fun b hb => (rE.out.lt b hb).1); rw [List.nil_append] at h1))
  have hB := Hd.mk (h7.below (h2.trans (h4.mono h2.size)) (Nat.le_trans h2.size h4.size) (fun b hb => ((h1.below h4).lt b hb).1))
  have hO : Hd (Own .u8 5 w3 w.heap.size (.slice A3 (text ++ [128]).length c3) (text ++ [128] ++ List.replicate 0 0)) := ⟨by simpa using h6⟩
  clear h1 h2 h3 h4 h5 h6 h7 h8 j1 j2 j3 j4 k2 k3 rE rB
  go_loopg [5] (Z + 1) (fun q v5 wr => ∃ (k p cc : Nat) (AA : Option Addr), k ≤ Z ∧ Hd (q + k = Z + 1) ∧ v5 = .slice AA p cc ∧ Hd (p = L + 1 + k) ∧ Hd (Own .u8 5 wr w.heap.size (.slice AA p cc) (text ++ [128] ++ List.replicate k 0)) ∧ Hd (Below w.heap.size w wr))
  case atStart =>
    have e : (text ++ [128]).length = L + 1 + 0 := by have := HL.out; simp; omega
    have h := hO.out
    rw [e] at h
    exact ⟨0, L + 1 + 0, c3, A3, by omega, ⟨by omega⟩, by simp [← HL.out], ⟨rfl⟩, ⟨h⟩, hB⟩
  case round =>
    clear hO hB
    obtain ⟨k, p, cc, AA, hk, hq, rfl, hp, hO, hB⟩ := hrel
    obtain ⟨r, hr⟩ : ∃ r, Hd (r = p % n) := ⟨_, ⟨rfl⟩⟩
    have hmod : (p : Int).tmod (n : Int) = (r : Int) := by rw [hr.out, Int.ofNat_tmod]
    by_cases hlt : k < Z
    · have hr0 : r ≠ 0 := by rw [hr.out, hp.out]; exact padZ_mid L n k hn (by rw [← hZ.out]; exact hlt)
      have t1 : ¬ ((r : Int) = 0) := by omega
      have hl6 : Hd ((text ++ [128] ++ List.replicate k 0).length = p) := ⟨by have := HL.out; have := hp.out; simp; omega⟩
      clear hr0
      go_wp2_with (first
        | (refine one_any slU8 rfl _ rfl rfl ?_; intro g5 w5 h51 h52 h53)
        | (at_builtin; refine append_any slU8 rfl _ _ rfl rfl (hO.out.below h52) rfl rfl h53 (fun e => by cases e) (by rw [hl6.out]; have := hp.out; have := hZn.out; simp only [List.length_cons, List.length_nil]; omega) (Nat.le_trans hB.out.size h52.size) ?_; intro v6 w6 h61 h62 h63))
      obtain ⟨A6, c6, e6, j1, j2, j3, j4⟩ := id h61.reads
      subst e6
      go_roundg (Z + 1 - (k + 1))
      case measure => have := hq.out; omega
      case rel =>
        have e : (text ++ [128] ++ List.replicate k 0 ++ [0]).length = p + 1 := by rw [List.length_append, hl6.out]; rfl
        have e2 : text ++ [128] ++ List.replicate k 0 ++ [0] = text ++ [128] ++ List.replicate (k + 1) 0 := by rw [List.replicate_succ', List.append_assoc]
        rw [e2] at h61
        rw [e2] at e
        rw [e] at h61
        refine ⟨k + 1, p + 1, c6, A6, by omega, ⟨by omega⟩, ?_, ⟨by have := hp.out; omega⟩, ⟨h61⟩, ⟨h62.below (hB.out.trans (h52.mono hB.out.size)) (Nat.le_trans hB.out.size h52.size) (fun b6 hb6 => ((hO.out.below h52).lt b6 hb6).1)⟩⟩
        rw [← e, ← e2]
    · obtain rfl : k = Z := by omega
      have hr0 : r = 0 := by rw [hr.out, hp.out, hZ.out]; exact padZ_end L n hn
      have t1 : ((r : Nat) : Int) = 0 := by omega
      have hv := hO.out
      go_wp2
      go_ret
      refine ⟨_, rfl, ?_, hB.out⟩
      rw [padI, ← HL.out, ← hZ.out]
      exact hv


theorem kpart_8 (k : List Int) (h : k.length = 8) : kpart k 0 = k := by
  unfold kpart partsI
  simp [h, List.take_append]
theorem tripleI_8 (k : List Int) (back : Bool) (x : List Int) (h : k.length = 8) : tripleI k back x = desI k back x := by
  rw [tripleI, if_pos h, kpart_8 k h]
theorem bits_xor_comm (x y : Int) : bits .xor .u8 x y = bits .xor .u8 y x := by
  show IntKind.u8.wrap ((BitVec.ofInt 8 x ^^^ BitVec.ofInt 8 y).toNat : Int) = IntKind.u8.wrap ((BitVec.ofInt 8 y ^^^ BitVec.ofInt 8 x).toNat : Int)
  rw [BitVec.xor_comm]
theorem xorI_comm (xs ys : List Int) : xorI xs ys = xorI ys xs := by
  unfold xorI
  rw [List.zipWith_comm]
  congr 1
  funext x y
  exact bits_xor_comm _ _

/-- What a function hands back that answers bytes: its form. -/
theorem RetOwn.form {xs : List Int} {w w' : World} {e : Ending} (h : RetOwn xs w e w') (n : Nat) (hn : xs.length = n) (hp : 0 < n) :
    ∃ g c, e = .returned (.slice (some ⟨g, 0, none⟩) n c) ∧ n ≤ c ∧ Rd .u8 w' (some ⟨g, 0, none⟩) xs ∧ w.heap.size ≤ g ∧ Below w.heap.size w w' := by
  subst hn
  obtain ⟨v, rfl, h1, h2⟩ := h
  obtain ⟨g, c, rfl, k1, k2, k3⟩ := h1.form hp
  obtain ⟨A', c', e, _, _, r, _⟩ := h1.reads
  injection e with e1
  exact ⟨g, c, rfl, k1, e1 ▸ r, k2, h2⟩

set_option maxRecDepth 100000 in
set_option maxHeartbeats 4000000 in
theorem Retail7 (adk : Addr) (ck : Nat) (key : List Int) (hkl : key.length = 16) (hck : 16 ≤ ck) (A : Option Addr) (L c : Nat) (text : List Int) (w : World)
    (hrk : Rd .u8 w (some adk) key) (hkb : Byt key) (hL : L = text.length) (hL2 : L ≤ 100000) (hr : Rd .u8 w A text) (h0 : A = none → c = 0) (hb : Byt text) :
    Calls Tryd.prog 22 #[.slice (some adk) 16 ck, .slice A L c] w (RetOwn (retailI key text) w) := by
  obtain ⟨k1, hk1⟩ : ∃ k1, Hd (key.take 8 = k1) := ⟨_, ⟨rfl⟩⟩
  obtain ⟨k2, hk2⟩ : ∃ k2, Hd (key.drop 8 = k2) := ⟨_, ⟨rfl⟩⟩
  have l1 : Hd (k1.length = 8) := ⟨by rw [← hk1.out]; simp [hkl]⟩
  have l2 : Hd (k2.length = 8) := ⟨by rw [← hk2.out]; simp [hkl]⟩
  have HK1 : Hd (Rd .u8 w (some adk) k1) := ⟨by rw [← hk1.out]; exact hrk.take_ 8⟩
  have HK2 : Hd (Rd .u8 w (some ⟨adk.block, adk.off + 8, none⟩) k2) := ⟨by have h := hrk.cut 8 ck (by omega); rw [if_neg (by omega), Option.map_some, add_succ adk 7, hk2.out] at h; exact h⟩
  have y1 : Hd (Byt k1) := ⟨by rw [← hk1.out]; exact fun x hx => hkb x (List.mem_of_mem_take hx)⟩
  have y2 : Hd (Byt k2) := ⟨by rw [← hk2.out]; exact fun x hx => hkb x (List.mem_of_mem_drop hx)⟩
  obtain ⟨P, hP⟩ : ∃ P, Hd (padI text 8 = P) := ⟨_, ⟨rfl⟩⟩
  obtain ⟨m, hm⟩ : ∃ m, Hd (P.length = 8 * (m + 1)) := by
    have h := padZ_end text.length 8 (by decide)
    have h2 := padI_length text 8
    refine ⟨(text.length + 1 + padZ text.length 8) / 8 - 1, ⟨?_⟩⟩
    rw [← hP.out, h2]
    omega
  have hm2 : m ≤ 20000 := by have h3 := hm.out; have h2 := padI_length text 8; rw [hP.out] at h2; have := padZ_lt text.length 8 (by decide); omega
  obtain ⟨N, hN⟩ : ∃ N, Hd (N = 8 * (m + 1)) := ⟨_, ⟨rfl⟩⟩
  have hNl : Hd (P.length = N) := ⟨by rw [hN.out, hm.out]⟩
  have hN2 : N ≤ 200000 := by have := hN.out; omega
  have cP : Hd (Calls Tryd.prog 20 #[.slice A L c, .int .i64 8] w (RetOwn P w)) := ⟨by rw [← hP.out]; exact Pad7 A L c text 8 w hL hr h0 (by omega) (by decide) (by decide)⟩
  have hres : Hd (retailI key text = desI k1 false (desI k2 true (lastF (desI k1 false) 8 (List.replicate 8 0) P (m + 1)))) := ⟨by
    have e1 : tripleI k1 false = desI k1 false := funext fun x => tripleI_8 k1 false x l1.out
    have e2 : tripleI k2 true = desI k2 true := funext fun x => tripleI_8 k2 true x l2.out
    rw [retailI, hk1.out, hk2.out, hP.out, hm.out, Nat.mul_div_cancel_left _ (by decide), e1, e2]⟩
  have hPb : Hd (Byt P) := ⟨by rw [← hP.out]; exact padI_byt text 8 hb⟩
  rw [hres.out]
  have HB : Hd (∀ (w' : World) (k x : List Int) (back : Bool) (A A2 : Option Addr) (c c2 : Nat), k.length = 8 → Byt k → x.length = 8 → Byt x → Rd .u8 w' A k → Rd .u8 w' A2 x →
      Calls Tryd.prog 34 #[.slice A 8 c, .slice A2 8 c2, .bool back] w' (RetOwn (desI k back x) w')) := ⟨fun w' k x back A A2 c c2 h1 h2 h3 h4 h5 h6 => Block3 k x back h1 h2 h3 h4 A A2 c c2 w' h5 h6⟩
  have nk : ¬ (ck = 8) := by omega
  have nk2 : 8 ≤ ck := by omega
  have nk3 : (8 : Int) ≤ (ck : Int) := by omega
  clear hrk hkb hL hr h0 hb hkl hres
  go_enter Tryd.func22, Tryd.ntmps22
  go_wp2_with (first
    | (go_at_call 20; (with_reducible refine cP.out.mono ?_); intro e w1 hh; obtain ⟨gp, cp, rfl, a1, a2, a3, a4⟩ := hh.form N hNl.out (by have := hN.out; omega);
       have hcp := a1; have RP1 := Hd.mk a2; have B1 := Hd.mk a4; clear a2 a3 a4 cP)
    | (refine make_any slU8 rfl _ _ rfl 8 rfl rfl (by omega) ?_; intro gx w2 h1 h2 h3 h4))
  have RP2 := Hd.mk (RP1.out.below h3)
  have B2 := Hd.mk (B1.out.trans (h3.mono B1.out.size))
  have RX2 : Hd (Rd .u8 w2 (some ⟨gx, 0, none⟩) (lastF (desI k1 false) 8 (List.replicate 8 0) P 0)) := ⟨by obtain ⟨A', c', e, _, _, r, _⟩ := h4.reads; injection e with e1; rw [← e1] at r; exact r⟩
  clear h1 h2 h3 h4
  have hFl : Hd (∀ i, (lastF (desI k1 false) 8 (List.replicate 8 0) P i).length = 8) := ⟨fun i => by
    cases i with
    | zero => rfl
    | succ i => exact desI_length _ _ _⟩
  have hFb : Hd (∀ i, Byt (lastF (desI k1 false) 8 (List.replicate 8 0) P i)) := ⟨fun i => by
    cases i with
    | zero => exact byt_zeros 8
    | succ i => exact desI_byt _ _ _⟩
  go_loopg [6, 7] (m + 2) (fun q v6 v7 wr => ∃ (i j g6 c6 : Nat), i ≤ m + 1 ∧ Hd (q + i = m + 2) ∧ v7 = .int .i64 j ∧ Hd (j = 8 * i) ∧ j ≤ N ∧ v6 = .slice (some ⟨g6, 0, none⟩) 8 c6 ∧ Hd (Rd .u8 wr (some ⟨g6, 0, none⟩) (lastF (desI k1 false) 8 (List.replicate 8 0) P i)) ∧ Hd (Below w.heap.size w wr) ∧ Hd (Rd .u8 wr (some ⟨gp, 0, none⟩) P))
  case atStart => exact ⟨0, 0, gx, 8, by omega, ⟨by omega⟩, rfl, ⟨rfl⟩, by omega, rfl, RX2, B2, RP2⟩
  case round =>
    clear RX2 B2 RP2 B1 RP1
    obtain ⟨i, j, g6, c6, hi, hq, rfl, hj, hjN, rfl, hX, hB, hRP⟩ := hrel
    by_cases hlt : i < m + 1
    · have j1 : j + 8 ≤ N := by have := hj.out; have := hN.out; omega
      have j2 : (j : Int) < (N : Int) := by omega
      have j3 : (j : Int) + 8 ≤ (N : Int) := by omega
      have j4 : IntKind.i64.wrap ((j : Int) + 8) = (j : Int) + 8 := wrap_id (by omega) (by omega)
      have j5 : (j : Int) + 8 ≤ (cp : Int) := by omega
      have j6 : (j : Int) ≤ (j : Int) + 8 := by omega
      have j7 : ¬ (cp = j) := by omega
      have j8 : ((j : Int) + 8).toNat = j + 8 := by omega
      obtain ⟨X, hXX⟩ : ∃ X, Hd (lastF (desI k1 false) 8 (List.replicate 8 0) P i = X) := ⟨_, ⟨rfl⟩⟩
      have hXl : Hd (X.length = 8) := ⟨by rw [← hXX.out]; exact hFl.out i⟩
      rw [hXX.out] at hX
      obtain ⟨B, hBB⟩ : ∃ B, Hd (blk 8 P i = B) := ⟨_, ⟨rfl⟩⟩
      have hBl : Hd (B.length = 8) := ⟨by rw [← hBB.out, blk, List.length_take, List.length_drop, hm.out]; omega⟩
      have RB : Hd (Rd .u8 wr (some ⟨gp, j, none⟩) B) := ⟨by
        have h := (hRP.out.cut j cp (by rw [hNl.out]; exact hcp)).take_ 8
        rw [if_neg j7, Option.map_some, add_mk, Nat.zero_add, hj.out] at h
        rw [← hBB.out, blk, hj.out]; exact h⟩
      obtain ⟨V, hV⟩ : ∃ V, Hd (xorI X B = V) := ⟨_, ⟨rfl⟩⟩
      have hVl : Hd (V.length = 8) := ⟨by rw [← hV.out, xorI_length _ _ (by rw [hXl.out, hBl.out]), hXl.out]⟩
      have hVb : Hd (Byt V) := ⟨by rw [← hV.out]; exact xorI_byt _ _⟩
      have hnext : Hd (lastF (desI k1 false) 8 (List.replicate 8 0) P (i + 1) = desI k1 false V) := ⟨by rw [lastF, hXX.out, hBB.out, xorI_comm, hV.out]⟩
      have cX := Hd.mk (RefXor_any (some ⟨g6, 0, none⟩) (some ⟨gp, j, none⟩) 8 c6 8 (cp - j) X B wr.drew hXl.out.symm hBl.out.symm (by omega) hX.out.drew RB.out.drew)
      rw [hV.out] at cX
      have HKr := Hd.mk (HK1.out.below hB.out)
      have BD := Hd.mk (below_drewN hB.out 1)
      go_wp2
      go_region_held3 (fun _ => True) (trivial) (first
        | (go_at_call 12; (with_reducible refine cX.out.mono ?_); rintro e w4 ⟨v, rfl, ⟨A4, c4, rfl, e1, e2, e3, e4⟩, e5⟩; rw [hVl.out];
           have cK := Hd.mk (HB.out w4 k1 V false (some adk) A4 ck c4 l1.out y1.out hVl.out hVb.out (HKr.out.drew.below e5) e2))
        | (go_at_call 34; (with_reducible refine cK.out.mono ?_); intro e w5 hh; obtain ⟨g9, c9, rfl, a1, a2, a3, a4⟩ := hh.form 8 (desI_length _ _ _) (by decide)))
      have BE := Hd.mk (BD.out.trans ((e5.mono BD.out.size).trans (a4.mono (Nat.le_trans BD.out.size e5.size))))
      have RP5 := Hd.mk ((hRP.out.drew.below e5).below a4)
      have R5 := Hd.mk a2
      clear e1 e2 e3 e4 e5 a1 a2 a3 a4 cK cX
      go_wp2
      go_roundg (m + 2 - (i + 1))
      case measure => have := hq.out; omega
      case rel => exact ⟨i + 1, j + 8, g9, c9, by omega, ⟨by omega⟩, by go_num, ⟨by have := hj.out; omega⟩, j1, rfl, ⟨by rw [hnext.out]; exact R5.out⟩, BE, RP5⟩
    · obtain rfl : i = m + 1 := by omega
      obtain rfl : j = N := by rw [hj.out, hN.out]
      obtain ⟨X, hXX⟩ : ∃ X, Hd (lastF (desI k1 false) 8 (List.replicate 8 0) P (m + 1) = X) := ⟨_, ⟨rfl⟩⟩
      have hXl : Hd (X.length = 8) := ⟨by rw [← hXX.out]; exact hFl.out _⟩
      have hXb : Hd (Byt X) := ⟨by rw [← hXX.out]; exact hFb.out _⟩
      rw [hXX.out] at hX ⊢
      have HKr := Hd.mk (HK1.out.below hB.out)
      have BD := Hd.mk (below_drewN hB.out 1)
      have cX := Hd.mk (HB.out wr.drew k2 X true (some ⟨adk.block, adk.off + 8, none⟩) (some ⟨g6, 0, none⟩) (ck - 8) c6 l2.out y2.out hXl.out hXb.out (HK2.out.below hB.out).drew hX.out.drew)
      obtain ⟨V, hV⟩ : ∃ V, Hd (desI k2 true X = V) := ⟨_, ⟨rfl⟩⟩
      have hVl : Hd (V.length = 8) := ⟨by rw [← hV.out]; exact desI_length _ _ _⟩
      have hVb : Hd (Byt V) := ⟨by rw [← hV.out]; exact desI_byt _ _ _⟩
      rw [hV.out] at cX
      go_wp2
      go_region_held3 (fun _ => True) (trivial) (first
        | (go_at_call 34; (with_reducible refine cX.out.mono ?_); intro e w4 hh; obtain ⟨g7, c7, rfl, e1, e2, e3, e5⟩ := hh.form 8 hVl.out (by decide);
           have cK := Hd.mk (HB.out w4 k1 V false (some adk) (some ⟨g7, 0, none⟩) ck c7 l1.out y1.out hVl.out hVb.out (HKr.out.drew.below e5) e2); clear cX)
        | (go_at_call 34; (with_reducible refine cK.out.mono ?_); rintro e w5 ⟨v5, rfl, a1, a2⟩))
      have BE := Hd.mk (BD.out.trans (e5.mono BD.out.size))
      go_wp2
      go_ret
      refine ⟨_, rfl, ?_, BE.out.trans (a2.mono BE.out.size)⟩
      first
        | rw [hXX.out, hV.out]
        | rw [hV.out]
      exact a1.lower BE.out.size
end Go.Proofs.YtommgcebjhkneaaDoor

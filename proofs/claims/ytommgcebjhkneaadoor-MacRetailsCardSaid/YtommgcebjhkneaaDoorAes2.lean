/-
  AES: how many rounds a key has; a key's words.
-/
import Derived.Test.YtommgcebjhkneaaDoorAes1
import Derived.Test.YtommgcebjhkneaaDoorOwn
import Derived.Test.YtommgcebjhkneaaDoorPush
namespace Go.Proofs.YtommgcebjhkneaaDoor
open Go Go.RowKit
set_option linter.unusedVariables false
set_option linter.unusedSimpArgs false

set_option maxHeartbeats 1000000 in
theorem rounds_ok (nk : Nat) (hnk : nk = 4 ∨ nk = 6 ∨ nk = 8) (A : Option Addr) (c : Nat) (w : World) :
    Calls Tryd.prog 70 #[.slice A (4 * nk) c] w fun e w' => e = .returned (.int .i64 (nk + 6)) ∧ w = w' := by
  rcases hnk with rfl | rfl | rfl
  all_goals
    go_enter Tryd.func70, Tryd.ntmps70
    go_wp2
    go_ret
    exact ⟨rfl, rfl⟩

set_option maxHeartbeats 1000000 in
theorem rounds_no (n : Nat) (hn : n ≠ 16 ∧ n ≠ 24 ∧ n ≠ 32) (A : Option Addr) (c : Nat) (w : World) :
    Calls Tryd.prog 70 #[.slice A n c] w fun e w' => e = .returned (.int .i64 0) ∧ w = w' := by
  obtain ⟨h1, h2, h3⟩ := hn
  have b1 : ((n : Int) == 16) = false := beq_eq_false_iff_ne.2 (by omega)
  have b2 : ((n : Int) == 24) = false := beq_eq_false_iff_ne.2 (by omega)
  have b3 : ((n : Int) == 32) = false := beq_eq_false_iff_ne.2 (by omega)
  go_enter Tryd.func70, Tryd.ntmps70
  go_wp2
  go_ret
  exact ⟨rfl, rfl⟩

def tw (ws : List Int) (q : Nat) : Int := ws.getD (ws.length - 4 + q) 0
def l4 (ws : List Int) : List Int := [tw ws 0, tw ws 1, tw ws 2, tw ws 3]
def tOf (nk i : Nat) (p : Int) (t : List Int) : List Int :=
  if i % nk = 0 then [bits .xor .u8 (boxI (t.getD 1 0)) p, boxI (t.getD 2 0), boxI (t.getD 3 0), boxI (t.getD 0 0)]
  else if nk = 8 ∧ i % 8 = 4 then boxTo boxI t 4 else t
def extTo (nk : Nat) (ws t : List Int) : Nat → List Int
  | 0 => ws
  | k + 1 => extTo nk ws t k ++ [bits .xor .u8 ((extTo nk ws t k).getD ((extTo nk ws t k).length - 4 * nk) 0) (t.getD k 0)]
def wst (key : List Int) (nk : Nat) : Nat → List Int × Int
  | 0 => (key, 1)
  | j + 1 => (extTo nk (wst key nk j).1 (tOf nk (nk + j) (wst key nk j).2 (l4 (wst key nk j).1)) 4, if (nk + j) % nk = 0 then mulI (wst key nk j).2 2 else (wst key nk j).2)
def wordsI (key : List Int) (nk : Nat) : List Int := (wst key nk (3 * nk + 28)).1
theorem tOf_length (nk i : Nat) (p : Int) (ws : List Int) : (tOf nk i p (l4 ws)).length = 4 := by
  unfold tOf
  split
  · rfl
  · split
    · rw [boxTo_length]; rfl
    · rfl
theorem extTo_length (nk : Nat) (ws t : List Int) (k : Nat) : (extTo nk ws t k).length = ws.length + k := by
  induction k with
  | zero => rfl
  | succ k ih => simp [extTo, ih]; omega
theorem wst_length (key : List Int) (nk j : Nat) (h : key.length = 4 * nk) : (wst key nk j).1.length = 4 * (nk + j) := by
  induction j with
  | zero => simpa [wst] using h
  | succ j ih => simp only [wst, extTo_length, ih]; omega

set_option maxHeartbeats 1000000 in
theorem Words_no (n : Nat) (hn : n ≠ 16 ∧ n ≠ 24 ∧ n ≠ 32) (A : Option Addr) (c : Nat) (w : World) :
    Calls Tryd.prog 69 #[.slice A n c] w fun e w' => e = .returned (.tuple #[.slice none 0 0, .iface 47 (.int .i64 2)]) ∧ w = w' := by
  go_enter Tryd.func69, Tryd.ntmps69
  go_wp2_with (go_at_call 70; refine (rounds_no _ hn _ _ _).mono ?_; rintro e w' ⟨rfl, rfl⟩)
  go_ret2
  exact ⟨rfl, rfl⟩

/-- What a function hands back that makes a row of its own, and no error. -/
def OwnNil (k : IntKind) (E : TypeId) (xs : List Int) (w : World) (e : Ending) (w' : World) : Prop := ∃ v, e = .returned (.tuple #[v, .nilIface]) ∧ Own k E w' w.heap.size v xs ∧ Below w.heap.size w w'

set_option maxHeartbeats 16000000 in
set_option maxRecDepth 100000 in
theorem Words_ok (nk : Nat) (hnk : nk = 4 ∨ nk = 6 ∨ nk = 8) (A : Option Addr) (c : Nat) (key : List Int) (w : World) (hk : key.length = 4 * nk) (hr : Rd .u8 w A key) :
    Calls Tryd.prog 69 #[.slice A (4 * nk) c] w (OwnNil .u8 5 (wordsI key nk) w) := by
  have HK := Hd.mk hk; have HR := Hd.mk hr; have HN := Hd.mk hnk
  have n4 : 4 ≤ nk := by omega
  have n8 : nk ≤ 8 := by omega
  clear hk hr
  go_enter Tryd.func69, Tryd.ntmps69
  go_wp2_with (first
    | (go_at_call 70; refine (rounds_ok _ HN.out _ _ _).mono ?_; rintro e w' ⟨rfl, rfl⟩)
    | (refine empty_any (k := .u8) rfl emU8 rfl ?_; intro g0 w0 h1 h2 h3 h4)
    | (at_builtin; refine append_any slU8 rfl _ _ rfl rfl h4 rfl HK.out.symm (HR.out.below h3) (fun e => by have := HK.out; rw [e] at this; simp at this; omega) (by rw [HK.out]; simp; omega) (by omega) ?_; intro v1 w1 h5 h6 h7))
  have HO := Hd.mk h5
  have HB := Hd.mk (h6.below h3 (by omega) (fun b hb => (h4.lt b hb).1))
  clear h1 h2 h3 h4 h5 h6 h7 HR
  go_loopg [6, 7, 8] (3 * nk + 29) (fun q v6 v7 v8 wr => ∃ (j i n : Nat) (b cw : Nat) (p : Int), j ≤ 3 * nk + 28 ∧ Hd (q + j = 3 * nk + 29) ∧ Hd (i = nk + j) ∧ Hd (n = 4 * i) ∧ v8 = .int .i64 i ∧ v6 = .slice (some ⟨b, 0, none⟩) n cw ∧ v7 = .int .u8 p ∧
    Hd (p = (wst key nk j).2) ∧ Hd (n ≤ cw) ∧ Hd (Own .u8 5 wr w.heap.size (.slice (some ⟨b, 0, none⟩) n cw) (wst key nk j).1) ∧ Hd (Below w.heap.size w wr))
  case atStart =>
    obtain ⟨b, cw, rfl, hle, hb1, hb2⟩ := HO.out.form (by simp [HK.out]; omega)
    have e : ([] ++ key).length = 4 * nk := HK.out
    rw [e]
    exact ⟨0, nk, 4 * nk, b, cw, 1, by omega, ⟨rfl⟩, ⟨rfl⟩, ⟨rfl⟩, rfl, rfl, rfl, ⟨rfl⟩, ⟨by omega⟩, ⟨by have := HO.out; rw [e] at this; exact this⟩, HB⟩
  case round =>
    clear HO HB
    obtain ⟨j, i, n, b, cw, p, hj, hq, hi, hn, rfl, rfl, rfl, hp, hcw, ho, hb⟩ := hrel
    have hi1 := hi.out
    have hn1 := hn.out
    have hwl : Hd ((wst key nk j).1.length = n) := ⟨by rw [wst_length key nk j HK.out]; omega⟩
    by_cases hlt : j < 3 * nk + 28
    · have t1 : (i : Int) < 4 * (nk + 6 + 1) := by omega
      have hib : i ≤ 60 := by omega
      have hi4 : 4 ≤ i := by omega
      have hn4 : 4 * nk ≤ n := by omega
      have hn240 : n ≤ 240 := by omega
      clear hi1 hn1
      generalize hws : (wst key nk j).1 = ws at ho hwl
      have HWS := Hd.mk hws
      clear hws
      have hne : ¬ cw = n - 4 := by have := hcw.out; omega
      have ha := run_arrayAt (P := Tryd.prog) arr4 (some ⟨b, n - 4, none⟩) (n - (n - 4)) (cw - (n - 4)) (by omega)
      have hcells : ∀ q, q < 4 → wr.cell? ⟨b, (n - 4) + q, none⟩ = some (.int .u8 ((l4 ws).getD q 0)) := by
        intro q hq4
        have hL := hwl.out
        rw [ho.out.cell (by omega) (n - 4 + q) (by omega)]
        have e : n - 4 + q = ws.length - 4 + q := by omega
        rw [e]
        match q, hq4 with
        | 0, _ => rfl
        | 1, _ => rfl
        | 2, _ => rfl
        | 3, _ => rfl
      have HC := Hd.mk hcells
      clear hcells
      have HH : ((((i : Int) % nk == 0) = true ∧ Hd (i % nk = 0)) ∨ (((i : Int) % nk == 0) = false ∧ ((nk : Int) == 8) = true ∧ ((i : Int) % 8 == 4) = true ∧ Hd (¬ i % nk = 0 ∧ nk = 8 ∧ i % 8 = 4)) ∨
          (((i : Int) % nk == 0) = false ∧ ((nk : Int) == 8) = true ∧ ((i : Int) % 8 == 4) = false ∧ Hd (¬ i % nk = 0 ∧ ¬ (nk = 8 ∧ i % 8 = 4))) ∨ (((i : Int) % nk == 0) = false ∧ ((nk : Int) == 8) = false ∧ Hd (¬ i % nk = 0 ∧ ¬ (nk = 8 ∧ i % 8 = 4)))) := by
        by_cases h0 : i % nk = 0
        · left
          have e : (i : Int) % nk = 0 := by exact_mod_cast h0
          exact ⟨beq_iff_eq.2 e, ⟨h0⟩⟩
        · have e : ((i : Int) % nk == 0) = false := beq_eq_false_iff_ne.2 (by exact_mod_cast h0)
          by_cases h8 : nk = 8
          · have e8 : ((nk : Int) == 8) = true := beq_iff_eq.2 (by omega)
            by_cases h4 : i % 8 = 4
            · exact .inr (.inl ⟨e, e8, beq_iff_eq.2 (by omega), ⟨h0, h8, h4⟩⟩)
            · exact .inr (.inr (.inl ⟨e, e8, beq_eq_false_iff_ne.2 (by omega), ⟨h0, fun h => h4 h.2⟩⟩))
          · exact .inr (.inr (.inr ⟨e, beq_eq_false_iff_ne.2 (by omega), ⟨h0, fun h => h8 h.1⟩⟩))
      rcases HH with ⟨b0, hcase⟩ | ⟨b0, b8, b4, hcase⟩ | ⟨b0, b8, b4, hcase⟩ | ⟨b0, b8, hcase⟩
      all_goals
        go_wp2_with (first
          | (refine load_mid arr4 rfl _ rfl b (n - 4) (by rfl) (xs := l4 ws) HC.out rfl ?_)
          | (refine alloc_arr arr4 rfl rfl ?_; intro g1 w1 h1 h2 h3 h4)
          | (refine store_arr arr4 rfl _ _ rfl rfl rfl h4 (by simp) rfl ?_; intro w2 h5 h6 h7))
        have ho2 := Hd.mk ((ho.out.below h3).only h5 (by have := (ho.out.lt b rfl).2; simp only [Value.ownBlock]; intro e; injection e with e; omega))
        have hb2 := Hd.mk (h5.to_below (hb.out.trans (h3.mono hb.out.size)) (Nat.le_trans hb.out.size h1) (Nat.le_trans hb.out.size h3.size))
        have hg1 : w.heap.size ≤ g1 := Nat.le_trans hb.out.size h1
        have hgb : Hd (g1 ≠ b) := ⟨by have := (ho.out.lt b rfl).2; omega⟩
        clear h3 h5 h6 h4 HC hb ho ha hne h1 h2
      · have c0 := h7.cell 0 (by simp [l4])
        have c1 := h7.cell 1 (by simp [l4])
        have c2 := h7.cell 2 (by simp [l4])
        have c3 := h7.cell 3 (by simp [l4])
        have H7 := Hd.mk h7
        clear h7
        refine Lead.wp_region_lead_drawn 15 (by kernel_rfl) (by kernel_rfl) ?_
        simp only [List.take_succ_cons, List.take_zero, List.drop_succ_cons, List.drop_zero]
        repeat (go_big_quiet_step (first | (go_at_call 76; exact Calls.quiet_of (Box_any _ _))))
        refine wpQuiet_nil ?_
        intro kq
        clear c0 c1 c2 c3
        have HB9 : Hd (tOf nk i p (l4 ws) = [bits .xor .u8 (boxI (tw ws 1)) p, boxI (tw ws 2), boxI (tw ws 3), boxI (tw ws 0)]) := by
          refine ⟨?_⟩; unfold tOf; rw [if_pos hcase.out]; rfl
        have HP : Hd ((if i % nk = 0 then mulI p 2 else p) = mulI p 2) := ⟨if_pos hcase.out⟩
        go_wp2_with (first
          | (refine store_arr arr4 rfl _ _ rfl rfl (ys := [bits .xor .u8 (boxI (tw ws 1)) p, boxI (tw ws 2), boxI (tw ws 3), boxI (tw ws 0)]) (by rfl) (H7.out.drewN _) (by rfl) (by rfl) ?_; intro w3 h5 h6 h7)
          | (go_at_call 81; refine (Mul_any _ _ _).mono ?_; rintro e w' ⟨rfl, rfl⟩))
        have HT : Hd (Row w3 g1 141 (tOf nk i p (l4 ws))) := ⟨by rw [HB9.out]; exact h7⟩
        have ho3 := Hd.mk ((ho2.out.drewN kq).only h5 (by simp only [Value.ownBlock]; intro e; injection e with e; exact hgb.out e.symm))
        have hb3 := Hd.mk (h5.to_below (below_drewN hb2.out kq) hg1 hb2.out.size)
        clear h5 h6 h7 HB9 ho2 hb2 H7 b0
        --A
        go_loopg [6, 11, 78] 5 (fun q v6 v11 v78 ws' => ∃ (k m b' c' : Nat), k ≤ 4 ∧ Hd (q + k = 5) ∧ v78 = .int .i64 k ∧ Hd (m = n + k) ∧ v6 = .slice (some ⟨b', 0, none⟩) m c' ∧ Hd (m ≤ c') ∧ n ≤ m ∧ m ≤ 244 ∧
          Hd (Own .u8 5 ws' w.heap.size (.slice (some ⟨b', 0, none⟩) m c') (extTo nk ws (tOf nk i p (l4 ws)) k)) ∧ Hd (Row ws' g1 141 (tOf nk i p (l4 ws))) ∧ Hd (Below w.heap.size w ws'))
        case atStart => exact ⟨0, n, b, cw, by omega, ⟨rfl⟩, rfl, ⟨rfl⟩, rfl, hcw, by omega, by omega, ho3, HT, hb3⟩
        case round =>
          clear ho3 HT hb3
          obtain ⟨k, m, b', c', hk, hq3, rfl, hm, rfl, hmc, hnm, hm244, ho4, HT, hb4⟩ := hrel
          by_cases h4 : k < 4
          · have hlen : (extTo nk ws (tOf nk i p (l4 ws)) k).length = m := by rw [extTo_length]; have := hwl.out; have := hm.out; omega
            have hx := ho4.out.cell hlen.symm (m - 4 * nk) (by rw [hlen]; omega)
            have hy := HT.out.cell k (by rw [tOf_length]; exact h4)
            have e1 : ((m : Int) - 4 * nk).toNat = m - 4 * nk := by omega
            have e2 : (m : Int) - 4 * nk < m := by omega
            have e3 : 0 ≤ (m : Int) - 4 * nk := by omega
            generalize hX : (extTo nk ws (tOf nk i p (l4 ws)) k).getD (m - 4 * nk) 0 = x at hx
            generalize hY : (tOf nk i p (l4 ws)).getD k 0 = y at hy
            have HX := Hd.mk hX
            have HY := Hd.mk hY
            have HLEN := Hd.mk hlen
            clear hX hY hlen
            go_wp2
            refine Lead.wp_region_push_drawn 13 (by kernel_rfl) (by kernel_rfl) (fun _ _ _ _ _ h => h) ?_
            simp only [List.take_succ_cons, List.take_zero, List.drop_succ_cons, List.drop_zero]
            repeat (go_big_quiet_step (fail))
            refine wpQuiet_nil ?_
            intro kq
            clear e1 e2 e3 hx hy
            go_wp2_with (first
              | (refine one_any slU8 rfl _ rfl rfl ?_; intro g5 w5 h51 h52 h53)
              | (at_builtin; refine append_any slU8 rfl _ _ rfl rfl ((ho4.out.drewN kq).below h52) rfl rfl h53 (fun e => by cases e) (by rw [HLEN.out]; simp; omega) (Nat.le_trans hb4.out.size h52.size) ?_; intro v6 w6 h61 h62 h63))
            have hb6 := Hd.mk (h62.below ((below_drewN hb4.out kq).trans (h52.mono hb4.out.size)) (Nat.le_trans hb4.out.size h52.size) (fun b6 hb6 => (((ho4.out.drewN kq).below h52).lt b6 hb6).1))
            have HT6 := Hd.mk (h62.row ((HT.out.drewN kq).below h52 HT.out.lt) (((ho4.out.drewN kq).below h52).not_row ((HT.out.drewN kq).below h52 HT.out.lt) (by decide)))
            clear h51 h52 h53 h62 h63 HT ho4 hb4
            have hs6 : extTo nk ws (tOf nk i p (l4 ws)) k ++ [bits .xor .u8 x y] = extTo nk ws (tOf nk i p (l4 ws)) (k + 1) := by
              show _ = extTo nk ws (tOf nk i p (l4 ws)) k ++ [_]
              rw [HLEN.out, HX.out, HY.out]
            have h61' := Hd.mk h61
            clear h61
            rw [hs6] at h61'
            obtain ⟨b6, c6, rfl, hle, _, _⟩ := h61'.out.form (by rw [extTo_length]; omega)
            have hl6 : (extTo nk ws (tOf nk i p (l4 ws)) (k + 1)).length = m + 1 := by rw [extTo_length]; have := hwl.out; have := hm.out; omega
            rw [hl6] at h61' hle ⊢
            go_roundg (5 - (k + 1))
            case measure => have := hq3.out; omega
            case rel => exact ⟨k + 1, m + 1, b6, c6, by omega, ⟨by omega⟩, by go_num, ⟨by have := hm.out; omega⟩, rfl, ⟨hle⟩, by omega, by have := hm.out; omega, h61', HT6, hb6⟩
          · obtain rfl : k = 4 := by omega
            go_wp2
            go_roundg (3 * nk + 29 - (j + 1))
            case measure => have := hq.out; omega
            case rel =>
              refine ⟨j + 1, i + 1, m, b', c', _, by omega, ⟨by omega⟩, ⟨by have := hi.out; omega⟩, ⟨by have := hm.out; have := hn.out; omega⟩, by go_num, rfl, rfl, ⟨?_⟩, hmc, ⟨?_⟩, hb4⟩
              · show _ = (if (nk + j) % nk = 0 then mulI (wst key nk j).2 2 else (wst key nk j).2)
                rw [← hi.out, ← hp.out]
                exact HP.out.symm
              · have h9 := ho4.out
                rw [← HWS.out, hi.out, hp.out] at h9
                exact h9
      · have H7 := Hd.mk h7
        clear h7
        go_loopg [10, 68] 5 (fun q v10 v68 ws' => ∃ k : Nat, k ≤ 4 ∧ Hd (q + k = 5) ∧ v68 = .int .i64 k ∧ Hd (Row ws' g1 141 (boxTo boxI (l4 ws) k)) ∧ Hd (Own .u8 5 ws' w.heap.size (.slice (some ⟨b, 0, none⟩) n cw) ws) ∧ Hd (Below w.heap.size w ws'))
        case atStart => exact ⟨0, by omega, ⟨rfl⟩, rfl, H7, ho2, hb2⟩
        case round =>
          clear H7 ho2 hb2
          obtain ⟨k, hk, hq2, rfl, hrow, ho2, hb2⟩ := hrel
          by_cases h4 : k < 4
          · have hx := hrow.out.cell k (by rw [boxTo_length]; exact h4)
            have hf := hrow.out.frozen k
            go_wp2_with (go_at_call 76; refine (Box_any _ _).mono ?_; rintro e w' ⟨rfl, kk, rfl⟩)
            go_roundg (5 - (k + 1))
            case measure => have := hq2.out; omega
            case rel =>
              refine ⟨k + 1, by omega, ⟨by omega⟩, by go_num, ⟨(hrow.out.drewN _).set_ k _⟩, ⟨?_⟩, ⟨?_⟩⟩
              · refine (ho2.out.drewN kk).only ((Only.refl g1 _).set_ (.inl rfl) _) ?_
                simp only [Value.ownBlock]; intro e; injection e with e; exact hgb.out e.symm
              · exact (below_drewN hb2.out kk).setCell hg1 _
          · obtain rfl : k = 4 := by omega
            go_wp2
            have HT : Hd (Row wr g1 141 (tOf nk i p (l4 ws))) := by
              refine ⟨?_⟩; unfold tOf; rw [if_neg hcase.out.1, if_pos hcase.out.2]; exact hrow.out
            have HP : Hd ((if i % nk = 0 then mulI p 2 else p) = p) := ⟨if_neg hcase.out.1⟩
            have ho3 := ho2
            have hb3 := hb2
            clear ho2 hb2 hrow
            go_loopg [6, 11, 78] 5 (fun q v6 v11 v78 ws' => ∃ (k m b' c' : Nat), k ≤ 4 ∧ Hd (q + k = 5) ∧ v78 = .int .i64 k ∧ Hd (m = n + k) ∧ v6 = .slice (some ⟨b', 0, none⟩) m c' ∧ Hd (m ≤ c') ∧ n ≤ m ∧ m ≤ 244 ∧
              Hd (Own .u8 5 ws' w.heap.size (.slice (some ⟨b', 0, none⟩) m c') (extTo nk ws (tOf nk i p (l4 ws)) k)) ∧ Hd (Row ws' g1 141 (tOf nk i p (l4 ws))) ∧ Hd (Below w.heap.size w ws'))
            case atStart => exact ⟨0, n, b, cw, by omega, ⟨rfl⟩, rfl, ⟨rfl⟩, rfl, hcw, by omega, by omega, ho3, HT, hb3⟩
            case round =>
              clear ho3 HT hb3
              obtain ⟨k, m, b', c', hk, hq3, rfl, hm, rfl, hmc, hnm, hm244, ho4, HT, hb4⟩ := hrel
              by_cases h4 : k < 4
              · have hlen : (extTo nk ws (tOf nk i p (l4 ws)) k).length = m := by rw [extTo_length]; have := hwl.out; have := hm.out; omega
                have hx := ho4.out.cell hlen.symm (m - 4 * nk) (by rw [hlen]; omega)
                have hy := HT.out.cell k (by rw [tOf_length]; exact h4)
                have e1 : ((m : Int) - 4 * nk).toNat = m - 4 * nk := by omega
                have e2 : (m : Int) - 4 * nk < m := by omega
                have e3 : 0 ≤ (m : Int) - 4 * nk := by omega
                generalize hX : (extTo nk ws (tOf nk i p (l4 ws)) k).getD (m - 4 * nk) 0 = x at hx
                generalize hY : (tOf nk i p (l4 ws)).getD k 0 = y at hy
                have HX := Hd.mk hX
                have HY := Hd.mk hY
                have HLEN := Hd.mk hlen
                clear hX hY hlen
                go_wp2
                refine Lead.wp_region_push_drawn 13 (by kernel_rfl) (by kernel_rfl) (fun _ _ _ _ _ h => h) ?_
                simp only [List.take_succ_cons, List.take_zero, List.drop_succ_cons, List.drop_zero]
                repeat (go_big_quiet_step (fail))
                refine wpQuiet_nil ?_
                intro kq
                clear e1 e2 e3 hx hy
                go_wp2_with (first
                  | (refine one_any slU8 rfl _ rfl rfl ?_; intro g5 w5 h51 h52 h53)
                  | (at_builtin; refine append_any slU8 rfl _ _ rfl rfl ((ho4.out.drewN kq).below h52) rfl rfl h53 (fun e => by cases e) (by rw [HLEN.out]; simp; omega) (Nat.le_trans hb4.out.size h52.size) ?_; intro v6 w6 h61 h62 h63))
                have hb6 := Hd.mk (h62.below ((below_drewN hb4.out kq).trans (h52.mono hb4.out.size)) (Nat.le_trans hb4.out.size h52.size) (fun b6 hb6 => (((ho4.out.drewN kq).below h52).lt b6 hb6).1))
                have HT6 := Hd.mk (h62.row ((HT.out.drewN kq).below h52 HT.out.lt) (((ho4.out.drewN kq).below h52).not_row ((HT.out.drewN kq).below h52 HT.out.lt) (by decide)))
                clear h51 h52 h53 h62 h63 HT ho4 hb4
                have hs6 : extTo nk ws (tOf nk i p (l4 ws)) k ++ [bits .xor .u8 x y] = extTo nk ws (tOf nk i p (l4 ws)) (k + 1) := by
                  show _ = extTo nk ws (tOf nk i p (l4 ws)) k ++ [_]
                  rw [HLEN.out, HX.out, HY.out]
                have h61' := Hd.mk h61
                clear h61
                rw [hs6] at h61'
                obtain ⟨b6, c6, rfl, hle, _, _⟩ := h61'.out.form (by rw [extTo_length]; omega)
                have hl6 : (extTo nk ws (tOf nk i p (l4 ws)) (k + 1)).length = m + 1 := by rw [extTo_length]; have := hwl.out; have := hm.out; omega
                rw [hl6] at h61' hle ⊢
                go_roundg (5 - (k + 1))
                case measure => have := hq3.out; omega
                case rel => exact ⟨k + 1, m + 1, b6, c6, by omega, ⟨by omega⟩, by go_num, ⟨by have := hm.out; omega⟩, rfl, ⟨hle⟩, by omega, by have := hm.out; omega, h61', HT6, hb6⟩
              · obtain rfl : k = 4 := by omega
                go_wp2
                go_roundg (3 * nk + 29 - (j + 1))
                case measure => have := hq.out; omega
                case rel =>
                  refine ⟨j + 1, i + 1, m, b', c', _, by omega, ⟨by omega⟩, ⟨by have := hi.out; omega⟩, ⟨by have := hm.out; have := hn.out; omega⟩, by go_num, rfl, rfl, ⟨?_⟩, hmc, ⟨?_⟩, hb4⟩
                  · show _ = (if (nk + j) % nk = 0 then mulI (wst key nk j).2 2 else (wst key nk j).2)
                    rw [← hi.out, ← hp.out]
                    exact HP.out.symm
                  · have h9 := ho4.out
                    rw [← HWS.out, hi.out, hp.out] at h9
                    exact h9
      · have HT : Hd (Row w2 g1 141 (tOf nk i p (l4 ws))) := by
          refine ⟨?_⟩; unfold tOf; rw [if_neg hcase.out.1, if_neg hcase.out.2]; exact h7
        have HP : Hd ((if i % nk = 0 then mulI p 2 else p) = p) := ⟨if_neg hcase.out.1⟩
        have ho3 := ho2
        have hb3 := hb2
        clear h7 ho2 hb2
        go_loopg [6, 11, 78] 5 (fun q v6 v11 v78 ws' => ∃ (k m b' c' : Nat), k ≤ 4 ∧ Hd (q + k = 5) ∧ v78 = .int .i64 k ∧ Hd (m = n + k) ∧ v6 = .slice (some ⟨b', 0, none⟩) m c' ∧ Hd (m ≤ c') ∧ n ≤ m ∧ m ≤ 244 ∧
          Hd (Own .u8 5 ws' w.heap.size (.slice (some ⟨b', 0, none⟩) m c') (extTo nk ws (tOf nk i p (l4 ws)) k)) ∧ Hd (Row ws' g1 141 (tOf nk i p (l4 ws))) ∧ Hd (Below w.heap.size w ws'))
        case atStart => exact ⟨0, n, b, cw, by omega, ⟨rfl⟩, rfl, ⟨rfl⟩, rfl, hcw, by omega, by omega, ho3, HT, hb3⟩
        case round =>
          clear ho3 HT hb3
          obtain ⟨k, m, b', c', hk, hq3, rfl, hm, rfl, hmc, hnm, hm244, ho4, HT, hb4⟩ := hrel
          by_cases h4 : k < 4
          · have hlen : (extTo nk ws (tOf nk i p (l4 ws)) k).length = m := by rw [extTo_length]; have := hwl.out; have := hm.out; omega
            have hx := ho4.out.cell hlen.symm (m - 4 * nk) (by rw [hlen]; omega)
            have hy := HT.out.cell k (by rw [tOf_length]; exact h4)
            have e1 : ((m : Int) - 4 * nk).toNat = m - 4 * nk := by omega
            have e2 : (m : Int) - 4 * nk < m := by omega
            have e3 : 0 ≤ (m : Int) - 4 * nk := by omega
            generalize hX : (extTo nk ws (tOf nk i p (l4 ws)) k).getD (m - 4 * nk) 0 = x at hx
            generalize hY : (tOf nk i p (l4 ws)).getD k 0 = y at hy
            have HX := Hd.mk hX
            have HY := Hd.mk hY
            have HLEN := Hd.mk hlen
            clear hX hY hlen
            go_wp2
            refine Lead.wp_region_push_drawn 13 (by kernel_rfl) (by kernel_rfl) (fun _ _ _ _ _ h => h) ?_
            simp only [List.take_succ_cons, List.take_zero, List.drop_succ_cons, List.drop_zero]
            repeat (go_big_quiet_step (fail))
            refine wpQuiet_nil ?_
            intro kq
            clear e1 e2 e3 hx hy
            go_wp2_with (first
              | (refine one_any slU8 rfl _ rfl rfl ?_; intro g5 w5 h51 h52 h53)
              | (at_builtin; refine append_any slU8 rfl _ _ rfl rfl ((ho4.out.drewN kq).below h52) rfl rfl h53 (fun e => by cases e) (by rw [HLEN.out]; simp; omega) (Nat.le_trans hb4.out.size h52.size) ?_; intro v6 w6 h61 h62 h63))
            have hb6 := Hd.mk (h62.below ((below_drewN hb4.out kq).trans (h52.mono hb4.out.size)) (Nat.le_trans hb4.out.size h52.size) (fun b6 hb6 => (((ho4.out.drewN kq).below h52).lt b6 hb6).1))
            have HT6 := Hd.mk (h62.row ((HT.out.drewN kq).below h52 HT.out.lt) (((ho4.out.drewN kq).below h52).not_row ((HT.out.drewN kq).below h52 HT.out.lt) (by decide)))
            clear h51 h52 h53 h62 h63 HT ho4 hb4
            have hs6 : extTo nk ws (tOf nk i p (l4 ws)) k ++ [bits .xor .u8 x y] = extTo nk ws (tOf nk i p (l4 ws)) (k + 1) := by
              show _ = extTo nk ws (tOf nk i p (l4 ws)) k ++ [_]
              rw [HLEN.out, HX.out, HY.out]
            have h61' := Hd.mk h61
            clear h61
            rw [hs6] at h61'
            obtain ⟨b6, c6, rfl, hle, _, _⟩ := h61'.out.form (by rw [extTo_length]; omega)
            have hl6 : (extTo nk ws (tOf nk i p (l4 ws)) (k + 1)).length = m + 1 := by rw [extTo_length]; have := hwl.out; have := hm.out; omega
            rw [hl6] at h61' hle ⊢
            go_roundg (5 - (k + 1))
            case measure => have := hq3.out; omega
            case rel => exact ⟨k + 1, m + 1, b6, c6, by omega, ⟨by omega⟩, by go_num, ⟨by have := hm.out; omega⟩, rfl, ⟨hle⟩, by omega, by have := hm.out; omega, h61', HT6, hb6⟩
          · obtain rfl : k = 4 := by omega
            go_wp2
            go_roundg (3 * nk + 29 - (j + 1))
            case measure => have := hq.out; omega
            case rel =>
              refine ⟨j + 1, i + 1, m, b', c', _, by omega, ⟨by omega⟩, ⟨by have := hi.out; omega⟩, ⟨by have := hm.out; have := hn.out; omega⟩, by go_num, rfl, rfl, ⟨?_⟩, hmc, ⟨?_⟩, hb4⟩
              · show _ = (if (nk + j) % nk = 0 then mulI (wst key nk j).2 2 else (wst key nk j).2)
                rw [← hi.out, ← hp.out]
                exact HP.out.symm
              · have h9 := ho4.out
                rw [← HWS.out, hi.out, hp.out] at h9
                exact h9
      · have HT : Hd (Row w2 g1 141 (tOf nk i p (l4 ws))) := by
          refine ⟨?_⟩; unfold tOf; rw [if_neg hcase.out.1, if_neg hcase.out.2]; exact h7
        have HP : Hd ((if i % nk = 0 then mulI p 2 else p) = p) := ⟨if_neg hcase.out.1⟩
        have ho3 := ho2
        have hb3 := hb2
        clear h7 ho2 hb2
        go_loopg [6, 11, 78] 5 (fun q v6 v11 v78 ws' => ∃ (k m b' c' : Nat), k ≤ 4 ∧ Hd (q + k = 5) ∧ v78 = .int .i64 k ∧ Hd (m = n + k) ∧ v6 = .slice (some ⟨b', 0, none⟩) m c' ∧ Hd (m ≤ c') ∧ n ≤ m ∧ m ≤ 244 ∧
          Hd (Own .u8 5 ws' w.heap.size (.slice (some ⟨b', 0, none⟩) m c') (extTo nk ws (tOf nk i p (l4 ws)) k)) ∧ Hd (Row ws' g1 141 (tOf nk i p (l4 ws))) ∧ Hd (Below w.heap.size w ws'))
        case atStart => exact ⟨0, n, b, cw, by omega, ⟨rfl⟩, rfl, ⟨rfl⟩, rfl, hcw, by omega, by omega, ho3, HT, hb3⟩
        case round =>
          clear ho3 HT hb3
          obtain ⟨k, m, b', c', hk, hq3, rfl, hm, rfl, hmc, hnm, hm244, ho4, HT, hb4⟩ := hrel
          by_cases h4 : k < 4
          · have hlen : (extTo nk ws (tOf nk i p (l4 ws)) k).length = m := by rw [extTo_length]; have := hwl.out; have := hm.out; omega
            have hx := ho4.out.cell hlen.symm (m - 4 * nk) (by rw [hlen]; omega)
            have hy := HT.out.cell k (by rw [tOf_length]; exact h4)
            have e1 : ((m : Int) - 4 * nk).toNat = m - 4 * nk := by omega
            have e2 : (m : Int) - 4 * nk < m := by omega
            have e3 : 0 ≤ (m : Int) - 4 * nk := by omega
            generalize hX : (extTo nk ws (tOf nk i p (l4 ws)) k).getD (m - 4 * nk) 0 = x at hx
            generalize hY : (tOf nk i p (l4 ws)).getD k 0 = y at hy
            have HX := Hd.mk hX
            have HY := Hd.mk hY
            have HLEN := Hd.mk hlen
            clear hX hY hlen
            go_wp2
            refine Lead.wp_region_push_drawn 13 (by kernel_rfl) (by kernel_rfl) (fun _ _ _ _ _ h => h) ?_
            simp only [List.take_succ_cons, List.take_zero, List.drop_succ_cons, List.drop_zero]
            repeat (go_big_quiet_step (fail))
            refine wpQuiet_nil ?_
            intro kq
            clear e1 e2 e3 hx hy
            go_wp2_with (first
              | (refine one_any slU8 rfl _ rfl rfl ?_; intro g5 w5 h51 h52 h53)
              | (at_builtin; refine append_any slU8 rfl _ _ rfl rfl ((ho4.out.drewN kq).below h52) rfl rfl h53 (fun e => by cases e) (by rw [HLEN.out]; simp; omega) (Nat.le_trans hb4.out.size h52.size) ?_; intro v6 w6 h61 h62 h63))
            have hb6 := Hd.mk (h62.below ((below_drewN hb4.out kq).trans (h52.mono hb4.out.size)) (Nat.le_trans hb4.out.size h52.size) (fun b6 hb6 => (((ho4.out.drewN kq).below h52).lt b6 hb6).1))
            have HT6 := Hd.mk (h62.row ((HT.out.drewN kq).below h52 HT.out.lt) (((ho4.out.drewN kq).below h52).not_row ((HT.out.drewN kq).below h52 HT.out.lt) (by decide)))
            clear h51 h52 h53 h62 h63 HT ho4 hb4
            have hs6 : extTo nk ws (tOf nk i p (l4 ws)) k ++ [bits .xor .u8 x y] = extTo nk ws (tOf nk i p (l4 ws)) (k + 1) := by
              show _ = extTo nk ws (tOf nk i p (l4 ws)) k ++ [_]
              rw [HLEN.out, HX.out, HY.out]
            have h61' := Hd.mk h61
            clear h61
            rw [hs6] at h61'
            obtain ⟨b6, c6, rfl, hle, _, _⟩ := h61'.out.form (by rw [extTo_length]; omega)
            have hl6 : (extTo nk ws (tOf nk i p (l4 ws)) (k + 1)).length = m + 1 := by rw [extTo_length]; have := hwl.out; have := hm.out; omega
            rw [hl6] at h61' hle ⊢
            go_roundg (5 - (k + 1))
            case measure => have := hq3.out; omega
            case rel => exact ⟨k + 1, m + 1, b6, c6, by omega, ⟨by omega⟩, by go_num, ⟨by have := hm.out; omega⟩, rfl, ⟨hle⟩, by omega, by have := hm.out; omega, h61', HT6, hb6⟩
          · obtain rfl : k = 4 := by omega
            go_wp2
            go_roundg (3 * nk + 29 - (j + 1))
            case measure => have := hq.out; omega
            case rel =>
              refine ⟨j + 1, i + 1, m, b', c', _, by omega, ⟨by omega⟩, ⟨by have := hi.out; omega⟩, ⟨by have := hm.out; have := hn.out; omega⟩, by go_num, rfl, rfl, ⟨?_⟩, hmc, ⟨?_⟩, hb4⟩
              · show _ = (if (nk + j) % nk = 0 then mulI (wst key nk j).2 2 else (wst key nk j).2)
                rw [← hi.out, ← hp.out]
                exact HP.out.symm
              · have h9 := ho4.out
                rw [← HWS.out, hi.out, hp.out] at h9
                exact h9
    · obtain rfl : j = 3 * nk + 28 := by omega
      have t1 : ¬ (i : Int) < 4 * (nk + 6 + 1) := by omega
      clear hi1 hn1
      go_wp2
      go_ret2
      exact ⟨_, rfl, ho.out, hb.out⟩
end Go.Proofs.YtommgcebjhkneaaDoor

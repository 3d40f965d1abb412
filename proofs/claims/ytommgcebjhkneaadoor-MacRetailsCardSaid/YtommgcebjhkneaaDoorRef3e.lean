/-
  lockboxref03.Block: one block, by lists of bits: the same answer as des.Block. Condition: eight bytes each that can be read.
-/
import Derived.Test.YtommgcebjhkneaaDoorRef3d
namespace Go.Proofs.YtommgcebjhkneaaDoor
open Go Go.RowKit
set_option linter.unusedVariables false
set_option linter.unusedSimpArgs false

/-- The bits laid by a table: the first m of them. -/
def setsTo (s : ByteArray) (Z : Nat) : Nat → List Int
  | 0 => List.replicate 64 0
  | k + 1 => (setsTo s Z k).set (placeAt s k - 1) (bitI Z (63 - k))
theorem setsTo_length (s : ByteArray) (Z k : Nat) : (setsTo s Z k).length = 64 := by
  induction k with
  | zero => simp [setsTo]
  | succ k ih => rw [setsTo, List.length_set, ih]
theorem surjIP : (List.range 64).all (fun p => (List.range 64).any fun k => placeAt tabIP k == p + 1) = true := by kernel_rfl
theorem setsTo_get (Z : Nat) (hZ : Z < 2 ^ 64) (p : Nat) (hp : p < 64) : ∀ m, m ≤ 64 → (∃ k, k < m ∧ placeAt tabIP k = p + 1) → (setsTo tabIP Z m).getD p 0 = bitI (unpermN tabIP Z 64) (63 - p)
  | 0, _, ⟨k, h, _⟩ => absurd h (Nat.not_lt_zero k)
  | m + 1, hm, ⟨k, hk, hkp⟩ => by
    rw [setsTo]
    by_cases hq : placeAt tabIP m - 1 = p
    · have hpl := tblIP.pl m (by omega)
      have hv := permN_bitI tabIP 64 (unpermN tabIP Z 64) 64 m (by omega)
      rw [perm_unperm tabIP fullIP Z hZ, show 64 - 1 - m = 63 - m by omega, show 64 - placeAt tabIP m = 63 - p by omega] at hv
      rw [hq, hv]
      simp [List.getD, setsTo_length, hp]
    · have hkm : k ≠ m := fun e => hq (by rw [← e, hkp]; omega)
      rw [← setsTo_get Z hZ p hp m (by omega) ⟨k, by omega, hkp⟩]
      simp [List.getD, List.getElem?_set, hq]
theorem setsTo_all (Z : Nat) (hZ : Z < 2 ^ 64) : setsTo tabIP Z 64 = bitsN (unpermN tabIP Z 64) 64 := by
  refine bitsN_ext _ _ _ (setsTo_length _ _ _) fun p hp => ?_
  have h := List.all_eq_true.1 surjIP p (List.mem_range.2 hp)
  obtain ⟨k, hk, hkp⟩ := List.any_eq_true.1 h
  rw [setsTo_get Z hZ p hp 64 (Nat.le_refl _) ⟨k, List.mem_range.1 hk, by simpa using hkp⟩]
theorem add_mk (g o j : Nat) : (⟨g, o, none⟩ : Addr).add j = ⟨g, o + j, none⟩ := by cases j <;> simp [Addr.add]
theorem RetRows.len {f : Nat → List Int} {n m : Nat} {w w' : World} {e : Ending} (h : RetRows f n m w e w') (hn : 0 < n) :
    ∃ g c vs, e = .returned (.slice (some ⟨g, 0, none⟩) n c) ∧ OwnV 55 w' w.heap.size (.slice (some ⟨g, 0, none⟩) n c) vs ∧ RowsOf w' f n m vs ∧ Below w.heap.size w w' ∧ n ≤ c := by
  obtain ⟨v, vs, rfl, h1, h2, h3⟩ := h
  have hl := h2.1
  subst hl
  obtain ⟨g, c, rfl, k1, k2, k3⟩ := h1.form hn
  exact ⟨g, c, vs, rfl, h1, h2, h3, k1⟩

set_option maxRecDepth 100000 in
set_option maxHeartbeats 16000000 in
theorem Block3 (key x : List Int) (back : Bool) (hkl : key.length = 8) (hkb : Byt key) (hxl : x.length = 8) (hxb : Byt x) (A A2 : Option Addr) (c c2 : Nat) (w : World) (hr : Rd .u8 w A key) (hr2 : Rd .u8 w A2 x) :
    Calls Tryd.prog 34 #[.slice A 8 c, .slice A2 8 c2, .bool back] w (RetOwn (desI key back x) w) := by
  have cK := Hd.mk (Keys3 key hkl hkb A c w hr)
  obtain ⟨K, hK⟩ : ∃ K, Hd (keyN key = K) := ⟨_, ⟨rfl⟩⟩
  obtain ⟨Y, hY⟩ : ∃ Y, Hd (permN tabIP 64 (numTo x 8) 64 = Y) := ⟨_, ⟨rfl⟩⟩
  have hY64 : Hd (Y < 2 ^ 64) := ⟨by rw [← hY.out]; exact permN_lt tabIP 64 _ 64⟩
  have hres : Hd (desI key back x = bytesTo (unpermN tabIP ((feist (rfN K back) (Y / 2 ^ 32) (Y % 2 ^ 32) 16).2 * 2 ^ 32 + (feist (rfN K back) (Y / 2 ^ 32) (Y % 2 ^ 32) 16).1) 64) 8) := ⟨by rw [desI, blockG, hY.out, hK.out]⟩
  have cB : Hd (∀ w', Rd .u8 w' A2 x → Calls Tryd.prog 45 #[.slice A2 8 c2] w' (RetInts (bitsN (numTo x 8) 64) w')) := ⟨fun w' h => Bits_any A2 8 c2 x w' hxl.symm (by omega) hxb h⟩
  have cP : Hd (∀ w' A c, Rd .i64 w' A (bitsN (numTo x 8) 64) → Calls Tryd.prog 44 #[.slice A 64 c, .string tabIP] w' (RetInts (bitsN Y 64) w')) := ⟨fun w' A c h => by rw [← hY.out]; exact permute3 tabIP 64 64 _ tblIP (by omega) (by omega) A c w' h⟩
  have HR2 := Hd.mk hr2
  rw [hK.out] at cK
  rw [hres.out]
  clear hr hr2 hkl hkb hxl hxb
  generalize numTo x 8 = X at *
  obtain ⟨L0, hL0⟩ : ∃ L0, Hd (Y / 2 ^ 32 = L0) := ⟨_, ⟨rfl⟩⟩
  obtain ⟨R0, hR0⟩ : ∃ R0, Hd (Y % 2 ^ 32 = R0) := ⟨_, ⟨rfl⟩⟩
  have hL0l : Hd (L0 < 2 ^ 32 ∧ R0 < 2 ^ 32) := ⟨by have := hY64.out; rw [← hL0.out, ← hR0.out]; omega⟩
  rw [hL0.out, hR0.out]
  have hfl : Hd (∀ i, (feist (rfN K back) L0 R0 i).1 < 2 ^ 32 ∧ (feist (rfN K back) L0 R0 i).2 < 2 ^ 32) := ⟨fun i => feist_lt _ (fun i x => mixN_lt _ _) L0 R0 hL0l.out.1 hL0l.out.2 i⟩
  clear hres
  go_enter Tryd.func34, Tryd.ntmps34
  go_wp2_with (first
    | (go_at_call 43; (with_reducible refine cK.out.mono ?_); intro e w1 hh; obtain ⟨gk, ck, vs, rfl, a1, a2, a3, a4⟩ := hh.len (by decide);
       have OK1 := Hd.mk a1; have RK1 := Hd.mk a2; have B1 := Hd.mk a3; have XB := Hd.mk (cB.out w1 (HR2.out.below a3)); clear a1 a2 a3 a4 cK)
    | (go_at_call 45; (with_reducible refine XB.out.mono ?_); intro e w2 hh; obtain ⟨g1, c1, rfl, a1, a2, a3, a4, a5, a6⟩ := hh.len 64 (bitsN_length _ _) (by decide);
       have B2 := Hd.mk (B1.out.trans (a6.mono B1.out.size)); have OK2 := Hd.mk (OK1.out.below a6); have RK2 := Hd.mk (RK1.out.below a6); have XP := Hd.mk (cP.out w2 (some ⟨g1, 0, none⟩) c1 a3); clear a1 a2 a3 a4 a5 a6 XB OK1 RK1)
    | (go_at_call 44; (refine XP.out.mono ?_); intro e w3 hh; obtain ⟨g2, c3, rfl, a1, a2, a3, a4, a5, a6⟩ := hh.len 64 (bitsN_length _ _) (by decide);
       have B3 := Hd.mk (B2.out.trans (a6.mono B2.out.size)); have OK3 := Hd.mk (OK2.out.below a6); have RK3 := Hd.mk (RK2.out.below a6); have RL := Hd.mk a3; have h64 : 64 ≤ c3 := a2; have hc32 : ¬ (c3 = 32) := by omega;
       clear a1 a2 a3 a4 a5 a6 XP OK2 RK2))
  have RL1 : Hd (Rd .i64 w3 (some ⟨g2, 0, none⟩) (bitsN L0 32)) := ⟨by
    have h := RL.out.take_ 32
    rw [show (64 : Nat) = 32 + 32 from rfl, bitsN_take, hL0.out] at h; exact h⟩
  have RL2 : Hd (Rd .i64 w3 (some ⟨g2, 32, none⟩) (bitsN R0 32)) := ⟨by
    have h := RL.out.cut 32 c3 (by rw [bitsN_length]; exact h64)
    rw [if_neg hc32, show (64 : Nat) = 32 + 32 from rfl, bitsN_drop, hR0.out] at h; exact h⟩
  have h32 : 32 ≤ c3 - 32 := by omega
  clear RL cB cP B1 B2
  go_loopg [9, 10, 11] 17 (fun q v9 v10 v11 wr => ∃ (i g4 o4 c4 g5 o5 c5 : Nat), i ≤ 16 ∧ Hd (q + i = 17) ∧ v11 = .int .i64 i ∧ v9 = .slice (some ⟨g4, o4, none⟩) 32 c4 ∧ v10 = .slice (some ⟨g5, o5, none⟩) 32 c5 ∧ 32 ≤ c4 ∧ 32 ≤ c5 ∧
    Hd (Rd .i64 wr (some ⟨g4, o4, none⟩) (bitsN (feist (rfN K back) L0 R0 i).1 32)) ∧ Hd (Rd .i64 wr (some ⟨g5, o5, none⟩) (bitsN (feist (rfN K back) L0 R0 i).2 32)) ∧ Hd (Below w3.heap.size w3 wr))
  case atStart => exact ⟨0, g2, 0, c3, g2, 32, c3 - 32, by omega, ⟨by omega⟩, rfl, rfl, rfl, by omega, h32, RL1, RL2, ⟨Below.refl _ _⟩⟩
  case round =>
    clear RL1 RL2 h32 hc32 h64
    obtain ⟨i, g4, o4, c4, g5, o5, c5, hi, hq, rfl, rfl, rfl, hc4, hc5, R4, R5, hB⟩ := hrel
    by_cases hlt : i < 16
    · have hltI : (i : Int) < 16 := by omega
      obtain ⟨L, hL⟩ : ∃ L, Hd ((feist (rfN K back) L0 R0 i).1 = L) := ⟨_, ⟨rfl⟩⟩
      obtain ⟨R, hR⟩ : ∃ R, Hd ((feist (rfN K back) L0 R0 i).2 = R) := ⟨_, ⟨rfl⟩⟩
      have hRl : Hd (R < 2 ^ 32) := ⟨by rw [← hR.out]; exact (hfl.out i).2⟩
      rw [hL.out] at R4
      rw [hR.out] at R5
      obtain ⟨ii, hii⟩ : ∃ ii, Hd (ii = 15 - i) := ⟨_, ⟨rfl⟩⟩
      have hii16 : ii < 16 := by have := hii.out; omega
      have f1 : (15 : Int) - (i : Int) = (ii : Int) := by have := hii.out; omega
      have f2 : IntKind.i64.wrap ((15 : Int) - (i : Int)) = (ii : Int) := by rw [f1]; exact wrap_id (by omega) (by omega)
      have OKr := OK3.out.below hB.out
      have RKr := RK3.out.below hB.out
      obtain ⟨ga, ca, ea, Ra⟩ := RKr.2 i hlt
      obtain ⟨gb, cb, eb, Rb⟩ := RKr.2 ii hii16
      have ca1 := (OKr.cell RKr.1.symm i (by rw [RKr.1]; exact hlt)).trans ea
      have cb1 := (OKr.cell RKr.1.symm ii (by rw [RKr.1]; exact hii16)).trans eb
      have RA := Hd.mk Ra
      have RB := Hd.mk Rb
      clear OKr RKr ea eb Ra Rb
      cases back
      · obtain ⟨M, hM⟩ : ∃ M, Hd (mixN R (rkN K i) = M) := ⟨_, ⟨rfl⟩⟩
        obtain ⟨N, hN⟩ : ∃ N, Hd (L ^^^ M = N) := ⟨_, ⟨rfl⟩⟩
        have hnext : Hd ((feist (rfN K false) L0 R0 (i + 1)).1 = R ∧ (feist (rfN K false) L0 R0 (i + 1)).2 = N) := ⟨by
          refine ⟨by rw [feist, hR.out], ?_⟩
          rw [feist, hR.out, hL.out, ← hN.out, ← hM.out]
          simp only [rfN, if_true, Bool.false_eq_true, if_false]⟩
        have cM := Hd.mk (mix3 R (rkN K i) hRl.out (some ⟨g5, o5, none⟩) (some ⟨ga, 0, none⟩) c5 ca wr R5.out RA.out)
        rw [hM.out] at cM
        go_wp2_with (first
          | (go_at_call 46; (with_reducible refine cM.out.mono ?_); intro e w4 hh; obtain ⟨gm, cm, rfl, a1, a2, a3, a4, a5, a6⟩ := hh.len 32 (bitsN_length _ _) (by decide);
             have RM := Hd.mk a3; have BM := Hd.mk a6; have R44 := Hd.mk (R4.out.below a6); clear a1 a2 a3 a4 a5 a6 cM))
        clear ca1 cb1
        go_loopg [14, 15] 33 (fun q v14 v15 wi => ∃ (j : Nat), j ≤ 32 ∧ Hd (q + j = 33) ∧ v15 = .int .i64 j ∧ Hd (Own .i64 3 wi w4.heap.size v14 ((bitsN N 32).take j)) ∧ Hd (Below w4.heap.size w4 wi))
        case atStart => exact ⟨0, by omega, ⟨by omega⟩, rfl, ⟨Own.nil _ _⟩, ⟨Below.refl _ _⟩⟩
        case round =>
          obtain ⟨j, hj, hqj, rfl, hO2, hB2⟩ := hrel
          by_cases hj32 : j < 32
          · obtain ⟨ad1, eA1, e1⟩ := (R44.out.below hB2.out).get j (by rw [bitsN_length]; exact hj32)
            obtain ⟨ad2, eA2, e2⟩ := (RM.out.below hB2.out).get j (by rw [bitsN_length]; exact hj32)
            cases eA1
            cases eA2
            rw [bitsN_getD L 32 j hj32, add_mk] at e1
            rw [bitsN_getD M 32 j hj32, add_mk, Nat.zero_add] at e2
            have hz := Hd.mk (xor_bits L M (32 - 1 - j))
            rw [hN.out] at hz
            generalize bitI L (32 - 1 - j) = y1 at *
            generalize bitI M (32 - 1 - j) = y2 at *
            have hstep := Hd.mk (bitsN_step N 32 j hj32)
            rw [← hz.out] at hstep
            have hl4 : Hd (((bitsN N 32).take j).length ≤ 32) := ⟨by rw [List.length_take, bitsN_length]; omega⟩
            go_wp2
            refine Lead.wp_region_push_drawn 10 (by kernel_rfl) (by kernel_rfl) (fun _ _ _ _ _ h => h) ?_
            simp only [List.take_succ_cons, List.take_zero, List.drop_succ_cons, List.drop_zero]
            repeat (first | go_big_quiet_step (fail) | quiet_step (fail))
            refine wpQuiet_nil ?_
            intro kq
            clear e1 e2
            go_wp2_with (first
              | (refine one_any slInt rfl _ rfl rfl ?_; intro g5 w5 h51 h52 h53)
              | (at_builtin; refine append_any slInt rfl _ _ rfl rfl ((hO2.out.drewN kq).below h52) rfl rfl h53 (fun e => by cases e) (by have := hl4.out; simp only [List.length_cons, List.length_nil]; omega) (Nat.le_trans hB2.out.size h52.size) ?_; intro v6 w6 h61 h62 h63))
            go_roundg (33 - (j + 1))
            case measure => have := hqj.out; omega
            case rel =>
              refine ⟨j + 1, by omega, ⟨by omega⟩, by go_num, ⟨?_⟩, ⟨?_⟩⟩
              · rw [hstep.out]; exact h61
              · exact h62.below ((below_drewN hB2.out kq).trans (h52.mono hB2.out.size)) (Nat.le_trans hB2.out.size h52.size) (fun b6 hb6 => (((hO2.out.drewN kq).below h52).lt b6 hb6).1)
          · obtain rfl : j = 32 := by omega
            have hv := hO2.out
            rw [List.take_of_length_le (by rw [bitsN_length]; exact Nat.le_refl _)] at hv
            obtain ⟨g6, c6, rfl, f3, _, _⟩ := hv.form (by rw [bitsN_length]; decide)
            rw [bitsN_length] at f3 hv ⊢
            have RN : Hd (Rd .i64 wr (some ⟨g6, 0, none⟩) (bitsN N 32)) := ⟨by obtain ⟨A', c', e, _, _, r, _⟩ := hv.reads; injection e with e1; rw [← e1] at r; exact r⟩
            have BN := Hd.mk ((hB.out.trans (BM.out.mono hB.out.size)).trans (hB2.out.mono (Nat.le_trans hB.out.size BM.out.size)))
            have R5n := Hd.mk ((R5.out.below BM.out).below hB2.out)
            go_wp2
            go_roundg (17 - (i + 1))
            case measure => have := hq.out; omega
            case rel => exact ⟨i + 1, g5, o5, c5, g6, 0, c6, by omega, ⟨by omega⟩, by go_num, rfl, rfl, hc5, f3, ⟨by rw [hnext.out.1]; exact R5n.out⟩, ⟨by rw [hnext.out.2]; exact RN.out⟩, BN⟩
      · obtain ⟨M, hM⟩ : ∃ M, Hd (mixN R (rkN K ii) = M) := ⟨_, ⟨rfl⟩⟩
        obtain ⟨N, hN⟩ : ∃ N, Hd (L ^^^ M = N) := ⟨_, ⟨rfl⟩⟩
        have hnext : Hd ((feist (rfN K true) L0 R0 (i + 1)).1 = R ∧ (feist (rfN K true) L0 R0 (i + 1)).2 = N) := ⟨by
          refine ⟨by rw [feist, hR.out], ?_⟩
          rw [feist, hR.out, hL.out, ← hN.out, ← hM.out]
          simp only [rfN, if_true, Bool.false_eq_true, if_false] ; rw [hii.out]⟩
        have cM := Hd.mk (mix3 R (rkN K ii) hRl.out (some ⟨g5, o5, none⟩) (some ⟨gb, 0, none⟩) c5 cb wr R5.out RB.out)
        rw [hM.out] at cM
        go_wp2_with (first
          | (go_at_call 46; (with_reducible refine cM.out.mono ?_); intro e w4 hh; obtain ⟨gm, cm, rfl, a1, a2, a3, a4, a5, a6⟩ := hh.len 32 (bitsN_length _ _) (by decide);
             have RM := Hd.mk a3; have BM := Hd.mk a6; have R44 := Hd.mk (R4.out.below a6); clear a1 a2 a3 a4 a5 a6 cM))
        clear ca1 cb1
        go_loopg [14, 15] 33 (fun q v14 v15 wi => ∃ (j : Nat), j ≤ 32 ∧ Hd (q + j = 33) ∧ v15 = .int .i64 j ∧ Hd (Own .i64 3 wi w4.heap.size v14 ((bitsN N 32).take j)) ∧ Hd (Below w4.heap.size w4 wi))
        case atStart => exact ⟨0, by omega, ⟨by omega⟩, rfl, ⟨Own.nil _ _⟩, ⟨Below.refl _ _⟩⟩
        case round =>
          obtain ⟨j, hj, hqj, rfl, hO2, hB2⟩ := hrel
          by_cases hj32 : j < 32
          · obtain ⟨ad1, eA1, e1⟩ := (R44.out.below hB2.out).get j (by rw [bitsN_length]; exact hj32)
            obtain ⟨ad2, eA2, e2⟩ := (RM.out.below hB2.out).get j (by rw [bitsN_length]; exact hj32)
            cases eA1
            cases eA2
            rw [bitsN_getD L 32 j hj32, add_mk] at e1
            rw [bitsN_getD M 32 j hj32, add_mk, Nat.zero_add] at e2
            have hz := Hd.mk (xor_bits L M (32 - 1 - j))
            rw [hN.out] at hz
            generalize bitI L (32 - 1 - j) = y1 at *
            generalize bitI M (32 - 1 - j) = y2 at *
            have hstep := Hd.mk (bitsN_step N 32 j hj32)
            rw [← hz.out] at hstep
            have hl4 : Hd (((bitsN N 32).take j).length ≤ 32) := ⟨by rw [List.length_take, bitsN_length]; omega⟩
            go_wp2
            refine Lead.wp_region_push_drawn 10 (by kernel_rfl) (by kernel_rfl) (fun _ _ _ _ _ h => h) ?_
            simp only [List.take_succ_cons, List.take_zero, List.drop_succ_cons, List.drop_zero]
            repeat (first | go_big_quiet_step (fail) | quiet_step (fail))
            refine wpQuiet_nil ?_
            intro kq
            clear e1 e2
            go_wp2_with (first
              | (refine one_any slInt rfl _ rfl rfl ?_; intro g5 w5 h51 h52 h53)
              | (at_builtin; refine append_any slInt rfl _ _ rfl rfl ((hO2.out.drewN kq).below h52) rfl rfl h53 (fun e => by cases e) (by have := hl4.out; simp only [List.length_cons, List.length_nil]; omega) (Nat.le_trans hB2.out.size h52.size) ?_; intro v6 w6 h61 h62 h63))
            go_roundg (33 - (j + 1))
            case measure => have := hqj.out; omega
            case rel =>
              refine ⟨j + 1, by omega, ⟨by omega⟩, by go_num, ⟨?_⟩, ⟨?_⟩⟩
              · rw [hstep.out]; exact h61
              · exact h62.below ((below_drewN hB2.out kq).trans (h52.mono hB2.out.size)) (Nat.le_trans hB2.out.size h52.size) (fun b6 hb6 => (((hO2.out.drewN kq).below h52).lt b6 hb6).1)
          · obtain rfl : j = 32 := by omega
            have hv := hO2.out
            rw [List.take_of_length_le (by rw [bitsN_length]; exact Nat.le_refl _)] at hv
            obtain ⟨g6, c6, rfl, f3, _, _⟩ := hv.form (by rw [bitsN_length]; decide)
            rw [bitsN_length] at f3 hv ⊢
            have RN : Hd (Rd .i64 wr (some ⟨g6, 0, none⟩) (bitsN N 32)) := ⟨by obtain ⟨A', c', e, _, _, r, _⟩ := hv.reads; injection e with e1; rw [← e1] at r; exact r⟩
            have BN := Hd.mk ((hB.out.trans (BM.out.mono hB.out.size)).trans (hB2.out.mono (Nat.le_trans hB.out.size BM.out.size)))
            have R5n := Hd.mk ((R5.out.below BM.out).below hB2.out)
            go_wp2
            go_roundg (17 - (i + 1))
            case measure => have := hq.out; omega
            case rel => exact ⟨i + 1, g5, o5, c5, g6, 0, c6, by omega, ⟨by omega⟩, by go_num, rfl, rfl, hc5, f3, ⟨by rw [hnext.out.1]; exact R5n.out⟩, ⟨by rw [hnext.out.2]; exact RN.out⟩, BN⟩
    · obtain rfl : i = 16 := by omega
      obtain ⟨L, hL⟩ : ∃ L, Hd ((feist (rfN K back) L0 R0 16).1 = L) := ⟨_, ⟨rfl⟩⟩
      obtain ⟨R, hR⟩ : ∃ R, Hd ((feist (rfN K back) L0 R0 16).2 = R) := ⟨_, ⟨rfl⟩⟩
      have hLl : Hd (L < 2 ^ 32 ∧ R < 2 ^ 32) := ⟨by rw [← hL.out, ← hR.out]; exact hfl.out 16⟩
      rw [hL.out] at R4
      rw [hR.out] at R5
      rw [hL.out, hR.out]
      obtain ⟨Z, hZ⟩ : ∃ Z, Hd (R * 2 ^ 32 + L = Z) := ⟨_, ⟨rfl⟩⟩
      have hZl : Hd (Z < 2 ^ 64) := ⟨by have := hLl.out; rw [← hZ.out]; omega⟩
      have hbits : Hd (bitsN R 32 ++ bitsN L 32 = bitsN Z 64) := ⟨by rw [← hZ.out]; exact (bitsN_append R L 32 32 hLl.out.1).symm⟩
      rw [hZ.out]
      obtain ⟨U, hU⟩ : ∃ U, Hd (unpermN tabIP Z 64 = U) := ⟨_, ⟨rfl⟩⟩
      rw [hU.out]
      have rE : Hd (Own .i64 3 (wr.alloc (.cells #[] 3)) wr.heap.size (.slice (some ⟨wr.heap.size, 0, none⟩) 0 0) []) := ⟨own_empty wr⟩
      have rB : Hd (Below wr.heap.size wr (wr.alloc (.cells #[] 3))) := ⟨(Below.refl _ _).alloc (Nat.le_refl _) _⟩
      have zn : Hd ((Value.slice (some ⟨wr.heap.size, 0, none⟩) 0 0).ownBlock ≠ some g4) := ⟨fun e => by have h1 := R4.out.lt _ rfl (by rw [bitsN_length]; decide); have e3 : some wr.heap.size = some g4 := e; injection e3 with e3; rw [e3] at h1; exact absurd h1 (Nat.lt_irrefl _)⟩
      clear hfl
      go_wp2_with (first
        | (at_builtin; refine append_any slInt rfl _ _ rfl rfl z1 rfl (bitsN_length _ _).symm ((R4.out.below rB.out).grow z2 (fun ad e => by cases e; exact zn.out)) (fun _ e => by cases e) (by simp [bitsN_length]) (Nat.le_trans rB.out.size z2.size) ?_; intro vb wb y1 y2 y3;
           have yb := Hd.mk (y2.below zb.out zb.out.size (fun b hb => (z1.lt b hb).1));
           rw [List.nil_append, hbits.out] at y1;
           obtain ⟨gy, cy, hy1, cy64, _, _⟩ := y1.form (by rw [bitsN_length]; decide); subst hy1;
           rw [bitsN_length] at y1 cy64 ⊢;
           have RY : Hd (Rd .i64 wb (some ⟨gy, 0, none⟩) (bitsN Z 64)) := ⟨by obtain ⟨A', c', e, _, _, r, _⟩ := y1.reads; injection e with e1; rw [← e1] at r; exact r⟩;
           clear y1 y2 y3 z1 z2 z3)
        | (at_builtin; refine append_any slInt rfl _ _ rfl rfl rE.out rfl (bitsN_length _ _).symm (R5.out.below rB.out) (fun _ e => by cases e) (by simp [bitsN_length]) rB.out.size ?_; intro va wa z1 z2 z3;
           have zb := Hd.mk (z2.below rB.out rB.out.size (fun b hb => (rE.out.lt b hb).1)))
        | (refine make_any slInt rfl _ _ rfl 64 rfl rfl (by omega) ?_; intro go wo h1 h2 h3 h4))
      have RYo := Hd.mk (RY.out.below h3)
      have OO : Hd (Own .i64 3 wo wb.heap.size (.slice (some ⟨go, 0, none⟩) 64 64) (setsTo tabIP Z 0)) := ⟨h4⟩
      have BO := Hd.mk h3
      have hgo : Hd (gy ≠ go) := ⟨fun e => by have := RY.out.lt _ rfl (by rw [bitsN_length]; decide); subst e; exact absurd this (Nat.not_lt.2 h1)⟩
      clear h1 h2 h3 h4 rE rB zn zb
      go_loopg [18] 65 (fun q v18 wr => ∃ (k : Nat), k ≤ 64 ∧ Hd (q + k = 65) ∧ v18 = .int .i64 k ∧ Hd (Own .i64 3 wr wb.heap.size (.slice (some ⟨go, 0, none⟩) 64 64) (setsTo tabIP Z k)) ∧ Hd (Rd .i64 wr (some ⟨gy, 0, none⟩) (bitsN Z 64)) ∧ Hd (Below wb.heap.size wb wr))
      case atStart => exact ⟨0, by omega, ⟨by omega⟩, rfl, OO, RYo, BO⟩
      case round =>
        clear OO RYo BO
        obtain ⟨k, hk, hq2, rfl, hO, hRY, hBo⟩ := hrel
        by_cases hk64 : k < 64
        · have hpl := tblIP.pl k hk64
          obtain ⟨p, hp⟩ : ∃ p, Hd (placeAt tabIP k = p + 1) := ⟨placeAt tabIP k - 1, ⟨by omega⟩⟩
          have hp2 : p < 64 := by have := hp.out; omega
          have hpi : ((p + 1 : Nat) : Int) - 1 = (p : Int) := by omega
          clear hpl
          obtain ⟨ad, eA, e1⟩ := hRY.out.get k (by rw [bitsN_length]; exact hk64)
          cases eA
          rw [bitsN_getD Z 64 k hk64, add_mk, Nat.zero_add, show 64 - 1 - k = 63 - k by omega] at e1
          have hl : Hd ((64 : Nat) = (setsTo tabIP Z k).length) := ⟨by rw [setsTo_length]⟩
          have e3 := hO.out.cell hl.out p (by rw [setsTo_length]; exact hp2)
          have e4 := hO.out.frozen hl.out p
          have hstep : Hd (∀ y, bitI Z (63 - k) = y → setsTo tabIP Z (k + 1) = (setsTo tabIP Z k).set p y) := ⟨fun y hy => by rw [setsTo, hp.out, hy]; rfl⟩
          generalize hy : bitI Z (63 - k) = y at e1
          have hst := Hd.mk (hstep.out y hy)
          clear hstep hy
          generalize (setsTo tabIP Z k).getD p 0 = z0 at e3
          have cP : Hd (∀ w1, (∃ n, w1 = wr.drewN n) → Calls Tryd.prog 47 #[.string tabIP, .int .i64 k] w1 fun e w' => e = .returned (.int .i64 (p + 1 : Nat)) ∧ ∃ n, w' = wr.drewN n) := ⟨fun w1 h => by
            obtain ⟨n, rfl⟩ := h
            rw [← hp.out]
            refine (place_any k 64 64 tabIP tblIP hk64 (by omega) _).mono ?_
            rintro e w' ⟨rfl, n2, rfl⟩
            exact ⟨rfl, n + n2, by rw [World.drewN_drewN]⟩⟩
          go_wp2
          refine Lead.wp_region_lead_drawn 9 (by kernel_rfl) (by kernel_rfl) ?_
          simp only [List.take_succ_cons, List.take_zero, List.drop_succ_cons, List.drop_zero]
          repeat (first | go_big_quiet_step ((go_at_call 47; exact cP.out _ ⟨_, rfl⟩)) | quiet_step (fail))
          refine wpQuiet_nil ?_
          intro kq
          clear e1
          go_wp2
          go_roundg (65 - (k + 1))
          case measure => have := hq2.out; omega
          case rel =>
            have hsto := (hO.out.drewN kq).store hl.out p y
            refine ⟨k + 1, by omega, ⟨by omega⟩, by go_num, ⟨?_⟩, ⟨?_⟩, ⟨?_⟩⟩
            · rw [hst.out]; exact hsto.1
            · exact (hRY.out.drewN kq).grow hsto.2 (fun ad e => by cases e; intro e2; have e3 : some go = some gy := e2; injection e3 with e3; exact hgo.out e3.symm)
            · exact hsto.2.below (below_drewN hBo.out kq) hBo.out.size (fun b' hb' => ((hO.out.drewN kq).lt b' hb').1)
        · obtain rfl : k = 64 := by omega
          have hv := hO.out
          rw [setsTo_all Z hZl.out] at hv
          rw [hU.out] at hv
          have RU : Hd (Rd .i64 wr (some ⟨go, 0, none⟩) (bitsN U 64)) := ⟨by obtain ⟨A', c', e, _, _, r, _⟩ := hv.reads; injection e with e1; rw [← e1] at r; exact r⟩
          have cY := Hd.mk (Bytes3 U (some ⟨go, 0, none⟩) 64 wr RU.out)
          have BB := Hd.mk (((B3.out.trans (hB.out.mono B3.out.size)).trans (yb.out.mono (Nat.le_trans B3.out.size hB.out.size))).trans (hBo.out.mono (Nat.le_trans (Nat.le_trans B3.out.size hB.out.size) yb.out.size)))
          clear hv
          go_wp2_with (first
            | (go_at_call 48; (with_reducible refine cY.out.mono ?_); rintro e w9 ⟨v, rfl, q1, q2⟩))
          go_ret
          refine ⟨_, rfl, ?_, BB.out.trans (q2.mono BB.out.size)⟩
          first
            | exact q1.lower BB.out.size
            | (rw [hL.out, hR.out, hZ.out, hU.out]; exact q1.lower BB.out.size)
end Go.Proofs.YtommgcebjhkneaaDoor

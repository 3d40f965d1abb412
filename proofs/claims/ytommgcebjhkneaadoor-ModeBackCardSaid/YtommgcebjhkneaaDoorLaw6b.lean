/-
  What the statements of layer 6 make ahead of the call: a key of a length that may be; a tape, a book, a cipher. Conditions: the kind is AES's or TDES's; the bytes can be read; at most 65,536 draws.
-/
import Derived.Test.YtommgcebjhkneaaDoorLaw6a
namespace Go.Proofs.YtommgcebjhkneaaDoor
open Go Go.RowKit
set_option linter.unusedVariables false
set_option linter.unusedSimpArgs false

def rightTo (key : List Int) : Nat → List Int
  | 0 => []
  | k + 1 => rightTo key k ++ [if key.length = 0 then 0 else key.getD (k % key.length) 0]
theorem rightTo_length (key : List Int) (k : Nat) : (rightTo key k).length = k := by
  induction k with
  | zero => rfl
  | succ k ih => simp [rightTo, ih]
theorem rightTo_byt (key : List Int) (h : Byt key) (k : Nat) : Byt (rightTo key k) := by
  induction k with
  | zero => intro x hx; cases hx
  | succ k ih =>
    intro x hx
    rw [rightTo, List.mem_append, List.mem_singleton] at hx
    rcases hx with hx | rfl
    · exact ih x hx
    · split
      · omega
      · rename_i h0
        have hk : k % key.length < key.length := Nat.mod_lt _ (by omega)
        have : key.getD (k % key.length) 0 = key[k % key.length] := by simp [List.getD, hk]
        rw [this]
        exact h _ (List.getElem_mem hk)

set_option maxRecDepth 100000 in
set_option maxHeartbeats 4000000 in
theorem right_any (kind : Int) (m : Nat) (hk : (kind = 1 ∧ m = 16) ∨ (kind = 2 ∧ m = 24) ∨ (kind = 3 ∧ m = 4)) (A : Option Addr) (n c : Nat) (key : List Int) (w : World) (hn : n = key.length) (hr : Rd .u8 w A key) (hn2 : n ≤ 1000000) :
    Calls Tryd.prog 14 #[.int .i64 kind, .slice A n c] w (RetNew (rightTo key m) w) := by
  have HN := Hd.mk hn; have HR := Hd.mk hr
  have hm : m ≤ 24 := by omega
  clear hn hr
  have hW0 := Hd.mk ((Below.refl w.heap.size w).alloc (Nat.le_refl _) (.cells #[.int .i64 16, .int .i64 16, .int .i64 24, .int .i64 4] 3))
  rcases hk with ⟨rfl, rfl⟩ | ⟨rfl, rfl⟩ | ⟨rfl, rfl⟩
  · generalize hm0 : rightTo key 16 = R
    have HM0 := Hd.mk hm0
    clear hm0 hm
    go_enter Tryd.func14, Tryd.ntmps14
    go_wp2
    go_loopg [6, 7, 18, 19, 20, 21, 22, 23, 24, 25, 26, 27, 28, 29, 30, 31, 32, 33] 17 (fun q v6 v7 v18 v19 v20 v21 v22 v23 v24 v25 v26 v27 v28 v29 v30 v31 v32 v33 wr => ∃ (k : Nat), k ≤ 16 ∧ Hd (q + k = 17) ∧ v7 = .int .i64 k ∧ Hd (Own .u8 5 wr w.heap.size v6 (rightTo key k)) ∧ Hd (Below w.heap.size w wr))
    case atStart => exact ⟨0, by omega, ⟨by omega⟩, rfl, ⟨Own.nil _ _⟩, hW0⟩
    case round =>
      obtain ⟨k, hk, hq, rfl, hO, hB⟩ := hrel
      by_cases hlt : k < 16
      · have hl6 : Hd ((rightTo key k ++ [0]).length = k + 1) := ⟨by simp [rightTo_length]⟩
        have hl4 : Hd ((rightTo key k).length = k) := ⟨rightTo_length key k⟩
        by_cases h0 : n = 0
        · subst h0
          have hstep : Hd (rightTo key (k + 1) = rightTo key k ++ [0]) := ⟨by rw [rightTo, if_pos HN.out.symm]⟩
          go_wp2_with (first
            | (refine one_any slU8 rfl _ rfl rfl ?_; intro g5 w5 h51 h52 h53)
            | (at_builtin; refine append_any slU8 rfl _ _ rfl rfl (hO.out.below h52) rfl rfl h53 (fun e => by cases e) (by rw [hl4.out]; simp only [List.length_cons, List.length_nil]; omega) (Nat.le_trans hB.out.size h52.size) ?_; intro v6 w6 h61 h62 h63))
          go_roundg (17 - (k + 1))
          case measure => have := hq.out; omega
          case rel => exact ⟨k + 1, by omega, ⟨by omega⟩, by go_num, ⟨by rw [hstep.out]; exact h61⟩, ⟨h62.below (hB.out.trans (h52.mono hB.out.size)) (Nat.le_trans hB.out.size h52.size) (fun b6 hb6 => ((hO.out.below h52).lt b6 hb6).1)⟩⟩
        · obtain ⟨j, hj⟩ : ∃ j, Hd (j = k % n) := ⟨_, ⟨rfl⟩⟩
          have hjn : j < n := by rw [hj.out]; exact Nat.mod_lt _ (by omega)
          have hmod : (k : Int).tmod (n : Int) = (j : Int) := by rw [hj.out, Int.ofNat_tmod]
          have hnpos : (0 : Int) < (n : Int) := by omega
          obtain ⟨ad, eA, _⟩ := HR.out.get j (by have := HN.out; omega)
          subst eA
          obtain ⟨x, hx⟩ : ∃ x, Hd (key.getD j 0 = x) := ⟨_, ⟨rfl⟩⟩
          have hstep : Hd (rightTo key (k + 1) = (rightTo key k ++ [0]).set k x) := ⟨by
            rw [rightTo, if_neg (by have := HN.out; omega), ← HN.out, ← hj.out, hx.out]
            rw [List.set_append_right _ _ (by rw [rightTo_length]; exact Nat.le_refl _), rightTo_length]; simp⟩
          go_wp2_with (first
            | (refine one_any slU8 rfl _ rfl rfl ?_; intro g5 w5 h51 h52 h53)
            | (at_builtin; refine append_any slU8 rfl _ _ rfl rfl (hO.out.below h52) rfl rfl h53 (fun e => by cases e) (by rw [hl4.out]; simp only [List.length_cons, List.length_nil]; omega) (Nat.le_trans hB.out.size h52.size) ?_; intro v6 w6 h61 h62 h63;
               have hb6 := Hd.mk (h62.below (hB.out.trans (h52.mono hB.out.size)) (Nat.le_trans hB.out.size h52.size) (fun b6 hb6 => ((hO.out.below h52).lt b6 hb6).1));
               obtain ⟨b6, c6, rfl, hle, _, _⟩ := h61.form (by rw [hl6.out]; omega); rw [hl6.out] at h61 hle ⊢;
               have H61 := Hd.mk h61;
               obtain ⟨ad', eA, e2⟩ := (HR.out.below hb6.out).get j (by have := HN.out; omega); cases eA; rw [hx.out] at e2;
               have e3 := h61.cell hl6.out.symm k (by rw [hl6.out]; omega);
               have e4 := h61.frozen hl6.out.symm k; clear h61 h62 h63))
          go_roundg (17 - (k + 1))
          case measure => have := hq.out; omega
          case rel =>
            have hst := H61.out.store hl6.out.symm k x
            exact ⟨k + 1, by omega, ⟨by omega⟩, by go_num, ⟨by rw [hstep.out]; exact hst.1⟩, ⟨hst.2.below hb6.out hb6.out.size (fun b hb => (H61.out.lt b hb).1)⟩⟩
      · obtain rfl : k = 16 := by omega
        have hv := hO.out
        go_wp2
        go_ret
        exact ⟨_, rfl, HM0.out ▸ New.of_own hv, hB.out⟩
  · generalize hm0 : rightTo key 24 = R
    have HM0 := Hd.mk hm0
    clear hm0 hm
    go_enter Tryd.func14, Tryd.ntmps14
    go_wp2
    go_loopg [6, 7, 18, 19, 20, 21, 22, 23, 24, 25, 26, 27, 28, 29, 30, 31, 32, 33] 25 (fun q v6 v7 v18 v19 v20 v21 v22 v23 v24 v25 v26 v27 v28 v29 v30 v31 v32 v33 wr => ∃ (k : Nat), k ≤ 24 ∧ Hd (q + k = 25) ∧ v7 = .int .i64 k ∧ Hd (Own .u8 5 wr w.heap.size v6 (rightTo key k)) ∧ Hd (Below w.heap.size w wr))
    case atStart => exact ⟨0, by omega, ⟨by omega⟩, rfl, ⟨Own.nil _ _⟩, hW0⟩
    case round =>
      obtain ⟨k, hk, hq, rfl, hO, hB⟩ := hrel
      by_cases hlt : k < 24
      · have hl6 : Hd ((rightTo key k ++ [0]).length = k + 1) := ⟨by simp [rightTo_length]⟩
        have hl4 : Hd ((rightTo key k).length = k) := ⟨rightTo_length key k⟩
        by_cases h0 : n = 0
        · subst h0
          have hstep : Hd (rightTo key (k + 1) = rightTo key k ++ [0]) := ⟨by rw [rightTo, if_pos HN.out.symm]⟩
          go_wp2_with (first
            | (refine one_any slU8 rfl _ rfl rfl ?_; intro g5 w5 h51 h52 h53)
            | (at_builtin; refine append_any slU8 rfl _ _ rfl rfl (hO.out.below h52) rfl rfl h53 (fun e => by cases e) (by rw [hl4.out]; simp only [List.length_cons, List.length_nil]; omega) (Nat.le_trans hB.out.size h52.size) ?_; intro v6 w6 h61 h62 h63))
          go_roundg (25 - (k + 1))
          case measure => have := hq.out; omega
          case rel => exact ⟨k + 1, by omega, ⟨by omega⟩, by go_num, ⟨by rw [hstep.out]; exact h61⟩, ⟨h62.below (hB.out.trans (h52.mono hB.out.size)) (Nat.le_trans hB.out.size h52.size) (fun b6 hb6 => ((hO.out.below h52).lt b6 hb6).1)⟩⟩
        · obtain ⟨j, hj⟩ : ∃ j, Hd (j = k % n) := ⟨_, ⟨rfl⟩⟩
          have hjn : j < n := by rw [hj.out]; exact Nat.mod_lt _ (by omega)
          have hmod : (k : Int).tmod (n : Int) = (j : Int) := by rw [hj.out, Int.ofNat_tmod]
          have hnpos : (0 : Int) < (n : Int) := by omega
          obtain ⟨ad, eA, _⟩ := HR.out.get j (by have := HN.out; omega)
          subst eA
          obtain ⟨x, hx⟩ : ∃ x, Hd (key.getD j 0 = x) := ⟨_, ⟨rfl⟩⟩
          have hstep : Hd (rightTo key (k + 1) = (rightTo key k ++ [0]).set k x) := ⟨by
            rw [rightTo, if_neg (by have := HN.out; omega), ← HN.out, ← hj.out, hx.out]
            rw [List.set_append_right _ _ (by rw [rightTo_length]; exact Nat.le_refl _), rightTo_length]; simp⟩
          go_wp2_with (first
            | (refine one_any slU8 rfl _ rfl rfl ?_; intro g5 w5 h51 h52 h53)
            | (at_builtin; refine append_any slU8 rfl _ _ rfl rfl (hO.out.below h52) rfl rfl h53 (fun e => by cases e) (by rw [hl4.out]; simp only [List.length_cons, List.length_nil]; omega) (Nat.le_trans hB.out.size h52.size) ?_; intro v6 w6 h61 h62 h63;
               have hb6 := Hd.mk (h62.below (hB.out.trans (h52.mono hB.out.size)) (Nat.le_trans hB.out.size h52.size) (fun b6 hb6 => ((hO.out.below h52).lt b6 hb6).1));
               obtain ⟨b6, c6, rfl, hle, _, _⟩ := h61.form (by rw [hl6.out]; omega); rw [hl6.out] at h61 hle ⊢;
               have H61 := Hd.mk h61;
               obtain ⟨ad', eA, e2⟩ := (HR.out.below hb6.out).get j (by have := HN.out; omega); cases eA; rw [hx.out] at e2;
               have e3 := h61.cell hl6.out.symm k (by rw [hl6.out]; omega);
               have e4 := h61.frozen hl6.out.symm k; clear h61 h62 h63))
          go_roundg (25 - (k + 1))
          case measure => have := hq.out; omega
          case rel =>
            have hst := H61.out.store hl6.out.symm k x
            exact ⟨k + 1, by omega, ⟨by omega⟩, by go_num, ⟨by rw [hstep.out]; exact hst.1⟩, ⟨hst.2.below hb6.out hb6.out.size (fun b hb => (H61.out.lt b hb).1)⟩⟩
      · obtain rfl : k = 24 := by omega
        have hv := hO.out
        go_wp2
        go_ret
        exact ⟨_, rfl, HM0.out ▸ New.of_own hv, hB.out⟩
  · generalize hm0 : rightTo key 4 = R
    have HM0 := Hd.mk hm0
    clear hm0 hm
    go_enter Tryd.func14, Tryd.ntmps14
    go_wp2
    go_loopg [6, 7, 18, 19, 20, 21, 22, 23, 24, 25, 26, 27, 28, 29, 30, 31, 32, 33] 5 (fun q v6 v7 v18 v19 v20 v21 v22 v23 v24 v25 v26 v27 v28 v29 v30 v31 v32 v33 wr => ∃ (k : Nat), k ≤ 4 ∧ Hd (q + k = 5) ∧ v7 = .int .i64 k ∧ Hd (Own .u8 5 wr w.heap.size v6 (rightTo key k)) ∧ Hd (Below w.heap.size w wr))
    case atStart => exact ⟨0, by omega, ⟨by omega⟩, rfl, ⟨Own.nil _ _⟩, hW0⟩
    case round =>
      obtain ⟨k, hk, hq, rfl, hO, hB⟩ := hrel
      by_cases hlt : k < 4
      · have hl6 : Hd ((rightTo key k ++ [0]).length = k + 1) := ⟨by simp [rightTo_length]⟩
        have hl4 : Hd ((rightTo key k).length = k) := ⟨rightTo_length key k⟩
        by_cases h0 : n = 0
        · subst h0
          have hstep : Hd (rightTo key (k + 1) = rightTo key k ++ [0]) := ⟨by rw [rightTo, if_pos HN.out.symm]⟩
          go_wp2_with (first
            | (refine one_any slU8 rfl _ rfl rfl ?_; intro g5 w5 h51 h52 h53)
            | (at_builtin; refine append_any slU8 rfl _ _ rfl rfl (hO.out.below h52) rfl rfl h53 (fun e => by cases e) (by rw [hl4.out]; simp only [List.length_cons, List.length_nil]; omega) (Nat.le_trans hB.out.size h52.size) ?_; intro v6 w6 h61 h62 h63))
          go_roundg (5 - (k + 1))
          case measure => have := hq.out; omega
          case rel => exact ⟨k + 1, by omega, ⟨by omega⟩, by go_num, ⟨by rw [hstep.out]; exact h61⟩, ⟨h62.below (hB.out.trans (h52.mono hB.out.size)) (Nat.le_trans hB.out.size h52.size) (fun b6 hb6 => ((hO.out.below h52).lt b6 hb6).1)⟩⟩
        · obtain ⟨j, hj⟩ : ∃ j, Hd (j = k % n) := ⟨_, ⟨rfl⟩⟩
          have hjn : j < n := by rw [hj.out]; exact Nat.mod_lt _ (by omega)
          have hmod : (k : Int).tmod (n : Int) = (j : Int) := by rw [hj.out, Int.ofNat_tmod]
          have hnpos : (0 : Int) < (n : Int) := by omega
          obtain ⟨ad, eA, _⟩ := HR.out.get j (by have := HN.out; omega)
          subst eA
          obtain ⟨x, hx⟩ : ∃ x, Hd (key.getD j 0 = x) := ⟨_, ⟨rfl⟩⟩
          have hstep : Hd (rightTo key (k + 1) = (rightTo key k ++ [0]).set k x) := ⟨by
            rw [rightTo, if_neg (by have := HN.out; omega), ← HN.out, ← hj.out, hx.out]
            rw [List.set_append_right _ _ (by rw [rightTo_length]; exact Nat.le_refl _), rightTo_length]; simp⟩
          go_wp2_with (first
            | (refine one_any slU8 rfl _ rfl rfl ?_; intro g5 w5 h51 h52 h53)
            | (at_builtin; refine append_any slU8 rfl _ _ rfl rfl (hO.out.below h52) rfl rfl h53 (fun e => by cases e) (by rw [hl4.out]; simp only [List.length_cons, List.length_nil]; omega) (Nat.le_trans hB.out.size h52.size) ?_; intro v6 w6 h61 h62 h63;
               have hb6 := Hd.mk (h62.below (hB.out.trans (h52.mono hB.out.size)) (Nat.le_trans hB.out.size h52.size) (fun b6 hb6 => ((hO.out.below h52).lt b6 hb6).1));
               obtain ⟨b6, c6, rfl, hle, _, _⟩ := h61.form (by rw [hl6.out]; omega); rw [hl6.out] at h61 hle ⊢;
               have H61 := Hd.mk h61;
               obtain ⟨ad', eA, e2⟩ := (HR.out.below hb6.out).get j (by have := HN.out; omega); cases eA; rw [hx.out] at e2;
               have e3 := h61.cell hl6.out.symm k (by rw [hl6.out]; omega);
               have e4 := h61.frozen hl6.out.symm k; clear h61 h62 h63))
          go_roundg (5 - (k + 1))
          case measure => have := hq.out; omega
          case rel =>
            have hst := H61.out.store hl6.out.symm k x
            exact ⟨k + 1, by omega, ⟨by omega⟩, by go_num, ⟨by rw [hstep.out]; exact hst.1⟩, ⟨hst.2.below hb6.out hb6.out.size (fun b hb => (H61.out.lt b hb).1)⟩⟩
      · obtain rfl : k = 4 := by omega
        have hv := hO.out
        go_wp2
        go_ret
        exact ⟨_, rfl, HM0.out ▸ New.of_own hv, hB.out⟩

/-- A tape in memory. -/
def TapeAt (w : World) (g : Nat) (draws : List Int) : Prop := g < w.heap.size ∧ ∃ A c, w.cell? ⟨g, 0, none⟩ = some (.slice A draws.length c) ∧ Rd .u8 w A draws ∧ ∀ ad, A = some ad → ad.block < w.heap.size

def RetTape (draws : List Int) (w : World) (e : Ending) (w' : World) : Prop := ∃ g, e = .returned (.tuple #[.pointer (some ⟨g, 0, none⟩), .nilIface]) ∧ w.heap.size ≤ g ∧ TapeAt w' g draws ∧ Below w.heap.size w w'
set_option maxRecDepth 100000 in
theorem tape_ok (A : Option Addr) (n c : Nat) (draws : List Int) (w : World) (hn : n = draws.length) (hr : Rd .u8 w A draws) (h0 : A = none → c = 0) (hn2 : n ≤ 65536) :
    Calls Tryd.prog 25 #[.slice A n c] w (RetTape draws w) := by
  have HC := Hd.mk (Clone_any A n c draws w hn hr h0 (by omega))
  have hn3 : ¬ ((65536 : Int) < (n : Int)) := by omega
  clear hn hr h0
  go_enter Tryd.func25, Tryd.ntmps25
  go_wp2_with (first
    | (go_at_call 32; (with_reducible refine HC.out.mono ?_); rintro e w' ⟨v, rfl, ⟨A2, c2, rfl, k1, k2, k3, k4⟩, h2⟩))
  go_ret2
  have hA := (Below.refl w'.heap.size w').alloc (Nat.le_refl _) (.cells #[.slice A2 draws.length c2] 79)
  exact ⟨w'.heap.size, rfl, h2.size, ⟨by simp, A2, c2, by rw [World.cell?_alloc_at _ _ _ _ rfl]; rfl, k2.below hA, fun ad e => Nat.lt_of_lt_of_le (k4 ad e).2.1 hA.size⟩, h2.trans (hA.mono h2.size)⟩

def RetBook (gt : Nat) (w : World) (e : Ending) (w' : World) : Prop := ∃ g, e = .returned (.pointer (some ⟨g, 0, none⟩)) ∧ w.heap.size ≤ g ∧ g < w'.heap.size ∧ w'.cell? ⟨g, 0, none⟩ = some (.slice none 0 0) ∧ w'.cell? ⟨g, 1, none⟩ = some (.pointer (some ⟨gt, 0, none⟩)) ∧ Below w.heap.size w w'
set_option maxRecDepth 100000 in
theorem book_any (gt : Nat) (w : World) : Calls Tryd.prog 26 #[.pointer (some ⟨gt, 0, none⟩)] w (RetBook gt w) := by
  go_enter Tryd.func26, Tryd.ntmps26
  go_wp2
  go_ret
  exact ⟨w.heap.size, rfl, Nat.le_refl _, by simp, by rw [World.cell?_alloc_at _ _ _ _ rfl]; rfl, by rw [World.cell?_alloc_at _ _ _ _ rfl]; rfl, (Below.refl _ _).alloc (Nat.le_refl _) _⟩

def RetMade (kind : Int) (key draws : List Int) (w : World) (e : Ending) (w' : World) : Prop :=
  ∃ g gb gt, e = .returned (.tuple #[.pointer (some ⟨g, 0, none⟩), .bool true]) ∧ Ciph w'.heap.size w' g kind key (some ⟨gb, 0, none⟩) ∧ w'.cell? ⟨gb, 0, none⟩ = some (.slice none 0 0) ∧ w'.cell? ⟨gb, 1, none⟩ = some (.pointer (some ⟨gt, 0, none⟩)) ∧ TapeAt w' gt draws ∧ Below w.heap.size w w'
set_option maxRecDepth 100000 in
set_option maxHeartbeats 1000000 in
theorem cipher_ok (kind : Int) (hk : kind = 1 ∨ kind = 2) (A : Option Addr) (n c : Nat) (key : List Int) (Ad : Option Addr) (nd cd : Nat) (draws : List Int) (w : World) (hn : n = key.length) (hf : fitsI kind n = true) (hr : Rd .u8 w A key) (h0 : A = none → c = 0)
    (hnd : nd = draws.length) (hrd : Rd .u8 w Ad draws) (h0d : Ad = none → cd = 0) (hn2 : nd ≤ 65536) :
    Calls Tryd.prog 13 #[.int .i64 kind, .slice A n c, .slice Ad nd cd] w (RetMade kind key draws w) := by
  have HT := Hd.mk (tape_ok Ad nd cd draws w hnd hrd h0d hn2)
  have HR := Hd.mk hr
  have HN := Hd.mk (fun w hr bk => New_ok kind hk A n c key bk w hn hf hr h0)
  clear hn hf hr h0 hnd hrd h0d hn2
  go_enter Tryd.func13, Tryd.ntmps13
  go_wp2_with (first
    | (go_at_call 25; (with_reducible refine HT.out.mono ?_); rintro e w1 ⟨gt, rfl, a1, a2, a3⟩)
    | (go_at_call 26; (with_reducible refine (book_any gt w1).mono ?_); rintro e w2 ⟨gb, rfl, b1, b2, b3, b4, b5⟩)
    | (go_at_call 23; (with_reducible refine (HN.out _ ((HR.out.below a3).below b5) _).mono ?_); rintro e w3 ⟨g, rfl, d1, d2, d3⟩))
  go_ret2
  obtain ⟨t1, At, ct, t2, t3, t4⟩ := a2
  refine ⟨g, gb, gt, rfl, d2, (d3.cell (p := ⟨gb, 0, none⟩) b2).trans b3, (d3.cell (p := ⟨gb, 1, none⟩) b2).trans b4, ⟨?_, At, ct, ?_, (t3.below b5).below d3, fun ad e => ?_⟩, (a3.trans (b5.mono a3.size)).trans (d3.mono (Nat.le_trans a3.size b5.size))⟩
  · have := b5.size; have := d3.size; omega
  · rw [d3.cell (p := ⟨gt, 0, none⟩) (by have := b5.size; show gt < _; omega), b5.cell (p := ⟨gt, 0, none⟩) t1]; exact t2
  · have := t4 ad e; have := b5.size; have := d3.size; omega
end Go.Proofs.YtommgcebjhkneaaDoor

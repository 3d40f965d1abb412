/-
  mac: a block doubled, a text filled up, the last block of a chained text. Conditions: slices that can be read, of at most a million bytes; blocks of 8 or 16 bytes.
-/
import Derived.Test.YtommgcebjhkneaaDoorDesDo
namespace Go.Proofs.YtommgcebjhkneaaDoor
open Go Go.RowKit
set_option linter.unusedVariables false
set_option linter.unusedSimpArgs false

/-- What a function hands back that answers bytes of its own, in a block that may grow. -/
def RetOwn (xs : List Int) (w : World) (e : Ending) (w' : World) : Prop := ∃ v, e = .returned v ∧ Own .u8 5 w' w.heap.size v xs ∧ Below w.heap.size w w'
theorem RetOwn.new {xs : List Int} {w w' : World} {e : Ending} (h : RetOwn xs w e w') : RetNew xs w e w' := by
  obtain ⟨v, rfl, h1, h2⟩ := h
  exact ⟨v, rfl, New.of_own h1, h2⟩
theorem RetOwn.len {xs : List Int} {w w' : World} {e : Ending} (h : RetOwn xs w e w') (n : Nat) (hn : xs.length = n) :
    ∃ A c, e = .returned (.slice A n c) ∧ Own .u8 5 w' w.heap.size (.slice A n c) xs ∧ n ≤ c ∧ Rd .u8 w' A xs ∧ (A = none → c = 0) ∧ Below w.heap.size w w' := by
  subst hn
  obtain ⟨v, rfl, h1, h2⟩ := h
  obtain ⟨A, c, rfl, k1, k2, k3, _⟩ := New.of_own h1
  exact ⟨A, c, rfl, h1, k1, k2, k3, h2⟩

set_option maxHeartbeats 1000000 in
theorem CloneO (A : Option Addr) (n c : Nat) (xs : List Int) (w : World) (hn : n = xs.length) (hr : Rd .u8 w A xs) (h0 : A = none → c = 0) (hl : xs.length ≤ 100000000) :
    Calls Tryd.prog 32 #[.slice A n c] w (RetOwn xs w) := by
  have HN := Hd.mk hn; have HR := Hd.mk hr; have H0 := Hd.mk h0
  have hnl : n ≤ 100000000 := by omega
  clear hn hr h0 hl
  have e0 := fun (w : World) (b : Option Addr) (n c : Nat) => Lib.run_eql_slice_nil (P := Tryd.prog) w 22 5 b n c 0 0 Tryd.underlying22
  rcases A with _ | ad
  · have hx : xs = [] := by
      cases xs with
      | nil => rfl
      | cons x xs => obtain ⟨ad, e, _⟩ := HR.out.get 0 (by simp); cases e
    subst hx
    have hc := H0.out rfl
    subst hc
    obtain rfl : n = 0 := HN.out
    go_enter Tryd.func32, Tryd.ntmps32
    go_wp2
    go_ret
    exact ⟨_, rfl, Own.nil _ _, Below.refl _ _⟩
  · go_enter Tryd.func32, Tryd.ntmps32
    go_wp2_with (first
      | (refine empty_any (k := .u8) rfl emU8 rfl ?_; intro g0 w0 h1 h2 h3 h4)
      | (at_builtin; refine append_any slU8 rfl _ _ rfl rfl h4 rfl HN.out (HR.out.below h3) (fun _ e => by cases e) (by have := HN.out; simp; omega) (by omega) ?_; intro v1 w1 h5 h6 h7))
    go_ret
    exact ⟨_, rfl, h5, h6.below h3 (by omega) (fun b hb => (h4.lt b hb).1)⟩

/-! Filled up. -/
def padZ (L n : Nat) : Nat := (n - (L + 1) % n) % n
def padI (text : List Int) (n : Nat) : List Int := text ++ [128] ++ List.replicate (padZ text.length n) 0
theorem padZ_end (L n : Nat) (hn : 0 < n) : (L + 1 + padZ L n) % n = 0 := by
  unfold padZ
  rw [Nat.add_mod_mod]
  have h := Nat.mod_lt (L + 1) hn
  have h2 := Nat.div_add_mod (L + 1) n
  rw [show L + 1 + (n - (L + 1) % n) = n * ((L + 1) / n) + n by omega, ← Nat.mul_succ]
  exact Nat.mul_mod_right _ _
theorem padZ_mid (L n k : Nat) (hn : 0 < n) (hk : k < padZ L n) : (L + 1 + k) % n ≠ 0 := by
  unfold padZ at hk
  have h := Nat.mod_lt (L + 1) hn
  have hz : (L + 1) % n ≠ 0 := by
    intro h0
    rw [h0, Nat.sub_zero, Nat.mod_self] at hk
    omega
  rw [Nat.mod_eq_of_lt (show n - (L + 1) % n < n by omega)] at hk
  have h2 := Nat.div_add_mod (L + 1) n
  rw [show L + 1 + k = n * ((L + 1) / n) + ((L + 1) % n + k) by omega, Nat.mul_add_mod, Nat.mod_eq_of_lt (by omega)]
  omega
theorem padZ_lt (L n : Nat) (hn : 0 < n) : padZ L n < n := Nat.mod_lt _ hn
theorem padI_length (text : List Int) (n : Nat) : (padI text n).length = text.length + 1 + padZ text.length n := by simp [padI]; omega
theorem padI_byt (text : List Int) (n : Nat) (h : Byt text) : Byt (padI text n) := by
  intro x hx
  simp only [padI, List.mem_append, List.mem_singleton] at hx
  rcases hx with (hx | hx) | hx
  · exact h x hx
  · omega
  · have := List.eq_of_mem_replicate hx; omega

set_option maxRecDepth 100000 in
set_option maxHeartbeats 2000000 in
theorem Pad_any (A : Option Addr) (L c : Nat) (text : List Int) (n : Nat) (w : World) (hL : L = text.length) (hr : Rd .u8 w A text) (h0 : A = none → c = 0) (hL2 : L ≤ 1000000) (hn : 0 < n) (hn2 : n ≤ 1000) :
    Calls Tryd.prog 19 #[.slice A L c, .int .i64 n] w (RetOwn (padI text n) w) := by
  have HC := Hd.mk (CloneO A L c text w hL hr h0 (by omega))
  obtain ⟨Z, hZ⟩ : ∃ Z, Hd (Z = padZ L n) := ⟨_, ⟨rfl⟩⟩
  have hZn : Hd (Z < n) := ⟨by rw [hZ.out]; exact padZ_lt L n hn⟩
  have HL := Hd.mk hL
  have hnz : ¬ ((n : Int) = 0) := by omega
  clear hL hr h0
  go_enter Tryd.func19, Tryd.ntmps19
  go_wp2_with (first
    | (go_at_call 32; (with_reducible refine HC.out.mono ?_); rintro e w1 ⟨v, rfl, h1, h2⟩)
    | (refine one_any slU8 rfl _ rfl rfl ?_; intro g2 w2 h3 h4 h5)
    | (at_builtin; refine append_any slU8 rfl _ _ rfl rfl (h1.below h4) rfl rfl h5 (fun e => by cases e) (by have := HL.out; simp only [List.length_cons, List.length_nil]; omega) (Nat.le_trans h2.size h4.size) ?_; intro v3 w3 h6 h7 h8;
       obtain ⟨A3, c3, e3, j1, j2, j3, j4⟩ := h6.reads; subst e3))
  have hB := Hd.mk (h7.below (h2.trans (h4.mono h2.size)) (Nat.le_trans h2.size h4.size) (fun b hb => ((h1.below h4).lt b hb).1))
  have hO : Hd (Own .u8 5 w3 w.heap.size (.slice A3 (text ++ [128]).length c3) (text ++ [128] ++ List.replicate 0 0)) := ⟨by simpa using h6⟩
  clear h1 h2 h3 h4 h5 h6 h7 h8 j1 j2 j3 j4
  go_loopg [5] (Z + 1) (fun q v5 wr => ∃ (k p cc : Nat) (AA : Option Addr), k ≤ Z ∧ Hd (q + k = Z + 1) ∧ v5 = .slice AA p cc ∧ Hd (p = L + 1 + k) ∧ Hd (Own .u8 5 wr w.heap.size (.slice AA p cc) (text ++ [128] ++ List.replicate k 0)) ∧ Hd (Below w.heap.size w wr))
  case atStart =>
    have e : (text ++ [128]).length = L + 1 + 0 := by have := HL.out; simp; omega
    have h := hO.out
    rw [e] at h
    exact ⟨0, L + 1 + 0, c3, A3, by omega, ⟨by omega⟩, by simp [← HL.out], ⟨rfl⟩, ⟨h⟩, hB⟩
  case round =>
    clear hO hB
    obtain ⟨k, p, cc, AA, hk, hq, rfl, hp, hO, hB⟩ := hrel
    obtain ⟨r, hr⟩ : ∃ r, Hd (r = p % n) := ⟨_, ⟨rfl⟩⟩
    have hmod : (p : Int).tmod (n : Int) = (r : Int) := by rw [hr.out, Int.ofNat_tmod]
    by_cases hlt : k < Z
    · have hr0 : r ≠ 0 := by rw [hr.out, hp.out]; exact padZ_mid L n k hn (by rw [← hZ.out]; exact hlt)
      have t1 : ¬ ((r : Int) = 0) := by omega
      have hl6 : Hd ((text ++ [128] ++ List.replicate k 0).length = p) := ⟨by have := HL.out; have := hp.out; simp; omega⟩
      clear hr0
      go_wp2_with (first
        | (refine one_any slU8 rfl _ rfl rfl ?_; intro g5 w5 h51 h52 h53)
        | (at_builtin; refine append_any slU8 rfl _ _ rfl rfl (hO.out.below h52) rfl rfl h53 (fun e => by cases e) (by rw [hl6.out]; have := hp.out; have := hZn.out; simp only [List.length_cons, List.length_nil]; omega) (Nat.le_trans hB.out.size h52.size) ?_; intro v6 w6 h61 h62 h63))
      obtain ⟨A6, c6, e6, j1, j2, j3, j4⟩ := id h61.reads
      subst e6
      go_roundg (Z + 1 - (k + 1))
      case measure => have := hq.out; omega
      case rel =>
        have e : (text ++ [128] ++ List.replicate k 0 ++ [0]).length = p + 1 := by rw [List.length_append, hl6.out]; rfl
        have e2 : text ++ [128] ++ List.replicate k 0 ++ [0] = text ++ [128] ++ List.replicate (k + 1) 0 := by rw [List.replicate_succ', List.append_assoc]
        rw [e2] at h61
        rw [e2] at e
        rw [e] at h61
        refine ⟨k + 1, p + 1, c6, A6, by omega, ⟨by omega⟩, ?_, ⟨by have := hp.out; omega⟩, ⟨h61⟩, ⟨h62.below (hB.out.trans (h52.mono hB.out.size)) (Nat.le_trans hB.out.size h52.size) (fun b6 hb6 => ((hO.out.below h52).lt b6 hb6).1)⟩⟩
        rw [← e, ← e2]
    · obtain rfl : k = Z := by omega
      have hr0 : r = 0 := by rw [hr.out, hp.out, hZ.out]; exact padZ_end L n hn
      have t1 : ((r : Nat) : Int) = 0 := by omega
      have hv := hO.out
      go_wp2
      go_ret
      refine ⟨_, rfl, ?_, hB.out⟩
      rw [padI, ← HL.out, ← hZ.out]
      exact hv

theorem add_succ (a : Addr) (k : Nat) : a.add (k + 1) = ⟨a.block, a.off + (k + 1), none⟩ := by unfold Addr.add; simp
theorem add_zero (a : Addr) : a.add 0 = a := by unfold Addr.add; simp

/-! Doubled. -/
def dblA (b : List Int) (i : Nat) : Int := if i + 1 < b.length then bits .or .u8 (b.getD i 0 * 2 % 256) (b.getD (i + 1) 0 / 128) else b.getD i 0 * 2 % 256
def dblTo (b : List Int) : Nat → List Int
  | 0 => List.replicate b.length 0
  | k + 1 => (dblTo b k).set k (dblA b k)
theorem dblTo_length (b : List Int) (k : Nat) : (dblTo b k).length = b.length := by
  induction k with
  | zero => simp [dblTo]
  | succ k ih => rw [dblTo, List.length_set, ih]
def doubledI (b : List Int) : List Int :=
  if (bits .and .u8 (b.getD 0 0) 128 != 0) = true then (dblTo b b.length).set (b.length - 1) (bits .xor .u8 ((dblTo b b.length).getD (b.length - 1) 0) (if b.length = 8 then 27 else 135)) else dblTo b b.length
theorem doubledI_length (b : List Int) : (doubledI b).length = b.length := by
  unfold doubledI
  split <;> simp [dblTo_length]

set_option maxRecDepth 100000 in
set_option maxHeartbeats 4000000 in
theorem doubled_any (ad : Addr) (n c : Nat) (b : List Int) (w : World) (hb : n = b.length) (hr : Rd .u8 w (some ad) b) (hn : n = 8 ∨ n = 16) :
    Calls Tryd.prog 42 #[.slice (some ad) n c] w (RetOwn (doubledI b) w) := by
  have HB := Hd.mk hb; have HR := Hd.mk hr
  have hn0 : 0 < n := by omega
  have hn1 : n ≤ 16 := by omega
  have HN := Hd.mk hn
  clear hb hr hn
  go_enter Tryd.func42, Tryd.ntmps42
  go_wp2_with (first
    | (refine make_any slU8 rfl _ _ rfl n rfl rfl (by omega) ?_; intro g w1 h1 h2 h3 h4))
  have hO : Hd (Own .u8 5 w1 w.heap.size (.slice (some ⟨g, 0, none⟩) n n) (dblTo b 0)) := ⟨by rw [dblTo, ← HB.out]; exact h4⟩
  have hBB := Hd.mk h3
  have hg := Hd.mk h1
  clear h1 h2 h3 h4
  go_loopg [11] (n + 1) (fun q v11 wr => ∃ (k : Nat), k ≤ n ∧ Hd (q + k = n + 1) ∧ v11 = .int .i64 k ∧ Hd (Own .u8 5 wr w.heap.size (.slice (some ⟨g, 0, none⟩) n n) (dblTo b k)) ∧ Hd (Below w.heap.size w wr))
  case atStart => exact ⟨0, by omega, ⟨by omega⟩, rfl, hO, hBB⟩
  case round =>
    clear hO hBB
    obtain ⟨k, hk, hq, rfl, hO, hB⟩ := hrel
    have hl : Hd (n = (dblTo b k).length) := ⟨by rw [dblTo_length]; exact HB.out⟩
    by_cases hlt : k < n
    · obtain ⟨ad', eA, e1⟩ := (HR.out.below hB.out).get k (by have := HB.out; omega)
      cases eA
      obtain ⟨x, hx⟩ : ∃ x, Hd (b.getD k 0 = x) := ⟨_, ⟨rfl⟩⟩
      rw [hx.out] at e1
      have e3 := hO.out.cell hl.out k (by have := hl.out; omega)
      have e4 := hO.out.frozen hl.out k
      have hst := hO.out.store hl.out k (x * 2 % 256)
      have hB2 := Hd.mk (hst.2.below hB.out hB.out.size (fun b' hb' => (hO.out.lt b' hb').1))
      have hO2 := Hd.mk hst.1
      clear hst
      by_cases hl2 : k + 1 < n
      · have t1 : (k : Int) + 1 < (n : Int) := by omega
        have hA : Hd (∀ y, b.getD (k + 1) 0 = y → dblTo b (k + 1) = (dblTo b k).set k (bits .or .u8 (x * 2 % 256) (y / 128))) := ⟨fun y hy => by
          rw [dblTo, dblA, if_pos (by rw [← HB.out]; exact hl2), hx.out, hy]⟩
        go_wp2
        generalize hW : wr.setCell ⟨g, k, none⟩ (.int .u8 (x * 2 % 256)) = w2 at *
        clear hW e1 e3 e4
        have hl3 : Hd (n = ((dblTo b k).set k (x * 2 % 256)).length) := ⟨by rw [List.length_set]; exact hl.out⟩
        have d3 := hO2.out.cell hl3.out k (by rw [List.length_set]; have := hl.out; omega)
        have d4 := hO2.out.frozen hl3.out k
        have hgd : Hd (((dblTo b k).set k (x * 2 % 256)).getD k 0 = x * 2 % 256) := ⟨by simp [List.getD, List.getElem?_set, show k < (dblTo b k).length by have := hl.out; omega]⟩
        rw [hgd.out] at d3
        obtain ⟨ad', eA, d1⟩ := (HR.out.below hB2.out).get (k + 1) (by have := HB.out; omega)
        cases eA
        obtain ⟨y, hy⟩ : ∃ y, Hd (b.getD (k + 1) 0 = y) := ⟨_, ⟨rfl⟩⟩
        rw [hy.out, add_succ] at d1
        have i1 : IntKind.i64.wrap ((k : Int) + 1) = (k : Int) + 1 := wrap_id (by omega) (by omega)
        have i2 : 0 ≤ (k : Int) + 1 := by omega
        have i3 : ((k : Int) + 1).toNat = k + 1 := by omega
        refine Lead.wp_region_lead_drawn 12 (by kernel_rfl) (by kernel_rfl) ?_
        simp only [List.take_succ_cons, List.take_zero, List.drop_succ_cons, List.drop_zero]
        repeat (first | go_big_quiet_step (fail) | quiet_step (fail))
        refine wpQuiet_nil ?_
        intro kq
        clear d1 i1 i2 i3
        go_wp2
        go_roundg (n + 1 - (k + 1))
        case measure => have := hq.out; omega
        case rel =>
          have hst := (hO2.out.drewN kq).store hl3.out k (bits .or .u8 (x * 2 % 256) (y / 128))
          refine ⟨k + 1, by omega, ⟨by omega⟩, by go_num, ⟨?_⟩, ⟨?_⟩⟩
          · have h := hst.1
            rw [List.set_set] at h
            rw [hA.out y hy.out]; exact h
          · exact hst.2.below (below_drewN hB2.out kq) hB2.out.size (fun b' hb' => ((hO2.out.drewN kq).lt b' hb').1)
      · have t1 : ¬ ((k : Int) + 1 < (n : Int)) := by omega
        have hA : Hd (dblTo b (k + 1) = (dblTo b k).set k (x * 2 % 256)) := ⟨by rw [dblTo, dblA, if_neg (by rw [← HB.out]; exact hl2), hx.out]⟩
        go_wp2
        go_roundg (n + 1 - (k + 1))
        case measure => have := hq.out; omega
        case rel =>
          refine ⟨k + 1, by omega, ⟨by omega⟩, by go_num, ⟨?_⟩, hB2⟩
          rw [hA.out]; exact hO2.out
    · obtain rfl : k = n := by omega
      obtain ⟨ad', eA, e1⟩ := (HR.out.below hB.out).get 0 (by have := HB.out; omega)
      cases eA
      obtain ⟨x, hx⟩ : ∃ x, Hd (b.getD 0 0 = x) := ⟨_, ⟨rfl⟩⟩
      rw [hx.out, add_zero] at e1
      obtain ⟨m, hm⟩ : ∃ m, Hd (k = m + 1) := ⟨k - 1, ⟨by omega⟩⟩
      have i1 : (k : Int) - 1 = (m : Int) := by have := hm.out; omega
      have i2 : m < k := by have := hm.out; omega
      have e3 := hO.out.cell hl.out m (by have := hl.out; omega)
      have e4 := hO.out.frozen hl.out m
      obtain ⟨z, hz⟩ : ∃ z, Hd ((dblTo b k).getD m 0 = z) := ⟨_, ⟨rfl⟩⟩
      rw [hz.out] at e3
      cases ht : (bits .and .u8 x 128 != 0) with
      | false =>
        have hres : Hd (doubledI b = dblTo b k) := ⟨by rw [doubledI, hx.out, if_neg (by rw [ht]; simp), ← HB.out]⟩
        go_wp2
        go_ret
        exact ⟨_, rfl, hres.out ▸ hO.out, hB.out⟩
      | true =>
        have hres : Hd (∀ t, (if k = 8 then 27 else 135) = t → doubledI b = (dblTo b k).set m (bits .xor .u8 z t)) := ⟨fun t h => by
          rw [doubledI, hx.out, if_pos ht, ← HB.out, h, show k - 1 = m by have := hm.out; omega, hz.out]⟩
        rcases HN.out with h8 | h8
        · have t8 : ((k : Int) == 8) = true := by simp; omega
          have h27 := Hd.mk (hres.out 27 (by rw [if_pos h8]))
          clear h8
          have hst := Hd.mk (hO.out.store hl.out m (bits .xor .u8 z 27))
          go_wp2
          go_ret
          refine ⟨_, rfl, ?_, hst.out.2.below hB.out hB.out.size (fun b' hb' => (hO.out.lt b' hb').1)⟩
          rw [h27.out]; exact hst.out.1
        · have t8 : ((k : Int) == 8) = false := by simp; omega
          have h27 := Hd.mk (hres.out 135 (by rw [if_neg (by omega)]))
          clear h8
          have hst := Hd.mk (hO.out.store hl.out m (bits .xor .u8 z 135))
          go_wp2
          go_ret
          refine ⟨_, rfl, ?_, hst.out.2.below hB.out hB.out.size (fun b' hb' => (hO.out.lt b' hb').1)⟩
          rw [h27.out]; exact hst.out.1

/-! The last block of a chained text. -/
theorem New.cut {w : World} {base : Nat} {A : Option Addr} {n c : Nat} {xs : List Int} (h : New w base (.slice A n c) xs) (hn : xs.length = n) (k : Nat) (hk : k < n) :
    ∃ ad, A = some ad ∧ New w base (.slice (some (ad.add k)) (n - k) (c - k)) (xs.drop k) := by
  obtain ⟨A', c', e, h1, h2, h3, h4⟩ := h
  injection e with e1 e2 e3
  subst e1 e3
  obtain ⟨ad, rfl, _⟩ := h2.get 0 (by omega)
  refine ⟨ad, rfl, some (ad.add k), c - k, by rw [List.length_drop, hn], by rw [List.length_drop]; omega, ?_, (fun e => by cases e), fun ad' e => ?_⟩
  · have := h2.cut k c h1
    rw [if_neg (by omega)] at this
    exact this
  · cases e
    obtain ⟨q1, q2, q3⟩ := h4 ad rfl
    refine ⟨by rw [block_add]; exact q1, by rw [block_add]; exact q2, fun j => ?_⟩
    rw [add_add]; exact q3 _

set_option maxRecDepth 100000 in
set_option maxHeartbeats 2000000 in
theorem mchain_ok (n m B gc : Nat) (kind : Int) (key : List Int) (bk : Option Addr) (F : List Int → List Int) (hF : DoOk n kind key bk false F) (A : Option Addr) (N c : Nat) (xs : List Int) (w : World)
    (hc : Ciph B w gc kind key bk) (hN : N = xs.length) (hm : xs.length = n * (m + 1)) (hN2 : N ≤ 1000000) (hcap : N ≤ c) (hr : Rd .u8 w A xs) (hb : Byt xs) :
    Calls Tryd.prog 33 #[.pointer (some ⟨gc, 0, none⟩), .slice A N c] w (RetNewNil (lastF F n (List.replicate n 0) xs (m + 1)) w) := by
  have hn816 : n = 8 ∨ n = 16 := by have := hF.size; split at this <;> omega
  have SZ : Hd (∀ w' B', Ciph B' w' gc kind key bk → Calls Tryd.prog 15 #[.pointer (some ⟨gc, 0, none⟩)] w' fun e w'' => e = .returned (.int .i64 (n : Nat)) ∧ w' = w'') := ⟨fun w' B' h => by rw [hF.size]; exact Size_any B' gc w' kind key bk h⟩
  have HC := Hd.mk hc; have HR := Hd.mk hr
  obtain ⟨X, hX⟩ : ∃ X, Hd (chainF F n (m + 1) (List.replicate n 0) xs = X) := ⟨_, ⟨rfl⟩⟩
  have hXl : Hd (X.length = N) := ⟨by
    have := chainLen_ n (m + 1) kind key bk false F hF (List.replicate n 0) xs (by simp) hm
    rw [← hX.out, hN, hm]; simpa using this⟩
  obtain ⟨Nn, hNn⟩ : ∃ Nn, Hd (Nn = n * m) := ⟨_, ⟨rfl⟩⟩
  have hNN : N = Nn + n := by rw [hN, hm, hNn.out, Nat.mul_succ]
  have i1 : (N : Int) - (n : Int) = (Nn : Int) := by omega
  have i2 : N - Nn = n := by omega
  have i3 : Nn ≤ N := by omega
  have HNN := Hd.mk hNN
  have hlast : Hd (X.drop Nn = lastF F n (List.replicate n 0) xs (m + 1)) := ⟨by
    rw [← hX.out, hNn.out]
    exact chainLast_ F n m (List.replicate n 0) xs (fun i hi => lastF_length F n (m + 1) _ xs hF.len (by simp) hm i hi)⟩
  rw [← hlast.out]
  have cX : Hd (∀ (w' : World) g, Ciph B w' gc kind key bk → Rd .u8 w' A xs → Rd .u8 w' (some ⟨g, 0, none⟩) (List.replicate n 0) →
      Calls Tryd.prog 17 #[.pointer (some ⟨gc, 0, none⟩), .slice (some ⟨g, 0, none⟩) n n, .slice A N c, .bool false] w' (RetNewNil X w')) := ⟨fun w' g h1 h2 h3 => by
    have h := Chained_ok n (m + 1) B gc kind key bk false F hF A (some ⟨g, 0, none⟩) N c n (List.replicate n 0) xs w' h1 (by simp) h3 hN hm hN2 hcap h2 hb
    rw [if_neg Bool.false_ne_true, hX.out] at h; exact h⟩
  have hn16 : n ≤ 16 := by omega
  have hn0 : 0 < n := by omega
  clear hc hr hm hN hF hb hNN hn816
  go_enter Tryd.func33, Tryd.ntmps33
  go_wp2_with (first
    | (have hh := l6; go_at_call 15; (with_reducible refine (SZ.out w4 _ (HC.out.below (h3.trans (l6.mono h3.size)) HC.out.size)).mono ?_); rintro e w' ⟨rfl, rfl⟩)
    | (go_at_call 15; (with_reducible refine (SZ.out w _ HC.out).mono ?_); rintro e w' ⟨rfl, rfl⟩)
    | (refine make_any slU8 rfl _ _ rfl n rfl rfl (by omega) ?_; intro g w1 h1 h2 h3 h4;
       have RZ : Hd (Rd .u8 w1 (some ⟨g, 0, none⟩) (List.replicate n 0)) := ⟨by obtain ⟨A', c', e, _, _, r, _⟩ := h4.reads; injection e with e1; rw [← e1] at r; exact r⟩)
    | (go_at_call 17; (with_reducible refine (cX.out w1 g (HC.out.below h3 HC.out.size) (HR.out.below h3) RZ.out).mono ?_); intro e w4 hh; obtain ⟨Ax, cx, rfl, l1, l2, l3, l4, l5, l6⟩ := hh.len N hXl.out;
       obtain ⟨ax, eax, l7⟩ := l1.cut hXl.out Nn (by have := HNN.out; omega); subst eax;
       have hcx : ¬ (cx = Nn) := by have := HNN.out; omega;
       have hcx2 : Nn ≤ cx := by omega))
  go_ret2
  rw [i2] at l7
  exact ⟨_, rfl, l7.lower h3.size, h3.trans (l6.mono h3.size)⟩
end Go.Proofs.YtommgcebjhkneaaDoor

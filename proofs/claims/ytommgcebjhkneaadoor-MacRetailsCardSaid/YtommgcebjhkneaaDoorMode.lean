/-
  mode: bytes turned by others; the plain answers of lockboxref02.Same and lockboxref06.Xor. Conditions: slices that can be read, of at most a million bytes.
-/
import Derived.Test.YtommgcebjhkneaaDoorBlock2
import Derived.Test.YtommgcebjhkneaaDoorPush
namespace Go.Proofs.YtommgcebjhkneaaDoor
open Go Go.RowKit
set_option linter.unusedVariables false
set_option linter.unusedSimpArgs false

def xorI (xs ys : List Int) : List Int := List.zipWith (bits .xor .u8) xs ys
def xorTo (xs ys : List Int) : Nat → List Int
  | 0 => List.replicate xs.length 0
  | k + 1 => (xorTo xs ys k).set k (bits .xor .u8 (xs.getD k 0) (ys.getD k 0))
theorem xorI_length (xs ys : List Int) (h : xs.length = ys.length) : (xorI xs ys).length = xs.length := by simp [xorI]; omega
theorem xorTo_length (xs ys : List Int) (k : Nat) : (xorTo xs ys k).length = xs.length := by
  induction k with
  | zero => simp [xorTo]
  | succ k ih => rw [xorTo, List.length_set, ih]
theorem xorTo_get (xs ys : List Int) (k j : Nat) (hj : j < k) (hk : k ≤ xs.length) : (xorTo xs ys k)[j]? = some (bits .xor .u8 (xs.getD j 0) (ys.getD j 0)) := by
  induction k with
  | zero => omega
  | succ k ih =>
    rw [xorTo, List.getElem?_set]
    by_cases h : k = j
    · subst h; rw [if_pos rfl, if_pos (by rw [xorTo_length]; omega)]
    · rw [if_neg h]; exact ih (by omega) (by omega)
theorem xorTo_all (xs ys : List Int) (h : xs.length = ys.length) : xorTo xs ys xs.length = xorI xs ys := by
  apply List.ext_getElem?
  intro j
  by_cases hj : j < xs.length
  · rw [xorTo_get xs ys _ j hj (Nat.le_refl _)]
    simp [xorI, List.getElem?_zipWith, hj, h ▸ hj]
  · rw [List.getElem?_eq_none (by rw [xorTo_length]; omega), List.getElem?_eq_none (by rw [xorI_length _ _ h]; omega)]

def Byt (xs : List Int) : Prop := ∀ x ∈ xs, 0 ≤ x ∧ x ≤ 255
theorem bv_u8 (a : Int) (ha : 0 ≤ a ∧ a ≤ 255) : ((BitVec.ofInt 8 a).toNat : Int) = a := by
  rw [BitVec.toNat_ofInt]; omega
theorem xor_u8 (a b : Int) : bits .xor .u8 a b = ((BitVec.ofInt 8 a ^^^ BitVec.ofInt 8 b).toNat : Int) := by
  show IntKind.u8.wrap ((BitVec.ofInt 8 a ^^^ BitVec.ofInt 8 b).toNat : Int) = _
  have h := (BitVec.ofInt 8 a ^^^ BitVec.ofInt 8 b).isLt
  generalize (BitVec.ofInt 8 a ^^^ BitVec.ofInt 8 b).toNat = m at *
  simp [IntKind.wrap, IntKind.signed, IntKind.bits]
  omega
theorem ofInt_toNat (x : BitVec 8) : BitVec.ofInt 8 (x.toNat : Int) = x := by
  apply BitVec.eq_of_toNat_eq
  rw [BitVec.toNat_ofInt]
  have := x.isLt
  omega
theorem xor_xor (a b : Int) (ha : 0 ≤ a ∧ a ≤ 255) : bits .xor .u8 (bits .xor .u8 a b) b = a := by
  rw [xor_u8, xor_u8, ofInt_toNat, BitVec.xor_assoc, BitVec.xor_self, BitVec.xor_zero, bv_u8 a ha]
theorem xor_byt (a b : Int) : 0 ≤ bits .xor .u8 a b ∧ bits .xor .u8 a b ≤ 255 := by
  rw [xor_u8]
  have h := (BitVec.ofInt 8 a ^^^ BitVec.ofInt 8 b).isLt
  omega
theorem xorI_xorI : ∀ (xs ys : List Int), Byt xs → xs.length = ys.length → xorI (xorI xs ys) ys = xs
  | [], _, _, _ => rfl
  | x :: xs, [], _, h => by cases h
  | x :: xs, y :: ys, hb, h => by
    have ih := xorI_xorI xs ys (fun z hz => hb z (List.mem_cons_of_mem _ hz)) (by simpa using h)
    unfold xorI at ih ⊢
    simp only [List.zipWith_cons_cons]
    rw [ih, xor_xor x y (hb x (List.mem_cons_self ..))]

theorem xorI_byt : ∀ (xs ys : List Int), Byt (xorI xs ys)
  | [], ys => fun x hx => by simp [xorI] at hx
  | x :: xs, [] => fun z hz => by simp [xorI] at hz
  | x :: xs, y :: ys => fun z hz => by
    have ih := xorI_byt xs ys
    unfold xorI at ih hz
    rw [List.zipWith_cons_cons, List.mem_cons] at hz
    rcases hz with rfl | hz
    · exact xor_byt _ _
    · exact ih z hz

/-- The errors of mode.Xor: its answer is empty. -/
def RetErr (n : Int) (w : World) (e : Ending) (w' : World) : Prop := e = .returned (.tuple #[.slice none 0 0, errV (some n)]) ∧ Below w.heap.size w w'

set_option maxRecDepth 100000 in
set_option maxHeartbeats 2000000 in
theorem Xor_no (A A2 : Option Addr) (n c n2 c2 : Nat) (w : World) (hn : n ≠ n2) :
    Calls Tryd.prog 9 #[.slice A n c, .slice A2 n2 c2] w fun e w' => e = .returned (.tuple #[.slice none 0 0, errV (some 2)]) ∧ w = w' := by
  have hn' : ¬ ((n : Int) = (n2 : Int)) := by omega
  go_enter Tryd.func9, Tryd.ntmps9
  go_wp2
  go_ret2
  exact ⟨rfl, rfl⟩

set_option maxRecDepth 100000 in
set_option maxHeartbeats 4000000 in
theorem Xor_ok (A A2 : Option Addr) (n c c2 : Nat) (xs ys : List Int) (w : World) (hx : n = xs.length) (hy : n = ys.length) (hn : n ≤ 1000000) (hr : Rd .u8 w A xs) (hr2 : Rd .u8 w A2 ys) :
    Calls Tryd.prog 9 #[.slice A n c, .slice A2 n c2] w (RetNewNil (xorI xs ys) w) := by
  have HX := Hd.mk hx; have HY := Hd.mk hy; have HR := Hd.mk hr; have HR2 := Hd.mk hr2
  clear hx hy hr hr2
  go_enter Tryd.func9, Tryd.ntmps9
  go_wp2_with (first
    | (refine make_any slU8 rfl _ _ rfl n rfl rfl (by omega) ?_; intro g w1 h1 h2 h3 h4))
  have hO : Hd (Own .u8 5 w1 w.heap.size (.slice (some ⟨g, 0, none⟩) n n) (xorTo xs ys 0)) := ⟨by rw [xorTo, ← HX.out]; exact h4⟩
  have hB := Hd.mk h3
  have hg := Hd.mk h1
  clear h1 h2 h3 h4
  go_loopg [7, 19] (n + 1) (fun q v7 v19 wr => ∃ (k : Nat), k ≤ n ∧ Hd (q + k = n + 1) ∧ v19 = .int .i64 k ∧ Hd (Own .u8 5 wr w.heap.size (.slice (some ⟨g, 0, none⟩) n n) (xorTo xs ys k)) ∧ Hd (Below w.heap.size w wr))
  case atStart => exact ⟨0, by omega, ⟨by omega⟩, rfl, hO, hB⟩
  case round =>
    clear hO hB
    obtain ⟨k, hk, hq, rfl, hO, hB⟩ := hrel
    by_cases hlt : k < n
    · obtain ⟨ad, eA, e1⟩ := (HR.out.below hB.out).get k (by have := HX.out; omega)
      obtain ⟨ad2, eA2, e2⟩ := (HR2.out.below hB.out).get k (by have := HY.out; omega)
      subst eA eA2
      obtain ⟨x, hx⟩ : ∃ x, Hd (xs.getD k 0 = x) := ⟨_, ⟨rfl⟩⟩
      obtain ⟨y, hy⟩ : ∃ y, Hd (ys.getD k 0 = y) := ⟨_, ⟨rfl⟩⟩
      rw [hx.out] at e1
      rw [hy.out] at e2
      have e3 := hO.out.cell (by rw [xorTo_length]; exact HX.out) k (by rw [xorTo_length]; have := HX.out; omega)
      obtain ⟨z, hz⟩ : ∃ z, Hd ((xorTo xs ys k).getD k 0 = z) := ⟨_, ⟨rfl⟩⟩
      rw [hz.out] at e3
      have e4 := hO.out.frozen (by rw [xorTo_length]; exact HX.out) k
      go_wp2
      refine Lead.wp_region_lead_drawn 11 (by kernel_rfl) (by kernel_rfl) ?_
      simp only [List.take_succ_cons, List.take_zero, List.drop_succ_cons, List.drop_zero]
      repeat (first | go_big_quiet_step (fail) | quiet_step (fail))
      refine wpQuiet_nil ?_
      intro kq
      clear e1 e2
      go_wp2
      go_roundg (n + 1 - (k + 1))
      case measure => have := hq.out; omega
      case rel =>
        have hst := (hO.out.drewN kq).store (by rw [xorTo_length]; exact HX.out) k (bits .xor .u8 x y)
        refine ⟨k + 1, by omega, ⟨by omega⟩, by go_num, ⟨?_⟩, ⟨?_⟩⟩
        · rw [xorTo, hx.out, hy.out]; exact hst.1
        · exact hst.2.below (below_drewN hB.out kq) hB.out.size (fun b hb => ((hO.out.drewN kq).lt b hb).1)
    · obtain rfl : k = n := by omega
      go_wp2
      go_ret2
      refine ⟨_, rfl, ?_, hB.out⟩
      have h := hO.out
      rw [HX.out, xorTo_all xs ys (by have := HX.out; have := HY.out; omega), ← HX.out] at h
      exact New.of_own h

set_option maxRecDepth 100000 in
set_option maxHeartbeats 4000000 in
theorem Same_any (A A2 : Option Addr) (n c n2 c2 : Nat) (xs ys : List Int) (w : World) (hx : n = xs.length) (hy : n2 = ys.length) (hn : n ≤ 1000000) (hr : Rd .u8 w A xs) (hr2 : Rd .u8 w A2 ys) :
    Calls Tryd.prog 11 #[.slice A n c, .slice A2 n2 c2] w fun e w' => e = .returned (.bool (decide (xs = ys))) ∧ ∃ k, w' = w.drewN k := by
  have HX := Hd.mk hx; have HY := Hd.mk hy; have HR := Hd.mk hr; have HR2 := Hd.mk hr2
  clear hx hy hr hr2
  by_cases hl : n = n2
  · have hl' : (n : Int) = (n2 : Int) := by omega
    go_enter Tryd.func11, Tryd.ntmps11
    go_wp2
    go_loopg [5] (n + 1) (fun q v5 wr => ∃ (k kk : Nat), k ≤ n ∧ Hd (q + k = n + 1) ∧ v5 = .int .i64 k ∧ Hd (xs.take k = ys.take k) ∧ Hd (wr = w.drewN kk))
    case atStart => exact ⟨0, 0, by omega, ⟨by omega⟩, rfl, ⟨by simp⟩, ⟨rfl⟩⟩
    case round =>
      obtain ⟨k, kk, hk, hq, rfl, hT, hw⟩ := hrel
      obtain rfl := hw.out
      clear hw
      by_cases hlt : k < n
      · obtain ⟨ad, eA, e1⟩ := HR.out.get k (by have := HX.out; omega)
        obtain ⟨ad2, eA2, e2⟩ := HR2.out.get k (by have := HY.out; omega)
        subst eA eA2
        obtain ⟨x, hx⟩ : ∃ x, Hd (xs.getD k 0 = x) := ⟨_, ⟨rfl⟩⟩
        obtain ⟨y, hy⟩ : ∃ y, Hd (ys.getD k 0 = y) := ⟨_, ⟨rfl⟩⟩
        rw [hx.out] at e1
        rw [hy.out] at e2
        have h1 : Hd (xs[k]? = some x) := ⟨by rw [← hx.out]; simp [List.getD, show k < xs.length by have := HX.out; omega]⟩
        have h2 : Hd (ys[k]? = some y) := ⟨by rw [← hy.out]; simp [List.getD, show k < ys.length by have := HY.out; omega]⟩
        by_cases hxy : x = y
        · subst hxy
          go_wp2
          go_quiet (fail)
          go_wp2
          go_roundg (n + 1 - (k + 1))
          case measure => have := hq.out; omega
          case rel => exact ⟨k + 1, _, by omega, ⟨by omega⟩, by go_num, ⟨by rw [List.take_add_one, List.take_add_one, hT.out, h1.out, h2.out]⟩, ⟨rfl⟩⟩
        · go_wp2
          go_quiet (fail)
          go_wp2
          go_ret
          refine ⟨?_, kk + nq, by rw [World.drewN_drewN]⟩
          have : xs ≠ ys := fun e => hxy (by have a := h1.out; have b := h2.out; rw [e, b] at a; exact (Option.some.inj a).symm)
          simp [this]
      · obtain rfl : k = n := by omega
        go_wp2
        go_ret
        refine ⟨?_, _, rfl⟩
        have h := hT.out
        rw [List.take_of_length_le (by have := HX.out; omega), List.take_of_length_le (by have := HY.out; omega)] at h
        simp [h]
  · have hl' : ¬ ((n : Int) = (n2 : Int)) := by omega
    go_enter Tryd.func11, Tryd.ntmps11
    go_wp2
    go_ret
    have : xs ≠ ys := fun e => hl (by have := HX.out; have := HY.out; rw [e] at *; omega)
    exact ⟨by simp [this], 0, rfl⟩

set_option maxRecDepth 100000 in
set_option maxHeartbeats 4000000 in
theorem RefXor_any (A A2 : Option Addr) (n c n2 c2 : Nat) (xs ys : List Int) (w : World) (hx : n = xs.length) (hy : n2 = ys.length) (hn : n ≤ 1000000) (hr : Rd .u8 w A xs) (hr2 : Rd .u8 w A2 ys) :
    Calls Tryd.prog 12 #[.slice A n c, .slice A2 n2 c2] w (RetNew (xorI xs ys) w) := by
  have HX := Hd.mk hx; have HY := Hd.mk hy; have HR := Hd.mk hr; have HR2 := Hd.mk hr2
  clear hx hy hr hr2
  have hlen : Hd ((xorI xs ys).length = min n n2) := ⟨by simp [xorI, HX.out, HY.out]⟩
  have hget : Hd (∀ k, k < n → k < n2 → (xorI xs ys).take (k + 1) = (xorI xs ys).take k ++ [bits .xor .u8 (xs.getD k 0) (ys.getD k 0)]) := ⟨fun k h1 h2 => by
    have a1 : k < xs.length := by have := HX.out; omega
    have a2 : k < ys.length := by have := HY.out; omega
    rw [List.take_add_one]; simp [xorI, List.getElem?_zipWith, a1, a2]⟩
  go_enter Tryd.func12, Tryd.ntmps12
  go_wp2
  go_loopg [5, 6] (n + 1) (fun q v5 v6 wr => ∃ (k : Nat), k ≤ n ∧ k ≤ n2 ∧ Hd (q + k = n + 1) ∧ v6 = .int .i64 k ∧ Hd (Own .u8 5 wr w.heap.size v5 ((xorI xs ys).take k)) ∧ Hd (Below w.heap.size w wr))
  case atStart => exact ⟨0, by omega, by omega, ⟨by omega⟩, rfl, ⟨Own.nil _ _⟩, ⟨Below.refl _ _⟩⟩
  case round =>
    obtain ⟨k, hk, hk2, hq, rfl, hO, hB⟩ := hrel
    by_cases hlt : k < n
    · by_cases hlt2 : k < n2
      · obtain ⟨ad, eA, e1⟩ := (HR.out.below hB.out).get k (by have := HX.out; omega)
        obtain ⟨ad2, eA2, e2⟩ := (HR2.out.below hB.out).get k (by have := HY.out; omega)
        subst eA eA2
        obtain ⟨x, hx⟩ : ∃ x, Hd (xs.getD k 0 = x) := ⟨_, ⟨rfl⟩⟩
        obtain ⟨y, hy⟩ : ∃ y, Hd (ys.getD k 0 = y) := ⟨_, ⟨rfl⟩⟩
        rw [hx.out] at e1
        rw [hy.out] at e2
        have hl4 : Hd (((xorI xs ys).take k).length ≤ 1000000) := ⟨by rw [List.length_take]; omega⟩
        go_wp2
        refine Lead.wp_region_push_drawn 10 (by kernel_rfl) (by kernel_rfl) (fun _ _ _ _ _ h => h) ?_
        simp only [List.take_succ_cons, List.take_zero, List.drop_succ_cons, List.drop_zero]
        repeat (first | go_big_quiet_step (fail) | quiet_step (fail))
        refine wpQuiet_nil ?_
        intro kq
        clear e1 e2
        go_wp2_with (first
          | (refine one_any slU8 rfl _ rfl rfl ?_; intro g5 w5 h51 h52 h53)
          | (at_builtin; refine append_any slU8 rfl _ _ rfl rfl ((hO.out.drewN kq).below h52) rfl rfl h53 (fun e => by cases e) (by have := hl4.out; simp only [List.length_cons, List.length_nil]; omega) (Nat.le_trans hB.out.size h52.size) ?_; intro v6 w6 h61 h62 h63))
        go_roundg (n + 1 - (k + 1))
        case measure => have := hq.out; omega
        case rel =>
          refine ⟨k + 1, by omega, by omega, ⟨by omega⟩, by go_num, ⟨?_⟩, ⟨?_⟩⟩
          · rw [hget.out k hlt hlt2, hx.out, hy.out]; exact h61
          · exact h62.below ((below_drewN hB.out kq).trans (h52.mono hB.out.size)) (Nat.le_trans hB.out.size h52.size) (fun b6 hb6 => (((hO.out.drewN kq).below h52).lt b6 hb6).1)
      · obtain rfl : k = n2 := by omega
        have hv := hO.out
        go_wp2
        go_ret
        rw [List.take_of_length_le (by rw [hlen.out]; omega)] at hv
        exact ⟨_, rfl, New.of_own hv, hB.out⟩
    · obtain rfl : k = n := by omega
      have hv := hO.out
      go_wp2
      go_ret
      rw [List.take_of_length_le (by rw [hlen.out]; omega)] at hv
      exact ⟨_, rfl, New.of_own hv, hB.out⟩
end Go.Proofs.YtommgcebjhkneaaDoor

/-
  block: Do, by TDES. Conditions: the key has 8, 16 or 24 bytes; a block of eight bytes that can be read.
-/
import Derived.Test.YtommgcebjhkneaaDoorDes8
import Derived.Deep.RegionHeld3
namespace Go.Proofs.YtommgcebjhkneaaDoor
open Go Go.RowKit
set_option linter.unusedVariables false
set_option linter.unusedSimpArgs false

section
variable {P : Program} {ops : Array Oper} {o : Oper} {a : Act} {w : World} {Q : Exit → Act → World → Prop} {K : Act → World → Prop} {Z : Prop} {T n g : Nat} {t : TypeId} {xs : List Int}
theorem wanted_of {ops : Array Oper} {o : Oper} {a : Act} (hgd : o.guard = none) : Region.wanted o (yielded ops a.tmps) = true := by simp [Region.wanted, hgd]
/-- One step of a region that draws: an array is loaded. -/
theorem step_load_rd (hT : ArrT P T n) (hgd : o.guard = none) (x : Operand) (ho : o.op = .load T x) (ad : Addr) (hx : a.eval x = .pointer (some ad)) (hr : Rd .u8 w (some ad) xs) (hl : xs.length = n)
    (h : K (a.put o.dst (.agg (bs xs).toArray)) w) : if Region.wanted o (yielded ops a.tmps) = true then Oper.wp P o a w K Q else Z := by
  rw [if_pos (wanted_of hgd)]
  have hrun : (execOp a.eval o).run P w = .ok (.value (.agg (bs xs).toArray)) w := by
    unfold execOp
    simp [ho, hx, Instr.loadAt, Instr.sureAddr, asAddr, run_load_rd hT ad hr hl]
  unfold Oper.wp
  rw [hrun]
  exact h
/-- One step of a region that draws: an array is made. -/
theorem step_alloc_arr (hT : ArrT P T n) (hgd : o.guard = none) (ho : o.op = .alloc T)
    (h : ∀ g1 w1, w.heap.size ≤ g1 → g1 < w1.heap.size → Below w.heap.size w w1 → Row w1 g1 T (List.replicate n 0) → K (a.put o.dst (.pointer (some ⟨g1, 0, none⟩))) w1) :
    if Region.wanted o (yielded ops a.tmps) = true then Oper.wp P o a w K Q else Z := by
  rw [if_pos (wanted_of hgd)]
  have hrun : (execOp a.eval o).run P w = .ok (.value (.pointer (some ⟨w.heap.size, 0, none⟩))) (w.alloc (.cells (bs (List.replicate n 0)).toArray T)) := by
    unfold execOp
    simp only [ho, Instr.alloc, Sem.run_bind, hT.zero w, Result.andThen_ok]
    simp [newVar, newRow, Value.cells]
  unfold Oper.wp
  rw [hrun]
  exact h _ _ (Nat.le_refl _) (by simp) ((Below.refl _ _).alloc (Nat.le_refl _) _) (Row.new w T _)
theorem step_store_arr {ys : List Int} (hT : ArrT P T n) (hgd : o.guard = none) (x y : Operand) (ho : o.op = .store T x y) (hx : a.eval x = .pointer (some ⟨g, 0, none⟩)) (hy : a.eval y = .agg (bs ys).toArray)
    (hr : Row w g t xs) (hl : xs.length = n) (hl' : ys.length = n)
    (h : ∀ w1, Only g w w1 → w1.heap.size = w.heap.size → Row w1 g t ys → K (a.put o.dst undef) w1) : if Region.wanted o (yielded ops a.tmps) = true then Oper.wp P o a w K Q else Z := by
  rw [if_pos (wanted_of hgd)]
  refine wp_store_row T x y ho g _ hx hy t _ hr (by rw [hT.size]; simp [bs_length, hl']) (by simp [bs_length, hl, hl']) (bs_one ys) ?_
  refine h _ ⟨rfl, rfl, rfl, by simp, fun k hk hkg => ?_⟩ (by simp) ?_
  · simp only [World.setRow, Array.getElem?_modify]
    rw [if_neg (Ne.symm hkg)]
  · exact setRow_heap w g _ _ t _ hr
end

section
variable {w w1 w2 : World} {g nk ck : Nat} {Ak : Option Addr} {ad : Addr} {x0 x1 x2 x3 x4 x5 x6 x7 : Int}
theorem sK (h : w1.cell? ⟨g, 1, none⟩ = some (.slice Ak nk ck) ∧ w1.cell? ad = some (.int .u8 x0) ∧ w1.cell? ⟨ad.block, ad.off + 1, none⟩ = some (.int .u8 x1) ∧ w1.cell? ⟨ad.block, ad.off + 2, none⟩ = some (.int .u8 x2) ∧ w1.cell? ⟨ad.block, ad.off + 3, none⟩ = some (.int .u8 x3) ∧ w1.cell? ⟨ad.block, ad.off + 4, none⟩ = some (.int .u8 x4) ∧ w1.cell? ⟨ad.block, ad.off + 5, none⟩ = some (.int .u8 x5) ∧ w1.cell? ⟨ad.block, ad.off + 6, none⟩ = some (.int .u8 x6) ∧ w1.cell? ⟨ad.block, ad.off + 7, none⟩ = some (.int .u8 x7) ∧ Below w.heap.size w w1) (hb : Below w1.heap.size w1 w2) : w2.cell? ⟨g, 1, none⟩ = some (.slice Ak nk ck) ∧ w2.cell? ad = some (.int .u8 x0) ∧ w2.cell? ⟨ad.block, ad.off + 1, none⟩ = some (.int .u8 x1) ∧ w2.cell? ⟨ad.block, ad.off + 2, none⟩ = some (.int .u8 x2) ∧ w2.cell? ⟨ad.block, ad.off + 3, none⟩ = some (.int .u8 x3) ∧ w2.cell? ⟨ad.block, ad.off + 4, none⟩ = some (.int .u8 x4) ∧ w2.cell? ⟨ad.block, ad.off + 5, none⟩ = some (.int .u8 x5) ∧ w2.cell? ⟨ad.block, ad.off + 6, none⟩ = some (.int .u8 x6) ∧ w2.cell? ⟨ad.block, ad.off + 7, none⟩ = some (.int .u8 x7) ∧ Below w.heap.size w w2 := by
  obtain ⟨h1, h2, e1, e2, e3, e4, e5, e6, e7, h3⟩ := h
  have k := fun (p : Addr) v (e : w1.cell? p = some v) => (hb.cell (World.block_lt_of_cell? w1 _ e)).trans e
  exact ⟨k _ _ h1, k _ _ h2, k _ _ e1, k _ _ e2, k _ _ e3, k _ _ e4, k _ _ e5, k _ _ e6, k _ _ e7, h3.trans (hb.mono h3.size)⟩
theorem sO (hg : g < w.heap.size) (ha : ad.block < w.heap.size) {gr : Nat} (hr : w.heap.size ≤ gr) (h : w1.cell? ⟨g, 1, none⟩ = some (.slice Ak nk ck) ∧ w1.cell? ad = some (.int .u8 x0) ∧ w1.cell? ⟨ad.block, ad.off + 1, none⟩ = some (.int .u8 x1) ∧ w1.cell? ⟨ad.block, ad.off + 2, none⟩ = some (.int .u8 x2) ∧ w1.cell? ⟨ad.block, ad.off + 3, none⟩ = some (.int .u8 x3) ∧ w1.cell? ⟨ad.block, ad.off + 4, none⟩ = some (.int .u8 x4) ∧ w1.cell? ⟨ad.block, ad.off + 5, none⟩ = some (.int .u8 x5) ∧ w1.cell? ⟨ad.block, ad.off + 6, none⟩ = some (.int .u8 x6) ∧ w1.cell? ⟨ad.block, ad.off + 7, none⟩ = some (.int .u8 x7) ∧ Below w.heap.size w w1) (ho : Only gr w1 w2) : w2.cell? ⟨g, 1, none⟩ = some (.slice Ak nk ck) ∧ w2.cell? ad = some (.int .u8 x0) ∧ w2.cell? ⟨ad.block, ad.off + 1, none⟩ = some (.int .u8 x1) ∧ w2.cell? ⟨ad.block, ad.off + 2, none⟩ = some (.int .u8 x2) ∧ w2.cell? ⟨ad.block, ad.off + 3, none⟩ = some (.int .u8 x3) ∧ w2.cell? ⟨ad.block, ad.off + 4, none⟩ = some (.int .u8 x4) ∧ w2.cell? ⟨ad.block, ad.off + 5, none⟩ = some (.int .u8 x5) ∧ w2.cell? ⟨ad.block, ad.off + 6, none⟩ = some (.int .u8 x6) ∧ w2.cell? ⟨ad.block, ad.off + 7, none⟩ = some (.int .u8 x7) ∧ Below w.heap.size w w2 := by
  obtain ⟨h1, h2, e1, e2, e3, e4, e5, e6, e7, h3⟩ := h
  have hs := h3.size
  have k := fun (p : Addr) v (hp : p.block < w.heap.size) (e : w1.cell? p = some v) => (ho.cell (Nat.lt_of_lt_of_le hp hs) (by omega)).trans e
  exact ⟨k _ _ hg h1, k _ _ ha h2, k _ _ ha e1, k _ _ ha e2, k _ _ ha e3, k _ _ ha e4, k _ _ ha e5, k _ _ ha e6, k _ _ ha e7, ho.to_below h3 hr hs⟩
theorem sB (h : w1.cell? ⟨g, 1, none⟩ = some (.slice Ak nk ck) ∧ w1.cell? ad = some (.int .u8 x0) ∧ w1.cell? ⟨ad.block, ad.off + 1, none⟩ = some (.int .u8 x1) ∧ w1.cell? ⟨ad.block, ad.off + 2, none⟩ = some (.int .u8 x2) ∧ w1.cell? ⟨ad.block, ad.off + 3, none⟩ = some (.int .u8 x3) ∧ w1.cell? ⟨ad.block, ad.off + 4, none⟩ = some (.int .u8 x4) ∧ w1.cell? ⟨ad.block, ad.off + 5, none⟩ = some (.int .u8 x5) ∧ w1.cell? ⟨ad.block, ad.off + 6, none⟩ = some (.int .u8 x6) ∧ w1.cell? ⟨ad.block, ad.off + 7, none⟩ = some (.int .u8 x7) ∧ Below w.heap.size w w1) : Below w.heap.size w w1 := h.2.2.2.2.2.2.2.2.2
end
theorem only_setRow (g : Nat) (w : World) (cs : Array Value) : Only g w (w.setRow g cs) :=
  ⟨rfl, rfl, rfl, by simp [World.setRow], fun k hk hkg => by
    simp only [World.setRow, Array.getElem?_modify]
    rw [if_neg (Ne.symm hkg)]⟩
theorem store_row (P : Program) (w : World) (gr : Nat) (t : TypeId) (xs ys : List Int) (hr : Row w gr t xs) (hl : ys.length = xs.length) :
    (storeCells ⟨gr, 0, none⟩ (bs ys)).run P w = .ok () (w.setRow gr (bs ys).toArray) := by
  have := run_storeCells_from (P := P) gr t (bs ys) 0 (bs xs).toArray w hr (by simp [bs_length, hl]) (bs_oneV ys)
  simpa [bs_length, hl] using this
theorem row_set {w : World} {gr : Nat} {t : TypeId} {xs : List Int} (hr : Row w gr t xs) (ys : List Int) : Row (w.setRow gr (bs ys).toArray) gr t ys := setRow_heap w gr _ _ t _ hr
theorem store_new (P : Program) (w : World) (ys : List Int) (hl : ys.length = 8) :
    (storeCells ⟨w.heap.size, 0, none⟩ (bs ys)).run P (w.alloc (.cells #[.int .u8 0, .int .u8 0, .int .u8 0, .int .u8 0, .int .u8 0, .int .u8 0, .int .u8 0, .int .u8 0] 86)) = .ok () ((w.alloc (.cells #[.int .u8 0, .int .u8 0, .int .u8 0, .int .u8 0, .int .u8 0, .int .u8 0, .int .u8 0, .int .u8 0] 86)).setRow w.heap.size (bs ys).toArray) :=
  store_row P _ _ 86 (List.replicate 8 0) ys (Row.new w 86 (List.replicate 8 0)) (by simp [hl])
theorem list8' (xs : List Int) (h : xs.length = 8) : xs = [xs.getD 0 0, xs.getD 1 0, xs.getD 2 0, xs.getD 3 0, xs.getD 4 0, xs.getD 5 0, xs.getD 6 0, xs.getD 7 0] := by
  match xs, h with
  | [a, b, c, d, e, f, g, i], _ => rfl
theorem list8v (xs : List Int) (h : xs.length = 8) : ∃ a b c d e f g i, xs = [a, b, c, d, e, f, g, i] :=
  ⟨_, _, _, _, _, _, _, _, list8' xs h⟩

set_option maxRecDepth 100000 in
set_option maxHeartbeats 800000 in
/-- Do, by TDES. -/
theorem Do_des (back : Bool) (B g : Nat) (w : World) (key : List Int) (bk : Option Addr) (hc : Ciph B w g 2 key bk) (hk : key.length = 8 ∨ key.length = 16 ∨ key.length = 24) (hkb : ∀ y ∈ key, 0 ≤ y ∧ y ≤ 255)
    (A : Option Addr) (n c : Nat) (x : List Int) (hx : x.length = 8) (hxb : ∀ y ∈ x, 0 ≤ y ∧ y ≤ 255) (hn : n = 8) (hr : Rd .u8 w A x) :
    Calls Tryd.prog 29 #[.pointer (some ⟨g, 0, none⟩), .slice A n c, .bool back] w (RetNewNil (tripleI key back x) w) := by
  subst hn
  obtain ⟨ad, rfl⟩ : ∃ ad, A = some ad := by
    obtain ⟨ad, e, _⟩ := hr.get 0 (by omega)
    exact ⟨ad, e⟩
  have hk0 := hc.kind_
  obtain ⟨Ak, ck, hk1, hk2, hk3, hk4⟩ := hc.key_
  have hel : Hd ((tripleI key back x).length = 8) := ⟨tripleI_length _ _ _⟩
  obtain ⟨nk, hnk⟩ : ∃ nk, nk = key.length := ⟨_, rfl⟩
  have cT : Hd (∀ w, Rd .u8 w Ak key → Calls Tryd.prog 40 #[.slice Ak nk ck, .agg (bs x).toArray, .bool back] w (ArrNil (tripleI key back x) w)) := ⟨fun w h => Triple_ok back Ak nk ck key x w hnk hk (by omega) hkb h hx hxb⟩
  rw [← hnk] at hk1
  have HC := Hd.mk hc; have HX := Hd.mk hx; have HR := Hd.mk hr; have HK := Hd.mk hk2
  have hg : Hd (g < w.heap.size) := ⟨Nat.lt_of_lt_of_le hc.lt hc.size⟩
  have ha := run_arrayAt (P := Tryd.prog) arr8 (some ad) 8 c (by omega)
  have had : Hd (ad.block < w.heap.size) := ⟨hr.lt ad rfl (by omega)⟩
  obtain ⟨x0, x1, x2, x3, x4, x5, x6, x7, rfl⟩ := list8v x hx
  have hget : ∀ j (h : j < 8) v, [x0, x1, x2, x3, x4, x5, x6, x7].getD j 0 = v → w.cell? (ad.add j) = some (.int .u8 v) := fun j h v e => by
    obtain ⟨ad', e1, e2⟩ := hr.get j h
    cases e1
    rw [← e]; exact e2
  have S0 : Hd (w.drew.cell? ⟨g, 1, none⟩ = some (.slice Ak nk ck) ∧ w.drew.cell? ad = some (.int .u8 x0) ∧ w.drew.cell? ⟨ad.block, ad.off + 1, none⟩ = some (.int .u8 x1) ∧ w.drew.cell? ⟨ad.block, ad.off + 2, none⟩ = some (.int .u8 x2) ∧ w.drew.cell? ⟨ad.block, ad.off + 3, none⟩ = some (.int .u8 x3) ∧ w.drew.cell? ⟨ad.block, ad.off + 4, none⟩ = some (.int .u8 x4) ∧ w.drew.cell? ⟨ad.block, ad.off + 5, none⟩ = some (.int .u8 x5) ∧ w.drew.cell? ⟨ad.block, ad.off + 6, none⟩ = some (.int .u8 x6) ∧ w.drew.cell? ⟨ad.block, ad.off + 7, none⟩ = some (.int .u8 x7) ∧ Below w.heap.size w w.drew) := ⟨⟨hk1, hget 0 (by decide) _ rfl, hget 1 (by decide) _ rfl, hget 2 (by decide) _ rfl, hget 3 (by decide) _ rfl, hget 4 (by decide) _ rfl, hget 5 (by decide) _ rfl, hget 6 (by decide) _ rfl, hget 7 (by decide) _ rfl, below_drewN (Below.refl _ _) 1⟩⟩
  generalize tripleI key back [x0, x1, x2, x3, x4, x5, x6, x7] = E at *
  clear hc hx hr hk hkb hxb hk2 hk3 hk4 hget hnk
  have hbx : (bs [x0, x1, x2, x3, x4, x5, x6, x7]).toArray = #[.int .u8 x0, .int .u8 x1, .int .u8 x2, .int .u8 x3, .int .u8 x4, .int .u8 x5, .int .u8 x6, .int .u8 x7] := rfl
  rw [hbx] at cT
  clear hbx
  have hlE : (bs E).length = 8 := by rw [bs_length]; exact hel.out
  have hst := fun w' : World => store_new Tryd.prog w' E hel.out
  go_enter Tryd.func29, Tryd.ntmps29
  go_wp2_with (first
    | (go_at_call 15; refine (Size_any B g _ 2 key bk HC.out).mono ?_; rintro e w' ⟨rfl, rfl⟩))
  have hsz := Hd.mk fun (w' : World) (o : Obj) => (Below.refl w'.heap.size w').alloc (Nat.le_refl _) o
  have c1 := Hd.mk (cT.out w.drew (HK.out.drew))
  have c2 := Hd.mk (Calls.mono (cT.out (w.alloc (.cells #[.int .u8 0, .int .u8 0, .int .u8 0, .int .u8 0, .int .u8 0, .int .u8 0, .int .u8 0, .int .u8 0] 86)).drew ((HK.out.below (hsz.out w _)).drew)) fun e w' h => And.intro h.1 (And.intro h.2 (Row.below (g := w.heap.size) (t := 86) (xs := List.replicate 8 0) (Row.new w _ _).drew h.2 (by simp))))
  clear hk0 hk1
  go_region_held3 (fun w' => w'.cell? ⟨g, 1, none⟩ = some (.slice Ak nk ck) ∧ w'.cell? ad = some (.int .u8 x0) ∧ w'.cell? ⟨ad.block, ad.off + 1, none⟩ = some (.int .u8 x1) ∧ w'.cell? ⟨ad.block, ad.off + 2, none⟩ = some (.int .u8 x2) ∧ w'.cell? ⟨ad.block, ad.off + 3, none⟩ = some (.int .u8 x3) ∧ w'.cell? ⟨ad.block, ad.off + 4, none⟩ = some (.int .u8 x4) ∧ w'.cell? ⟨ad.block, ad.off + 5, none⟩ = some (.int .u8 x5) ∧ w'.cell? ⟨ad.block, ad.off + 6, none⟩ = some (.int .u8 x6) ∧ w'.cell? ⟨ad.block, ad.off + 7, none⟩ = some (.int .u8 x7) ∧ Below w.heap.size w w') (first | (with_reducible assumption) | (with_reducible exact S0.out) | (with_reducible exact sK (by assumption) (by assumption)) | (with_reducible exact sK (by assumption) (hsz.out _ _)) | ((with_reducible refine sO hg.out had.out ?_ ?_ (only_setRow _ _ _)); (first | exact Nat.le_refl _ | exact h6.size); (first | (with_reducible assumption) | (with_reducible exact sK (by assumption) (hsz.out _ _))))) (first
    | (go_at_call 40; (with_reducible refine c1.out.mono ?_); rintro e w3 ⟨rfl, h6⟩)
    | (go_at_call 40; (with_reducible refine c2.out.mono ?_); rintro e w3 ⟨rfl, h6, h7⟩; have H7 := Hd.mk h7; clear h7; have hst2 := store_row Tryd.prog w3 _ _ _ E H7.out (by simp [hel.out])))
  all_goals first
    | (have HB : Hd (Below w.heap.size w (w3.setRow w.heap.size (bs E).toArray)) := ⟨sB (by with_reducible assumption)⟩
       have HN := Hd.mk (New.of_row (base := w.heap.size) (n := 8) (c := 8) (row_set H7.out E) (Nat.le_refl _) hel.out.symm (Nat.le_refl _))
       clear hst hst2
       generalize w3.setRow w.heap.size (bs E).toArray = W at *
       go_wp2
       go_ret2
       exact ⟨_, rfl, HN.out, HB.out⟩)
    | (have HB : Hd (Below w.heap.size w ((w3.alloc (.cells #[.int .u8 0, .int .u8 0, .int .u8 0, .int .u8 0, .int .u8 0, .int .u8 0, .int .u8 0, .int .u8 0] 86)).setRow w3.heap.size (bs E).toArray)) := ⟨sB (by with_reducible assumption)⟩
       have HN := Hd.mk (New.of_row (base := w.heap.size) (n := 8) (c := 8) (row_set (Row.new w3 86 (List.replicate 8 0)) E) h6.size hel.out.symm (Nat.le_refl _))
       clear hst
       generalize hWW : ((w3.alloc (.cells #[.int .u8 0, .int .u8 0, .int .u8 0, .int .u8 0, .int .u8 0, .int .u8 0, .int .u8 0, .int .u8 0] 86)).setRow w3.heap.size (bs E).toArray) = W at *
       have HW := Hd.mk hWW
       clear hWW
       go_wp2
       go_ret2
       refine ⟨_, rfl, ?_, HB.out⟩
       rw [← HW.out]
       exact HN.out)
end Go.Proofs.YtommgcebjhkneaaDoor

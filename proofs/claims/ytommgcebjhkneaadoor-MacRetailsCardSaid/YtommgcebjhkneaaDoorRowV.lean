/-
  Aggregates of any cells (arrays, structs) as wholes and in part: loaded, stored, made, boxed, handed back. No condition on a program.
-/
import Derived.Test.YtommgcebjhkneaaDoorOwn
namespace Go.Proofs.YtommgcebjhkneaaDoor
open Go Go.RowKit
set_option linter.unusedVariables false
set_option linter.unusedSimpArgs false

/-- Type T is an aggregate of n cells. -/
structure AggT (P : Program) (T n : Nat) : Prop where
  desc : ∃ d, P.underlying T = some d ∧ d.isRow = true
  size : (P.info? T).map (·.size) = some n
/-- Block g is a row of the cells vs, of type t. -/
def RowV (w : World) (g : Nat) (t : TypeId) (vs : List Value) : Prop := w.heap[g]? = some (.cells vs.toArray t (0, 0))
def OneV (vs : List Value) : Prop := ∀ v ∈ vs, v.oneCell' = true
/-- Numbers as cells. -/
def ns (k : IntKind) (xs : List Int) : List Value := xs.map (Value.int k)
theorem ns_length (k : IntKind) (xs : List Int) : (ns k xs).length = xs.length := by simp [ns]
theorem ns_one (k : IntKind) (xs : List Int) : OneV (ns k xs) := by
  intro v hv
  obtain ⟨x, _, rfl⟩ := List.mem_map.1 hv
  rfl
theorem bs_ns (xs : List Int) : bs xs = ns .u8 xs := rfl
theorem bs_oneV (xs : List Int) : OneV (bs xs) := ns_one .u8 xs

section
variable {g : Nat} {t : TypeId} {vs ys : List Value} {w w1 w2 w' : World}
theorem Row.toV {xs : List Int} (h : Row w g t xs) : RowV w g t (bs xs) := h
theorem RowV.toRow {xs : List Int} (h : RowV w g t (bs xs)) : Row w g t xs := h
theorem RowV.lt (h : RowV w g t vs) : g < w.heap.size := (Array.getElem?_eq_some_iff.1 h).1
theorem RowV.cell (h : RowV w g t vs) (i : Nat) : w.cell? ⟨g, i, none⟩ = vs[i]? := by
  rw [cell_of_row w g i _ t (0, 0) h]; simp
theorem RowV.frozen (h : RowV w g t vs) (i : Nat) : w.frozen? ⟨g, i, none⟩ = false := frozen_of_row w g i _ t h
theorem RowV.set_ (h : RowV w g t vs) (i : Nat) (v : Value) : RowV (w.setCell ⟨g, i, none⟩ v) g t (vs.set i v) := by
  have := heap_setCell_same w g i _ t v h
  rw [show vs.toArray.setIfInBounds i v = (vs.set i v).toArray by simp] at this
  exact this
theorem RowV.drewN (h : RowV w g t vs) (n : Nat) : RowV (w.drewN n) g t vs := h
theorem RowV.drew (h : RowV w g t vs) : RowV w.drew g t vs := h
theorem RowV.alloc (h : RowV w g t vs) (o : Obj) : RowV (w.alloc o) g t vs := (heap_alloc_old w o h.lt).trans h
theorem RowV.other {p : Addr} (h : RowV w g t vs) (hp : g ≠ p.block) (v : Value) : RowV (w.setCell p v) g t vs := (heap_setCell_other w p g v hp).trans h
theorem RowV.below {B : Nat} (h : RowV w g t vs) (hb : Below B w w') (hg : g < B) : RowV w' g t vs := (hb.block g hg).trans h
theorem RowV.only {g' : Nat} (h : RowV w g t vs) (hb : Only g' w w') (hg : g ≠ g') : RowV w' g t vs := (hb.block g h.lt hg).trans h
theorem RowV.new (w : World) (t : TypeId) (vs : List Value) : RowV (w.alloc (.cells vs.toArray t)) w.heap.size t vs := heap_alloc_new w _

theorem only_setCells (g : Nat) : ∀ (ys : List Value) (off : Nat) (w : World), Only g w (w.setCells g off ys)
  | [], _, w => Only.refl g w
  | y :: ys, off, w => (((Only.refl g w).set_ (p := ⟨g, off, none⟩) (.inl rfl) y)).trans (only_setCells g ys (off + 1) _)
theorem size_setCells (g : Nat) : ∀ (ys : List Value) (off : Nat) (w : World), (w.setCells g off ys).heap.size = w.heap.size
  | [], _, w => rfl
  | y :: ys, off, w => by rw [World.setCells, size_setCells g ys, World.size_setCell]
/-- A row, written from a place on. -/
def putAt (vs : List Value) (off : Nat) : List Value → List Value
  | [] => vs
  | y :: ys => putAt (vs.set off y) (off + 1) ys
theorem putAt_length (ys : List Value) : ∀ (vs : List Value) (off : Nat), (putAt vs off ys).length = vs.length := by
  induction ys with
  | nil => intro vs off; rfl
  | cons y ys ih => intro vs off; rw [putAt, ih, List.length_set]
theorem RowV.setCells : ∀ (ys : List Value) (vs : List Value) (off : Nat) (w : World), RowV w g t vs → RowV (w.setCells g off ys) g t (putAt vs off ys)
  | [], _, _, _, h => h
  | y :: ys, vs, off, w, h => RowV.setCells ys _ _ _ (h.set_ off y)
end

section
variable {P : Program} {ops : Array Oper} {rest : List Oper} {o : Oper} {a : Act} {w : World} {Q : Exit → Act → World → Prop} {T n g : Nat} {t : TypeId} {vs ys : List Value}

theorem load_v (hT : AggT P T n) (hgd : o.guard = none) (x : Operand) (ho : o.op = .load T x) (hx : a.eval x = .pointer (some ⟨g, 0, none⟩)) (hr : RowV w g t vs) (hl : vs.length = n)
    (h : wpList P ops Q rest (a.put o.dst (.agg vs.toArray)) w) : wpList P ops Q (o :: rest) a w := by
  obtain ⟨d, hd, hd2⟩ := hT.desc
  exact wpList_load_row hgd T x ho g hx t _ _ d hr hd (by cases d <;> first | rfl | cases hd2) (by rw [hT.size]; simp [hl]) h
/-- A part of a row, loaded. -/
theorem load_part (hT : AggT P T n) (hgd : o.guard = none) (x : Operand) (ho : o.op = .load T x) (off : Nat) (hx : a.eval x = .pointer (some ⟨g, off, none⟩)) (hr : RowV w g t vs) (ys : List Value) (hys : ys = (vs.drop off).take n) (hl : ys.length = n)
    (h : wpList P ops Q rest (a.put o.dst (.agg ys.toArray)) w) : wpList P ops Q (o :: rest) a w := by
  obtain ⟨d, hd, hd2⟩ := hT.desc
  refine wpList_load_mid hgd T x ho g off hx ys d (fun j v hv => ?_) hd hd2 (by rw [hT.size, hl]) h
  rw [hr.cell]
  rw [hys, List.getElem?_take, List.getElem?_drop] at hv
  split at hv
  · exact hv
  · cases hv
theorem store_v (hT : AggT P T n) (hgd : o.guard = none) (x y : Operand) (ho : o.op = .store T x y) (hx : a.eval x = .pointer (some ⟨g, 0, none⟩)) (hy : a.eval y = .agg ys.toArray)
    (hr : RowV w g t vs) (hl : vs.length = n) (hl' : ys.length = n) (h1 : OneV ys)
    (h : ∀ w1, Only g w w1 → w1.heap.size = w.heap.size → RowV w1 g t ys → wpList P ops Q rest (a.put o.dst undef) w1) : wpList P ops Q (o :: rest) a w := by
  refine wpList_store_row hgd T x y ho g _ hx hy t _ hr (by rw [hT.size]; simp [hl']) (by simp [hl, hl']) (all_oneCell_toArray h1) ?_
  refine h _ ⟨rfl, rfl, rfl, by simp, fun k hk hkg => ?_⟩ (by simp) ?_
  · simp only [World.setRow, Array.getElem?_modify]
    rw [if_neg (Ne.symm hkg)]
  · exact setRow_heap w g _ _ t _ hr
/-- A part of a row, stored. -/
theorem store_part (hT : AggT P T n) (hgd : o.guard = none) (x y : Operand) (ho : o.op = .store T x y) (off : Nat) (hx : a.eval x = .pointer (some ⟨g, off, none⟩)) (hy : a.eval y = .agg ys.toArray)
    (hr : RowV w g t vs) (hl : off + n ≤ vs.length) (hl' : ys.length = n) (h1 : OneV ys)
    (h : ∀ w1, Only g w w1 → w1.heap.size = w.heap.size → RowV w1 g t (putAt vs off ys) → wpList P ops Q rest (a.put o.dst undef) w1) : wpList P ops Q (o :: rest) a w := by
  refine wpList_store_mid hgd T x y ho g off _ hx hy (fun j hj => ⟨?_, hr.frozen _⟩) (by rw [hT.size]; simp [hl']) (all_oneCell_toArray h1) ?_
  · rw [hr.cell]
    simp at hj
    simp; omega
  · rw [List.toList_toArray]
    exact h _ (only_setCells g ys off w) (size_setCells g ys off w) (RowV.setCells ys vs off w hr)
theorem alloc_v (hz : (P.info? T).map (·.zero) = some (some (.agg vs.toArray))) (hgd : o.guard = none) (ho : o.op = .alloc T)
    (h : ∀ g1 w1, w.heap.size ≤ g1 → g1 < w1.heap.size → Below w.heap.size w w1 → RowV w1 g1 T vs → wpList P ops Q rest (a.put o.dst (.pointer (some ⟨g1, 0, none⟩))) w1) :
    wpList P ops Q (o :: rest) a w := by
  refine wpList_plain hgd fun K hK => ?_
  have hzero : (zeroValue T).run P w = .ok (.agg vs.toArray) w := by
    cases hq : P.info? T with
    | none => rw [hq] at hz; cases hz
    | some i =>
      rw [hq] at hz
      simp only [Option.map_some, Option.some.injEq] at hz
      simp [zeroValue, typeInfo, hq, hz]
  have hrun : (execOp a.eval o).run P w = .ok (.value (.pointer (some ⟨w.heap.size, 0, none⟩))) (w.alloc (.cells vs.toArray T)) := by
    unfold execOp
    simp only [ho, Instr.alloc, Sem.run_bind, hzero, Result.andThen_ok]
    simp [newVar, newRow, Value.cells]
  unfold Oper.wp
  rw [hrun]
  exact hK _ _ (h _ _ (Nat.le_refl _) (by simp) ((Below.refl _ _).alloc (Nat.le_refl _) _) (RowV.new w T _))
theorem box_v (hgd : o.guard = none) (x : Operand) (ho : o.op = .box T x) (hx : a.eval x = .agg vs.toArray)
    (h : ∀ g1 w1, w.heap.size ≤ g1 → g1 < w1.heap.size → Below w.heap.size w w1 → RowV w1 g1 T vs → wpList P ops Q rest (a.put o.dst (.pointer (some ⟨g1, 0, none⟩))) w1) :
    wpList P ops Q (o :: rest) a w := by
  refine wpList_plain hgd fun K hK => ?_
  have hrun : (execOp a.eval o).run P w = .ok (.value (.pointer (some ⟨w.heap.size, 0, none⟩))) (w.alloc (.cells vs.toArray T)) := by
    unfold execOp
    simp only [ho, hx, Instr.box]
    simp [newVar, newRow, Value.cells]
  unfold Oper.wp
  rw [hrun]
  exact hK _ _ (h _ _ (Nat.le_refl _) (by simp) ((Below.refl _ _).alloc (Nat.le_refl _) _) (RowV.new w T _))
theorem results_v1 {fn : Func} {p : Tmp} (hT : AggT P T n) (h : fn.results = #[.cell p T]) (tmps : Array Value) (hp : tmps.getD p undef = .pointer (some ⟨g, 0, none⟩)) (hr : RowV w g t vs) (hl : vs.length = n) :
    (results fn tmps).run P w = .ok (.agg vs.toArray) w := by
  obtain ⟨d, hd, hd2⟩ := hT.desc
  exact results_cell_row h tmps w g t _ _ d hp hr hd (by cases d <;> first | rfl | cases hd2) (by rw [hT.size]; simp [hl])
theorem results_v {fn : Func} {p u : Tmp} (hT : AggT P T n) (h : fn.results = #[.cell p T, .tmp u]) (tmps : Array Value) (hp : tmps.getD p undef = .pointer (some ⟨g, 0, none⟩)) (hr : RowV w g t vs) (hl : vs.length = n) :
    (results fn tmps).run P w = .ok (.tuple #[.agg vs.toArray, tmps.getD u undef]) w := by
  obtain ⟨d, hd, hd2⟩ := hT.desc
  have hp' : tmps[p]?.getD undef = .pointer (some ⟨g, 0, none⟩) := by simpa using hp
  have hl2 := run_loadVar_row (P := P) w g t T _ _ d hr hd (by cases d <;> first | rfl | cases hd2) (by rw [hT.size]; simp [hl])
  simp [results, h, hp', asAddr, hl2]
end

theorem agg16u : AggT Tryd.prog 122 16 := ⟨⟨_, Tryd.underlying122, rfl⟩, by kernel_rfl⟩
theorem zero16u : (Tryd.prog.info? 122).map (·.zero) = some (some (.agg (ns .u64 (List.replicate 16 0)).toArray)) := by kernel_rfl
theorem agg3x8 : AggT Tryd.prog 112 24 := ⟨⟨_, Tryd.underlying112, rfl⟩, by kernel_rfl⟩
theorem zero3x8 : (Tryd.prog.info? 112).map (·.zero) = some (some (.agg (bs (List.replicate 24 0)).toArray)) := by kernel_rfl
theorem agg8 : AggT Tryd.prog 86 8 := ⟨⟨_, Tryd.underlying86, rfl⟩, by kernel_rfl⟩
theorem agg16 : AggT Tryd.prog 31 16 := ⟨⟨_, Tryd.underlying31, rfl⟩, by kernel_rfl⟩
end Go.Proofs.YtommgcebjhkneaaDoor

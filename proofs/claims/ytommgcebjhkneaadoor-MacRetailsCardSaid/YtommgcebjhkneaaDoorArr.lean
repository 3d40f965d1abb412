/-
  Arrays of bytes as wholes: loaded, stored, made, boxed; each leaves one new name for the world and what is known of it.
-/
import Derived.Test.YtommgcebjhkneaaDoorGf
import Derived.Laws.Tables
namespace Go.Proofs.YtommgcebjhkneaaDoor
open Go Go.RowKit

/-- Type T is an array of n bytes. -/
structure ArrT (P : Program) (T n : Nat) : Prop where
  desc : ∃ e, P.underlying T = some (.array n e)
  info : (P.info? T).map (fun i => (i.zero, i.size)) = some (some (.agg (bs (List.replicate n 0)).toArray), n)
theorem ArrT.size {P : Program} {T n : Nat} (h : ArrT P T n) : (P.info? T).map (·.size) = some n := by
  have := h.info
  cases hq : P.info? T with
  | none => rw [hq] at this; cases this
  | some i => rw [hq] at this; simp only [Option.map_some, Option.some.injEq, Prod.mk.injEq] at this ⊢; exact this.2
theorem ArrT.zero {P : Program} {T n : Nat} (h : ArrT P T n) (w : World) : (zeroValue T).run P w = .ok (.agg (bs (List.replicate n 0)).toArray) w := by
  have := h.info
  cases hq : P.info? T with
  | none => rw [hq] at this; cases this
  | some i =>
    rw [hq] at this
    simp only [Option.map_some, Option.some.injEq, Prod.mk.injEq] at this
    simp [zeroValue, typeInfo, hq, this.1]

/-- A slice that is long enough, as an array's address. -/
theorem run_arrayAt {P : Program} {T n : Nat} (hT : ArrT P T n) (A : Option Addr) (len c : Nat) (h : n ≤ len) (w : World) : (Instr.arrayAt T (.slice A len c)).run P w = .ok (.pointer A) w := by
  obtain ⟨e, hd⟩ := hT.desc
  simp [Instr.arrayAt, run_underlying hd, Nat.not_lt.2 h]

theorem bs_one (xs : List Int) : (bs xs).toArray.all (·.oneCell') = true := by
  simp only [bs, List.all_toArray, List.all_map, List.all_eq_true, Function.comp_def]
  intro x _; rfl

section
variable {P : Program} {ops : Array Oper} {rest : List Oper} {o : Oper} {a : Act} {w : World} {Q : Exit → Act → World → Prop} {T n g : Nat} {t : TypeId} {xs ys : List Int}

theorem load_arr (hT : ArrT P T n) (hgd : o.guard = none) (x : Operand) (ho : o.op = .load T x) (hx : a.eval x = .pointer (some ⟨g, 0, none⟩)) (hr : Row w g t xs) (hl : xs.length = n)
    (h : wpList P ops Q rest (a.put o.dst (.agg (bs xs).toArray)) w) : wpList P ops Q (o :: rest) a w := by
  obtain ⟨e, hd⟩ := hT.desc
  exact wpList_load_row hgd T x ho g hx t _ _ _ hr hd rfl (by rw [hT.size]; simp [bs_length, hl]) h

theorem store_arr (hT : ArrT P T n) (hgd : o.guard = none) (x y : Operand) (ho : o.op = .store T x y) (hx : a.eval x = .pointer (some ⟨g, 0, none⟩)) (hy : a.eval y = .agg (bs ys).toArray)
    (hr : Row w g t xs) (hl : xs.length = n) (hl' : ys.length = n)
    (h : ∀ w1, Only g w w1 → w1.heap.size = w.heap.size → Row w1 g t ys → wpList P ops Q rest (a.put o.dst undef) w1) : wpList P ops Q (o :: rest) a w := by
  refine wpList_store_row hgd T x y ho g _ hx hy t _ hr (by rw [hT.size]; simp [bs_length, hl']) (by simp [bs_length, hl, hl']) (bs_one ys) ?_
  refine h _ ⟨rfl, rfl, rfl, by simp, fun k hk hkg => ?_⟩ (by simp) ?_
  · simp only [World.setRow, Array.getElem?_modify]
    rw [if_neg (Ne.symm hkg)]
  · exact setRow_heap w g _ _ t _ hr

theorem alloc_arr (hT : ArrT P T n) (hgd : o.guard = none) (ho : o.op = .alloc T)
    (h : ∀ g1 w1, w.heap.size ≤ g1 → g1 < w1.heap.size → Below w.heap.size w w1 → Row w1 g1 T (List.replicate n 0) → wpList P ops Q rest (a.put o.dst (.pointer (some ⟨g1, 0, none⟩))) w1) :
    wpList P ops Q (o :: rest) a w := by
  refine wpList_plain hgd fun K hK => ?_
  have hrun : (execOp a.eval o).run P w = .ok (.value (.pointer (some ⟨w.heap.size, 0, none⟩))) (w.alloc (.cells (bs (List.replicate n 0)).toArray T)) := by
    unfold execOp
    simp only [ho, Instr.alloc, Sem.run_bind, hT.zero w, Result.andThen_ok]
    simp [newVar, newRow, Value.cells]
  unfold Oper.wp
  rw [hrun]
  exact hK _ _ (h _ _ (Nat.le_refl _) (by simp) ((Below.refl _ _).alloc (Nat.le_refl _) _) (Row.new w T _))

theorem box_arr (hgd : o.guard = none) (x : Operand) (ho : o.op = .box T x) (hx : a.eval x = .agg (bs xs).toArray)
    (h : ∀ g1 w1, w.heap.size ≤ g1 → g1 < w1.heap.size → Below w.heap.size w w1 → Row w1 g1 T xs → wpList P ops Q rest (a.put o.dst (.pointer (some ⟨g1, 0, none⟩))) w1) :
    wpList P ops Q (o :: rest) a w := by
  refine wpList_plain hgd fun K hK => ?_
  have hrun : (execOp a.eval o).run P w = .ok (.value (.pointer (some ⟨w.heap.size, 0, none⟩))) (w.alloc (.cells (bs xs).toArray T)) := by
    unfold execOp
    simp only [ho, hx, Instr.box]
    simp [newVar, newRow, Value.cells]
  unfold Oper.wp
  rw [hrun]
  exact hK _ _ (h _ _ (Nat.le_refl _) (by simp) ((Below.refl _ _).alloc (Nat.le_refl _) _) (Row.new w T _))

/-- Two results, the first one an array in memory. -/
theorem results_arr {fn : Func} {p u : Tmp} (hT : ArrT P T n) (h : fn.results = #[.cell p T, .tmp u]) (tmps : Array Value) (hp : tmps.getD p undef = .pointer (some ⟨g, 0, none⟩)) (hr : Row w g t xs) (hl : xs.length = n) :
    (results fn tmps).run P w = .ok (.tuple #[.agg (bs xs).toArray, tmps.getD u undef]) w := by
  obtain ⟨e, hd⟩ := hT.desc
  have hp' : tmps[p]?.getD undef = .pointer (some ⟨g, 0, none⟩) := by simpa using hp
  have hl2 := run_loadVar_row (P := P) w g t T _ _ _ hr hd rfl (by rw [hT.size]; simp [bs_length, hl])
  simp [results, h, hp', asAddr, hl2]
theorem results_arr1 {fn : Func} {p : Tmp} (hT : ArrT P T n) (h : fn.results = #[.cell p T]) (tmps : Array Value) (hp : tmps.getD p undef = .pointer (some ⟨g, 0, none⟩)) (hr : Row w g t xs) (hl : xs.length = n) :
    (results fn tmps).run P w = .ok (.agg (bs xs).toArray) w := by
  obtain ⟨e, hd⟩ := hT.desc
  exact results_cell_row h tmps w g t _ _ _ hp hr hd rfl (by rw [hT.size]; simp [bs_length, hl])
end

theorem arr16 : ArrT Tryd.prog 31 16 := ⟨⟨_, Tryd.underlying31⟩, by kernel_rfl⟩
theorem arr4 : ArrT Tryd.prog 141 4 := ⟨⟨_, Tryd.underlying141⟩, by kernel_rfl⟩
theorem arr8 : ArrT Tryd.prog 86 8 := ⟨⟨_, Tryd.underlying86⟩, by kernel_rfl⟩
end Go.Proofs.YtommgcebjhkneaaDoor

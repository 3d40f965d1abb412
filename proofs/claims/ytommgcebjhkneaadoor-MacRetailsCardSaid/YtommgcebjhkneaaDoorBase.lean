/-
  Words for memory: a block of bytes known whole, and 'nothing but block g has changed'. No condition.
-/
import Derived.Test.YtommgcebjhkneaaDoorLead
import Derived.Test.YtommgcebjhkneaaDoorProg
import Derived.WalkKit
import Derived.Deep.LoopGhost
import Derived.BigQuiet
import Derived.Deep.QuietTactic
import Derived.Laws.Rows
import Derived.Deep.Draws
import Derived.Below
namespace Go.Proofs.YtommgcebjhkneaaDoor
open Go Go.RowKit

/-- A fact put aside, so that no simp takes it for a rule. -/
structure Hd (p : Prop) : Prop where mk :: (out : p)

/-- The cells of bytes. -/
def bs (xs : List Int) : List Value := xs.map (Value.int .u8)
theorem bs_length (xs : List Int) : (bs xs).length = xs.length := by simp [bs]
theorem bs_get (xs : List Int) (i : Nat) (h : i < xs.length) : (bs xs).toArray[i]? = some (.int .u8 (xs.getD i 0)) := by
  simp [bs, h]
theorem bs_set (xs : List Int) (i : Nat) (v : Int) : (bs xs).toArray.setIfInBounds i (.int .u8 v) = (bs (xs.set i v)).toArray := by
  simp [bs, List.map_set]

/-- Block g is a row of bytes xs of type t. -/
def Row (w : World) (g : Nat) (t : TypeId) (xs : List Int) : Prop := w.heap[g]? = some (.cells (bs xs).toArray t (0, 0))

/-- Nothing but block g has changed of what was there; what is new is new. -/
structure Only (g : Nat) (w w' : World) : Prop where
  os : w'.os = w.os
  tape : w'.tape = w.tape
  output : w'.output = w.output
  size : w.heap.size ≤ w'.heap.size
  block : ∀ k, k < w.heap.size → k ≠ g → w'.heap[k]? = w.heap[k]?

section
variable {g : Nat} {t : TypeId} {xs : List Int} {w w1 w2 w' : World}
theorem Row.lt (h : Row w g t xs) : g < w.heap.size := (Array.getElem?_eq_some_iff.1 h).1
theorem Row.cell (h : Row w g t xs) (i : Nat) (hi : i < xs.length) : w.cell? ⟨g, i, none⟩ = some (.int .u8 (xs.getD i 0)) := by
  rw [cell_of_row w g i _ t (0, 0) h, bs_get xs i hi]
theorem Row.frozen (h : Row w g t xs) (i : Nat) : w.frozen? ⟨g, i, none⟩ = false := frozen_of_row w g i _ t h
theorem Row.set_ (h : Row w g t xs) (i : Nat) (v : Int) : Row (w.setCell ⟨g, i, none⟩ (.int .u8 v)) g t (xs.set i v) := by
  have := heap_setCell_same w g i _ t (.int .u8 v) h
  rw [bs_set] at this
  exact this
theorem Row.drewN (h : Row w g t xs) (n : Nat) : Row (w.drewN n) g t xs := h
theorem Row.drew (h : Row w g t xs) : Row w.drew g t xs := h
theorem Row.alloc (h : Row w g t xs) (o : Obj) : Row (w.alloc o) g t xs := (heap_alloc_old w o h.lt).trans h
theorem Row.other {p : Addr} (h : Row w g t xs) (hp : g ≠ p.block) (v : Value) : Row (w.setCell p v) g t xs := (heap_setCell_other w p g v hp).trans h
theorem Row.below {B : Nat} (h : Row w g t xs) (hb : Below B w w') (hg : g < B) : Row w' g t xs := (hb.block g hg).trans h
theorem Row.only {g' : Nat} (h : Row w g t xs) (hb : Only g' w w') (hg : g ≠ g') : Row w' g t xs := (hb.block g h.lt hg).trans h
theorem Row.new (w : World) (t : TypeId) (xs : List Int) : Row (w.alloc (.cells (bs xs).toArray t)) w.heap.size t xs := heap_alloc_new w _

theorem Only.refl (g : Nat) (w : World) : Only g w w := ⟨rfl, rfl, rfl, Nat.le_refl _, fun _ _ _ => rfl⟩
theorem Only.trans (h : Only g w w1) (k : Only g w1 w2) : Only g w w2 :=
  ⟨k.os.trans h.os, k.tape.trans h.tape, k.output.trans h.output, Nat.le_trans h.size k.size, fun i hi hg => (k.block i (Nat.lt_of_lt_of_le hi h.size) hg).trans (h.block i hi hg)⟩
theorem Only.drewN (h : Only g w w1) (n : Nat) : Only g w (w1.drewN n) := ⟨h.os, h.tape, h.output, h.size, h.block⟩
theorem Only.drew (h : Only g w w1) : Only g w w1.drew := ⟨h.os, h.tape, h.output, h.size, h.block⟩
theorem Only.alloc (h : Only g w w1) (o : Obj) : Only g w (w1.alloc o) :=
  ⟨h.os, h.tape, h.output, Nat.le_trans h.size (by simp), fun i hi hg => (heap_alloc_old w1 o (Nat.lt_of_lt_of_le hi h.size)).trans (h.block i hi hg)⟩
theorem Only.set_ {p : Addr} (h : Only g w w1) (hp : p.block = g ∨ w.heap.size ≤ p.block) (v : Value) : Only g w (w1.setCell p v) :=
  ⟨h.os, h.tape, h.output, by rw [World.size_setCell]; exact h.size, fun i hi hg => (heap_setCell_other w1 p i v (by rcases hp with hp | hp <;> omega)).trans (h.block i hi hg)⟩
theorem Only.below_ (h : Only g w w1) (k : Below w1.heap.size w1 w2) : Only g w w2 :=
  ⟨k.os.trans h.os, k.tape.trans h.tape, k.output.trans h.output, Nat.le_trans h.size k.size, fun i hi hg => (k.block i (Nat.lt_of_lt_of_le hi h.size)).trans (h.block i hi hg)⟩
theorem Only.fresh {g1 : Nat} (h : Only g w w1) (hg : w.heap.size ≤ g1) (k : Only g1 w1 w2) : Only g w w2 :=
  ⟨k.os.trans h.os, k.tape.trans h.tape, k.output.trans h.output, Nat.le_trans h.size k.size, fun i hi hne => (k.block i (Nat.lt_of_lt_of_le hi h.size) (by omega)).trans (h.block i hi hne)⟩
theorem Only.of_below (k : Below w.heap.size w w1) : Only g w w1 := (Only.refl g w).below_ k
theorem Only.to_below {B : Nat} {w0 : World} (k : Only g w w1) (h : Below B w0 w) (hg : B ≤ g) (hB : B ≤ w.heap.size) : Below B w0 w1 :=
  ⟨k.os.trans h.os, k.tape.trans h.tape, k.output.trans h.output, Nat.le_trans h.size k.size, fun i hi => (k.block i (by omega) (by omega)).trans (h.block i hi)⟩
theorem Only.cell (h : Only g w w1) {p : Addr} (hp : p.block < w.heap.size) (hg : p.block ≠ g) : w1.cell? p = w.cell? p := World.cell?_of_block (w := w) (h.block p.block hp hg)
theorem Only.frozen (h : Only g w w1) {p : Addr} (hp : p.block < w.heap.size) (hg : p.block ≠ g) : w1.frozen? p = w.frozen? p := World.frozen?_of_block (w := w) (h.block p.block hp hg)
end

theorem below_drewN {B : Nat} {w w1 : World} (h : Below B w w1) (n : Nat) : Below B w (w1.drewN n) := ⟨h.os, h.tape, h.output, h.size, h.block⟩
theorem wrap_id {x : Int} (h0 : -9223372036854775808 ≤ x) (h1 : x < 9223372036854775808) : IntKind.i64.wrap x = x := by
  rw [IntKind.wrap_i64]; omega
end Go.Proofs.YtommgcebjhkneaaDoor

/-
  The boxes undo each other, byte by byte, by the kernel. No condition on a program.
-/
import Derived.Test.YtommgcebjhkneaaDoorGf
namespace Go.Proofs.YtommgcebjhkneaaDoor
open Go Go.RowKit
set_option linter.unusedVariables false
set_option linter.unusedSimpArgs false

def byteB (f : Int → Bool) : Bool := (List.range 256).all fun i => f (i : Int)
theorem byteB_all {f : Int → Bool} (h : byteB f = true) (x : Int) (hx : 0 ≤ x ∧ x ≤ 255) : f x = true := by
  obtain ⟨n, rfl⟩ : ∃ n : Nat, x = n := ⟨x.toNat, by omega⟩
  exact List.all_eq_true.1 h n (List.mem_range.2 (by omega))

set_option maxRecDepth 100000 in
theorem unbox_box (x : Int) (hx : 0 ≤ x ∧ x ≤ 255) : unboxI (boxI x) = x := by
  have h : byteB (fun x => decide (unboxI (boxI x) = x)) = true := by kernel_rfl
  simpa using byteB_all h x hx
set_option maxRecDepth 100000 in
theorem box_unbox (x : Int) (hx : 0 ≤ x ∧ x ≤ 255) : boxI (unboxI x) = x := by
  have h : byteB (fun x => decide (boxI (unboxI x) = x)) = true := by kernel_rfl
  simpa using byteB_all h x hx
set_option maxRecDepth 100000 in
theorem unbox_byt (x : Int) (hx : 0 ≤ x ∧ x ≤ 255) : 0 ≤ unboxI x ∧ unboxI x ≤ 255 := by
  have h : byteB (fun x => decide (0 ≤ unboxI x ∧ unboxI x ≤ 255)) = true := by kernel_rfl
  simpa using byteB_all h x hx

end Go.Proofs.YtommgcebjhkneaaDoor

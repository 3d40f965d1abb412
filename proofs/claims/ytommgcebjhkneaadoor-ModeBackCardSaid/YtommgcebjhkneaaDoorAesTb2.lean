/-
  AES's columns, byte by byte, by the kernel: what a column's numbers and their contraries come to. No condition on a program.
-/
import Derived.Test.YtommgcebjhkneaaDoorAesTab
namespace Go.Proofs.YtommgcebjhkneaaDoor
open Go Go.RowKit
set_option linter.unusedVariables false
set_option linter.unusedSimpArgs false

set_option maxRecDepth 100000 in
theorem colT0 (x : Int) (hx : 0 ≤ x ∧ x ≤ 255) : bits .xor .u8 (bits .xor .u8 (bits .xor .u8 (mulI 14 (mulI 2 x)) (mulI 11 (mulI 1 x))) (mulI 13 (mulI 1 x))) (mulI 9 (mulI 3 x)) = x := by
  have h : byteB (fun x => decide (bits .xor .u8 (bits .xor .u8 (bits .xor .u8 (mulI 14 (mulI 2 x)) (mulI 11 (mulI 1 x))) (mulI 13 (mulI 1 x))) (mulI 9 (mulI 3 x)) = x)) = true := by kernel_rfl
  simpa using byteB_all h x hx
set_option maxRecDepth 100000 in
theorem colT1 (x : Int) (hx : 0 ≤ x ∧ x ≤ 255) : bits .xor .u8 (bits .xor .u8 (bits .xor .u8 (mulI 14 (mulI 3 x)) (mulI 11 (mulI 2 x))) (mulI 13 (mulI 1 x))) (mulI 9 (mulI 1 x)) = 0 := by
  have h : byteB (fun x => decide (bits .xor .u8 (bits .xor .u8 (bits .xor .u8 (mulI 14 (mulI 3 x)) (mulI 11 (mulI 2 x))) (mulI 13 (mulI 1 x))) (mulI 9 (mulI 1 x)) = 0)) = true := by kernel_rfl
  simpa using byteB_all h x hx
set_option maxRecDepth 100000 in
theorem colT2 (x : Int) (hx : 0 ≤ x ∧ x ≤ 255) : bits .xor .u8 (bits .xor .u8 (bits .xor .u8 (mulI 14 (mulI 1 x)) (mulI 11 (mulI 3 x))) (mulI 13 (mulI 2 x))) (mulI 9 (mulI 1 x)) = 0 := by
  have h : byteB (fun x => decide (bits .xor .u8 (bits .xor .u8 (bits .xor .u8 (mulI 14 (mulI 1 x)) (mulI 11 (mulI 3 x))) (mulI 13 (mulI 2 x))) (mulI 9 (mulI 1 x)) = 0)) = true := by kernel_rfl
  simpa using byteB_all h x hx
set_option maxRecDepth 100000 in
theorem colT3 (x : Int) (hx : 0 ≤ x ∧ x ≤ 255) : bits .xor .u8 (bits .xor .u8 (bits .xor .u8 (mulI 14 (mulI 1 x)) (mulI 11 (mulI 1 x))) (mulI 13 (mulI 3 x))) (mulI 9 (mulI 2 x)) = 0 := by
  have h : byteB (fun x => decide (bits .xor .u8 (bits .xor .u8 (bits .xor .u8 (mulI 14 (mulI 1 x)) (mulI 11 (mulI 1 x))) (mulI 13 (mulI 3 x))) (mulI 9 (mulI 2 x)) = 0)) = true := by kernel_rfl
  simpa using byteB_all h x hx
set_option maxRecDepth 100000 in
theorem colU0 (x : Int) (hx : 0 ≤ x ∧ x ≤ 255) : bits .xor .u8 (bits .xor .u8 (bits .xor .u8 (mulI 2 (mulI 14 x)) (mulI 3 (mulI 9 x))) (mulI 1 (mulI 13 x))) (mulI 1 (mulI 11 x)) = x := by
  have h : byteB (fun x => decide (bits .xor .u8 (bits .xor .u8 (bits .xor .u8 (mulI 2 (mulI 14 x)) (mulI 3 (mulI 9 x))) (mulI 1 (mulI 13 x))) (mulI 1 (mulI 11 x)) = x)) = true := by kernel_rfl
  simpa using byteB_all h x hx
set_option maxRecDepth 100000 in
theorem colU1 (x : Int) (hx : 0 ≤ x ∧ x ≤ 255) : bits .xor .u8 (bits .xor .u8 (bits .xor .u8 (mulI 2 (mulI 11 x)) (mulI 3 (mulI 14 x))) (mulI 1 (mulI 9 x))) (mulI 1 (mulI 13 x)) = 0 := by
  have h : byteB (fun x => decide (bits .xor .u8 (bits .xor .u8 (bits .xor .u8 (mulI 2 (mulI 11 x)) (mulI 3 (mulI 14 x))) (mulI 1 (mulI 9 x))) (mulI 1 (mulI 13 x)) = 0)) = true := by kernel_rfl
  simpa using byteB_all h x hx
set_option maxRecDepth 100000 in
theorem colU2 (x : Int) (hx : 0 ≤ x ∧ x ≤ 255) : bits .xor .u8 (bits .xor .u8 (bits .xor .u8 (mulI 2 (mulI 13 x)) (mulI 3 (mulI 11 x))) (mulI 1 (mulI 14 x))) (mulI 1 (mulI 9 x)) = 0 := by
  have h : byteB (fun x => decide (bits .xor .u8 (bits .xor .u8 (bits .xor .u8 (mulI 2 (mulI 13 x)) (mulI 3 (mulI 11 x))) (mulI 1 (mulI 14 x))) (mulI 1 (mulI 9 x)) = 0)) = true := by kernel_rfl
  simpa using byteB_all h x hx
set_option maxRecDepth 100000 in
theorem colU3 (x : Int) (hx : 0 ≤ x ∧ x ≤ 255) : bits .xor .u8 (bits .xor .u8 (bits .xor .u8 (mulI 2 (mulI 9 x)) (mulI 3 (mulI 13 x))) (mulI 1 (mulI 11 x))) (mulI 1 (mulI 14 x)) = 0 := by
  have h : byteB (fun x => decide (bits .xor .u8 (bits .xor .u8 (bits .xor .u8 (mulI 2 (mulI 9 x)) (mulI 3 (mulI 13 x))) (mulI 1 (mulI 11 x))) (mulI 1 (mulI 14 x)) = 0)) = true := by kernel_rfl
  simpa using byteB_all h x hx
end Go.Proofs.YtommgcebjhkneaaDoor

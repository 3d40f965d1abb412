/-
  A row's argument of type int, opened. No condition.
-/
import Derived.Test.YtommgcebjhkneaaDoorRow
namespace Go.Proofs.YtommgcebjhkneaaDoor
open Go Go.ChangeShapes Go.WideShapes Go.RowKit
set_option linter.unusedVariables false
set_option maxRecDepth 100000 in
theorem open_int {H : Type} {enc : TypeId × Value → H} {W : World} {base : Nat} {v : Value} {d : DataW H} {ps : List MemPlace}
    (hval : Value.okWide Tryd.prog W .any base 3 v) (hd : DataW.Trod enc Tryd.prog W 0 (fun _ => true) true 3 v d ps) :
    ∃ z : Int, v = .int .i64 z ∧ -9223372036854775808 ≤ z ∧ z ≤ 9223372036854775807 := by
  obtain ⟨fuel, hf⟩ := hd
  obtain ⟨n, h1, _, h3⟩ := DataW.trod_int Tryd.underlying3 hf
  obtain ⟨n', rfl⟩ := okWide_int Tryd.underlying3 hval
  simp only [Value.cells] at h1
  have hn : n' = n := by simpa using h1
  subst hn
  exact ⟨n', rfl, bounds_i64 h3⟩
end Go.Proofs.YtommgcebjhkneaaDoor

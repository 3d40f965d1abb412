/-
  NARROWER THAN 'FOR EVERY INPUT', by the rows' own cells (each row's printed sentence says how): ModeXors: laid · ModeBack: laid · ModeParts: laid · ModeKeeps: laid · MacRetails: laid.
  DERIVED. THE GIVEN ROWS OF THIS SEAT. 5 by the template 'for every input the law returns true; each argument reads behind the call as it read before'; 0 by the template 'total and deterministic' (their statements: YtommgcebjhkneaaDoorTotals.lean).
  GIVEN WITH THE SEED: the statements are not yours to turn. If you find one false, say at which input.
  Laid BY PROGRAM, IN A SANDBOX (cutbox-rows.mjs): the forced cells as the released guide's own fill.sh prints them over the translation 43cc5a52df5345f6… (all of the seat's roots in one cut). By AI agents, Wed Nov 11 2026. No macro, syntax, notation, axiom, sorry.
-/
import Derived.Test.YtommgcebjhkneaaDoorChecked
import GoSem.Claim
import GoSem.ClaimJoined
import GoSem.ClaimMapViews
import Derived.JoinedTies
import Derived.KernelRfl
namespace Go.Proofs.YtommgcebjhkneaaDoor
/- THE CELL 'sum', in the pinned program and in every row, IS THE sha256 OF THE DUMP (.gsa) THAT YtommgcebjhkneaaDoorProg.lean LOADS. Nothing in Lean hashes anything: it is a label: what it is worth is what the hold of that sum in a sandbox is worth. -/
noncomputable def Tryd.pinned : Pinned := { name := "ytommgcebjhkneaadoor", sum := "43cc5a52df5345f61870124b186abcb91dda6fc4b412fdd844381fd1ef7b8bc1", checked := Tryd.checked }
namespace Rows
def none {H : Type} : Left H := { results := [], args := [] }

/- WHAT THE LISTED PACKAGE-LEVEL VARIABLES READ AS WHEN THE CALL BEGINS. Each datum BY PROGRAM (the guide's laid-datum.mjs) off the statement by which the dump's own 'gosem.cut.vars' lays the variable. In a bare row this is a premise. The card (YtommgcebjhkneaaDoorCards.lean) ties it to the program's text. -/
def laid_errors_errorType {H : Type} : DataW H := .iface "internal/reflectlite.rtype" (.agg [.ptr (.lit (.string [101, 114, 114, 111, 114]))])

/-- 'lockboxlaw06.ModeXors': WHATEVER THE INPUT: true; the input reads as it did. -/
def modeXorsSpec : ChangeSpec := { name := "modeXors", fn := fun _ => fun
  | [d1, d2] => { results := [.lit (.bool true)], args := [d1, d2] }
  | _ => none }
def modeXorsRow : OpenClaim := { program := "ytommgcebjhkneaadoor", sum := "43cc5a52df5345f61870124b186abcb91dda6fc4b412fdd844381fd1ef7b8bc1", func := "lockbox/lockboxlaw06.ModeXors", spec := "modeXors", inPlace := ["internal/reflectlite.ValueOf", "(internal/reflectlite.Value).Type", "(internal/reflectlite.Value).IsNil", "internal/reflectlite.TypeOf", "(internal/reflectlite.Value).Elem", "(internal/reflectlite.Value).Set"], unfollowed := true, recurses := true, named := ["errors.errorType"], apart := false, laid := [("errors.errorType", laid_errors_errorType)] }
def ModeXorsSaid : Prop := modeXorsRow.holds Tryd.pinned (OpenSpec.ofChange modeXorsSpec)

/-- ITS FALSE NEIGHBOUR: 'it returns false'. Refute it at one input. -/
def modeXorsWrong : ChangeSpec := { name := "modeXors", fn := fun _ => fun
  | [d1, d2] => { results := [.lit (.bool false)], args := [d1, d2] }
  | _ => none }
def ModeXorsWrongFalsely : Prop := modeXorsRow.holds Tryd.pinned (OpenSpec.ofChange modeXorsWrong)

/-- 'lockboxlaw06.ModeBack': WHATEVER THE INPUT: true; the input reads as it did. -/
def modeBackSpec : ChangeSpec := { name := "modeBack", fn := fun _ => fun
  | [d1, d2, d3, d4, d5] => { results := [.lit (.bool true)], args := [d1, d2, d3, d4, d5] }
  | _ => none }
def modeBackRow : OpenClaim := { program := "ytommgcebjhkneaadoor", sum := "43cc5a52df5345f61870124b186abcb91dda6fc4b412fdd844381fd1ef7b8bc1", func := "lockbox/lockboxlaw06.ModeBack", spec := "modeBack", inPlace := ["internal/reflectlite.ValueOf", "(internal/reflectlite.Value).Type", "(internal/reflectlite.Value).IsNil", "internal/reflectlite.TypeOf", "(internal/reflectlite.Value).Elem", "(internal/reflectlite.Value).Set"], unfollowed := true, recurses := true, named := ["errors.errorType"], apart := false, laid := [("errors.errorType", laid_errors_errorType)] }
def ModeBackSaid : Prop := modeBackRow.holds Tryd.pinned (OpenSpec.ofChange modeBackSpec)

/-- ITS FALSE NEIGHBOUR: 'it returns false'. Refute it at one input. -/
def modeBackWrong : ChangeSpec := { name := "modeBack", fn := fun _ => fun
  | [d1, d2, d3, d4, d5] => { results := [.lit (.bool false)], args := [d1, d2, d3, d4, d5] }
  | _ => none }
def ModeBackWrongFalsely : Prop := modeBackRow.holds Tryd.pinned (OpenSpec.ofChange modeBackWrong)

/-- 'lockboxlaw06.ModeParts': WHATEVER THE INPUT: true; the input reads as it did. -/
def modePartsSpec : ChangeSpec := { name := "modeParts", fn := fun _ => fun
  | [d1, d2, d3, d4, d5] => { results := [.lit (.bool true)], args := [d1, d2, d3, d4, d5] }
  | _ => none }
def modePartsRow : OpenClaim := { program := "ytommgcebjhkneaadoor", sum := "43cc5a52df5345f61870124b186abcb91dda6fc4b412fdd844381fd1ef7b8bc1", func := "lockbox/lockboxlaw06.ModeParts", spec := "modeParts", inPlace := ["internal/reflectlite.ValueOf", "(internal/reflectlite.Value).Type", "(internal/reflectlite.Value).IsNil", "internal/reflectlite.TypeOf", "(internal/reflectlite.Value).Elem", "(internal/reflectlite.Value).Set"], unfollowed := true, recurses := true, named := ["errors.errorType"], apart := false, laid := [("errors.errorType", laid_errors_errorType)] }
def ModePartsSaid : Prop := modePartsRow.holds Tryd.pinned (OpenSpec.ofChange modePartsSpec)

/-- ITS FALSE NEIGHBOUR: 'it returns false'. Refute it at one input. -/
def modePartsWrong : ChangeSpec := { name := "modeParts", fn := fun _ => fun
  | [d1, d2, d3, d4, d5] => { results := [.lit (.bool false)], args := [d1, d2, d3, d4, d5] }
  | _ => none }
def ModePartsWrongFalsely : Prop := modePartsRow.holds Tryd.pinned (OpenSpec.ofChange modePartsWrong)

/-- 'lockboxlaw06.ModeKeeps': WHATEVER THE INPUT: true; the input reads as it did. -/
def modeKeepsSpec : ChangeSpec := { name := "modeKeeps", fn := fun _ => fun
  | [d1, d2, d3] => { results := [.lit (.bool true)], args := [d1, d2, d3] }
  | _ => none }
def modeKeepsRow : OpenClaim := { program := "ytommgcebjhkneaadoor", sum := "43cc5a52df5345f61870124b186abcb91dda6fc4b412fdd844381fd1ef7b8bc1", func := "lockbox/lockboxlaw06.ModeKeeps", spec := "modeKeeps", inPlace := ["internal/reflectlite.ValueOf", "(internal/reflectlite.Value).Type", "(internal/reflectlite.Value).IsNil", "internal/reflectlite.TypeOf", "(internal/reflectlite.Value).Elem", "(internal/reflectlite.Value).Set"], unfollowed := true, recurses := true, named := ["errors.errorType"], apart := false, laid := [("errors.errorType", laid_errors_errorType)] }
def ModeKeepsSaid : Prop := modeKeepsRow.holds Tryd.pinned (OpenSpec.ofChange modeKeepsSpec)

/-- ITS FALSE NEIGHBOUR: 'it returns false'. Refute it at one input. -/
def modeKeepsWrong : ChangeSpec := { name := "modeKeeps", fn := fun _ => fun
  | [d1, d2, d3] => { results := [.lit (.bool false)], args := [d1, d2, d3] }
  | _ => none }
def ModeKeepsWrongFalsely : Prop := modeKeepsRow.holds Tryd.pinned (OpenSpec.ofChange modeKeepsWrong)

/-- 'lockboxlaw07.MacRetails': WHATEVER THE INPUT: true; the input reads as it did. -/
def macRetailsSpec : ChangeSpec := { name := "macRetails", fn := fun _ => fun
  | [d1, d2, d3, d4] => { results := [.lit (.bool true)], args := [d1, d2, d3, d4] }
  | _ => none }
def macRetailsRow : OpenClaim := { program := "ytommgcebjhkneaadoor", sum := "43cc5a52df5345f61870124b186abcb91dda6fc4b412fdd844381fd1ef7b8bc1", func := "lockbox/lockboxlaw07.MacRetails", spec := "macRetails", inPlace := ["internal/reflectlite.ValueOf", "(internal/reflectlite.Value).Type", "(internal/reflectlite.Value).IsNil", "internal/reflectlite.TypeOf", "(internal/reflectlite.Value).Elem", "(internal/reflectlite.Value).Set"], unfollowed := true, recurses := true, named := ["errors.errorType"], apart := false, laid := [("errors.errorType", laid_errors_errorType)] }
def MacRetailsSaid : Prop := macRetailsRow.holds Tryd.pinned (OpenSpec.ofChange macRetailsSpec)

/-- ITS FALSE NEIGHBOUR: 'it returns false'. Refute it at one input. -/
def macRetailsWrong : ChangeSpec := { name := "macRetails", fn := fun _ => fun
  | [d1, d2, d3, d4] => { results := [.lit (.bool false)], args := [d1, d2, d3, d4] }
  | _ => none }
def MacRetailsWrongFalsely : Prop := macRetailsRow.holds Tryd.pinned (OpenSpec.ofChange macRetailsWrong)

/- THE SECOND FORM. 'bulk': how many values and letters a reading holds, each counted each time it is reached (what is shared counts as often as it is met; a slice's spare places count too). A statement '..UptoSaid' is the law's where the arguments, and the package variables that the reading takes, are together of bulk at most 1048576: NARROWER than '..Said'. Prove '..Said' where nothing that the law and all that it calls make is longer than what came in: it says more and counts as full. Else prove '..UptoSaid'. A law counts once. -/
mutual
def uptoBulk {H : Type} : DataW H → Nat
  | .lit (.string bytes) => bytes.length + 1
  | .lit _ => 1
  | .nil => 1
  | .ptr d => uptoBulk d + 1
  | .slice elems spare => uptoBulkAll elems + uptoBulkAll spare + 1
  | .agg parts => uptoBulkAll parts + 1
  | .iface _ d => uptoBulk d + 1
  | .map entries => uptoBulkEntries entries + 1
  | .held _ => 1
def uptoBulkAll {H : Type} : List (DataW H) → Nat
  | [] => 0
  | d :: r => uptoBulk d + uptoBulkAll r
def uptoBulkEntries {H : Type} : List (Lit × DataW H) → Nat
  | [] => 0
  | x :: r => uptoBulkEntry x + uptoBulkEntries r
def uptoBulkEntry {H : Type} : Lit × DataW H → Nat
  | (.string bytes, d) => bytes.length + uptoBulk d + 1
  | (_, d) => uptoBulk d + 1
 end
def uptoSmall : (H : Type) → List (DataW H) → Bool := fun _ ds => decide (uptoBulkAll ds ≤ 1048576)
def OpenSpec.upto (s : _root_.Go.ChangeSpec) : _root_.Go.OpenSpec := { _root_.Go.OpenSpec.ofChange s with cond := some uptoSmall }

/-- 'lockboxlaw06.ModeXors', WHERE WHAT IT READS IS OF BULK AT MOST 1048576: true; the input reads as it did. -/
def modeXorsUptoRow : OpenClaim := { program := "ytommgcebjhkneaadoor", sum := "43cc5a52df5345f61870124b186abcb91dda6fc4b412fdd844381fd1ef7b8bc1", func := "lockbox/lockboxlaw06.ModeXors", spec := "modeXors", inPlace := ["internal/reflectlite.ValueOf", "(internal/reflectlite.Value).Type", "(internal/reflectlite.Value).IsNil", "internal/reflectlite.TypeOf", "(internal/reflectlite.Value).Elem", "(internal/reflectlite.Value).Set"], unfollowed := true, recurses := true, named := ["errors.errorType"], apart := false, laid := [("errors.errorType", laid_errors_errorType)], narrowed := true }
def ModeXorsUptoSaid : Prop := modeXorsUptoRow.holds Tryd.pinned (OpenSpec.upto modeXorsSpec)

/-- 'lockboxlaw06.ModeBack', WHERE WHAT IT READS IS OF BULK AT MOST 1048576: true; the input reads as it did. -/
def modeBackUptoRow : OpenClaim := { program := "ytommgcebjhkneaadoor", sum := "43cc5a52df5345f61870124b186abcb91dda6fc4b412fdd844381fd1ef7b8bc1", func := "lockbox/lockboxlaw06.ModeBack", spec := "modeBack", inPlace := ["internal/reflectlite.ValueOf", "(internal/reflectlite.Value).Type", "(internal/reflectlite.Value).IsNil", "internal/reflectlite.TypeOf", "(internal/reflectlite.Value).Elem", "(internal/reflectlite.Value).Set"], unfollowed := true, recurses := true, named := ["errors.errorType"], apart := false, laid := [("errors.errorType", laid_errors_errorType)], narrowed := true }
def ModeBackUptoSaid : Prop := modeBackUptoRow.holds Tryd.pinned (OpenSpec.upto modeBackSpec)

/-- 'lockboxlaw06.ModeParts', WHERE WHAT IT READS IS OF BULK AT MOST 1048576: true; the input reads as it did. -/
def modePartsUptoRow : OpenClaim := { program := "ytommgcebjhkneaadoor", sum := "43cc5a52df5345f61870124b186abcb91dda6fc4b412fdd844381fd1ef7b8bc1", func := "lockbox/lockboxlaw06.ModeParts", spec := "modeParts", inPlace := ["internal/reflectlite.ValueOf", "(internal/reflectlite.Value).Type", "(internal/reflectlite.Value).IsNil", "internal/reflectlite.TypeOf", "(internal/reflectlite.Value).Elem", "(internal/reflectlite.Value).Set"], unfollowed := true, recurses := true, named := ["errors.errorType"], apart := false, laid := [("errors.errorType", laid_errors_errorType)], narrowed := true }
def ModePartsUptoSaid : Prop := modePartsUptoRow.holds Tryd.pinned (OpenSpec.upto modePartsSpec)

/-- 'lockboxlaw06.ModeKeeps', WHERE WHAT IT READS IS OF BULK AT MOST 1048576: true; the input reads as it did. -/
def modeKeepsUptoRow : OpenClaim := { program := "ytommgcebjhkneaadoor", sum := "43cc5a52df5345f61870124b186abcb91dda6fc4b412fdd844381fd1ef7b8bc1", func := "lockbox/lockboxlaw06.ModeKeeps", spec := "modeKeeps", inPlace := ["internal/reflectlite.ValueOf", "(internal/reflectlite.Value).Type", "(internal/reflectlite.Value).IsNil", "internal/reflectlite.TypeOf", "(internal/reflectlite.Value).Elem", "(internal/reflectlite.Value).Set"], unfollowed := true, recurses := true, named := ["errors.errorType"], apart := false, laid := [("errors.errorType", laid_errors_errorType)], narrowed := true }
def ModeKeepsUptoSaid : Prop := modeKeepsUptoRow.holds Tryd.pinned (OpenSpec.upto modeKeepsSpec)

/-- 'lockboxlaw07.MacRetails', WHERE WHAT IT READS IS OF BULK AT MOST 1048576: true; the input reads as it did. -/
def macRetailsUptoRow : OpenClaim := { program := "ytommgcebjhkneaadoor", sum := "43cc5a52df5345f61870124b186abcb91dda6fc4b412fdd844381fd1ef7b8bc1", func := "lockbox/lockboxlaw07.MacRetails", spec := "macRetails", inPlace := ["internal/reflectlite.ValueOf", "(internal/reflectlite.Value).Type", "(internal/reflectlite.Value).IsNil", "internal/reflectlite.TypeOf", "(internal/reflectlite.Value).Elem", "(internal/reflectlite.Value).Set"], unfollowed := true, recurses := true, named := ["errors.errorType"], apart := false, laid := [("errors.errorType", laid_errors_errorType)], narrowed := true }
def MacRetailsUptoSaid : Prop := macRetailsUptoRow.holds Tryd.pinned (OpenSpec.upto macRetailsSpec)

end Rows
end Go.Proofs.YtommgcebjhkneaaDoor

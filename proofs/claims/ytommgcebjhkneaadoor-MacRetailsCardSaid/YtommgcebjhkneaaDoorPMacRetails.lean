/-
  Proved: lockboxlaw07.MacRetails, whatever its key, text, length and draw, returns true, and these read behind the call as before. Condition: errors.errorType holds what the program's text lays in it (tied to that text by the card).
-/
import Derived.Test.YtommgcebjhkneaaDoorRow
import Derived.Test.YtommgcebjhkneaaDoorLaw7q
import Derived.Test.YtommgcebjhkneaaDoorRowI
import Derived.Test.YtommgcebjhkneaaDoorTie
import Derived.Test.YtommgcebjhkneaaDoorCards
import Derived.SevenTiedAt
import Derived.Carry
namespace Go.Proofs.YtommgcebjhkneaaDoor
open Go Go.ChangeShapes Go.WideShapes Go.RowKit
set_option linter.unusedVariables false

set_option maxRecDepth 100000 in
theorem macRetails_lifted (os : Os) (started : os.Started) (H : Type) (enc : TypeId × Value → H) :
    ReturnsInHanded {} Tryd.checked os 7 .any (fun w args => (Rows.macRetailsSpec.pre enc Tryd.prog Tryd.f7 [] false w args ∧ laidMetH Tryd.prog [("errors.errorType", Rows.laid_errors_errorType)] w) ∧ sizedMet enc Tryd.prog Tryd.f7 (OpenSpec.ofChange Rows.macRetailsSpec) false w args)
      (Rows.macRetailsSpec.post enc Tryd.prog Tryd.f7 false true false false) := by
  refine returnsInHanded_of_change_and (C := Tryd.checked) (X := fun w _ => laidMetH Tryd.prog [("errors.errorType", Rows.laid_errors_errorType)] w) (fun _ _ _ hh h => h.of_heap hh) own started (by kernel_rfl) Tryd.func7
    (ChangeSpec.witness_at (enc := enc) (C := Tryd.checked) (os := os) (X := fun w _ => laidMetH Tryd.prog [("errors.errorType", Rows.laid_errors_errorType)] w) false (laidWorld os) #[.slice none 0 0, .slice none 0 0, .int .i64 0, .int .u8 0] 8 rfl (by kernel_rfl) (by kernel_rfl) (by kernel_rfl) (by kernel_rfl) (by kernel_rfl) (laidWorld_met os _)) ?_
  intro W base args ds gs before hval0 hW _ _ hL hsz
  have hval : ∀ (j : Nat) t v, Tryd.f7.params[j]? = some t → args[j]? = some v → Value.okWide Tryd.prog W .any base t v := hval0
  have hW' := hW
  obtain ⟨p, q, hA0, hV0, rfl, hfz, hnd⟩ := hW
  have hA : DataW.TrodAll enc Tryd.prog W 0 (fun _ => true) true Tryd.f7.params.toList args.toList ds p := hA0
  have hV : DataW.TrodVars enc Tryd.prog W (fun _ => true) [] gs q := hV0
  obtain ⟨rfl, rfl⟩ : gs = [] ∧ q = [] := by
    cases gs with
    | nil => exact ⟨rfl, hV⟩
    | cons g r => exact absurd hV (by intro h; cases h)
  have hAk := hA
  rw [Tryd.params7] at hA hval
  obtain ⟨v0, v1, v2, v3, d0, d1, d2, d3, p0, p1, p2, p3, rfl, rfl, rfl, h0, h1, h2, h3⟩ := trodAll_four hA
  obtain ⟨A0, n0, c0, xs0, rfl, e01, e02, e03, e04, e05, e06, e07⟩ := open_u8s (hval 0 22 v0 rfl rfl) h0
  obtain ⟨A1, n1, c1, xs1, rfl, e11, e12, e13, e14, e15, e16, e17⟩ := open_u8s (hval 1 22 v1 rfl rfl) h1
  obtain ⟨z2, rfl, zb2⟩ := open_int (hval 2 3 v2 rfl rfl) h2
  obtain ⟨u3, rfl, ub3⟩ := open_u8 (hval 3 5 v3 rfl rfl) h3
  refine ((MacRetails_any A0 A1 n0 c0 n1 c1 xs0 xs1 z2 u3 ub3 W e01 e11 e02 e05 e15 e06 e16 e14 (laid_of_met hL))).mono fun e W' ⟨he, hb⟩ => ?_
  subst he
  rw [List.append_nil] at hW'
  have hlt : ∀ x ∈ p0 ++ p1 ++ p2 ++ p3, x.block < W.heap.size := fun x hx => by
    have := hW'.lt x (by simpa using hx)
    simpa using this
  exact ⟨_, rfl, post_below hW' rfl (fun _ _ _ => trodAll_mk1 (shut_bool Tryd.underlying4 true)) (fun sp hsp => trodAll_carry laidOut hb _ _ _ _ (by kernel_rfl) hAk hlt hsp) rfl hb (ok_one (by kernel_rfl) rfl (okWide_bool_mk Tryd.underlying4 true))⟩

theorem macRetails_holds : Rows.MacRetailsSaid :=
  OpenClaim.holds_of_wide 7 Tryd.f7 rfl rfl rfl rfl rfl rfl rfl ⟨rfl, rfl, rfl, rfl, rfl⟩ rfl rfl rfl rfl rfl (by kernel_rfl) Tryd.func7 (by kernel_rfl)
    (of_decide_eq_true (by kernel_rfl)) (by unfold Func.isWrapper; rw [if_neg (of_decide_eq_false (by kernel_rfl))]; exact ⟨rfl, rfl⟩)
    (fun os started H enc _ => macRetails_lifted os started H enc)

theorem macRetails_proved : Rows.MacRetailsCardSaid :=
  Claim7.holds_tied_plain_at .later [] [.handle] true (Rows.macRetailsCard.stood.harness) true
    macRetails_holds (fun _ h => by cases h) (by kernel_rfl) (fun _ h => by cases h) macRetails_row_tie rfl ⟨rfl, rfl⟩ (by kernel_rfl) rfl
    (fun f fn hf hfn => by
      obtain rfl : f = 7 := Option.some.inj ((show Tryd.prog.funcNamed "lockbox/lockboxlaw07.MacRetails" = some 7 by kernel_rfl).symm.trans hf) |>.symm
      obtain rfl : fn = Tryd.f7 := (Option.some.inj (Tryd.func7.symm.trans hfn)).symm
      exact ⟨by kernel_rfl, fun j t ht => by
        rw [Tryd.params7] at ht
        have h3 : t ∈ [22, 3, 5] := by
          rcases j with _ | _ | _ | _ | j
          · simp at ht; simp [← ht]
          · simp at ht; simp [← ht]
          · simp at ht; simp [← ht]
          · simp at ht; simp [← ht]
          · simp at ht
        have hall : ([22, 3, 5].all fun t => !Tryd.prog.wantsStandIn t) = true := by kernel_rfl
        have := List.all_eq_true.1 hall t h3
        exact (by simpa using this : Tryd.prog.wantsStandIn t = false)⟩)
    (by kernel_rfl)
#print axioms macRetails_proved
end Go.Proofs.YtommgcebjhkneaaDoor

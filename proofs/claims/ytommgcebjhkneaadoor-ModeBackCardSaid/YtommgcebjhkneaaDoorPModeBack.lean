/-
  Proved: lockboxlaw06.ModeBack, whatever its kind, key, start, text and direction, returns true, and these read behind the call as before. Condition: errors.errorType holds what the program's text lays in it (tied to that text by the card).
-/
import Derived.Test.YtommgcebjhkneaaDoorRow
import Derived.Test.YtommgcebjhkneaaDoorLaw6q
import Derived.Test.YtommgcebjhkneaaDoorTie
import Derived.Test.YtommgcebjhkneaaDoorCards
import Derived.SevenTiedAt
import Derived.Carry
namespace Go.Proofs.YtommgcebjhkneaaDoor
open Go Go.ChangeShapes Go.WideShapes Go.RowKit
set_option linter.unusedVariables false

set_option maxRecDepth 100000 in
theorem modeBack_lifted (os : Os) (started : os.Started) (H : Type) (enc : TypeId × Value → H) :
    ReturnsInHanded {} Tryd.checked os 4 .any (fun w args => (Rows.modeBackSpec.pre enc Tryd.prog Tryd.f4 [] false w args ∧ laidMetH Tryd.prog [("errors.errorType", Rows.laid_errors_errorType)] w) ∧ sizedMet enc Tryd.prog Tryd.f4 (OpenSpec.ofChange Rows.modeBackSpec) false w args)
      (Rows.modeBackSpec.post enc Tryd.prog Tryd.f4 false true false false) := by
  refine returnsInHanded_of_change_and (C := Tryd.checked) (X := fun w _ => laidMetH Tryd.prog [("errors.errorType", Rows.laid_errors_errorType)] w) (fun _ _ _ hh h => h.of_heap hh) own started (by kernel_rfl) Tryd.func4
    (ChangeSpec.witness_at (enc := enc) (C := Tryd.checked) (os := os) (X := fun w _ => laidMetH Tryd.prog [("errors.errorType", Rows.laid_errors_errorType)] w) false (laidWorld os) #[.int .u8 0, .slice none 0 0, .agg #[.int .u8 0, .int .u8 0, .int .u8 0, .int .u8 0, .int .u8 0, .int .u8 0, .int .u8 0, .int .u8 0, .int .u8 0, .int .u8 0, .int .u8 0, .int .u8 0, .int .u8 0, .int .u8 0, .int .u8 0, .int .u8 0], .slice none 0 0, .bool false] 8 rfl (by kernel_rfl) (by kernel_rfl) (by kernel_rfl) (by kernel_rfl) (by kernel_rfl) (laidWorld_met os _)) ?_
  intro W base args ds gs before hval0 hW _ _ hL hsz
  have hval : ∀ (j : Nat) t v, Tryd.f4.params[j]? = some t → args[j]? = some v → Value.okWide Tryd.prog W .any base t v := hval0
  have hW' := hW
  obtain ⟨p, q, hA0, hV0, rfl, hfz, hnd⟩ := hW
  have hA : DataW.TrodAll enc Tryd.prog W 0 (fun _ => true) true Tryd.f4.params.toList args.toList ds p := hA0
  have hV : DataW.TrodVars enc Tryd.prog W (fun _ => true) [] gs q := hV0
  obtain ⟨rfl, rfl⟩ : gs = [] ∧ q = [] := by
    cases gs with
    | nil => exact ⟨rfl, hV⟩
    | cons g r => exact absurd hV (by intro h; cases h)
  have hAk := hA
  rw [Tryd.params4] at hA hval
  obtain ⟨v0, v1, v2, v3, v4, d0, d1, d2, d3, d4, p0, p1, p2, p3, p4, rfl, rfl, rfl, h0, h1, h2, h3, h4⟩ := trodAll_five hA
  obtain ⟨u0, rfl, ub0⟩ := open_u8 (hval 0 5 v0 rfl rfl) h0
  obtain ⟨A1, n1, c1, xs1, rfl, e11, e12, e13, e14, e15, e16, e17⟩ := open_u8s (hval 1 22 v1 rfl rfl) h1
  obtain ⟨st2, rfl, g21, g22⟩ := open_b16 (hval 2 31 v2 rfl rfl) h2
  obtain ⟨A3, n3, c3, xs3, rfl, e31, e32, e33, e34, e35, e36, e37⟩ := open_u8s (hval 3 22 v3 rfl rfl) h3
  obtain ⟨bo4, rfl⟩ := open_bool (hval 4 4 v4 rfl rfl) h4
  refine (ModeBack_any u0 ub0 bo4 A1 A3 n1 c1 n3 c3 xs1 st2 xs3 W e11 e31 g21 e32 e15 e35 e16 e36 g22 e34 (laid_of_met hL)).mono fun e W' ⟨he, hb⟩ => ?_
  subst he
  rw [List.append_nil] at hW'
  have hlt : ∀ x ∈ p0 ++ p1 ++ p2 ++ p3 ++ p4, x.block < W.heap.size := fun x hx => by
    have := hW'.lt x (by simpa using hx)
    simpa using this
  exact ⟨_, rfl, post_below hW' rfl (fun _ _ _ => trodAll_mk1 (shut_bool Tryd.underlying4 true)) (fun sp hsp => trodAll_carry laidOut hb _ _ _ _ (by kernel_rfl) hAk hlt hsp) rfl hb (ok_one (by kernel_rfl) rfl (okWide_bool_mk Tryd.underlying4 true))⟩

theorem modeBack_holds : Rows.ModeBackSaid :=
  OpenClaim.holds_of_wide 4 Tryd.f4 rfl rfl rfl rfl rfl rfl rfl ⟨rfl, rfl, rfl, rfl, rfl⟩ rfl rfl rfl rfl rfl (by kernel_rfl) Tryd.func4 (by kernel_rfl)
    (of_decide_eq_true (by kernel_rfl)) (by unfold Func.isWrapper; rw [if_neg (of_decide_eq_false (by kernel_rfl))]; exact ⟨rfl, rfl⟩)
    (fun os started H enc _ => modeBack_lifted os started H enc)

theorem modeBack_proved : Rows.ModeBackCardSaid :=
  Claim7.holds_tied_plain_at .later [] [.handle] true (Rows.modeBackCard.stood.harness) true
    modeBack_holds (fun _ h => by cases h) (by kernel_rfl) (fun _ h => by cases h) modeBack_row_tie rfl ⟨rfl, rfl⟩ (by kernel_rfl) rfl
    (fun f fn hf hfn => by
      obtain rfl : f = 4 := Option.some.inj ((show Tryd.prog.funcNamed "lockbox/lockboxlaw06.ModeBack" = some 4 by kernel_rfl).symm.trans hf) |>.symm
      obtain rfl : fn = Tryd.f4 := (Option.some.inj (Tryd.func4.symm.trans hfn)).symm
      exact ⟨by kernel_rfl, fun j t ht => by
        rw [Tryd.params4] at ht
        have h3 : t ∈ [5, 22, 31, 4] := by
          rcases j with _ | _ | _ | _ | _ | j
          · simp at ht; simp [← ht]
          · simp at ht; simp [← ht]
          · simp at ht; simp [← ht]
          · simp at ht; simp [← ht]
          · simp at ht; simp [← ht]
          · simp at ht
        have hall : ([5, 22, 31, 4].all fun t => !Tryd.prog.wantsStandIn t) = true := by kernel_rfl
        have := List.all_eq_true.1 hall t h3
        exact (by simpa using this : Tryd.prog.wantsStandIn t = false)⟩)
    (by kernel_rfl)
#print axioms modeBack_proved
end Go.Proofs.YtommgcebjhkneaaDoor

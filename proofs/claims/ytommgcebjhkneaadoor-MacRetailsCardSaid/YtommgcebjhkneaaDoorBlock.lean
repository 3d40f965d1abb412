/-
  block: ciphers as values in memory; a slice cloned; a cipher made; a block enciphered or deciphered by AES.
-/
import Derived.Test.YtommgcebjhkneaaDoorAes3
import Derived.Lib.SliceRun
namespace Go.Proofs.YtommgcebjhkneaaDoor
open Go Go.RowKit
set_option linter.unusedVariables false
set_option linter.unusedSimpArgs false

/-- The slice value v reads as xs in memory that is no older than base, and may be written. -/
def New (w : World) (base : Nat) (v : Value) (xs : List Int) : Prop :=
  ∃ A c, v = .slice A xs.length c ∧ xs.length ≤ c ∧ Rd .u8 w A xs ∧ (A = none → c = 0) ∧ ∀ ad, A = some ad → base ≤ ad.block ∧ ad.block < w.heap.size ∧ ∀ j, w.frozen? (ad.add j) = false

section
variable {w w1 : World} {base B g : Nat} {v : Value} {xs : List Int}
theorem New.of_own (h : Own .u8 5 w base v xs) : New w base v xs := by
  rcases h.2 with ⟨rfl, h2⟩ | ⟨g, cap, cur, rfl, h3, h4, h5, h6, h7, h8⟩
  · have : xs = [] := List.eq_nil_of_length_eq_zero h2
    subst this
    exact ⟨none, 0, rfl, Nat.le_refl _, Rd.nil, fun _ => rfl, fun ad e => by cases e⟩
  · obtain ⟨A, c, e, hc, _, hr, _⟩ := h.reads
    injection e with e1 e2 e3
    subst e1 e3
    refine ⟨_, _, rfl, hc, hr, (fun e => by cases e), fun ad e => ?_⟩
    cases e
    refine ⟨h3, (h.lt g rfl).2, fun j => ?_⟩
    have : (⟨g, 0, none⟩ : Addr).add j = ⟨g, j, none⟩ := by unfold Addr.add; split <;> simp_all
    rw [this]
    exact frozen_of_row w g j cur _ h4
theorem New.of_row {t n c : Nat} (h : Row w g t xs) (hg : base ≤ g) (hn : n = xs.length) (hc : n ≤ c) : New w base (.slice (some ⟨g, 0, none⟩) n c) xs := by
  subst hn
  refine ⟨_, _, rfl, hc, Rd.of_row h, (fun e => by cases e), fun ad e => ?_⟩
  cases e
  refine ⟨hg, h.lt, fun j => ?_⟩
  have : (⟨g, 0, none⟩ : Addr).add j = ⟨g, j, none⟩ := by unfold Addr.add; split <;> simp_all
  rw [this]
  exact h.frozen j
theorem New.below (h : New w base v xs) (hb : Below w.heap.size w w1) : New w1 base v xs := by
  obtain ⟨A, c, rfl, hc, hr, hn, ha⟩ := h
  refine ⟨A, c, rfl, hc, hr.below hb, hn, fun ad e => ?_⟩
  obtain ⟨h1, h2, h3⟩ := ha ad e
  exact ⟨h1, Nat.lt_of_lt_of_le h2 hb.size, fun j => by rw [hb.frozen (by rw [block_add]; exact h2)]; exact h3 j⟩
theorem New.lower (h : New w base v xs) (hB : B ≤ base) : New w B v xs := by
  obtain ⟨A, c, rfl, hc, hr, hn, ha⟩ := h
  exact ⟨A, c, rfl, hc, hr, hn, fun ad e => ⟨Nat.le_trans hB (ha ad e).1, (ha ad e).2⟩⟩
theorem New.only (h : New w base v xs) (ho : Only g w w1) (hg : g < base) : New w1 base v xs := by
  obtain ⟨A, c, rfl, hc, hr, hn, ha⟩ := h
  refine ⟨A, c, rfl, hc, hr.only ho (fun ad e => by have := (ha ad e).1; omega), hn, fun ad e => ?_⟩
  obtain ⟨h1, h2, h3⟩ := ha ad e
  exact ⟨h1, Nat.lt_of_lt_of_le h2 ho.size, fun j => by rw [ho.frozen (by rw [block_add]; exact h2) (by rw [block_add]; omega)]; exact h3 j⟩
end

/-- What a function hands back that answers new bytes. -/
def RetNew (xs : List Int) (w : World) (e : Ending) (w' : World) : Prop := ∃ v, e = .returned v ∧ New w' w.heap.size v xs ∧ Below w.heap.size w w'
def RetNewNil (xs : List Int) (w : World) (e : Ending) (w' : World) : Prop := ∃ v, e = .returned (.tuple #[v, .nilIface]) ∧ New w' w.heap.size v xs ∧ Below w.heap.size w w'

set_option maxHeartbeats 1000000 in
theorem Clone_any (A : Option Addr) (n c : Nat) (xs : List Int) (w : World) (hn : n = xs.length) (hr : Rd .u8 w A xs) (h0 : A = none → c = 0) (hl : xs.length ≤ 100000000) :
    Calls Tryd.prog 32 #[.slice A n c] w (RetNew xs w) := by
  have HN := Hd.mk hn; have HR := Hd.mk hr; have H0 := Hd.mk h0
  have hnl : n ≤ 100000000 := by omega
  clear hn hr h0 hl
  have e0 := fun (w : World) (b : Option Addr) (n c : Nat) => Lib.run_eql_slice_nil (P := Tryd.prog) w 22 5 b n c 0 0 Tryd.underlying22
  rcases A with _ | ad
  · have hx : xs = [] := by
      cases xs with
      | nil => rfl
      | cons x xs => obtain ⟨ad, e, _⟩ := HR.out.get 0 (by simp); cases e
    subst hx
    have hc := H0.out rfl
    subst hc
    obtain rfl : n = 0 := HN.out
    go_enter Tryd.func32, Tryd.ntmps32
    go_wp2
    go_ret
    exact ⟨_, rfl, ⟨none, 0, rfl, Nat.le_refl _, Rd.nil, fun _ => rfl, fun ad e => by cases e⟩, Below.refl _ _⟩
  · go_enter Tryd.func32, Tryd.ntmps32
    go_wp2_with (first
      | (refine empty_any (k := .u8) rfl emU8 rfl ?_; intro g0 w0 h1 h2 h3 h4)
      | (at_builtin; refine append_any slU8 rfl _ _ rfl rfl h4 rfl HN.out (HR.out.below h3) (fun _ e => by cases e) (by have := HN.out; simp; omega) (by omega) ?_; intro v1 w1 h5 h6 h7))
    go_ret
    exact ⟨_, rfl, New.of_own h5, h6.below h3 (by omega) (fun b hb => (h4.lt b hb).1)⟩
end Go.Proofs.YtommgcebjhkneaaDoor

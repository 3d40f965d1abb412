/-
  Rows of any one-cell values that a call owns (slices of slices): grown, kept, read. No condition on a program.
-/
import Derived.Test.YtommgcebjhkneaaDoorRef3c
namespace Go.Proofs.YtommgcebjhkneaaDoor
open Go Go.RowKit
set_option linter.unusedVariables false
set_option linter.unusedSimpArgs false

/-- The slice value v is the call's own, in a block from base on, and holds the values vs. -/
def OwnV (E : TypeId) (w : World) (base : Nat) (v : Value) (vs : List Value) : Prop := w.ownsRow base E 1 v vs.length vs
structure SlV (P : Program) (T E : TypeId) (bytes : Nat) : Prop where
  und : P.underlying T = some (.slice E)
  info : (P.info? E).map (fun i => (i.zero.map (·.cells.size), i.size, i.bytes)) = some (some 1, 1, bytes)
  pos : 0 < bytes ∧ bytes ≤ 64
section
variable {E T bytes base B : Nat} {v v1 : Value} {vs ys : List Value} {w w0 w1 w2 : World} {g : Nat} {k : IntKind} {xs : List Int}
theorem OwnV.nil (w : World) (base : Nat) : OwnV E w base (.slice none 0 0) [] := World.ownsRow_nil w base E 1
theorem OwnV.move (h : OwnV E w base v vs) (hm : ∀ b, v.ownBlock = some b → w1.heap[b]? = w.heap[b]?) : OwnV E w1 base v vs := by
  obtain ⟨h1, h2⟩ := h
  refine ⟨h1, ?_⟩
  rcases h2 with h2 | ⟨g, cap, cur, rfl, h3, h4, h5⟩
  · exact .inl h2
  · exact .inr ⟨g, cap, cur, rfl, h3, by rw [hm g rfl]; exact h4, h5⟩
theorem OwnV.lt (h : OwnV E w base v vs) : ∀ b, v.ownBlock = some b → base ≤ b ∧ b < w.heap.size := World.ownsRow.lt h
theorem OwnV.below (h : OwnV E w base v vs) (hb : Below w.heap.size w w1) : OwnV E w1 base v vs := h.move fun b hb' => hb.block b (h.lt b hb').2
theorem OwnV.drewN (h : OwnV E w base v vs) (n : Nat) : OwnV E (w.drewN n) base v vs := h
theorem OwnV.grow (h : OwnV E w base v vs) (hg : Grow v1 w w1) (hne : ∀ b, v.ownBlock = some b → v1.ownBlock ≠ some b) : OwnV E w1 base v vs :=
  h.move fun b hb => hg.block b (h.lt b hb).2 (fun e => hne b hb e.symm)
theorem OwnV.lower (h : OwnV E w base v vs) (hb : B ≤ base) : OwnV E w B v vs := by
  obtain ⟨h1, h2⟩ := h
  refine ⟨h1, ?_⟩
  rcases h2 with h2 | ⟨g, cap, cur, rfl, h3, h4⟩
  · exact .inl h2
  · exact .inr ⟨g, cap, cur, rfl, by omega, h4⟩
theorem OwnV.form (h : OwnV E w base v vs) (hx : 0 < vs.length) : ∃ g c, v = .slice (some ⟨g, 0, none⟩) vs.length c ∧ vs.length ≤ c ∧ base ≤ g ∧ g < w.heap.size := by
  have h' := h
  rcases h.2 with ⟨rfl, h2⟩ | ⟨g, cap, cur, rfl, h3, h4, h5, _⟩
  · omega
  · exact ⟨g, cap, rfl, h5, (h'.lt g rfl).1, (h'.lt g rfl).2⟩
theorem OwnV.cell {n c : Nat} (h : OwnV E w base (.slice (some ⟨g, 0, none⟩) n c) vs) (hn : n = vs.length) (j : Nat) (hj : j < vs.length) : w.cell? ⟨g, j, none⟩ = vs[j]? := by
  subst hn
  exact World.ownsRow.cellAt h j (by omega)
/-- A row of numbers that can be read is another block than a row of slices. -/
theorem OwnV.not_rd {m c gx : Nat} {A : Option Addr} (h : OwnV E w base v vs) (h0 : vs[0]? = some (.slice A m c)) (hr : Rd k w (some ⟨gx, 0, none⟩) xs) (hx : 0 < xs.length) : v.ownBlock ≠ some gx := by
  intro e
  obtain ⟨g, c', rfl, _, _, _⟩ := h.form (by
    cases vs with
    | nil => cases h0
    | cons _ _ => simp)
  have e1 : g = gx := by simpa [Value.ownBlock] using e
  subst e1
  have hc := h.cell rfl 0 (by
    cases vs with
    | nil => cases h0
    | cons _ _ => simp)
  obtain ⟨ad, ea, hc2⟩ := hr.get 0 hx
  cases ea
  have : (⟨g, 0, none⟩ : Addr).add 0 = ⟨g, 0, none⟩ := rfl
  rw [this, hc, h0] at hc2
  cases hc2
end

section
variable {P : Program} {ops : Array Oper} {rest : List Oper} {o : Oper} {a : Act} {w w0 : World} {Q : Exit → Act → World → Prop} {T E base bytes g : Nat} {vs ys : List Value} {v : Value}
theorem append_v (hT : SlV P T E bytes) (hgd : o.guard = none) (s x : Operand) (ho : o.op = .call { callee := .builtin .append, args := #[s, x], argTypes := #[T, T] })
    (hs : a.eval s = v) (HO : OwnV E w base v vs) {m c : Nat} {t : TypeId} (hx : a.eval x = .slice (some ⟨g, 0, none⟩) m c) (hm : m = ys.length) (HR : RowV w g t ys) (h1 : OneV ys) (h0 : 0 < m) (hl : vs.length + ys.length ≤ 1000000) (hbase : base ≤ w.heap.size)
    (h : ∀ v1 w1, OwnV E w1 base v1 (vs ++ ys) → Grow v w w1 → (v1.ownBlock = v.ownBlock ∨ ∃ b, v1.ownBlock = some b ∧ w.heap.size ≤ b) → wpList P ops Q rest (a.put o.dst v1) w1) :
    wpList P ops Q (o :: rest) a w := by
  obtain ⟨i, hi, hzz⟩ := Option.map_eq_some_iff.1 hT.info
  simp only [Prod.mk.injEq, Option.map_eq_some_iff] at hzz
  obtain ⟨⟨z, hz, hzs⟩, hsz, hby⟩ := hzz
  subst hm
  refine wpList_append_lies w hgd s x T ho base E i z 1 bytes hT.und hi hz hsz hby hzs (by decide) v vs.length _ hs HO ⟨g, 0, none⟩ ys.length c ys hx (by simp) ?_ h1 h0 (by unfold maxLen; omega) ?_ hbase w.heap.size rfl ?_
  · intro j u hu
    rw [show (⟨g, 0, none⟩ : Addr).add j = ⟨g, j, none⟩ by cases j <;> simp [Addr.add], HR.cell, hu]
  · have := hT.pos
    calc (vs.length + ys.length) * bytes ≤ 1000000 * 64 := Nat.mul_le_mul hl this.2
      _ ≤ 140737488355328 := by decide
  · intro g cap w1 hown hgrow hat _
    refine h _ w1 ?_ hgrow ?_
    · unfold OwnV; rw [List.length_append]; exact hown
    · rcases hat with hat | hat
      · exact .inl (by rw [hat]; rfl)
      · exact .inr ⟨g, rfl, by omega⟩
end

/-- Slices of so many numbers each that read as f says. -/
def RowsOf (w : World) (f : Nat → List Int) (n m : Nat) (vs : List Value) : Prop :=
  vs.length = n ∧ ∀ j, j < n → ∃ g c, vs[j]? = some (.slice (some ⟨g, 0, none⟩) m c) ∧ Rd .i64 w (some ⟨g, 0, none⟩) (f j)
section
variable {E base n m : Nat} {v : Value} {vs : List Value} {w w1 : World} {f : Nat → List Int}
theorem RowsOf.nil (w : World) (f : Nat → List Int) (m : Nat) : RowsOf w f 0 m [] := ⟨rfl, fun j h => absurd h (Nat.not_lt_zero j)⟩
theorem RowsOf.below (h : RowsOf w f n m vs) (hb : Below w.heap.size w w1) : RowsOf w1 f n m vs :=
  ⟨h.1, fun j hj => by obtain ⟨g, c, h1, h2⟩ := h.2 j hj; exact ⟨g, c, h1, h2.below hb⟩⟩
theorem RowsOf.drewN (h : RowsOf w f n m vs) (q : Nat) : RowsOf (w.drewN q) f n m vs :=
  ⟨h.1, fun j hj => by obtain ⟨g, c, h1, h2⟩ := h.2 j hj; exact ⟨g, c, h1, h2.drewN q⟩⟩
theorem RowsOf.grow (h : RowsOf w f n m vs) (ho : OwnV E w base v vs) (hf : ∀ j, 0 < (f j).length) (hg : Grow v w w1) : RowsOf w1 f n m vs := by
  refine ⟨h.1, fun j hj => ?_⟩
  obtain ⟨g, c, h1, h2⟩ := h.2 j hj
  obtain ⟨g0, c0, h3, _⟩ := h.2 0 (by omega)
  refine ⟨g, c, h1, h2.grow hg (fun ad e => ?_)⟩
  cases e
  exact ho.not_rd h3 h2 (hf j)
theorem RowsOf.snoc {g c : Nat} (h : RowsOf w f n m vs) (hr : Rd .i64 w (some ⟨g, 0, none⟩) (f n)) : RowsOf w f (n + 1) m (vs ++ [.slice (some ⟨g, 0, none⟩) m c]) := by
  refine ⟨by rw [List.length_append, h.1]; rfl, fun j hj => ?_⟩
  by_cases hjn : j < n
  · obtain ⟨g', c', h1, h2⟩ := h.2 j hjn
    exact ⟨g', c', by rw [List.getElem?_append_left (by rw [h.1]; exact hjn)]; exact h1, h2⟩
  · obtain rfl : j = n := by omega
    exact ⟨g, c, by rw [List.getElem?_append_right (by rw [h.1]; exact Nat.le_refl _), h.1, Nat.sub_self]; rfl, hr⟩
end
theorem slSl : SlV Tryd.prog 91 55 24 := ⟨Tryd.underlying91, by kernel_rfl, by decide⟩
/-- What a function hands back that answers rows of its own. -/
def RetRows (f : Nat → List Int) (n m : Nat) (w : World) (e : Ending) (w' : World) : Prop :=
  ∃ v vs, e = .returned v ∧ OwnV 55 w' w.heap.size v vs ∧ RowsOf w' f n m vs ∧ Below w.heap.size w w'
end Go.Proofs.YtommgcebjhkneaaDoor

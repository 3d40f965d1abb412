/-
  Slices of whole numbers: what is read (Rd), what the call itself owns (Own); append, make, store, cuts: each leaves a new name for the world and what is known of it.
-/
import Derived.Test.YtommgcebjhkneaaDoorArr
import Derived.Deep.AppendLies
import Derived.Deep.OwnRows
import Derived.Laws.OwnMore
import Derived.Laws.AppendOwnNone
import Derived.OwnWalk
import Derived.Deep.MidRow
namespace Go.Proofs.YtommgcebjhkneaaDoor
open Go Go.RowKit
set_option linter.unusedVariables false
set_option linter.unusedSimpArgs false

/-- What lies behind the address reads as the numbers xs. -/
structure Rd (k : IntKind) (w : World) (A : Option Addr) (xs : List Int) : Prop where
  get : ∀ j, j < xs.length → ∃ ad, A = some ad ∧ w.cell? (ad.add j) = some (.int k (xs.getD j 0))
/-- The slice value v is the call's own, in a block from base on, and holds the numbers xs. -/
def Own (k : IntKind) (E : TypeId) (w : World) (base : Nat) (v : Value) (xs : List Int) : Prop := w.ownsRow base E 1 v xs.length (xs.map (Value.int k))
/-- The world has grown, and only the block of v may have changed. -/
def Grow (v : Value) (w w' : World) : Prop := w.grownBy w' v.ownBlock
/-- Type T is a slice of E, whole numbers of kind k, of so many bytes each. -/
structure SlT (P : Program) (T E : TypeId) (k : IntKind) (bytes : Nat) : Prop where
  und : P.underlying T = some (.slice E)
  info : (P.info? E).map (fun i => (i.zero, i.size, i.bytes)) = some (some (.int k 0), 1, bytes)
  pos : 0 < bytes ∧ bytes ≤ 8

theorem block_add (a : Addr) (j : Nat) : (a.add j).block = a.block := by unfold Addr.add; split <;> rfl
theorem add_add (a : Addr) (i j : Nat) : (a.add i).add j = a.add (i + j) := by
  unfold Addr.add
  by_cases hi : i = 0 <;> by_cases hj : j = 0 <;> simp [hi, hj, Nat.add_assoc]
theorem map_get (k : IntKind) (xs : List Int) (j : Nat) (h : j < xs.length) : (xs.map (Value.int k))[j]? = some (.int k (xs.getD j 0)) := by simp [h]

section
variable {k : IntKind} {E T bytes base B : Nat} {v v1 : Value} {xs ys : List Int} {w w0 w1 w2 : World} {A : Option Addr} {g : Nat}

theorem Rd.nil : Rd k w A [] := ⟨fun j h => absurd h (Nat.not_lt_zero _)⟩
theorem Rd.keep (h : Rd k w A xs) (hk : ∀ ad j, A = some ad → j < xs.length → w1.cell? (ad.add j) = w.cell? (ad.add j)) : Rd k w1 A xs :=
  ⟨fun j hj => let ⟨ad, e, hc⟩ := h.get j hj; ⟨ad, e, (hk ad j e hj).trans hc⟩⟩
theorem Rd.lt (h : Rd k w A xs) : ∀ ad, A = some ad → 0 < xs.length → ad.block < w.heap.size := fun ad e h0 => by
  obtain ⟨ad', e', hc⟩ := h.get 0 h0
  have : ad = ad' := Option.some.inj (e.symm.trans e')
  subst this
  have := World.block_lt_of_cell? w _ hc
  rwa [block_add] at this
theorem Rd.below (h : Rd k w A xs) (hb : Below w.heap.size w w1) : Rd k w1 A xs :=
  ⟨fun j hj => let ⟨ad, e, hc⟩ := h.get j hj; ⟨ad, e, (hb.cell (World.block_lt_of_cell? w _ hc)).trans hc⟩⟩
theorem Rd.drewN (h : Rd k w A xs) (n : Nat) : Rd k (w.drewN n) A xs := ⟨h.get⟩
theorem Rd.drew (h : Rd k w A xs) : Rd k w.drew A xs := ⟨h.get⟩
theorem Rd.only (h : Rd k w A xs) (ho : Only g w w1) (hg : ∀ ad, A = some ad → ad.block ≠ g) : Rd k w1 A xs :=
  ⟨fun j hj => let ⟨ad, e, hc⟩ := h.get j hj; ⟨ad, e, (ho.cell (World.block_lt_of_cell? w _ hc) (by rw [block_add]; exact hg ad e)).trans hc⟩⟩
theorem Rd.grow (h : Rd k w A xs) (hg : Grow v w w1) (hne : ∀ ad, A = some ad → v.ownBlock ≠ some ad.block) : Rd k w1 A xs :=
  ⟨fun j hj => let ⟨ad, e, hc⟩ := h.get j hj; ⟨ad, e, (World.grownBy.cell_far hg _ (World.block_lt_of_cell? w _ hc) (by rw [block_add]; exact fun e2 => hne ad e e2.symm)).trans hc⟩⟩
/-- A cut from l on: the model's own way of saying its address. -/
theorem Rd.cut (h : Rd k w A xs) (l c : Nat) (hc : xs.length ≤ c) : Rd k w (if c = l then A else A.map (·.add l)) (xs.drop l) :=
  ⟨fun j hj => by
    have hj' : l + j < xs.length := by rw [List.length_drop] at hj; omega
    obtain ⟨ad, rfl, hcell⟩ := h.get (l + j) hj'
    rw [if_neg (by omega)]
    refine ⟨ad.add l, rfl, ?_⟩
    rw [add_add, hcell]
    simp⟩
theorem Rd.take_ (h : Rd k w A xs) (n : Nat) : Rd k w A (xs.take n) :=
  ⟨fun j hj => by
    rw [List.length_take] at hj
    obtain ⟨ad, rfl, hcell⟩ := h.get j (by omega)
    exact ⟨ad, rfl, by rw [hcell]; simp [List.getElem?_take, show j < n by omega]⟩⟩
theorem Rd.of_row {t : TypeId} (h : Row w g t xs) : Rd .u8 w (some ⟨g, 0, none⟩) xs :=
  ⟨fun j hj => ⟨_, rfl, by
    have : (⟨g, 0, none⟩ : Addr).add j = ⟨g, j, none⟩ := by unfold Addr.add; split <;> simp_all
    rw [this]; exact h.cell j hj⟩⟩

theorem Own.nil (w : World) (base : Nat) : Own k E w base (.slice none 0 0) [] := World.ownsRow_nil w base E 1
theorem Own.move (h : Own k E w base v xs) (hm : ∀ b, v.ownBlock = some b → w1.heap[b]? = w.heap[b]?) : Own k E w1 base v xs := by
  obtain ⟨h1, h2⟩ := h
  refine ⟨h1, ?_⟩
  rcases h2 with h2 | ⟨g, cap, cur, rfl, h3, h4, h5⟩
  · exact .inl h2
  · exact .inr ⟨g, cap, cur, rfl, h3, by rw [hm g rfl]; exact h4, h5⟩
theorem Own.lt (h : Own k E w base v xs) : ∀ b, v.ownBlock = some b → base ≤ b ∧ b < w.heap.size := World.ownsRow.lt h
theorem Own.below (h : Own k E w base v xs) (hb : Below w.heap.size w w1) : Own k E w1 base v xs := h.move fun b hb' => hb.block b (h.lt b hb').2
theorem Own.alloc (h : Own k E w base v xs) (o : Obj) : Own k E (w.alloc o) base v xs := World.ownsRow.alloc h o
theorem Own.drewN (h : Own k E w base v xs) (n : Nat) : Own k E (w.drewN n) base v xs := h
theorem Own.drew (h : Own k E w base v xs) : Own k E w.drew base v xs := h
theorem Own.only (h : Own k E w base v xs) (ho : Only g w w1) (hne : v.ownBlock ≠ some g) : Own k E w1 base v xs :=
  h.move fun b hb => ho.block b (h.lt b hb).2 (fun e => hne (by rw [hb, e]))
theorem Own.grow (h : Own k E w base v xs) (hg : Grow v1 w w1) (hne : ∀ b, v.ownBlock = some b → v1.ownBlock ≠ some b) : Own k E w1 base v xs :=
  h.move fun b hb => hg.block b (h.lt b hb).2 (fun e => hne b hb e.symm)
theorem Own.lower (h : Own k E w base v xs) (hb : B ≤ base) : Own k E w B v xs := by
  obtain ⟨h1, h2⟩ := h
  refine ⟨h1, ?_⟩
  rcases h2 with h2 | ⟨g, cap, cur, rfl, h3, h4⟩
  · exact .inl h2
  · exact .inr ⟨g, cap, cur, rfl, by omega, h4⟩
/-- Read as any slice is. -/
theorem Own.reads (h : Own k E w base v xs) : ∃ A c, v = .slice A xs.length c ∧ xs.length ≤ c ∧ c ≤ maxLen ∧ Rd k w A xs ∧ (∀ ad, A = some ad → v.ownBlock = some ad.block) := by
  have h' := h
  obtain ⟨h1, h2⟩ := h
  rcases h2 with ⟨rfl, h2⟩ | ⟨g, cap, cur, rfl, h3, h4, h5, h6, h7, h8⟩
  · have : xs = [] := List.eq_nil_of_length_eq_zero h2
    subst this
    exact ⟨none, 0, rfl, Nat.le_refl _, by decide, Rd.nil, fun ad e => by cases e⟩
  · refine ⟨_, _, rfl, h5, h6, ⟨fun j hj => ⟨_, rfl, ?_⟩⟩, fun ad e => by cases e; rfl⟩
    exact World.ownsRow.cells h' (g := g) rfl j _ (map_get k xs j hj)
/-- Its block's type is E's: a row of another type is another block. -/
theorem Own.not_row {t : TypeId} {zs : List Int} (h : Own k E w base v xs) (hr : Row w g t zs) (hne : t ≠ E) : v.ownBlock ≠ some g := by
  intro e
  rcases h.2 with ⟨rfl, _⟩ | ⟨g', cap, cur, rfl, _, h4, _⟩
  · cases e
  · have : g' = g := by simpa [Value.ownBlock] using e
    subst this
    unfold Row at hr
    rw [hr] at h4
    injection h4 with h4
    injection h4 with _ h4
    exact hne h4

theorem Grow.below {base : Nat} (hg : Grow v w w1) (h : Below base w0 w) (hB : base ≤ w.heap.size) (hr : ∀ b, v.ownBlock = some b → base ≤ b) : Below base w0 w1 := h.grown hg hB hr
theorem Grow.row {t : TypeId} {zs : List Int} (hg : Grow v w w1) (hr : Row w g t zs) (hne : v.ownBlock ≠ some g) : Row w1 g t zs := (hg.block g hr.lt (fun e => hne e.symm)).trans hr
theorem Grow.only {v : Value} (hg : Grow v w w1) (h : Only g w0 w) (hr : ∀ b, v.ownBlock = some b → w0.heap.size ≤ b) : Only g w0 w1 :=
  ⟨hg.os.trans h.os, hg.tape.trans h.tape, hg.output.trans h.output, Nat.le_trans h.size hg.size, fun i hi hne => (hg.block i (Nat.lt_of_lt_of_le hi h.size) (fun e => by have := hr i e.symm; omega)).trans (h.block i hi hne)⟩
theorem Grow.size {v : Value} (hg : Grow v w w1) : w.heap.size ≤ w1.heap.size := World.grownBy.size hg

/-- A store into what one owns. -/
theorem Own.store {n c : Nat} (h : Own k E w base (.slice (some ⟨g, 0, none⟩) n c) xs) (hn : n = xs.length) (j : Nat) (u : Int) :
    Own k E (w.setCell ⟨g, j, none⟩ (.int k u)) base (.slice (some ⟨g, 0, none⟩) n c) (xs.set j u) ∧ Grow (.slice (some ⟨g, 0, none⟩) n c) w (w.setCell ⟨g, j, none⟩ (.int k u)) := by
  subst hn
  obtain ⟨h1, h2⟩ := World.ownsRow.stored h j (.int k u)
  refine ⟨?_, h2⟩
  unfold Own
  rw [List.length_set, List.map_set]
  exact h1
theorem Own.cell {n c : Nat} (h : Own k E w base (.slice (some ⟨g, 0, none⟩) n c) xs) (hn : n = xs.length) (j : Nat) (hj : j < xs.length) : w.cell? ⟨g, j, none⟩ = some (.int k (xs.getD j 0)) := by
  subst hn
  rw [World.ownsRow.cellAt h j (by omega), map_get k xs j hj]
theorem Own.frozen {n c : Nat} (h : Own k E w base (.slice (some ⟨g, 0, none⟩) n c) xs) (hn : n = xs.length) (j : Nat) : w.frozen? ⟨g, j, none⟩ = false := by
  subst hn
  exact World.ownsRow.frozenAt h j
/-- Not empty: it lies at the head of a block. -/
theorem Own.form (h : Own k E w base v xs) (hx : 0 < xs.length) : ∃ g c, v = .slice (some ⟨g, 0, none⟩) xs.length c ∧ xs.length ≤ c ∧ base ≤ g ∧ g < w.heap.size := by
  have h' := h
  rcases h.2 with ⟨rfl, h2⟩ | ⟨g, cap, cur, rfl, h3, h4, h5, _⟩
  · omega
  · exact ⟨g, cap, rfl, h5, (h'.lt g rfl).1, (h'.lt g rfl).2⟩
end

section
variable {P : Program} {ops : Array Oper} {rest : List Oper} {o : Oper} {a : Act} {w w0 : World} {Q : Exit → Act → World → Prop} {T E base bytes g : Nat} {k : IntKind} {xs ys : List Int} {v : Value} {A : Option Addr}

/-- append(v, x...), whatever x. -/
theorem append_any (hT : SlT P T E k bytes) (hgd : o.guard = none) (s x : Operand) (ho : o.op = .call { callee := .builtin .append, args := #[s, x], argTypes := #[T, T] })
    (hs : a.eval s = v) (HO : Own k E w base v xs) {m c : Nat} (hx : a.eval x = .slice A m c) (hm : m = ys.length) (HR : Rd k w A ys) (hnil : ys = [] → A = none → c = 0) (hl : xs.length + ys.length ≤ 1000000000) (hbase : base ≤ w.heap.size)
    (h : ∀ v1 w1, Own k E w1 base v1 (xs ++ ys) → Grow v w w1 → (v1.ownBlock = v.ownBlock ∨ ∃ b, v1.ownBlock = some b ∧ w.heap.size ≤ b) → wpList P ops Q rest (a.put o.dst v1) w1) :
    wpList P ops Q (o :: rest) a w := by
  obtain ⟨i, hi, hzz⟩ := Option.map_eq_some_iff.1 hT.info
  simp only [Prod.mk.injEq] at hzz
  obtain ⟨hz, hsz, hby⟩ := hzz
  subst hm
  rcases Nat.eq_zero_or_pos ys.length with h0 | h0
  · have : ys = [] := List.eq_nil_of_length_eq_zero h0
    subst this
    rcases A with _ | ad
    · have hc0 := hnil rfl rfl
      subst hc0
      refine wpList_append_own_none hgd s x T ho base E i 1 hT.und hi v xs.length _ hs HO hx ?_
      exact h v w (by simpa using HO) (World.grownBy.refl w _) (.inl rfl)
    · have hrun : (Builtin.append_ #[T, T] o.type #[v, .slice (some ad) 0 c]).run P w = .ok v w := by
        rcases HO.2 with ⟨rfl, _⟩ | ⟨g, cap, cur, rfl, _, _, hnc, _⟩
        · simp [Builtin.append_, run_underlying hT.und, sizeOf, typeInfo, hi, Builtin.lenOf, Builtin.firstCells, loadCells, loadCellsFrom, Result.andThen]
        · simp [Builtin.append_, run_underlying hT.und, sizeOf, typeInfo, hi, Builtin.lenOf, Builtin.firstCells, hnc, storeCells, loadCells, loadCellsFrom, Result.andThen]
      refine wpList_plain hgd fun K hK => ?_
      unfold Oper.wp execOp
      simp only [ho, resolve, invoke, builtin, Sem.run_bind, Sem.run_pure, Result.andThen_ok, List.map_toArray, List.map_cons, List.map_nil, hs, hx]
      simp only [List.length_nil] at hrun ⊢
      rw [hrun]
      exact hK _ _ (h v w (by simpa using HO) (World.grownBy.refl w _) (.inl rfl))
  · obtain ⟨ad, rfl, _⟩ := HR.get 0 h0
    refine wpList_append_lies w hgd s x T ho base E i _ 1 bytes hT.und hi hz hsz hby rfl (by decide) v xs.length _ hs HO ad ys.length c (ys.map (Value.int k)) hx (by simp) ?_ ?_ h0 (by unfold maxLen; omega) ?_ hbase w.heap.size rfl ?_
    · intro j u hu
      have hj : j < ys.length := by
        have := (List.getElem?_eq_some_iff.1 hu).1
        simpa using this
      obtain ⟨ad', e, hc⟩ := HR.get j hj
      have : ad = ad' := Option.some.inj e
      subst this
      rw [hc]
      rw [map_get k ys j hj] at hu
      exact hu
    · intro u hu
      obtain ⟨y, _, rfl⟩ := List.mem_map.1 hu
      rfl
    · have := hT.pos
      calc (xs.length + ys.length) * bytes ≤ 1000000000 * 8 := Nat.mul_le_mul hl this.2
        _ ≤ 140737488355328 := by decide
    · intro g cap w1 hown hgrow hat _
      refine h _ w1 ?_ hgrow ?_
      · unfold Own; rw [List.length_append, List.map_append]; exact hown
      · rcases hat with hat | hat
        · exact .inl (by rw [hat]; rfl)
        · exact .inr ⟨g, rfl, by omega⟩

/-- The same at one step of a region that draws: one number that lies in a new block. -/
theorem step_push (hT : SlT P T E k bytes) {Z : Prop} {K : Act → World → Prop} (hgd : o.guard = none) (s x : Operand) (ho : o.op = .call { callee := .builtin .append, args := #[s, x], argTypes := #[T, T] })
    (hs : a.eval s = v) (HO : Own k E w base v xs) {y : Int} (hx : a.eval x = .slice (some ⟨g, 0, none⟩) 1 1) (hy : w.cell? ⟨g, 0, none⟩ = some (.int k y)) (hl : xs.length + 1 ≤ 1000000000) (hbase : base ≤ w.heap.size)
    (h : ∀ b c w1, Own k E w1 base (.slice (some ⟨b, 0, none⟩) (xs.length + 1) c) (xs ++ [y]) → Grow v w w1 → (v.ownBlock = some b ∨ w.heap.size ≤ b) → K (a.put o.dst (.slice (some ⟨b, 0, none⟩) (xs.length + 1) c)) w1) :
    if Region.wanted o (yielded ops a.tmps) = true then Oper.wp P o a w K Q else Z := by
  obtain ⟨i, hi, hzz⟩ := Option.map_eq_some_iff.1 hT.info
  simp only [Prod.mk.injEq] at hzz
  obtain ⟨hz, hsz, hby⟩ := hzz
  refine step_append_lies w hgd s x T ho base E i _ 1 bytes hT.und hi hz hsz hby rfl (by decide) v xs.length _ hs HO ⟨g, 0, none⟩ 1 1 [.int k y] hx rfl ?_ ?_ (by decide) (by unfold maxLen; omega) ?_ hbase w.heap.size rfl ?_
  · intro j u hu
    match j, hu with
    | 0, hu => simp only [List.getElem?_cons_zero, Option.some.injEq] at hu; subst hu; exact hy
    | j + 1, hu => simp at hu
  · intro u hu; simp only [List.mem_singleton] at hu; subst hu; rfl
  · have := hT.pos
    calc (xs.length + 1) * bytes ≤ 1000000000 * 8 := Nat.mul_le_mul hl this.2
      _ ≤ 140737488355328 := by decide
  · intro b cap w1 hown hgrow hat _
    refine h b cap w1 ?_ hgrow ?_
    · unfold Own; rw [List.length_append, List.map_append]; exact hown
    · rcases hat with hat | hat
      · exact .inl hat
      · exact .inr (by omega)

/-- make([]T, n). -/
theorem make_any (hT : SlT P T E k bytes) (hgd : o.guard = none) (l c : Operand) (ho : o.op = .makeSlice T l c) (n : Nat) (hl : a.eval l = .int .i64 (n : Int)) (hc : a.eval c = .int .i64 (n : Int)) (hn : n ≤ 1000000000)
    (h : ∀ g w1, w.heap.size ≤ g → g < w1.heap.size → Below w.heap.size w w1 → Own k E w1 w.heap.size (.slice (some ⟨g, 0, none⟩) n n) (List.replicate n 0) → wpList P ops Q rest (a.put o.dst (.slice (some ⟨g, 0, none⟩) n n)) w1) :
    wpList P ops Q (o :: rest) a w := by
  obtain ⟨i, hi, hzz⟩ := Option.map_eq_some_iff.1 hT.info
  simp only [Prod.mk.injEq] at hzz
  obtain ⟨hz, hsz, hby⟩ := hzz
  refine wpList_make_row w hgd l c T ho E i _ hT.und hi hz hsz rfl .i64 .i64 n hl hc ?_ (by omega) ?_
  · have := hT.pos
    rw [hby]
    calc bytes * n ≤ 8 * 1000000000 := Nat.mul_le_mul this.2 hn
      _ ≤ 281474976710656 := by decide
  · refine h _ _ (Nat.le_refl _) (by simp) ((Below.refl _ _).alloc (Nat.le_refl _) _) ?_
    have hsz2 : (madeCells #[Value.int k 0] n).size = n := by rw [← Array.length_toList, toList_madeCells_one]; simp
    refine ⟨by simp, .inr ⟨w.heap.size, n, madeCells #[.int k 0] n, by simp, Nat.le_refl _, heap_alloc_new w _, by simp, by unfold maxLen; omega, by simp [hsz2], ?_⟩⟩
    rw [toList_madeCells_one]
    simp
/-- A literal's row: no element. -/
theorem empty_any (hgd : o.guard = none) (hi : ∃ i, P.underlying T = some (.slice E) ∧ P.info? E = some i ∧ i.size = 1) (ho : o.op = .buildSlice T 0 #[])
    (h : ∀ g w1, w.heap.size ≤ g → g < w1.heap.size → Below w.heap.size w w1 → Own k E w1 w.heap.size (.slice (some ⟨g, 0, none⟩) 0 0) [] → wpList P ops Q rest (a.put o.dst (.slice (some ⟨g, 0, none⟩) 0 0)) w1) :
    wpList P ops Q (o :: rest) a w := by
  obtain ⟨i, hu, hi, hs⟩ := hi
  refine wpList_plain hgd fun K hK => ?_
  have hrun : (execOp a.eval o).run P w = .ok (.value (.slice (some ⟨w.heap.size, 0, none⟩) 0 0)) (w.alloc (.cells #[] E)) := by
    unfold execOp
    simp [ho, Instr.buildSlice, run_underlying hu, sizeOf, typeInfo, hi, hs, Instr.fill, newRow, Result.andThen, Array.range_zero']
  unfold Oper.wp
  rw [hrun]
  refine hK _ _ (h _ _ (Nat.le_refl _) (by simp) ((Below.refl _ _).alloc (Nat.le_refl _) _) ?_)
  exact ⟨rfl, .inr ⟨w.heap.size, 0, #[], rfl, Nat.le_refl _, heap_alloc_new w _, Nat.le_refl _, by decide, rfl, rfl⟩⟩

/-- A literal's row of one number ('append(xs, y)' lays it first). -/
theorem one_any (hT : SlT P T E k bytes) (hgd : o.guard = none) (x : Operand) (ho : o.op = .buildSlice T 1 #[(0, x)]) {y : Int} (hx : a.eval x = .int k y)
    (h : ∀ g w1, w.heap.size ≤ g → Below w.heap.size w w1 → Rd k w1 (some ⟨g, 0, none⟩) [y] → wpList P ops Q rest (a.put o.dst (.slice (some ⟨g, 0, none⟩) 1 1)) w1) :
    wpList P ops Q (o :: rest) a w := by
  obtain ⟨i, hi, hzz⟩ := Option.map_eq_some_iff.1 hT.info
  simp only [Prod.mk.injEq] at hzz
  obtain ⟨hz, hsz, hby⟩ := hzz
  refine wpList_plain hgd fun K hK => ?_
  have hrun : (execOp a.eval o).run P w = .ok (.value (.slice (some ⟨w.heap.size, 0, none⟩) 1 1)) (w.alloc (.cells #[.int k y] E)) := by
    unfold execOp
    simp [ho, hx, Instr.buildSlice, run_underlying hT.und, sizeOf, zeroValue, typeInfo, hi, hsz, hz, Instr.fill, newRow, Result.andThen, Value.cells, Array.range_succ, Array.range_zero']
  unfold Oper.wp
  rw [hrun]
  refine hK _ _ (h _ _ (Nat.le_refl _) ((Below.refl _ _).alloc (Nat.le_refl _) _) ⟨fun j hj => ⟨_, rfl, ?_⟩⟩)
  have hj0 : j = 0 := by simpa using hj
  subst hj0
  rw [show (⟨w.heap.size, 0, none⟩ : Addr).add 0 = ⟨w.heap.size, 0, none⟩ from rfl, World.cell?_alloc_at _ _ _ _ rfl]
  rfl

/-- An array that lies in the midst of a row is loaded. -/
theorem load_mid {n : Nat} (hT : ArrT P T n) (hgd : o.guard = none) (x : Operand) (ho : o.op = .load T x) (b off : Nat) (hx : a.eval x = .pointer (some ⟨b, off, none⟩))
    (hc : ∀ j, j < n → w.cell? ⟨b, off + j, none⟩ = some (.int .u8 (xs.getD j 0))) (hl : xs.length = n)
    (h : wpList P ops Q rest (a.put o.dst (.agg (bs xs).toArray)) w) : wpList P ops Q (o :: rest) a w := by
  obtain ⟨e, hd⟩ := hT.desc
  refine wpList_load_mid hgd T x ho b off hx (bs xs) _ ?_ hd rfl (by rw [hT.size, bs_length, hl]) h
  intro j v hv
  have hj : j < xs.length := by
    have := (List.getElem?_eq_some_iff.1 hv).1
    simpa [bs] using this
  rw [hc j (by omega)]
  rw [bs, map_get .u8 xs j hj] at hv
  exact hv
end

theorem slU8 : SlT Tryd.prog 22 5 .u8 1 := ⟨Tryd.underlying22, by kernel_rfl, by decide⟩
theorem slInt : SlT Tryd.prog 55 3 .i64 8 := ⟨Tryd.underlying55, by kernel_rfl, by decide⟩
theorem emU8 : ∃ i, Tryd.prog.underlying 22 = some (.slice 5) ∧ Tryd.prog.info? 5 = some i ∧ i.size = 1 := by
  obtain ⟨i, hi, hzz⟩ := Option.map_eq_some_iff.1 slU8.info
  simp only [Prod.mk.injEq] at hzz
  exact ⟨i, Tryd.underlying22, hi, hzz.2.1⟩
end Go.Proofs.YtommgcebjhkneaaDoor

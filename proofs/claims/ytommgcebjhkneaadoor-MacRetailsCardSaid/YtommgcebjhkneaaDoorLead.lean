/-
  A region that draws its order, of two parts: a head of operations that only read or call what only reads (in a class of worlds), in whatever order, and a tail that waits for the whole head and goes in one order. One walk of the head in the text's order, then one of the tail, serves every order that the tape may draw. No condition on a program.
-/
import Derived.Deep.Quiet
import Derived.StillTail
namespace Go.Proofs.YtommgcebjhkneaaDoor.Lead
open Go

/-- Operation j waits for operation i by an edge of its own. -/
def waits (ops : Array Oper) (j i : Nat) : Bool :=
  match ops[j]? with
  | some o => o.after.any fun e => Region.binds .any e && e.on == i
  | none => false

theorem waits_spec {ops : Array Oper} {j i : Nat} (h : waits ops j i = true) : ∃ o, ops[j]? = some o ∧ ∃ e ∈ o.after, Region.binds .any e = true ∧ e.on = i := by
  unfold waits at h
  cases ho : ops[j]? with
  | none => rw [ho] at h; cases h
  | some o =>
    rw [ho] at h
    obtain ⟨e, he, hb⟩ := Array.any_eq_true'.1 h
    simp only [Bool.and_eq_true, beq_iff_eq] at hb
    exact ⟨o, rfl, e, he, hb⟩

/-- The head's edges lead back; it bears no guard. -/
def headB (l : List Oper) (n : Nat) : Bool :=
  (List.range n).all fun i => match l[i]? with
    | some o => o.guard.isNone && o.after.all fun e => !Region.binds .any e || decide (e.on < i)
    | none => false

/-- What is asked of a region of two parts, by computation. -/
def leadB (l : List Oper) (n : Nat) : Bool :=
  decide (n < l.length) && Region.lexB .any (l.take n).toArray && headB l n &&
  (List.range n).all (fun i => waits l.toArray n i) &&
  (List.range l.length).all (fun t => decide (t ≤ n) || waits l.toArray t (t - 1)) &&
  Region.seqB .any l.toArray (l.length - n) n (Array.replicate n true ++ Array.replicate (l.length - n) false)

def pad (m : Nat) (s : Array Bool) : Array Bool := s ++ Array.replicate m false

theorem pad_lt {m i : Nat} {s : Array Bool} {d : Bool} (h : i < s.size) : (pad m s).getD i d = s.getD i d := by
  simp [pad, h, Nat.lt_add_right]

theorem pad_ge {m i : Nat} {s : Array Bool} {d : Bool} (h : s.size ≤ i) (h' : i < s.size + m) : (pad m s).getD i d = false := by
  simp [pad, h', Array.getElem_append, Nat.not_lt.2 h]

theorem pad_set {m i : Nat} {s : Array Bool} (h : i < s.size) (b : Bool) : (pad m s).setIfInBounds i b = pad m (s.setIfInBounds i b) := by
  apply Array.ext_getElem?
  intro j
  simp only [pad, Array.getElem?_setIfInBounds, Array.getElem?_append, Array.size_setIfInBounds, Array.size_append]
  by_cases hij : i = j
  · subst hij
    simp [h, Nat.lt_add_right]
  · simp [hij]

section
variable {P : Program} {C : World → Prop} {Q : Exit → Act → World → Prop} {l : List Oper} {n : Nat}

/-- More fuel does no harm. -/
theorem any_more {ops : Array Oper} {md : Region.Mode} : ∀ (f : Nat) (s : Array Bool) (a : Act) (w : World), wpAny P md ops Q f s a w → wpAny P md ops Q (f + 1) s a w
  | 0, s, a, w, h => ⟨fun _ => h.2, fun i hi => by rw [h.1] at hi; cases hi⟩
  | f + 1, s, a, w, h => ⟨h.1, fun i hi => wpOp_mono (fun a' w' h' => any_more f _ a' w' h') (h.2 i hi)⟩
theorem any_more_n {ops : Array Oper} {md : Region.Mode} (g : Nat) : ∀ (f : Nat) (s : Array Bool) (a : Act) (w : World), wpAny P md ops Q g s a w → wpAny P md ops Q (f + g) s a w
  | 0, s, a, w, h => by simpa using h
  | f + 1, s, a, w, h => by
    rw [show f + 1 + g = (f + g) + 1 by omega]
    exact any_more _ s a w (any_more_n g f s a w h)

theorem getD_flip {s : Array Bool} {i : Nat} (hi : i < s.size) (d : Bool) (h : s.getD i d = false) (d' : Bool) : s.getD i d' = false := by
  simp [hi] at h ⊢; exact h

/-- If the head is not done, one of its operations may come up. -/
theorem head_ready (hh : headB l n = true) {s : Array Bool} (hs : s.size = n) : ∀ (d i : Nat), i = d → i < n → s.getD i true = false → ∃ j, j ∈ Region.ready .any (l.take n).toArray s := by
  intro d
  induction d using Nat.strongRecOn with
  | _ d ih =>
    intro i hid hi hun
    have h1 := List.all_eq_true.1 hh i (List.mem_range.2 hi)
    cases ho : l[i]? with
    | none => rw [ho] at h1; cases h1
    | some o =>
      rw [ho] at h1
      simp only [Bool.and_eq_true] at h1
      by_cases hall : ∀ e ∈ o.after, Region.binds .any e = true → s.getD e.on false = true
      · refine ⟨i, mem_ready.2 ⟨hun, o, ?_, hall⟩⟩
        simp [hi, ho]
      · have : ∃ e, e ∈ o.after ∧ Region.binds .any e = true ∧ s.getD e.on false = false := by
          apply Classical.byContradiction
          intro hne
          apply hall
          intro e he hb
          cases hv : s.getD e.on false with
          | true => rfl
          | false => exact absurd ⟨e, he, hb, hv⟩ hne
        obtain ⟨e, he, hb, hv⟩ := this
        have h2 := Array.all_eq_true_iff_forall_mem.1 h1.2 e he
        simp only [hb, Bool.not_true, Bool.false_or, decide_eq_true_eq] at h2
        exact ih e.on (by omega) e.on rfl (by omega) (getD_flip (by omega) false hv true)

/-- While the head is not done, nothing of the tail may come up. -/
theorem tail_not_ready {m : Nat} (hm : n + m = l.length) (h1 : (List.range n).all (fun i => waits l.toArray n i) = true)
    (h2 : (List.range l.length).all (fun t => decide (t ≤ n) || waits l.toArray t (t - 1)) = true) {s : Array Bool} (hs : s.size = n) {i : Nat} (hi : i < n) (hun : s.getD i true = false)
    {t : Nat} (ht : t ∈ Region.ready .any l.toArray (pad m s)) : t < n := by
  apply Classical.byContradiction
  intro hge
  obtain ⟨_, o, ho, hall⟩ := mem_ready.1 ht
  have htl : t < l.length := by
    have := (Array.getElem?_eq_some_iff.1 ho).1
    simpa using this
  by_cases htn : t = n
  · obtain ⟨o', ho', e, he, hb, hon⟩ := waits_spec (List.all_eq_true.1 h1 i (List.mem_range.2 hi))
    have : o' = o := by rw [← htn] at ho'; exact Option.some.inj (ho'.symm.trans ho)
    subst this
    have h3 := hall e he hb
    rw [hon, pad_lt (by omega), getD_flip (by omega) true hun false] at h3
    cases h3
  · have h4 := List.all_eq_true.1 h2 t (List.mem_range.2 htl)
    simp only [Bool.or_eq_true, decide_eq_true_eq] at h4
    rcases h4 with h4 | h4
    · omega
    · obtain ⟨o', ho', e, he, hb, hon⟩ := waits_spec h4
      have : o' = o := Option.some.inj (ho'.symm.trans ho)
      subst this
      have h3 := hall e he hb
      rw [hon, pad_ge (by omega) (by omega)] at h3
      cases h3

theorem all_true {s : Array Bool} (hs : s.size = n) (h : ∀ i, i < n → s.getD i true = true) : s = Array.replicate n true := by
  apply Array.ext
  · simp [hs]
  · intro i h1 h2
    have := h i (by omega)
    simp [h1] at this
    simpa using this

theorem head_any {m : Nat} (hm : n + m = l.length) (hh : headB l n = true) (h1 : (List.range n).all (fun i => waits l.toArray n i) = true)
    (h2 : (List.range l.length).all (fun t => decide (t ≤ n) || waits l.toArray t (t - 1)) = true)
    (hq : Region.seqB .any l.toArray m n (pad m (Array.replicate n true)) = true) :
    ∀ (f : Nat) (s : Array Bool) (a : Act) (w : World), s.size = n → C w →
      wpAnyQ P .any (l.take n).toArray C (fun a' => ∀ w', C w' → wpList P l.toArray Q (l.drop n) a' w') f s a → wpAny P .any l.toArray Q (f + m) (pad m s) a w := by
  have hdl : (l.drop n).length = m := by simp; omega
  have done : ∀ (f : Nat) (a : Act) (w : World), wpList P l.toArray Q (l.drop n) a w → wpAny P .any l.toArray Q (f + m) (pad m (Array.replicate n true)) a w := by
    intro f a w h
    have := wpAny_of_seq (P := P) (md := .any) (ops := l.toArray) (Q' := Q) (l.drop n) n (pad m (Array.replicate n true)) a w (fun j => by simp [List.getElem?_drop]) (by rw [hdl]; exact hq) h
    rw [hdl] at this
    exact any_more_n m f _ a w this
  intro f
  induction f with
  | zero =>
    intro s a w hs hC H
    by_cases hall : ∀ i, i < n → s.getD i true = true
    · rw [all_true hs hall]; exact done 0 a w (H.2 w hC)
    · have : ∃ i, i < n ∧ s.getD i true = false := by
        apply Classical.byContradiction
        intro hne
        exact hall fun i hi => by
          cases hv : s.getD i true with
          | true => rfl
          | false => exact absurd ⟨i, hi, hv⟩ hne
      obtain ⟨i, hi, hun⟩ := this
      obtain ⟨j, hj⟩ := head_ready hh hs i i rfl hi hun
      rw [H.1] at hj
      cases hj
  | succ f ih =>
    intro s a w hs hC H
    by_cases hall : ∀ i, i < n → s.getD i true = true
    · have hnone : Region.ready .any (l.take n).toArray s = [] := by
        apply List.eq_nil_iff_forall_not_mem.2
        intro j hj
        obtain ⟨hjun, o, ho, _⟩ := mem_ready.1 hj
        have hjn : j < n := by
          have := (Array.getElem?_eq_some_iff.1 ho).1
          simp at this
          omega
        rw [hall j hjn] at hjun
        cases hjun
      rw [all_true hs hall]
      exact done (f + 1) a w (H.1 hnone w hC)
    · have : ∃ i, i < n ∧ s.getD i true = false := by
        apply Classical.byContradiction
        intro hne
        exact hall fun i hi => by
          cases hv : s.getD i true with
          | true => rfl
          | false => exact absurd ⟨i, hi, hv⟩ hne
      obtain ⟨i, hi, hun⟩ := this
      have key : ∀ t, t ∈ Region.ready .any l.toArray (pad m s) → t < n ∧ t ∈ Region.ready .any (l.take n).toArray s := by
        intro t ht
        have htn := tail_not_ready hm h1 h2 hs hi hun ht
        obtain ⟨htun, o, ho, hafter⟩ := mem_ready.1 ht
        refine ⟨htn, mem_ready.2 ⟨by rwa [pad_lt (by omega)] at htun, o, by simpa [List.getElem?_take, htn] using ho, fun e he hb => ?_⟩⟩
        have h3 := hafter e he hb
        have h4 := List.all_eq_true.1 hh t (List.mem_range.2 htn)
        have ho' : l[t]? = some o := by simpa using ho
        rw [ho'] at h4
        simp only [Bool.and_eq_true] at h4
        have h5 := Array.all_eq_true_iff_forall_mem.1 h4.2 e he
        simp only [hb, Bool.not_true, Bool.false_or, decide_eq_true_eq] at h5
        rwa [pad_lt (by omega)] at h3
      rw [show f + 1 + m = (f + m) + 1 by omega]
      refine ⟨fun h0 => ?_, fun t ht => ?_⟩
      · obtain ⟨j, hj⟩ := head_ready hh hs i i rfl hi hun
        obtain ⟨hjun, o, ho, hafter⟩ := mem_ready.1 hj
        have hjn : j < n := by
          have := (Array.getElem?_eq_some_iff.1 ho).1
          simp at this
          omega
        have ho' : l[j]? = some o := by simpa [List.getElem?_take, hjn] using ho
        have h4 := List.all_eq_true.1 hh j (List.mem_range.2 hjn)
        rw [ho'] at h4
        simp only [Bool.and_eq_true] at h4
        have : j ∈ Region.ready .any l.toArray (pad m s) := mem_ready.2 ⟨by rw [pad_lt (by omega)]; exact hjun, o, by simpa using ho', fun e he hb => by
          have h5 := Array.all_eq_true_iff_forall_mem.1 h4.2 e he
          simp only [hb, Bool.not_true, Bool.false_or, decide_eq_true_eq] at h5
          rw [pad_lt (by omega)]
          exact hafter e he hb⟩
        rw [h0] at this
        cases this
      · obtain ⟨htn, htr⟩ := key t ht
        have hop := H.2 t htr
        obtain ⟨_, o, ho, _⟩ := mem_ready.1 htr
        have ho' : l[t]? = some o := by simpa [List.getElem?_take, htn] using ho
        have h4 := List.all_eq_true.1 hh t (List.mem_range.2 htn)
        rw [ho'] at h4
        simp only [Bool.and_eq_true, Option.isNone_iff_eq_none] at h4
        rw [pad_set (by omega)]
        refine wpOp_of_qOp (C := C) (K := wpAnyQ P .any (l.take n).toArray C (fun a' => ∀ w', C w' → wpList P l.toArray Q (l.drop n) a' w') f (s.setIfInBounds t true)) hC (fun a' w' hw' hk => ih (s.setIfInBounds t true) a' w' (by simpa using hs) hw' hk) ?_
        unfold qOp at hop ⊢
        have e2 : l.toArray[t]? = some o := by simpa using ho'
        rw [ho] at hop
        rw [e2]
        simp only [Region.wanted, h4.1, if_true] at hop ⊢
        exact hop

/-- **A REGION OF TWO PARTS.** -/
theorem wp_region_lead {id : Nat} {a : Act} {w : World} (C : World → Prop) (n : Nat) (hmo : P.follows .mixedOrders = true) (hB : leadB l n = true) (hC : C w.drew)
    (h : wpQuiet P (l.take n).toArray C (fun a' => ∀ w', C w' → wpList P l.toArray Q (l.drop n) a' w') (l.take n) a) : (Code.region id l.toArray true).wp P Q a w := by
  simp only [leadB, Bool.and_eq_true, decide_eq_true_eq] at hB
  obtain ⟨⟨⟨⟨⟨hn, hlex⟩, hh⟩, h1⟩, h2⟩, hq⟩ := hB
  simp only [Region.lexB, Bool.and_eq_true] at hlex
  have htl : (l.take n).length = n := by simp; omega
  refine wp_region_any hmo ?_
  have H := wpAnyQ_lex (C := C) (md := .any) hlex.1 (l.take n) 0 (Array.replicate (l.take n).toArray.size false) a (by simp) (by simpa using hlex.2) h
  have := head_any (P := P) (C := C) (Q := Q) (m := l.length - n) (by omega) hh h1 h2 hq (l.take n).length (Array.replicate n false) a w.drew (by simp) hC (by
    have e : (l.take n).toArray.size = n := by simpa using htl
    rw [e] at H; exact H)
  have e1 : pad (l.length - n) (Array.replicate n false) = Array.replicate l.toArray.size false := by
    simp only [pad, Array.replicate_append_replicate]
    congr 1
    simp; omega
  rw [e1, htl, show n + (l.length - n) = l.toArray.size by simp; omega] at this
  exact this

/-- The same, at the class 'w after some draws'. -/
theorem wp_region_lead_drawn {id : Nat} {a : Act} {w : World} (n : Nat) (hmo : P.follows .mixedOrders = true) (hB : leadB l n = true)
    (h : wpQuiet P (l.take n).toArray (fun w' => ∃ k, w' = w.drewN k) (fun a' => ∀ k, wpList P l.toArray Q (l.drop n) a' (w.drewN k)) (l.take n) a) : (Code.region id l.toArray true).wp P Q a w := by
  refine wp_region_lead (fun w' => ∃ k, w' = w.drewN k) n hmo hB ⟨1, rfl⟩ ?_
  have : (fun a' : Act => ∀ k, wpList P l.toArray Q (l.drop n) a' (w.drewN k)) = (fun a' => ∀ w', (∃ k, w' = w.drewN k) → wpList P l.toArray Q (l.drop n) a' w') := by
    funext a'
    apply propext
    exact ⟨fun h w' ⟨k, hk⟩ => hk ▸ h k, fun h k => h _ ⟨k, rfl⟩⟩
  rw [← this]
  exact h
end
end Go.Proofs.YtommgcebjhkneaaDoor.Lead

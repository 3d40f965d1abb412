/-
  A region that draws its order, whose first operation is a mere copy that only its last part looks at ('out = append(out, f(x))'): the copy may be taken first; then it is a region of two parts. One walk in the text's order serves every order. No condition on a program.
-/
import Derived.Test.YtommgcebjhkneaaDoorLead
import Derived.BigRegion
namespace Go.Proofs.YtommgcebjhkneaaDoor.Lead
open Go

/-- Operation j waits for operation i, by a chain of edges. -/
def reach (ops : Array Oper) (i : Nat) : Nat → Nat → Bool
  | 0, _ => false
  | f + 1, j => match ops[j]? with
    | some o => o.after.any fun e => Region.binds .any e && (e.on == i || reach ops i f e.on)
    | none => false

/-- What is listed is closed under the edges. -/
def Closed (ops : Array Oper) (t : Array Bool) : Prop := ∀ (j : Nat) (o : Oper), ops[j]? = some o → t.getD j false = true → ∀ e ∈ o.after, Region.binds .any e = true → t.getD e.on false = true

theorem reach_listed {ops : Array Oper} {i : Nat} {t : Array Bool} (hc : Closed ops t) : ∀ (f j : Nat) (o : Oper), ops[j]? = some o →
    (∀ e ∈ o.after, Region.binds .any e = true → t.getD e.on false = true) → reach ops i f j = true → t.getD i false = true
  | 0, _, _, _, _, h => by simp [reach] at h
  | f + 1, j, o, ho, hall, h => by
    unfold reach at h
    rw [ho] at h
    obtain ⟨e, he, h1⟩ := Array.any_eq_true'.1 h
    simp only [Bool.and_eq_true, Bool.or_eq_true, beq_iff_eq] at h1
    have hl := hall e he h1.1
    rcases h1.2 with h2 | h2
    · rw [← h2]; exact hl
    · have h2' := h2
      have : ∃ o', ops[e.on]? = some o' := by
        cases f with
        | zero => simp [reach] at h2
        | succ f =>
          unfold reach at h2
          cases hq : ops[e.on]? with
          | none => rw [hq] at h2; cases h2
          | some o' => exact ⟨o', rfl⟩
      obtain ⟨o', ho'⟩ := this
      exact reach_listed hc f e.on o' ho' (hc e.on o' ho' hl) h2'

theorem Closed.set {ops : Array Oper} {t : Array Bool} {i : Nat} (h : Closed ops t) (hi : i ∈ Region.ready .any ops t) : Closed ops (t.setIfInBounds i true) := by
  obtain ⟨_, oi, hoi, hall⟩ := mem_ready.1 hi
  intro j o ho hl e he hb
  by_cases hij : i = j
  · subst hij
    have : o = oi := Option.some.inj (ho.symm.trans hoi)
    subst this
    exact getD_set_true (hall e he hb)
  · rw [getD_set_ne false hij] at hl
    exact getD_set_true (h j o ho hl e he hb)

def pushB (l : List Oper) (n : Nat) : Bool :=
  decide (0 < n) && decide (n < l.length) && Region.lexB .any (l.take n).toArray && headB l n &&
  (List.range n).all (fun i => i == 0 || reach l.toArray i l.length n) &&
  (List.range l.length).all (fun t => decide (t ≤ n) || waits l.toArray t (t - 1)) &&
  Region.seqB .any l.toArray (l.length - n) n (Array.replicate n true ++ Array.replicate (l.length - n) false) &&
  (match l[0]? with | some o => o.after.isEmpty && (match o.op with | .move _ => true | _ => false) | none => false) &&
  Region.noSelect l.toArray && Region.free .any l.toArray (Array.replicate l.length false) 0

section
variable {P : Program} {C : World → Prop} {Q : Exit → Act → World → Prop} {l : List Oper} {n : Nat}

theorem tail_not_ready2 {m : Nat} (hm : n + m = l.length) (h1 : (List.range n).all (fun i => i == 0 || reach l.toArray i l.length n) = true)
    (h2 : (List.range l.length).all (fun t => decide (t ≤ n) || waits l.toArray t (t - 1)) = true) {s : Array Bool} (hs : s.size = n) (hcl : Closed l.toArray (pad m s)) {i : Nat} (hi : i < n) (hi0 : i ≠ 0) (hun : s.getD i true = false)
    {t : Nat} (ht : t ∈ Region.ready .any l.toArray (pad m s)) : t < n := by
  apply Classical.byContradiction
  intro hge
  obtain ⟨_, o, ho, hall⟩ := mem_ready.1 ht
  have htl : t < l.length := by
    have := (Array.getElem?_eq_some_iff.1 ho).1
    simpa using this
  by_cases htn : t = n
  · subst htn
    have h3 := List.all_eq_true.1 h1 i (List.mem_range.2 hi)
    simp only [Bool.or_eq_true, beq_iff_eq] at h3
    rcases h3 with h3 | h3
    · exact hi0 h3
    · have h4 := reach_listed hcl _ _ o ho hall h3
      rw [pad_lt (by omega), getD_flip (by omega) true hun false] at h4
      cases h4
  · have h4 := List.all_eq_true.1 h2 t (List.mem_range.2 htl)
    simp only [Bool.or_eq_true, decide_eq_true_eq] at h4
    rcases h4 with h4 | h4
    · omega
    · obtain ⟨o', ho', e, he, hb, hon⟩ := waits_spec h4
      have : o' = o := Option.some.inj (ho'.symm.trans ho)
      subst this
      have h3 := hall e he hb
      rw [hon, pad_ge (by omega) (by omega)] at h3
      cases h3

theorem head_any2 {m : Nat} (hm : n + m = l.length) (hh : headB l n = true) (h1 : (List.range n).all (fun i => i == 0 || reach l.toArray i l.length n) = true)
    (h2 : (List.range l.length).all (fun t => decide (t ≤ n) || waits l.toArray t (t - 1)) = true)
    (hq : Region.seqB .any l.toArray m n (pad m (Array.replicate n true)) = true) :
    ∀ (f : Nat) (s : Array Bool) (a : Act) (w : World), s.size = n → s.getD 0 true = true → Closed l.toArray (pad m s) → C w →
      wpAnyQ P .any (l.take n).toArray C (fun a' => ∀ w', C w' → wpList P l.toArray Q (l.drop n) a' w') f s a → wpAny P .any l.toArray Q (f + m) (pad m s) a w := by
  have hdl : (l.drop n).length = m := by simp; omega
  have done : ∀ (f : Nat) (a : Act) (w : World), wpList P l.toArray Q (l.drop n) a w → wpAny P .any l.toArray Q (f + m) (pad m (Array.replicate n true)) a w := by
    intro f a w h
    have := wpAny_of_seq (P := P) (md := .any) (ops := l.toArray) (Q' := Q) (l.drop n) n (pad m (Array.replicate n true)) a w (fun j => by simp [List.getElem?_drop]) (by rw [hdl]; exact hq) h
    rw [hdl] at this
    exact any_more_n m f _ a w this
  have some_un : ∀ s : Array Bool, ¬ (∀ i, i < n → s.getD i true = true) → ∃ i, i < n ∧ s.getD i true = false := by
    intro s hall
    apply Classical.byContradiction
    intro hne
    exact hall fun i hi => by
      cases hv : s.getD i true with
      | true => rfl
      | false => exact absurd ⟨i, hi, hv⟩ hne
  intro f
  induction f with
  | zero =>
    intro s a w hs h0 hcl hC H
    by_cases hall : ∀ i, i < n → s.getD i true = true
    · rw [all_true hs hall]; exact done 0 a w (H.2 w hC)
    · obtain ⟨i, hi, hun⟩ := some_un s hall
      obtain ⟨j, hj⟩ := head_ready hh hs i i rfl hi hun
      rw [H.1] at hj
      cases hj
  | succ f ih =>
    intro s a w hs h0 hcl hC H
    by_cases hall : ∀ i, i < n → s.getD i true = true
    · have hnone : Region.ready .any (l.take n).toArray s = [] := by
        apply List.eq_nil_iff_forall_not_mem.2
        intro j hj
        obtain ⟨hjun, o, ho, _⟩ := mem_ready.1 hj
        have hjn : j < n := by
          have := (Array.getElem?_eq_some_iff.1 ho).1
          simp at this
          omega
        rw [hall j hjn] at hjun
        cases hjun
      rw [all_true hs hall]
      exact done (f + 1) a w (H.1 hnone w hC)
    · obtain ⟨i, hi, hun⟩ := some_un s hall
      have hi0 : i ≠ 0 := fun e => by rw [e, h0] at hun; cases hun
      have ofHead : ∀ t o, t < n → l[t]? = some o → ∀ e ∈ o.after, Region.binds .any e = true → e.on < t := by
        intro t o htn ho e he hb
        have h4 := List.all_eq_true.1 hh t (List.mem_range.2 htn)
        rw [ho] at h4
        simp only [Bool.and_eq_true] at h4
        have h5 := Array.all_eq_true_iff_forall_mem.1 h4.2 e he
        simpa [hb] using h5
      rw [show f + 1 + m = (f + m) + 1 by omega]
      refine ⟨fun hn => ?_, fun t ht => ?_⟩
      · obtain ⟨j, hj⟩ := head_ready hh hs i i rfl hi hun
        obtain ⟨hjun, o, ho, hafter⟩ := mem_ready.1 hj
        have hjn : j < n := by
          have := (Array.getElem?_eq_some_iff.1 ho).1
          simp at this
          omega
        have ho' : l[j]? = some o := by simpa [hjn] using ho
        have : j ∈ Region.ready .any l.toArray (pad m s) := mem_ready.2 ⟨by rw [pad_lt (by omega)]; exact hjun, o, by simpa using ho', fun e he hb => by
          have := ofHead j o hjn ho' e he hb
          rw [pad_lt (by omega)]
          exact hafter e he hb⟩
        rw [hn] at this
        cases this
      · have htn := tail_not_ready2 hm h1 h2 hs hcl hi hi0 hun ht
        obtain ⟨htun, o, ho, hafter⟩ := mem_ready.1 ht
        have ho' : l[t]? = some o := by simpa using ho
        have htr : t ∈ Region.ready .any (l.take n).toArray s := mem_ready.2 ⟨by rwa [pad_lt (by omega)] at htun, o, by simpa [htn] using ho', fun e he hb => by
          have h3 := hafter e he hb
          have := ofHead t o htn ho' e he hb
          rwa [pad_lt (by omega)] at h3⟩
        have hop := H.2 t htr
        have hcl' := hcl.set ht
        have h4 := List.all_eq_true.1 hh t (List.mem_range.2 htn)
        rw [ho'] at h4
        simp only [Bool.and_eq_true, Option.isNone_iff_eq_none] at h4
        rw [pad_set (by omega)] at hcl' ⊢
        have h0' : (s.setIfInBounds t true).getD 0 true = true := by
          by_cases ht0 : t = 0
          · subst ht0; simp [show 0 < s.size by omega]
          · rw [getD_set_ne true ht0]; exact h0
        refine wpOp_of_qOp (C := C) (K := wpAnyQ P .any (l.take n).toArray C (fun a' => ∀ w', C w' → wpList P l.toArray Q (l.drop n) a' w') f (s.setIfInBounds t true)) hC (fun a' w' hw' hk => ih (s.setIfInBounds t true) a' w' (by simpa using hs) h0' hcl' hw' hk) ?_
        unfold qOp at hop ⊢
        have e1 : (l.take n).toArray[t]? = some o := by simpa [htn] using ho'
        rw [e1] at hop
        rw [ho]
        simp only [Region.wanted, h4.1, if_true] at hop ⊢
        exact hop

/-- **A COPY, A HEAD, A TAIL.** -/
theorem wp_region_push {id : Nat} {a : Act} {w : World} (C : World → Prop) (n : Nat) (hmo : P.follows .mixedOrders = true) (hB : pushB l n = true) (hQ : ∀ c a (d : Tmp) v w, Q (.panic c) (Act.put a (some d) v) w → Q (.panic c) a w) (hC : C w.drew)
    (h : wpQuiet P (l.take n).toArray C (fun a' => ∀ w', C w' → wpList P l.toArray Q (l.drop n) a' w') (l.take n) a) : (Code.region id l.toArray true).wp P Q a w := by
  simp only [pushB, Bool.and_eq_true, decide_eq_true_eq] at hB
  obtain ⟨⟨⟨⟨⟨⟨⟨⟨⟨h0n, hn⟩, hlex⟩, hh⟩, h1⟩, h2⟩, hq⟩, hmv⟩, hsel⟩, hfree⟩ := hB
  simp only [Region.lexB, Bool.and_eq_true] at hlex
  have htl : (l.take n).length = n := by simp; omega
  have e : (l.take n).toArray.size = n := by simpa using htl
  obtain ⟨o, ho⟩ : ∃ o, l[0]? = some o := ⟨l[0]'(by omega), by simp⟩
  rw [ho] at hmv
  simp only [Bool.and_eq_true, Array.isEmpty_iff] at hmv
  obtain ⟨haf, hmv⟩ := hmv
  obtain ⟨x, hx⟩ : ∃ x, o.op = .move x := by
    cases hop : o.op <;> rw [hop] at hmv <;> first | exact ⟨_, rfl⟩ | cases hmv
  have hgd : o.guard = none := by
    have h4 := List.all_eq_true.1 hh 0 (List.mem_range.2 h0n)
    rw [ho] at h4
    simp only [Bool.and_eq_true, Option.isNone_iff_eq_none] at h4
    exact h4.1
  refine wp_region_any hmo ?_
  have H := wpAnyQ_lex (C := C) (md := .any) hlex.1 (l.take n) 0 (Array.replicate (l.take n).toArray.size false) a (by simp) (by simpa using hlex.2) h
  rw [e, htl] at H
  obtain ⟨f, rfl⟩ : ∃ f, n = f + 1 := ⟨n - 1, by omega⟩
  have hr0 : 0 ∈ Region.ready .any (l.take (f + 1)).toArray (Array.replicate (f + 1) false) := mem_ready.2 ⟨by simp, o, by simpa using ho, fun e he => by rw [haf] at he; simp at he⟩
  have H0 := H.2 0 hr0
  unfold qOp at H0
  have e1 : (l.take (f + 1)).toArray[0]? = some o := by simpa using ho
  rw [e1] at H0
  simp only [Region.wanted, hgd, if_true] at H0
  obtain ⟨v, hv, HK⟩ := H0
  have hve : v = a.eval x := by
    have := hv w.drew hC
    unfold Oper.quietAt at this
    rw [BigFrame.run_move x hx] at this
    exact this.2.symm
  subst hve
  have e2 : l.toArray[0]? = some o := by simpa using ho
  have hy : Yields P l.toArray o (a.eval x) a := .inl ⟨by simp [Region.wanted, hgd], fun w' => BigFrame.run_move x hx w'⟩
  have hr1 : 0 ∈ Region.ready .any l.toArray (Array.replicate l.toArray.size false) := mem_ready.2 ⟨by simp [show 0 < l.length by omega], o, e2, fun e he => by rw [haf] at he; simp at he⟩
  have hl1 : l.toArray.size = (f + (l.length - (f + 1))) + 1 := by simp; omega
  have epad : (Array.replicate l.toArray.size false).setIfInBounds 0 true = pad (l.length - (f + 1)) ((Array.replicate (f + 1) false).setIfInBounds 0 true) := by
    rw [← pad_set (by simp)]
    congr 1
    simp only [pad, Array.replicate_append_replicate]
    congr 1
    simp; omega
  have hclosed : Closed l.toArray (pad (l.length - (f + 1)) ((Array.replicate (f + 1) false).setIfInBounds 0 true)) := by
    rw [← epad]
    refine Closed.set (fun j o _ hl => ?_) hr1
    exfalso
    rcases Nat.lt_or_ge j l.length with hj | hj
    · simp [hj] at hl
    · simp [Nat.not_lt.2 hj] at hl
  have key := head_any2 (P := P) (C := C) (Q := Q) (m := l.length - (f + 1)) (by omega) hh h1 h2 hq f ((Array.replicate (f + 1) false).setIfInBounds 0 true) (a.put o.dst (a.eval x)) w.drew (by simp) (by simp) hclosed hC HK
  have := wpAny_first (md := .any) (Q := Q) (P := P) e2 (Region.noSelect_spec hsel) (fun c a w hp => by
    cases hd : o.dst with
    | none => rw [hd] at hp; exact hp
    | some d => rw [hd] at hp; exact hQ c a d _ w hp) (f + (l.length - (f + 1))) (Array.replicate l.toArray.size false) a w.drew
    (Region.free_spec e2 (by simpa using hfree)) hr1 hy (by rw [epad]; exact key)
  rw [← hl1] at this
  exact this

/-- The same, at the class 'w after some draws'. -/
theorem wp_region_push_drawn {id : Nat} {a : Act} {w : World} (n : Nat) (hmo : P.follows .mixedOrders = true) (hB : pushB l n = true) (hQ : ∀ c a (d : Tmp) v w, Q (.panic c) (Act.put a (some d) v) w → Q (.panic c) a w)
    (h : wpQuiet P (l.take n).toArray (fun w' => ∃ k, w' = w.drewN k) (fun a' => ∀ k, wpList P l.toArray Q (l.drop n) a' (w.drewN k)) (l.take n) a) : (Code.region id l.toArray true).wp P Q a w := by
  refine wp_region_push (fun w' => ∃ k, w' = w.drewN k) n hmo hB hQ ⟨1, rfl⟩ ?_
  have : (fun a' : Act => ∀ k, wpList P l.toArray Q (l.drop n) a' (w.drewN k)) = (fun a' => ∀ w', (∃ k, w' = w.drewN k) → wpList P l.toArray Q (l.drop n) a' w') := by
    funext a'
    apply propext
    exact ⟨fun h w' ⟨k, hk⟩ => hk ▸ h k, fun h k => h _ ⟨k, rfl⟩⟩
  rw [← this]
  exact h
end
end Go.Proofs.YtommgcebjhkneaaDoor.Lead

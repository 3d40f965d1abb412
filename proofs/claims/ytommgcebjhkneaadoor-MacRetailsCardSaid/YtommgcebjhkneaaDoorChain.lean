/-
  mode.Alone, mode.Chained, for whatever a cipher's Do computes. Conditions: the text is of whole blocks, of at most a million bytes, start of one block.
-/
import Derived.Test.YtommgcebjhkneaaDoorEach
namespace Go.Proofs.YtommgcebjhkneaaDoor
open Go Go.RowKit
set_option linter.unusedVariables false
set_option linter.unusedSimpArgs false

/-- What Do computes: F, at blocks of n bytes. -/
structure DoOk (n : Nat) (kind : Int) (key : List Int) (bk : Option Addr) (back : Bool) (F : List Int → List Int) : Prop where
  size : (n : Int) = if kind = 2 then 8 else 16
  len : ∀ x, x.length = n → (F x).length = n
  run : ∀ (B g : Nat) (w : World) (A : Option Addr) (c : Nat) (x : List Int), Ciph B w g kind key bk → x.length = n → Byt x → Rd .u8 w A x →
    Calls Tryd.prog 29 #[.pointer (some ⟨g, 0, none⟩), .slice A n c, .bool back] w (RetNewNil (F x) w)

def lastF (F : List Int → List Int) (n : Nat) (start xs : List Int) : Nat → List Int
  | 0 => start
  | i + 1 => F (xorI (blk n xs i) (lastF F n start xs i))
def lastB (n : Nat) (start xs : List Int) : Nat → List Int
  | 0 => start
  | i + 1 => blk n xs i
def aloneI (F : List Int → List Int) (n m : Nat) (xs : List Int) : List Int := catTo (fun i => F (blk n xs i)) m
def chainF (F : List Int → List Int) (n m : Nat) (start xs : List Int) : List Int := catTo (fun i => lastF F n start xs (i + 1)) m
def chainB (F : List Int → List Int) (n m : Nat) (start xs : List Int) : List Int := catTo (fun i => xorI (F (blk n xs i)) (lastB n start xs i)) m

/-- What a closure over a cipher holds: a variable of the cipher, one of the direction; both, and the cipher, below D. -/
structure Caps (D B gc g1 g2 : Nat) (kind : Int) (key : List Int) (bk : Option Addr) (back : Bool) (w : World) (ob : Option Nat) : Prop where
  le : B ≤ D
  size : D ≤ w.heap.size
  lt1 : g1 < D
  lt2 : g2 < D
  ciph : Ciph B w gc kind key bk
  c_ : w.cell? ⟨g1, 0, none⟩ = some (.pointer (some ⟨gc, 0, none⟩))
  b_ : w.cell? ⟨g2, 0, none⟩ = some (.bool back)
  ob_ : ∀ b, ob = some b → D ≤ b ∧ b < w.heap.size

section
variable {D B gc g1 g2 gl : Nat} {kind : Int} {key : List Int} {bk : Option Addr} {back : Bool} {w w1 : World} {ob ob' : Option Nat}
theorem Caps.keep (h : Caps D B gc g1 g2 kind key bk back w ob) (hs : w.heap.size ≤ w1.heap.size) (hk : ∀ p : Addr, p.block < D → p.block ≠ gl → w1.cell? p = w.cell? p)
    (hB : B ≤ gl) (n1 : g1 ≠ gl) (n2 : g2 ≠ gl) (ho : ∀ b, ob' = some b → D ≤ b ∧ b < w1.heap.size) : Caps D B gc g1 g2 kind key bk back w1 ob' :=
  ⟨h.le, Nat.le_trans h.size hs, h.lt1, h.lt2, h.ciph.keep hs fun p hp => hk p (Nat.lt_of_lt_of_le hp h.le) (by omega), (hk _ h.lt1 n1).trans h.c_, (hk _ h.lt2 n2).trans h.b_, ho⟩
theorem Caps.stays (h : Caps D B gc g1 g2 kind key bk back w ob) (hs : w.heap.size ≤ w1.heap.size) (hb : ∀ b, b < w.heap.size → some b ≠ ob → w1.heap[b]? = w.heap[b]?)
    (ho : ob' = ob ∨ ∃ b, ob' = some b ∧ w.heap.size ≤ b) (hl : ∀ b, ob' = some b → b < w1.heap.size) : Caps D B gc g1 g2 kind key bk back w1 ob' := by
  have hk : ∀ p : Addr, p.block < D → w1.cell? p = w.cell? p := fun p hp => World.cell?_of_block (w := w) (hb p.block (Nat.lt_of_lt_of_le hp h.size) (fun e => by have := (h.ob_ _ e.symm).1; omega))
  refine ⟨h.le, Nat.le_trans h.size hs, h.lt1, h.lt2, h.ciph.keep hs fun p hp => hk p (Nat.lt_of_lt_of_le hp h.le), (hk _ h.lt1).trans h.c_, (hk _ h.lt2).trans h.b_, fun b e => ⟨?_, hl b e⟩⟩
  rcases ho with ho | ⟨b', e', hb'⟩
  · exact (h.ob_ b (ho ▸ e)).1
  · rw [e'] at e; cases e; exact Nat.le_trans h.size hb'
theorem Caps.below (h : Caps D B gc g1 g2 kind key bk back w ob) (hb : Below w.heap.size w w1) : Caps D B gc g1 g2 kind key bk back w1 ob :=
  h.stays hb.size (fun b hlt _ => hb.block b hlt) (.inl rfl) (fun b e => Nat.lt_of_lt_of_le (h.ob_ b e).2 hb.size)
end

set_option maxRecDepth 100000 in
theorem alone1_ok (n m D B gc g1 g2 gl : Nat) (kind : Int) (key : List Int) (bk : Option Addr) (back : Bool) (F : List Int → List Int) (hF : DoOk n kind key bk back F) (xs : List Int) (hm : xs.length = n * m) (hbx : Byt xs) :
    StepOk 28 #[.pointer (some ⟨g1, 0, none⟩), .pointer (some ⟨g2, 0, none⟩)] gl n m D xs (fun i => F (blk n xs i)) (fun _ w ob => Caps D B gc g1 g2 kind key bk back w ob) := by
  intro i w1 ob ad1 c1 hi hD hL hob hr hc h1 h2
  have hc0 := hL.c_
  have hb0 := hL.b_
  have HL := Hd.mk hL; have HR := Hd.mk hr
  have hx := Hd.mk (blk_length n m xs hm i hi)
  clear hL hr hob
  show Calls _ _ #[_, _, _] _ _
  go_enter Tryd.func28, Tryd.ntmps28
  go_wp2_with (first
    | (go_at_call 29; refine (hF.run B gc _ _ _ (blk n xs i) HL.out.ciph hx.out (blk_byt n xs hbx i) HR.out).mono ?_; rintro e w2 ⟨v, rfl, k1, k2⟩))
  go_ret2
  exact ⟨_, rfl, k1, HL.out.below k2, Only.of_below k2⟩

theorem goA (args : Array Value) (w : World) : (callFunc 28 args).run Tryd.prog w = .ok (.enter 28 args) w := by kernel_rfl
theorem goC (args : Array Value) (w : World) : (callFunc 30 args).run Tryd.prog w = .ok (.enter 30 args) w := by kernel_rfl

set_option maxRecDepth 100000 in
theorem Alone_ok (n m B gc : Nat) (kind : Int) (key : List Int) (bk : Option Addr) (back : Bool) (F : List Int → List Int) (hF : DoOk n kind key bk back F) (A : Option Addr) (N c : Nat) (xs : List Int) (w : World)
    (hc : Ciph B w gc kind key bk) (hN : N = xs.length) (hm : xs.length = n * m) (hN2 : N ≤ 1000000) (hcap : N ≤ c) (hr : Rd .u8 w A xs) (hbx : Byt xs) :
    Calls Tryd.prog 16 #[.pointer (some ⟨gc, 0, none⟩), .slice A N c, .bool back] w (RetNewNil (aloneI F n m xs) w) := by
  obtain ⟨W, hW⟩ : ∃ W, W = (w.alloc (.cells #[.pointer (some ⟨gc, 0, none⟩)] 32)).alloc (.cells #[.bool back] 4) := ⟨_, rfl⟩
  have hB : Below w.heap.size w W := by
    rw [hW]; exact ((Below.refl _ _).alloc (Nat.le_refl _) _).alloc (by simp) _
  have hsz : W.heap.size = w.heap.size + 1 + 1 := by rw [hW]; simp
  have c1 : W.cell? ⟨w.heap.size, 0, none⟩ = some (.pointer (some ⟨gc, 0, none⟩)) := by
    rw [hW, World.cell?_alloc_lt _ _ ⟨w.heap.size, 0, none⟩ (by simp), World.cell?_alloc_at _ _ _ _ rfl]; rfl
  have c2 : W.cell? ⟨w.heap.size + 1, 0, none⟩ = some (.bool back) := by
    rw [hW, World.cell?_alloc_at _ _ _ _ (by simp)]; rfl
  have HC := hc.below hB hc.size
  have hcaps : Caps W.heap.size B gc w.heap.size (w.heap.size + 1) kind key bk back W none := ⟨HC.size, Nat.le_refl _, by omega, by omega, HC, c1, c2, fun b e => by cases e⟩
  have H := Hd.mk (each_ok 28 #[.pointer (some ⟨w.heap.size, 0, none⟩), .pointer (some ⟨w.heap.size + 1, 0, none⟩)] w.heap.size n m A N c xs (fun i => F (blk n xs i))
    (fun _ w1 ob => Caps W.heap.size B gc w.heap.size (w.heap.size + 1) kind key bk back w1 ob) W B gc kind key bk HC hF.size hN hm hN2 hcap (hr.below hB) (fun ad e h0 => by have := hr.lt ad e h0; omega) (by omega)
    (fun i hi => hF.len _ (blk_length n m xs hm i hi)) hcaps (alone1_ok n m W.heap.size B gc _ _ _ kind key bk back F hF xs hm hbx) (fun i w1 w2 ob ob' h hs hb ho hl => h.stays hs hb ho hl) goA)
  have HB := Hd.mk hB
  have HW := Hd.mk hW
  clear hc hN hm hN2 hcap hr hW hB hsz c1 c2 HC hcaps
  go_enter Tryd.func16, Tryd.ntmps16
  go_wp2_with (first
    | (go_at_call 27; rw [← HW.out]; refine H.out.mono ?_; rintro e w' ⟨v, rfl, h1, h2⟩))
  go_ret2
  exact ⟨v, rfl, h1.lower HB.out.size, h2.to_below HB.out (Nat.le_refl _) HB.out.size⟩

set_option maxRecDepth 100000 in
theorem Alone_no (n B gc : Nat) (kind : Int) (key : List Int) (bk : Option Addr) (back : Bool) (A : Option Addr) (N c : Nat) (w : World) (hc : Ciph B w gc kind key bk) (hkn : (n : Int) = if kind = 2 then 8 else 16) (hN : N % n ≠ 0) :
    Calls Tryd.prog 16 #[.pointer (some ⟨gc, 0, none⟩), .slice A N c, .bool back] w (RetErr 2 w) := by
  obtain ⟨W, hW⟩ : ∃ W, W = (w.alloc (.cells #[.pointer (some ⟨gc, 0, none⟩)] 32)).alloc (.cells #[.bool back] 4) := ⟨_, rfl⟩
  have hB : Below w.heap.size w W := by
    rw [hW]; exact ((Below.refl _ _).alloc (Nat.le_refl _) _).alloc (by simp) _
  have HC := hc.below hB hc.size
  have H := Hd.mk (each_no (.func (.func 28) #[] #[.pointer (some ⟨w.heap.size, 0, none⟩), .pointer (some ⟨w.heap.size + 1, 0, none⟩)]) rfl n A N c W B gc kind key bk HC hkn hN)
  have HB := Hd.mk hB
  have HW := Hd.mk hW
  clear hc hkn hN hW hB HC
  go_enter Tryd.func16, Tryd.ntmps16
  go_wp2_with (first
    | (go_at_call 27; rw [← HW.out]; refine H.out.mono ?_; rintro e w' ⟨rfl, rfl⟩))
  go_ret2
  exact ⟨rfl, HB.out⟩

theorem RetNewNil.len {xs : List Int} {w w' : World} {e : Ending} (h : RetNewNil xs w e w') (n : Nat) (hn : xs.length = n) :
    ∃ A c, e = .returned (.tuple #[.slice A n c, .nilIface]) ∧ New w' w.heap.size (.slice A n c) xs ∧ n ≤ c ∧ Rd .u8 w' A xs ∧ (A = none → c = 0) ∧ (∀ ad, A = some ad → w.heap.size ≤ ad.block ∧ ad.block < w'.heap.size) ∧ Below w.heap.size w w' := by
  subst hn
  obtain ⟨v, rfl, h1, h2⟩ := h
  obtain ⟨A, c, rfl, k1, k2, k3, k4⟩ := id h1
  exact ⟨A, c, rfl, h1, k1, k2, k3, fun ad e => ⟨(k4 ad e).1, (k4 ad e).2.1⟩, h2⟩

/-- What a chaining closure holds besides: the variable of the last block. -/
structure Last (D B gc g1 g2 gl n : Nat) (kind : Int) (key : List Int) (bk : Option Addr) (back : Bool) (L : Nat → List Int) (i : Nat) (w : World) (ob : Option Nat) : Prop where
  caps : Caps D B gc g1 g2 kind key bk back w ob
  lg : gl < D
  n1 : g1 ≠ gl
  n2 : g2 ≠ gl
  le : B ≤ gl
  cell : ∃ Al cl, w.cell? ⟨gl, 0, none⟩ = some (.slice Al n cl) ∧ Rd .u8 w Al (L i) ∧ ∀ ad, Al = some ad → some ad.block ≠ ob ∧ ad.block ≠ gl ∧ ad.block < w.heap.size
  froz : w.frozen? ⟨gl, 0, none⟩ = false

section
variable {D B gc g1 g2 gl n : Nat} {kind : Int} {key : List Int} {bk : Option Addr} {back : Bool} {L : Nat → List Int} {i : Nat} {w w1 : World} {ob ob' : Option Nat}
theorem Last.stays (h : Last D B gc g1 g2 gl n kind key bk back L i w ob) (hs : w.heap.size ≤ w1.heap.size) (hb : ∀ b, b < w.heap.size → some b ≠ ob → w1.heap[b]? = w.heap[b]?)
    (ho : ob' = ob ∨ ∃ b, ob' = some b ∧ w.heap.size ≤ b) (hl : ∀ b, ob' = some b → b < w1.heap.size) : Last D B gc g1 g2 gl n kind key bk back L i w1 ob' := by
  have hglb := hb gl (Nat.lt_of_lt_of_le h.lg h.caps.size) (fun e => by have := (h.caps.ob_ _ e.symm).1; have := h.lg; omega)
  obtain ⟨Al, cl, h1, h2, h3⟩ := h.cell
  refine ⟨h.caps.stays hs hb ho hl, h.lg, h.n1, h.n2, h.le, ⟨Al, cl, (World.cell?_of_block (w := w) hglb).trans h1, h2.keep fun ad j e _ => World.cell?_of_block (w := w) (by rw [block_add]; exact hb _ (h3 ad e).2.2 (h3 ad e).1), fun ad e => ⟨?_, (h3 ad e).2.1, Nat.lt_of_lt_of_le (h3 ad e).2.2 hs⟩⟩, (World.frozen?_of_block (w := w) hglb).trans h.froz⟩
  rcases ho with ho | ⟨b, e', hb'⟩
  · rw [ho]; exact (h3 ad e).1
  · rw [e']; intro e2; have := (h3 ad e).2.2; injection e2; omega
theorem Last.below (h : Last D B gc g1 g2 gl n kind key bk back L i w ob) (hb : Below w.heap.size w w1) : Last D B gc g1 g2 gl n kind key bk back L i w1 ob :=
  h.stays hb.size (fun b hlt _ => hb.block b hlt) (.inl rfl) (fun b e => Nat.lt_of_lt_of_le (h.caps.ob_ b e).2 hb.size)
/-- The last block's variable is set. -/
theorem Last.put (h : Last D B gc g1 g2 gl n kind key bk back L i w ob) (Al : Option Addr) (cl : Nat) (hr : Rd .u8 w Al (L (i + 1))) (ha : ∀ ad, Al = some ad → some ad.block ≠ ob ∧ ad.block ≠ gl ∧ ad.block < w.heap.size) :
    Last D B gc g1 g2 gl n kind key bk back L (i + 1) (w.setCell ⟨gl, 0, none⟩ (.slice Al n cl)) ob ∧ Only gl w (w.setCell ⟨gl, 0, none⟩ (.slice Al n cl)) := by
  have ho : Only gl w (w.setCell ⟨gl, 0, none⟩ (.slice Al n cl)) := (Only.refl gl w).set_ (.inl rfl) _
  obtain ⟨Al', cl', h1, _, _⟩ := h.cell
  refine ⟨⟨h.caps.keep ho.size (fun p hp hpg => ho.cell (Nat.lt_of_lt_of_le hp h.caps.size) hpg) h.le h.n1 h.n2 (fun b e => ⟨(h.caps.ob_ b e).1, Nat.lt_of_lt_of_le (h.caps.ob_ b e).2 ho.size⟩), h.lg, h.n1, h.n2, h.le, ⟨Al, cl, World.cell?_setCell_same (u := .slice Al' n cl') _ _ _ h1, hr.only ho (fun ad e => (ha ad e).2.1), fun ad e => ⟨(ha ad e).1, (ha ad e).2.1, Nat.lt_of_lt_of_le (ha ad e).2.2 ho.size⟩⟩, ?_⟩, ho⟩
  rw [World.frozen?_setCell]; exact h.froz
end

theorem lastF_length (F : List Int → List Int) (n m : Nat) (start xs : List Int) (hF : ∀ x, x.length = n → (F x).length = n) (hs : start.length = n) (hx : xs.length = n * m) (i : Nat) (hi : i ≤ m) : (lastF F n start xs i).length = n := by
  induction i with
  | zero => exact hs
  | succ i ih =>
    have h1 := blk_length n m xs hx i (by omega)
    exact hF _ (by rw [xorI_length _ _ (by rw [h1, ih (by omega)]), h1])
theorem lastB_length (n m : Nat) (start xs : List Int) (hs : start.length = n) (hx : xs.length = n * m) (i : Nat) (hi : i ≤ m) : (lastB n start xs i).length = n := by
  cases i with
  | zero => exact hs
  | succ i => exact blk_length n m xs hx i (by omega)

set_option maxRecDepth 100000 in
set_option maxHeartbeats 1000000 in
theorem chained1_fwd (n m D B gc g1 g2 gl : Nat) (kind : Int) (key : List Int) (bk : Option Addr) (F : List Int → List Int) (hF : DoOk n kind key bk false F) (start xs : List Int) (hs : start.length = n) (hm : xs.length = n * m) :
    StepOk 30 #[.pointer (some ⟨g2, 0, none⟩), .pointer (some ⟨g1, 0, none⟩), .pointer (some ⟨gl, 0, none⟩)] gl n m D xs (fun i => lastF F n start xs (i + 1)) (Last D B gc g1 g2 gl n kind key bk false (lastF F n start xs)) := by
  intro i w1 ob ad1 c1 hi hD hL hob hr hc h1 h2
  have hc0 := hL.caps.c_
  have hb0 := hL.caps.b_
  obtain ⟨Al, cl, hcl, hrl, hal⟩ := hL.cell
  have HL := Hd.mk hL; have HR := Hd.mk hr; have HRL := Hd.mk hrl
  have hx := Hd.mk (blk_length n m xs hm i hi)
  have hll := Hd.mk (lastF_length F n m start xs hF.len hs hm i (by omega))
  have hgl1 : Hd (gl < w1.heap.size ∧ g1 < w1.heap.size) := ⟨Nat.lt_of_lt_of_le hL.lg hL.caps.size, Nat.lt_of_lt_of_le hL.caps.lt1 hL.caps.size⟩
  obtain ⟨X, hX⟩ : ∃ X, Hd (xorI (blk n xs i) (lastF F n start xs i) = X) := ⟨_, ⟨rfl⟩⟩
  have hXl : Hd (X.length = n) := ⟨by rw [← hX.out, xorI_length _ _ (by rw [hx.out, hll.out]), hx.out]⟩
  have hn0 : n ≤ 1000000 := by have := hF.size; split at this <;> omega
  clear hL hr hob hrl hal
  show Calls _ _ #[_, _, _, _] _ _
  go_enter Tryd.func30, Tryd.ntmps30
  go_wp2_with (first
    | (go_at_call 9; refine (Xor_ok _ _ n _ _ _ _ _ hx.out.symm hll.out.symm hn0 HR.out HRL.out).mono ?_; intro e w2 hh; rw [hX.out] at hh; obtain ⟨A2, c2, rfl, k1, k2, k3, k4, k5, k6⟩ := hh.len n hXl.out; have hc2 := (k6.cell (p := ⟨g1, 0, none⟩) hgl1.out.2).trans hc0)
    | (go_at_call 29; refine (hF.run B gc _ _ _ X (HL.out.caps.ciph.below k6 (Nat.le_trans HL.out.caps.le HL.out.caps.size)) hXl.out (hX.out ▸ xorI_byt _ _) k3).mono ?_; intro e w3 hh; obtain ⟨A3, c3, rfl, m1, m2, m3, m4, m5, m6⟩ := hh.len n (hF.len _ hXl.out); have hL3 := (HL.out.below k6).below m6; have HL3 := Hd.mk hL3; have hfr := hL3.froz; obtain ⟨Al4, cl4, hcl4, _, _⟩ := hL3.cell; clear hL3))
  go_ret2
  have hsz := k6.size
  have hp := HL3.out.put A3 c3 (by show Rd _ _ _ (F (xorI _ _)); rw [hX.out]; exact m3) (fun ad e => ⟨fun e2 => by have := (m5 ad e).1; have := (HL.out.caps.ob_ _ e2.symm).2; omega, by have := (m5 ad e).1; have := hgl1.out.1; omega, (m5 ad e).2⟩)
  refine ⟨_, rfl, ?_, hp.1, (Only.of_below (k6.trans (m6.mono k6.size))).trans hp.2⟩
  show New _ _ _ (F (xorI _ _))
  rw [hX.out]
  exact (m1.lower hsz).only hp.2 hgl1.out.1

set_option maxRecDepth 100000 in
set_option maxHeartbeats 1000000 in
theorem chained1_back (n m D B gc g1 g2 gl : Nat) (kind : Int) (key : List Int) (bk : Option Addr) (F : List Int → List Int) (hF : DoOk n kind key bk true F) (start xs : List Int) (hs : start.length = n) (hm : xs.length = n * m) (hbx : Byt xs) :
    StepOk 30 #[.pointer (some ⟨g2, 0, none⟩), .pointer (some ⟨g1, 0, none⟩), .pointer (some ⟨gl, 0, none⟩)] gl n m D xs (fun i => xorI (F (blk n xs i)) (lastB n start xs i)) (Last D B gc g1 g2 gl n kind key bk true (lastB n start xs)) := by
  intro i w1 ob ad1 c1 hi hD hL hob hr hc h1 h2
  have hc0 := hL.caps.c_
  have hb0 := hL.caps.b_
  obtain ⟨Al, cl, hcl, hrl, hal⟩ := hL.cell
  have HL := Hd.mk hL; have HR := Hd.mk hr; have HRL := Hd.mk hrl; have HAL := Hd.mk hal; have HCL := Hd.mk hcl
  have hx := Hd.mk (blk_length n m xs hm i hi)
  have hll := Hd.mk (lastB_length n m start xs hs hm i (by omega))
  have hgl1 : Hd (gl < w1.heap.size ∧ g1 < w1.heap.size) := ⟨Nat.lt_of_lt_of_le hL.lg hL.caps.size, Nat.lt_of_lt_of_le hL.caps.lt1 hL.caps.size⟩
  obtain ⟨X, hX⟩ : ∃ X, Hd (F (blk n xs i) = X) := ⟨_, ⟨rfl⟩⟩
  have hXl : Hd (X.length = n) := ⟨by rw [← hX.out]; exact hF.len _ hx.out⟩
  have hYl : Hd ((xorI X (lastB n start xs i)).length = n) := ⟨by rw [xorI_length _ _ (by rw [hXl.out, hll.out]), hXl.out]⟩
  have hn0 : n ≤ 1000000 := by have := hF.size; split at this <;> omega
  have hob1 := Hd.mk hob
  have had : Hd (ad1.block < D ∧ ad1.block ≠ gl) := ⟨h1, h2⟩
  clear hL hr hob hrl hal hcl h1 h2
  show Calls _ _ #[_, _, _, _] _ _
  go_enter Tryd.func30, Tryd.ntmps30
  go_wp2_with (first
    | (go_at_call 29; refine (hF.run B gc _ _ _ _ HL.out.caps.ciph hx.out (blk_byt n xs hbx i) HR.out).mono ?_; intro e w2 hh; rw [hX.out] at hh; obtain ⟨A2, c2, rfl, k1, k2, k3, k4, k5, k6⟩ := hh.len n hXl.out; have hL2 := HL.out.below k6; have HL2 := Hd.mk hL2; have hfr := hL2.froz; have hcl2 := (k6.cell (p := ⟨gl, 0, none⟩) hgl1.out.1).trans HCL.out; have hp := Hd.mk (HL2.out.put (some ad1) c1 (HR.out.below k6) (fun ad e => by cases e; exact ⟨fun e2 => by have := hob1.out _ e2.symm; have := had.out.1; omega, had.out.2, Nat.lt_of_lt_of_le had.out.1 hL2.caps.size⟩)); have hrX := Hd.mk (k3.only hp.out.2 (fun ad e => by have := (k5 ad e).1; have := hgl1.out.1; omega)); have hrY := Hd.mk ((HRL.out.below k6).only hp.out.2 (fun ad e => (HAL.out ad e).2.1)); clear hL2)
    | (go_at_call 9; refine (Xor_ok _ _ n _ _ _ _ _ hXl.out.symm hll.out.symm hn0 hrX.out hrY.out).mono ?_; intro e w3 hh; obtain ⟨A3, c3, rfl, m1, m2, m3, m4, m5, m6⟩ := hh.len n hYl.out))
  go_ret2
  have hsz := k6.size
  refine ⟨_, rfl, ?_, hp.out.1.below m6, ((Only.of_below k6).trans hp.out.2).below_ m6⟩
  show New _ _ _ (xorI (F _) _)
  rw [hX.out]
  exact m1.lower (Nat.le_trans hsz hp.out.2.size)

set_option maxRecDepth 100000 in
set_option maxHeartbeats 1000000 in
theorem Chained_ok (n m B gc : Nat) (kind : Int) (key : List Int) (bk : Option Addr) (back : Bool) (F : List Int → List Int) (hF : DoOk n kind key bk back F) (A As : Option Addr) (N c cs : Nat) (start xs : List Int) (w : World)
    (hc : Ciph B w gc kind key bk) (hs : start.length = n) (hrs : Rd .u8 w As start) (hN : N = xs.length) (hm : xs.length = n * m) (hN2 : N ≤ 1000000) (hcap : N ≤ c) (hr : Rd .u8 w A xs) (hbx : Byt xs) :
    Calls Tryd.prog 17 #[.pointer (some ⟨gc, 0, none⟩), .slice As n cs, .slice A N c, .bool back] w (RetNewNil (if back then chainB F n m start xs else chainF F n m start xs) w) := by
  obtain ⟨W, hW⟩ : ∃ W, W = (((w.alloc (.cells #[.pointer (some ⟨gc, 0, none⟩)] 32)).alloc (.cells #[.bool back] 4)).alloc (.cells #[.slice As n cs] 22)) := ⟨_, rfl⟩
  have hB : Below w.heap.size w W := by
    rw [hW]; exact (((Below.refl _ _).alloc (Nat.le_refl _) _).alloc (by simp) _).alloc (by simp; omega) _
  have hsz : W.heap.size = w.heap.size + 1 + 1 + 1 := by rw [hW]; simp
  have c1 : W.cell? ⟨w.heap.size, 0, none⟩ = some (.pointer (some ⟨gc, 0, none⟩)) := by
    rw [hW, World.cell?_alloc_lt _ _ ⟨w.heap.size, 0, none⟩ (by simp; omega), World.cell?_alloc_lt _ _ ⟨w.heap.size, 0, none⟩ (by simp), World.cell?_alloc_at _ _ _ _ rfl]; rfl
  have c2 : W.cell? ⟨w.heap.size + 1, 0, none⟩ = some (.bool back) := by
    rw [hW, World.cell?_alloc_lt _ _ ⟨w.heap.size + 1, 0, none⟩ (by simp), World.cell?_alloc_at _ _ _ _ (by simp)]; rfl
  have c3 : W.cell? ⟨w.heap.size + 1 + 1, 0, none⟩ = some (.slice As n cs) := by
    rw [hW, World.cell?_alloc_at _ _ _ _ (by simp)]; rfl
  have c4 : W.frozen? ⟨w.heap.size + 1 + 1, 0, none⟩ = false := by
    rw [hW]
    exact frozen_of_row _ _ _ _ _ (by rw [show w.heap.size + 1 + 1 = ((w.alloc (.cells #[.pointer (some ⟨gc, 0, none⟩)] 32)).alloc (.cells #[.bool back] 4)).heap.size by simp]; exact heap_alloc_new _ _)
  have HC := hc.below hB hc.size
  have hcaps : Caps W.heap.size B gc w.heap.size (w.heap.size + 1) kind key bk back W none := ⟨HC.size, Nat.le_refl _, by omega, by omega, HC, c1, c2, fun b e => by cases e⟩
  have hlast : ∀ L : Nat → List Int, L 0 = start → Last W.heap.size B gc w.heap.size (w.heap.size + 1) (w.heap.size + 1 + 1) n kind key bk back L 0 W none := fun L hL0 =>
    have hal : ∀ ad, As = some ad → ad.block < w.heap.size := fun ad e => hrs.lt ad e (by rw [hs]; have := hF.size; split at this <;> omega)
    ⟨hcaps, by omega, by omega, by omega, by have := hc.size; omega, ⟨As, cs, c3, by rw [hL0]; exact hrs.below hB, fun ad e => ⟨Option.some_ne_none _, by have := hal ad e; omega, by have := hal ad e; omega⟩⟩, c4⟩
  have hxb : ∀ i, i < m → (blk n xs i).length = n := fun i hi => blk_length n m xs hm i hi
  have HS : Hd (∀ w', Below w.heap.size w w' → Calls Tryd.prog 15 #[.pointer (some ⟨gc, 0, none⟩)] w' fun e w'' => e = .returned (.int .i64 n) ∧ w' = w'') :=
    ⟨fun w' hw' => by rw [hF.size]; exact Size_any B gc w' kind key bk (hc.below hw' hc.size)⟩
  have H : Hd (Calls Tryd.prog 27 #[.pointer (some ⟨gc, 0, none⟩), .slice A N c, .func (.func 30) #[] #[.pointer (some ⟨w.heap.size + 1, 0, none⟩), .pointer (some ⟨w.heap.size, 0, none⟩), .pointer (some ⟨w.heap.size + 1 + 1, 0, none⟩)]] W
      (RetEach (w.heap.size + 1 + 1) (if back then chainB F n m start xs else chainF F n m start xs) W)) := by
    refine ⟨?_⟩
    cases back with
    | false =>
      exact each_ok _ _ _ n m A N c xs _ (Last W.heap.size B gc w.heap.size (w.heap.size + 1) (w.heap.size + 1 + 1) n kind key bk false (lastF F n start xs)) W B gc kind key bk HC hF.size hN hm hN2 hcap (hr.below hB) (fun ad e h0 => by have := hr.lt ad e h0; omega) (by omega)
        (fun i hi => lastF_length F n m start xs hF.len hs hm (i + 1) (by omega)) (hlast _ rfl) (chained1_fwd n m W.heap.size B gc _ _ _ kind key bk F hF start xs hs hm) (fun i w1 w2 ob ob' h hs hb ho hl => h.stays hs hb ho hl) goC
    | true =>
      exact each_ok _ _ _ n m A N c xs _ (Last W.heap.size B gc w.heap.size (w.heap.size + 1) (w.heap.size + 1 + 1) n kind key bk true (lastB n start xs)) W B gc kind key bk HC hF.size hN hm hN2 hcap (hr.below hB) (fun ad e h0 => by have := hr.lt ad e h0; omega) (by omega)
        (fun i hi => by rw [xorI_length _ _ (by rw [hF.len _ (hxb i hi), lastB_length n m start xs hs hm i (by omega)]), hF.len _ (hxb i hi)]) (hlast _ rfl) (chained1_back n m W.heap.size B gc _ _ _ kind key bk F hF start xs hs hm hbx) (fun i w1 w2 ob ob' h hs hb ho hl => h.stays hs hb ho hl) goC
  generalize (if back then chainB F n m start xs else chainF F n m start xs) = R at *
  have HB := Hd.mk hB
  have HW := Hd.mk hW
  have HSZ := Hd.mk hsz
  clear hc hs hrs hN hm hN2 hcap hr hW hB hsz c1 c2 c3 c4 HC hcaps hlast hxb hF
  go_enter Tryd.func17, Tryd.ntmps17
  go_wp2_with (first
    | (go_at_call 15; refine (HS.out _ (((Below.refl _ _).alloc (Nat.le_refl _) _).alloc (by simp) _)).mono ?_; rintro e w' ⟨rfl, rfl⟩)
    | (go_at_call 27; rw [← HW.out]; refine H.out.mono ?_; rintro e w' ⟨v, rfl, h1, h2⟩))
  go_ret2
  exact ⟨v, rfl, h1.lower HB.out.size, h2.to_below HB.out (by omega) HB.out.size⟩
end Go.Proofs.YtommgcebjhkneaaDoor

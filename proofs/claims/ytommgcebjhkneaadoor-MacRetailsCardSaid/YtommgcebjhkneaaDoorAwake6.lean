/-
  lockboxlaw06.awake answers true.
-/
import Derived.Test.YtommgcebjhkneaaDoorChain
import Derived.Deep.RegionHeld3
namespace Go.Proofs.YtommgcebjhkneaaDoor
open Go Go.RowKit
set_option linter.unusedVariables false
set_option linter.unusedSimpArgs false

theorem doAesE (nk : Nat) (hnk : nk = 4 ∨ nk = 6 ∨ nk = 8) (key : List Int) (bk : Option Addr) (hkl : key.length = 4 * nk) : DoOk 16 1 key bk false (encI key nk) where
  size := rfl
  len := fun x hx => by rw [encI, encTo_length, withTo_length, hx]
  run := fun B g w A c x hc hx _ hr => Do_aes false nk hnk B g w key bk hc hkl A 16 c x hx rfl hr
theorem doAesD (nk : Nat) (hnk : nk = 4 ∨ nk = 6 ∨ nk = 8) (key : List Int) (bk : Option Addr) (hkl : key.length = 4 * nk) : DoOk 16 1 key bk true (decI key nk) where
  size := rfl
  len := fun x hx => by rw [decI, withTo_length, decTo_length, hx]
  run := fun B g w A c x hc hx _ hr => Do_aes true nk hnk B g w key bk hc hkl A 16 c x hx rfl hr

/-- The cells of n zeros. -/
def zs (n : Nat) : Array Value := (bs (List.replicate n 0)).toArray
theorem made (n : Nat) (hn : n ≤ 1000) (w : World) : (Instr.makeSlice 22 (.int .i64 n) (.int .i64 n)).run Tryd.prog w = .ok (.slice (some ⟨w.heap.size, 0, none⟩) n n) (w.alloc (.cells (zs n) 5)) := by
  obtain ⟨i, hi, hzz⟩ := Option.map_eq_some_iff.1 slU8.info
  simp only [Prod.mk.injEq] at hzz
  obtain ⟨hz, hsz, hby⟩ := hzz
  have h := run_make_row (P := Tryd.prog) 22 5 i _ slU8.und hi hz hsz rfl .i64 .i64 n (by rw [hby]; omega) (by omega) w
  rw [h]
  have : madeCells #[Value.int .u8 0] n = zs n := by
    apply Array.ext'
    rw [toList_madeCells_one]
    simp [zs, bs]
  rw [this]
theorem made15 (w : World) : (Instr.makeSlice 22 (.int .i64 15) (.int .i64 15)).run Tryd.prog w = .ok (.slice (some ⟨w.heap.size, 0, none⟩) 15 15) (w.alloc (.cells (zs 15) 5)) := made 15 (by omega) w
theorem made16 (w : World) : (Instr.makeSlice 22 (.int .i64 16) (.int .i64 16)).run Tryd.prog w = .ok (.slice (some ⟨w.heap.size, 0, none⟩) 16 16) (w.alloc (.cells (zs 16) 5)) := made 16 (by omega) w
theorem made32 (w : World) : (Instr.makeSlice 22 (.int .i64 32) (.int .i64 32)).run Tryd.prog w = .ok (.slice (some ⟨w.heap.size, 0, none⟩) 32 32) (w.alloc (.cells (zs 32) 5)) := made 32 (by omega) w
theorem rd_zs (n : Nat) (w : World) : Rd .u8 (w.alloc (.cells (zs n) 5)) (some ⟨w.heap.size, 0, none⟩) (List.replicate n 0) := Rd.of_row (Row.new w 5 _)

/-- What Chained answers over 32 zeros, what Alone over 16. -/
def X6 : List Int := chainF (encI (List.replicate 16 0) 4) 16 2 (List.replicate 16 0) (List.replicate 32 0)
def Y6 : List Int := aloneI (encI (List.replicate 16 0) 4) 16 1 (List.replicate 16 0)

/-- Readable bytes of a known number, no error. -/
def RetRd (n : Nat) (xs : List Int) (w : World) (e : Ending) (w' : World) : Prop := ∃ ad c, e = .returned (.tuple #[.slice (some ad) n c, .nilIface]) ∧ Rd .u8 w' (some ad) xs ∧ n ≤ c ∧ w.heap.size ≤ ad.block ∧ ad.block < w'.heap.size ∧ Below w.heap.size w w'
theorem RetRd.of {n : Nat} {xs : List Int} {w w' : World} {e : Ending} (h : RetNewNil xs w e w') (hn : xs.length = n) (h0 : 0 < n) : RetRd n xs w e w' := by
  obtain ⟨A, c, rfl, k1, k2, k3, k4, k5, k6⟩ := h.len n hn
  obtain ⟨ad, rfl, _⟩ := k3.get 0 (by omega)
  exact ⟨ad, c, rfl, k3, k2, (k5 ad rfl).1, (k5 ad rfl).2, k6⟩

theorem X6_length : X6.length = 32 := by
  unfold X6 chainF
  rw [catTo_length _ 16 2 (fun i hi => lastF_length _ 16 2 _ _ (doAesE 4 (.inl rfl) (List.replicate 16 0) none rfl).len rfl rfl (i + 1) (by omega))]
theorem Y6_length : Y6.length = 16 := by
  unfold Y6 aloneI
  rw [catTo_length _ 16 1 (fun i hi => (doAesE 4 (.inl rfl) (List.replicate 16 0) none rfl).len _ (blk_length 16 1 _ rfl i hi))]

section
variable {B gc : Nat} {w : World}
theorem byt_zeros (n : Nat) : Byt (List.replicate n 0) := fun x hx => by have := List.eq_of_mem_replicate hx; omega
theorem chainA (hc : Ciph B w gc 1 (List.replicate 16 0) none) :
    Calls Tryd.prog 17 #[.pointer (some ⟨gc, 0, none⟩), .slice (some ⟨w.heap.size, 0, none⟩) 16 16, .slice (some ⟨w.heap.size + 1, 0, none⟩) 32 32, .bool false] ((w.alloc (.cells (zs 16) 5)).alloc (.cells (zs 32) 5)).drew (RetRd 32 X6 w) := by
  have h1 := (Below.refl w.heap.size w).alloc (Nat.le_refl _) (.cells (zs 16) 5)
  have h2 := below_drewN (h1.alloc (by simp) (.cells (zs 32) 5)) 1
  have r1 := ((rd_zs 16 w).below ((Below.refl _ _).alloc (Nat.le_refl _) (.cells (zs 32) 5))).drewN 1
  have r2 := rd_zs 32 (w.alloc (.cells (zs 16) 5))
  rw [show (w.alloc (.cells (zs 16) 5)).heap.size = w.heap.size + 1 by simp] at r2
  replace r2 := r2.drewN 1
  refine (Chained_ok 16 2 B gc 1 _ none false _ (doAesE 4 (.inl rfl) _ none rfl) _ _ 32 32 16 (List.replicate 16 0) (List.replicate 32 0) _ (hc.below h2 hc.size) rfl r1 rfl rfl (by omega) (by omega) r2 (byt_zeros 32)).mono ?_
  intro e w' h
  obtain ⟨ad, c, e1, h3, h4, h5, h6, h7⟩ := RetRd.of h X6_length (by omega)
  exact ⟨ad, c, e1, h3, h4, Nat.le_trans h2.size h5, h6, h2.trans (h7.mono h2.size)⟩
theorem chainB' (hc : Ciph B w gc 1 (List.replicate 16 0) none) :
    Calls Tryd.prog 17 #[.pointer (some ⟨gc, 0, none⟩), .slice (some ⟨w.heap.size + 1, 0, none⟩) 16 16, .slice (some ⟨w.heap.size, 0, none⟩) 32 32, .bool false] ((w.alloc (.cells (zs 32) 5)).alloc (.cells (zs 16) 5)).drew (RetRd 32 X6 w) := by
  have h1 := (Below.refl w.heap.size w).alloc (Nat.le_refl _) (.cells (zs 32) 5)
  have h2 := below_drewN (h1.alloc (by simp) (.cells (zs 16) 5)) 1
  have r1 := ((rd_zs 32 w).below ((Below.refl _ _).alloc (Nat.le_refl _) (.cells (zs 16) 5))).drewN 1
  have r2 := rd_zs 16 (w.alloc (.cells (zs 32) 5))
  rw [show (w.alloc (.cells (zs 32) 5)).heap.size = w.heap.size + 1 by simp] at r2
  replace r2 := r2.drewN 1
  refine (Chained_ok 16 2 B gc 1 _ none false _ (doAesE 4 (.inl rfl) _ none rfl) _ _ 32 32 16 (List.replicate 16 0) (List.replicate 32 0) _ (hc.below h2 hc.size) rfl r2 rfl rfl (by omega) (by omega) r1 (byt_zeros 32)).mono ?_
  intro e w' h
  obtain ⟨ad, c, e1, h3, h4, h5, h6, h7⟩ := RetRd.of h X6_length (by omega)
  exact ⟨ad, c, e1, h3, h4, Nat.le_trans h2.size h5, h6, h2.trans (h7.mono h2.size)⟩
theorem alone16 (hc : Ciph B w gc 1 (List.replicate 16 0) none) :
    Calls Tryd.prog 16 #[.pointer (some ⟨gc, 0, none⟩), .slice (some ⟨w.heap.size, 0, none⟩) 16 16, .bool false] (w.alloc (.cells (zs 16) 5)) (RetRd 16 Y6 w) := by
  have h1 := (Below.refl w.heap.size w).alloc (Nat.le_refl _) (.cells (zs 16) 5)
  refine (Alone_ok 16 1 B gc 1 _ none false _ (doAesE 4 (.inl rfl) _ none rfl) _ 16 16 (List.replicate 16 0) _ (hc.below h1 hc.size) rfl rfl (by omega) (by omega) (rd_zs 16 w) (byt_zeros 16)).mono ?_
  intro e w' h
  obtain ⟨ad, c, e1, h3, h4, h5, h6, h7⟩ := RetRd.of h Y6_length (by omega)
  exact ⟨ad, c, e1, h3, h4, Nat.le_trans h1.size h5, h6, h1.trans (h7.mono h1.size)⟩
theorem alone15 (hc : Ciph B w gc 1 (List.replicate 16 0) none) :
    Calls Tryd.prog 16 #[.pointer (some ⟨gc, 0, none⟩), .slice (some ⟨w.heap.size, 0, none⟩) 15 15, .bool false] (w.alloc (.cells (zs 15) 5)) (RetErr 2 w) := by
  have h1 := (Below.refl w.heap.size w).alloc (Nat.le_refl _) (.cells (zs 15) 5)
  refine (Alone_no 16 B gc 1 _ none false _ 15 15 _ (hc.below h1 hc.size) rfl (by decide)).mono ?_
  rintro e w' ⟨rfl, h⟩
  exact ⟨rfl, h1.trans (h.mono h1.size)⟩
end

theorem Same_true (A A2 : Option Addr) (n c n2 c2 : Nat) (xs ys : List Int) (w : World) (hx : n = xs.length) (hy : n2 = ys.length) (hn : n ≤ 1000000) (hr : Rd .u8 w A xs) (hr2 : Rd .u8 w A2 ys) (he : xs = ys) :
    Calls Tryd.prog 11 #[.slice A n c, .slice A2 n2 c2] w fun e w' => e = .returned (.bool true) ∧ ∃ k, w' = w.drewN k :=
  (Same_any A A2 n c n2 c2 xs ys w hx hy hn hr hr2).mono fun e w' h => ⟨by rw [h.1, decide_eq_true he], h.2⟩
theorem Same_false (A A2 : Option Addr) (n c n2 c2 : Nat) (xs ys : List Int) (w : World) (hx : n = xs.length) (hy : n2 = ys.length) (hn : n ≤ 1000000) (hr : Rd .u8 w A xs) (hr2 : Rd .u8 w A2 ys) (he : xs ≠ ys) :
    Calls Tryd.prog 11 #[.slice A n c, .slice A2 n2 c2] w fun e w' => e = .returned (.bool false) ∧ ∃ k, w' = w.drewN k :=
  (Same_any A A2 n c n2 c2 xs ys w hx hy hn hr hr2).mono fun e w' h => ⟨by rw [h.1, decide_eq_false he], h.2⟩
theorem Code_some (n : Int) (w : World) (hL : Laid w) :
    Calls Tryd.prog 10 #[errV (some n)] w fun ev w' => ev = .returned (.int .i64 n) ∧ Below w.heap.size w w' := Code_any (some n) w hL
theorem rdrop {w : World} {ad : Addr} {xs : List Int} {c : Nat} (h : Rd .u8 w (some ad) xs) (hc : ¬ c = 16) {q : Nat} (hl : xs.length ≤ c := by omega) : Rd .u8 (w.drewN q) (some ⟨ad.block, ad.off + 16, none⟩) (xs.drop 16) := by
  have := h.cut 16 c hl
  rw [if_neg hc] at this
  exact this.drewN q
theorem Laid.drewN {w : World} (h : Laid w) (n : Nat) : Laid (w.drewN n) := h

set_option maxRecDepth 100000 in
set_option maxHeartbeats 4000000 in
theorem awake6 (e1 : X6.take 16 = Y6) (e2 : X6.drop 16 ≠ Y6) (w : World) (hL : Laid w) :
    Calls Tryd.prog 8 #[] w fun e w' => e = .returned (.bool true) ∧ Below w.heap.size w w' := by
  have HL := Hd.mk hL; have H1 := Hd.mk e1; have H2 := Hd.mk e2
  have l1 := Hd.mk X6_length; have l2 := Hd.mk Y6_length
  have cA := Hd.mk @chainA; have cB := Hd.mk @chainB'; have c16 := Hd.mk @alone16; have c15 := Hd.mk @alone15
  have m15 := made15
  have m16 := made16
  have m32 := made32
  have hW1 := Hd.mk fun (w : World) => (Below.refl w.heap.size w).alloc (Nat.le_refl _) (.cells (zs 16) 5)
  have hk1 := Hd.mk (rd_zs 16 w)
  generalize X6 = X, Y6 = Y, zs 15 = Z15, zs 16 = Z16, zs 32 = Z32 at *
  clear hL e1 e2
  go_enter Tryd.func8, Tryd.ntmps8
  go_wp2_with (first
    | (go_at_call 23; refine (New_ok 1 (.inl rfl) _ 16 _ (List.replicate 16 0) none _ rfl rfl hk1.out (fun e => by cases e)).mono ?_; rintro e w2 ⟨gc, rfl, n1, n2, n3⟩))
  have N2 := Hd.mk n2
  have N3 := Hd.mk ((hW1.out w).trans (n3.mono (hW1.out w).size))
  clear n1 n2 n3
  go_region_held3 (fun _ => True) (trivial) (first
    | (go_at_call 17; (with_reducible refine (cA.out N2.out).mono ?_); rintro e w3 ⟨ad, c, rfl, k1, k2, k3, k4, k5⟩)
    | (go_at_call 17; (with_reducible refine (cB.out N2.out).mono ?_); rintro e w3 ⟨ad, c, rfl, k1, k2, k3, k4, k5⟩))
  all_goals
    have hC3 := Hd.mk (N2.out.below k5 (Nat.le_refl _))
    have hX3 := Hd.mk k1
    have hB3 := Hd.mk (N3.out.trans (k5.mono N3.out.size))
    have hc16 : ¬ (c = 16) := by omega
    clear k1 k3 k4 k5
    go_wp2_with (first
      | (go_at_call 16; (with_reducible refine (c16.out hC3.out).mono ?_); rintro e w4 ⟨ad4, cc4, rfl, m1, m2, m3, m4, m5⟩; have hC4 := Hd.mk (hC3.out.below m5 hC3.out.size))
      | (go_at_call 16; (with_reducible refine (c15.out hC4.out).mono ?_); rintro e w5 ⟨rfl, n5⟩; have hB5 := Hd.mk ((hB3.out.trans (m5.mono hB3.out.size)).trans (n5.mono (Nat.le_trans hB3.out.size m5.size)));
         have sT := Hd.mk (Same_true (some ad) (some ad4) 16 c 16 cc4 (X.take 16) Y w5 (by rw [List.length_take, l1.out]; rfl) l2.out.symm (by omega) (((hX3.out.below m5).below n5).take_ 16) (m1.below n5) H1.out)
         have sF := Hd.mk fun q => (Same_false (some ⟨ad.block, ad.off + 16, none⟩) (some ad4) 16 (c - 16) 16 cc4 (X.drop 16) Y (w5.drewN q) (by rw [List.length_drop, l1.out]) l2.out.symm (by omega) (rdrop ((hX3.out.below m5).below n5) hc16 (by rw [l1.out]; exact k2)) ((m1.below n5).drewN _) H2.out)
         have cC := Hd.mk fun q => (Code_some 2 (w5.drewN q) ((HL.out.below hB5.out).drewN _)))
      | (go_at_call 11; (with_reducible refine sT.out.mono ?_); rintro e w6 ⟨rfl, q, rfl⟩)
      | (go_at_call 11; (with_reducible refine (sF.out _).mono ?_); rintro e w6 ⟨rfl, q2, rfl⟩)
      | (go_at_call 10; (with_reducible refine (cC.out _).mono ?_); rintro e w7 ⟨rfl, p1⟩))
    go_ret
    exact ⟨rfl, (below_drewN hB5.out _).trans (p1.mono hB5.out.size)⟩
end Go.Proofs.YtommgcebjhkneaaDoor

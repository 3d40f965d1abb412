/-
  mode, plain: alone and chained, undone; a chained text in two parts. Conditions: whole blocks; what undoes a block does.
-/
import Derived.Test.YtommgcebjhkneaaDoorLaw6c
namespace Go.Proofs.YtommgcebjhkneaaDoor
open Go Go.RowKit
set_option linter.unusedVariables false
set_option linter.unusedSimpArgs false

theorem catTo_split (ys : Nat → List Int) (n : Nat) : ∀ (m i : Nat), i < m → (∀ j, j < m → (ys j).length = n) → blk n (catTo ys m) i = ys i
  | 0, i, h, _ => by omega
  | m + 1, i, h, hl => by
    have hc := catTo_length ys n m (fun j hj => hl j (by omega))
    unfold blk
    rw [catTo]
    by_cases him : i < m
    · have hle : n * i + n ≤ n * m := by rw [← Nat.mul_succ]; exact Nat.mul_le_mul_left n him
      rw [List.drop_append_of_le_length (by omega), List.take_append_of_le_length (by rw [List.length_drop]; omega)]
      exact catTo_split ys n m i him (fun j hj => hl j (by omega))
    · obtain rfl : i = m := by omega
      rw [List.drop_append, hc, Nat.sub_self, List.drop_of_length_le (by omega), List.nil_append, List.drop_zero, List.take_of_length_le (by rw [hl i (by omega)]; exact Nat.le_refl _)]
theorem catTo_blk (n : Nat) : ∀ (m : Nat) (xs : List Int), xs.length = n * m → catTo (fun i => blk n xs i) m = xs := by
  have h : ∀ (m : Nat) (xs : List Int), catTo (fun i => blk n xs i) m = xs.take (n * m) := by
    intro m xs
    induction m with
    | zero => simp [catTo]
    | succ m ih => rw [catTo, ih, blk, Nat.mul_succ, List.take_add]
  intro m xs hx
  rw [h, List.take_of_length_le (by omega)]
theorem catTo_congr (ys zs : Nat → List Int) : ∀ m, (∀ i, i < m → ys i = zs i) → catTo ys m = catTo zs m
  | 0, _ => rfl
  | m + 1, h => by rw [catTo, catTo, catTo_congr ys zs m (fun i hi => h i (by omega)), h m (by omega)]

/-- G undoes F at blocks of n bytes. -/
structure Undo (n : Nat) (F G : List Int → List Int) : Prop where
  undo : ∀ x, x.length = n → Byt x → G (F x) = x
  byt : ∀ x, x.length = n → Byt x → Byt (F x)
  len : ∀ x, x.length = n → (F x).length = n
theorem alone_back (n m : Nat) (F G : List Int → List Int) (h : Undo n F G) (xs : List Int) (hx : xs.length = n * m) (hb : Byt xs) : aloneI G n m (aloneI F n m xs) = xs := by
  have hl := fun i (hi : i < m) => blk_length n m xs hx i hi
  unfold aloneI
  rw [catTo_congr _ (fun i => blk n xs i) m (fun i hi => ?_), catTo_blk n m xs hx]
  show G (blk n (catTo (fun i => F (blk n xs i)) m) i) = _
  rw [catTo_split _ n m i hi (fun j hj => h.len _ (hl j hj))]
  exact h.undo _ (hl i hi) (blk_byt n xs hb i)

theorem chain_back (n m : Nat) (F G : List Int → List Int) (h : Undo n F G) (start xs : List Int) (hs : start.length = n) (hx : xs.length = n * m) (hb : Byt xs) (hbs : Byt start) : chainB G n m start (chainF F n m start xs) = xs := by
  have hl := fun i (hi : i < m) => blk_length n m xs hx i hi
  have hll := fun i (hi : i ≤ m) => lastF_length F n m start xs h.len hs hx i hi
  have hcut := fun i (hi : i < m) => catTo_split (fun i => lastF F n start xs (i + 1)) n m i hi (fun j hj => hll (j + 1) (by omega))
  have hlast : ∀ i, i < m → lastB n start (chainF F n m start xs) i = lastF F n start xs i := by
    intro i hi
    cases i with
    | zero => rfl
    | succ i => exact hcut i (by omega)
  unfold chainB
  rw [catTo_congr _ (fun i => blk n xs i) m (fun i hi => ?_), catTo_blk n m xs hx]
  show xorI (G (blk n (chainF F n m start xs) i)) (lastB n start (chainF F n m start xs) i) = _
  rw [hlast i hi]
  have : blk n (chainF F n m start xs) i = F (xorI (blk n xs i) (lastF F n start xs i)) := hcut i hi
  have hxl : (blk n xs i).length = (lastF F n start xs i).length := by rw [hl i hi, hll i (by omega)]
  rw [this, h.undo _ (by rw [xorI_length _ _ hxl, hl i hi]) (xorI_byt _ _), xorI_xorI _ _ (blk_byt n xs hb i) hxl]

theorem chain_forth (n m : Nat) (F G : List Int → List Int) (h : Undo n F G) (start xs : List Int) (hs : start.length = n) (hx : xs.length = n * m) (hb : Byt xs) (hbs : Byt start) : chainF G n m start (chainB F n m start xs) = xs := by
  have hl := fun i (hi : i < m) => blk_length n m xs hx i hi
  have hll := fun i (hi : i ≤ m) => lastB_length n m start xs hs hx i hi
  have hlx : ∀ i, i < m → (F (blk n xs i)).length = (lastB n start xs i).length := fun i hi => by rw [h.len _ (hl i hi), hll i (by omega)]
  have hcut := fun i (hi : i < m) => catTo_split (fun i => xorI (F (blk n xs i)) (lastB n start xs i)) n m i hi (fun j hj => by rw [xorI_length _ _ (hlx j hj), h.len _ (hl j hj)])
  have hstep : ∀ i, i < m → lastF G n start (chainB F n m start xs) i = lastB n start xs i → lastF G n start (chainB F n m start xs) (i + 1) = blk n xs i := by
    intro i hi ih
    rw [lastF, ih]
    have : blk n (chainB F n m start xs) i = xorI (F (blk n xs i)) (lastB n start xs i) := hcut i hi
    rw [this, xorI_xorI _ _ (h.byt _ (hl i hi) (blk_byt n xs hb i)) (hlx i hi), h.undo _ (hl i hi) (blk_byt n xs hb i)]
  have hlast : ∀ i, i ≤ m → lastF G n start (chainB F n m start xs) i = lastB n start xs i := by
    intro i
    induction i with
    | zero => intro _; rfl
    | succ i ih => intro hi; exact hstep i (by omega) (ih (by omega))
  unfold chainF
  rw [catTo_congr _ (fun i => blk n xs i) m (fun i hi => hstep i hi (hlast i (by omega))), catTo_blk n m xs hx]

/-! In two parts. -/
theorem blk_take (n : Nat) (xs : List Int) (j i : Nat) (hi : i < j) : blk n (xs.take (n * j)) i = blk n xs i := by
  unfold blk
  have : n * i + n ≤ n * j := by rw [← Nat.mul_succ]; exact Nat.mul_le_mul_left n hi
  rw [List.drop_take, List.take_take, Nat.min_eq_left (by omega)]
theorem blk_drop (n : Nat) (xs : List Int) (j i : Nat) : blk n (xs.drop (n * j)) i = blk n xs (j + i) := by
  unfold blk
  rw [List.drop_drop, Nat.mul_add]
theorem catTo_add (ys : Nat → List Int) (j : Nat) : ∀ k, catTo ys (j + k) = catTo ys j ++ catTo (fun i => ys (j + i)) k
  | 0 => by simp [catTo]
  | k + 1 => by rw [← Nat.add_assoc, catTo, catTo_add ys j k, catTo, List.append_assoc]
theorem lastF_take (F : List Int → List Int) (n : Nat) (start xs : List Int) (j : Nat) : ∀ i, i ≤ j → lastF F n start (xs.take (n * j)) i = lastF F n start xs i
  | 0, _ => rfl
  | i + 1, h => by rw [lastF, lastF, lastF_take F n start xs j i (by omega), blk_take n xs j i (by omega)]
theorem lastF_drop (F : List Int → List Int) (n : Nat) (start xs : List Int) (j : Nat) : ∀ i, lastF F n (lastF F n start xs j) (xs.drop (n * j)) i = lastF F n start xs (j + i)
  | 0 => rfl
  | i + 1 => by rw [← Nat.add_assoc, lastF, lastF, lastF_drop F n start xs j i, blk_drop]
theorem chain_parts (F : List Int → List Int) (n j k : Nat) (start xs : List Int) :
    chainF F n (j + k) start xs = chainF F n j start (xs.take (n * j)) ++ chainF F n k (lastF F n start xs j) (xs.drop (n * j)) := by
  unfold chainF
  rw [catTo_add]
  congr 1
  · exact catTo_congr _ _ _ fun i hi => (lastF_take F n start xs j (i + 1) (by omega)).symm
  · exact catTo_congr _ _ _ fun i hi => by rw [lastF_drop, Nat.add_assoc]
theorem chain_last (F : List Int → List Int) (n j : Nat) (start xs : List Int) (hl : ∀ i, i ≤ j + 1 → (lastF F n start xs i).length = n) :
    (chainF F n (j + 1) start xs).drop (n * j) = lastF F n start xs (j + 1) := by
  unfold chainF
  rw [catTo, List.drop_append, catTo_length _ n j (fun i hi => hl (i + 1) (by omega)), Nat.sub_self, List.drop_of_length_le (by rw [catTo_length _ n j (fun i hi => hl (i + 1) (by omega))]; exact Nat.le_refl _)]
  rfl
end Go.Proofs.YtommgcebjhkneaaDoor

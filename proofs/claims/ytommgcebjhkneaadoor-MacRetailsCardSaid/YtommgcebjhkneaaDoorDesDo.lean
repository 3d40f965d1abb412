/-
  DES, TDES: what Do computes; its answers are bytes. Condition: keys of a length that may be.
-/
import Derived.Test.YtommgcebjhkneaaDoorDes9
import Derived.Test.YtommgcebjhkneaaDoorAwake6
namespace Go.Proofs.YtommgcebjhkneaaDoor
open Go Go.RowKit
set_option linter.unusedVariables false
set_option linter.unusedSimpArgs false

theorem desI_byt (key : List Int) (back : Bool) (x : List Int) : Byt (desI key back x) := bytes_byt _ 8
theorem tripleI_byt (key : List Int) (back : Bool) (x : List Int) : Byt (tripleI key back x) := by
  unfold tripleI
  split
  · exact desI_byt _ _ _
  · split <;> exact desI_byt _ _ _
theorem doDes (key : List Int) (bk : Option Addr) (back : Bool) (hk : key.length = 8 ∨ key.length = 16 ∨ key.length = 24) (hkb : Byt key) : DoOk 8 2 key bk back (tripleI key back) where
  size := rfl
  len := fun x _ => tripleI_length key back x
  run := fun B g w A c x hc hx hb hr => Do_des back B g w key bk hc hk hkb A 8 c x hx hb rfl hr

theorem chainLen_ (n m : Nat) (kind : Int) (key : List Int) (bk : Option Addr) (back : Bool) (F : List Int → List Int) (hF : DoOk n kind key bk back F) (start xs : List Int) (hs : start.length = n) (hx : xs.length = n * m) :
    (if back then chainB F n m start xs else chainF F n m start xs).length = n * m := by
  have hb := fun i hi => blk_length n m xs hx i hi
  split
  · exact catTo_length _ n m fun i hi => by rw [xorI_length _ _ (by rw [hF.len _ (hb i hi), lastB_length n m start xs hs hx i (by omega)]), hF.len _ (hb i hi)]
  · exact catTo_length _ n m fun i hi => lastF_length F n m start xs hF.len hs hx (i + 1) (by omega)
theorem chainLast_ (F : List Int → List Int) (n j : Nat) (start xs : List Int) (hl : ∀ i, i ≤ j + 1 → (lastF F n start xs i).length = n) :
    (chainF F n (j + 1) start xs).drop (n * j) = lastF F n start xs (j + 1) := by
  unfold chainF
  rw [catTo, List.drop_append, catTo_length _ n j (fun i hi => hl (i + 1) (by omega)), Nat.sub_self, List.drop_of_length_le (by rw [catTo_length _ n j (fun i hi => hl (i + 1) (by omega))]; exact Nat.le_refl _)]
  rfl
end Go.Proofs.YtommgcebjhkneaaDoor

/-
  DES, TDES, plain: what is enciphered and deciphered is what it was, and the other way round; what Do computes for each kind of key. Conditions: blocks of eight bytes; keys of a length that may be.
-/
import Derived.Test.YtommgcebjhkneaaDoorDes9
import Derived.Test.YtommgcebjhkneaaDoorAesBack
import Derived.Test.YtommgcebjhkneaaDoorModeLaw
namespace Go.Proofs.YtommgcebjhkneaaDoor
open Go Go.RowKit
set_option linter.unusedVariables false
set_option linter.unusedSimpArgs false

theorem desI_byt (key : List Int) (back : Bool) (x : List Int) : Byt (desI key back x) := bytes_byt _ 8
theorem desI_back (key : List Int) (b : Bool) (x : List Int) (hx : x.length = 8) (hb : Byt x) : desI key (!b) (desI key b x) = x := by
  have hlt : ∀ f y, blockG tabIP f y < 2 ^ 64 := fun f y => unpermN_lt tabIP _ 64 tblIP.pl
  unfold desI
  rw [num_bytes _ (hlt _ _), blockG_back tabIP fullIP tblIP.pl (rfN (keyN key) b) (rfN (keyN key) (!b)) (fun i x => mixN_lt _ _) (fun i hi => ?_) _ (num8_lt x), bytes_num x hx hb]
  funext y
  unfold rfN
  cases b with
  | false => simp
  | true => simp [show 15 - (15 - i) = i by omega]
theorem desI_back0 (key : List Int) (x : List Int) (hx : x.length = 8) (hb : Byt x) : desI key true (desI key false x) = x := desI_back key false x hx hb
theorem desI_back1 (key : List Int) (x : List Int) (hx : x.length = 8) (hb : Byt x) : desI key false (desI key true x) = x := desI_back key true x hx hb
theorem tripleI_byt (key : List Int) (back : Bool) (x : List Int) : Byt (tripleI key back x) := by
  unfold tripleI
  split
  · exact desI_byt _ _ _
  · split <;> exact desI_byt _ _ _
theorem tripleI_back (key : List Int) (b : Bool) (x : List Int) (hx : x.length = 8) (hb : Byt x) : tripleI key (!b) (tripleI key b x) = x := by
  unfold tripleI
  split
  · exact desI_back _ b x hx hb
  · cases b with
    | false =>
      simp only [Bool.not_false, if_true, if_neg (show ¬ (false = true) by simp)]
      rw [desI_back0 _ _ (desI_length _ _ _) (desI_byt _ _ _), desI_back1 _ _ (desI_length _ _ _) (desI_byt _ _ _), desI_back0 _ x hx hb]
    | true =>
      simp only [Bool.not_true, if_true, if_neg (show ¬ (false = true) by simp)]
      rw [desI_back1 _ _ (desI_length _ _ _) (desI_byt _ _ _), desI_back0 _ _ (desI_length _ _ _) (desI_byt _ _ _), desI_back1 _ x hx hb]
theorem undoDes (key : List Int) (b : Bool) : Undo 8 (tripleI key b) (tripleI key (!b)) :=
  ⟨fun x hx hb => tripleI_back key b x hx hb, fun x _ _ => tripleI_byt key b x, fun x _ => tripleI_length key b x⟩
theorem doDes (key : List Int) (bk : Option Addr) (back : Bool) (hk : key.length = 8 ∨ key.length = 16 ∨ key.length = 24) (hkb : Byt key) : DoOk 8 2 key bk back (tripleI key back) where
  size := rfl
  len := fun x _ => tripleI_length key back x
  run := fun B g w A c x hc hx hb hr => Do_des back B g w key bk hc hk hkb A 8 c x hx hb rfl hr

/-! AES. -/
theorem set_getD (xs : List Int) (k j : Nat) (v : Int) : (xs.set k v).getD j 0 = if k = j ∧ k < xs.length then v else xs.getD j 0 := by
  simp only [List.getD_eq_getElem?_getD, List.getElem?_set]
  by_cases h : k = j
  · subst h
    by_cases h2 : k < xs.length
    · simp [h2]
    · simp [h2]
  · simp [h]
theorem ext16 (xs ys : List Int) (hx : xs.length = 16) (hy : ys.length = 16) (h : ∀ j, j < 16 → xs.getD j 0 = ys.getD j 0) : xs = ys := by
  apply List.ext_getElem (by omega)
  intro j h1 h2
  have := h j (by omega)
  simpa [List.getD, h1, h2] using this
theorem boxTo_get (F : Int → Int) (xs : List Int) : ∀ (k j : Nat), j < xs.length → (boxTo F xs k).getD j 0 = if j < k then F (xs.getD j 0) else xs.getD j 0
  | 0, j, _ => by simp [boxTo]
  | k + 1, j, hj => by
    rw [boxTo, set_getD, boxTo_length]
    by_cases h : k = j
    · subst h; rw [if_pos ⟨rfl, hj⟩, boxTo_get F xs k k hj, if_neg (by omega), if_pos (by omega)]
    · rw [if_neg (fun e => h e.1), boxTo_get F xs k j hj]
      by_cases h2 : j < k
      · rw [if_pos h2, if_pos (by omega)]
      · rw [if_neg h2, if_neg (by omega)]
theorem withTo_get (xs ys : List Int) (r : Nat) : ∀ (k j : Nat), j < xs.length → (withTo xs ys r k).getD j 0 = if j < k then bits .xor .u8 (xs.getD j 0) (ys.getD (16 * r + j) 0) else xs.getD j 0
  | 0, j, _ => by simp [withTo]
  | k + 1, j, hj => by
    rw [withTo, set_getD, withTo_length]
    by_cases h : k = j
    · subst h; rw [if_pos ⟨rfl, hj⟩, withTo_get xs ys r k k hj, if_neg (by omega), if_pos (by omega)]
    · rw [if_neg (fun e => h e.1), withTo_get xs ys r k j hj]
      by_cases h2 : j < k
      · rw [if_pos h2, if_pos (by omega)]
      · rw [if_neg h2, if_neg (by omega)]
theorem rowsTo_get (xs : List Int) (m : Nat) : ∀ (k j : Nat), j < xs.length → (rowsTo xs m k).getD j 0 = if j < k then xs.getD ((j + 4 * (j % 4) * m) % 16) 0 else xs.getD j 0
  | 0, j, _ => by simp [rowsTo]
  | k + 1, j, hj => by
    rw [rowsTo, set_getD, rowsTo_length]
    by_cases h : k = j
    · subst h; rw [if_pos ⟨rfl, hj⟩, if_pos (by omega)]
    · rw [if_neg (fun e => h e.1), rowsTo_get xs m k j hj]
      by_cases h2 : j < k
      · rw [if_pos h2, if_pos (by omega)]
      · rw [if_neg h2, if_neg (by omega)]
theorem colsTo_get (xs ms : List Int) : ∀ (k j : Nat), j < xs.length → (colsTo xs ms k).getD j 0 = if j < k then colAcc xs ms j 4 else xs.getD j 0
  | 0, j, _ => by simp [colsTo]
  | k + 1, j, hj => by
    rw [colsTo, set_getD, colsTo_length]
    by_cases h : k = j
    · subst h; rw [if_pos ⟨rfl, hj⟩, if_pos (by omega)]
    · rw [if_neg (fun e => h e.1), colsTo_get xs ms k j hj]
      by_cases h2 : j < k
      · rw [if_pos h2, if_pos (by omega)]
      · rw [if_neg h2, if_neg (by omega)]
theorem byt_getD (xs : List Int) (h : Byt xs) (j : Nat) : 0 ≤ xs.getD j 0 ∧ xs.getD j 0 ≤ 255 := by
  by_cases hj : j < xs.length
  · have : xs.getD j 0 = xs[j] := by simp [List.getD, hj]
    rw [this]; exact h _ (List.getElem_mem hj)
  · have : xs.getD j 0 = 0 := by simp [List.getD, hj]
    rw [this]; omega
theorem byt_of (xs : List Int) (h : ∀ j, j < xs.length → 0 ≤ xs.getD j 0 ∧ xs.getD j 0 ≤ 255) : Byt xs := by
  intro x hx
  obtain ⟨j, hj, rfl⟩ := List.mem_iff_getElem.1 hx
  have := h j hj
  simpa [List.getD, hj] using this

theorem with_with (xs ys : List Int) (r : Nat) (hx : xs.length = 16) (hb : Byt xs) : withTo (withTo xs ys r 16) ys r 16 = xs := by
  apply ext16 _ _ (by simp [withTo_length, hx]) hx
  intro j hj
  rw [withTo_get _ _ _ _ _ (by rw [withTo_length]; omega), if_pos hj, withTo_get _ _ _ _ _ (by omega), if_pos hj]
  exact xor_xor _ _ (byt_getD xs hb j)
theorem with_byt (xs ys : List Int) (r : Nat) (hx : xs.length = 16) : Byt (withTo xs ys r 16) := byt_of _ fun j hj => by
  rw [withTo_length] at hj
  rw [withTo_get _ _ _ _ _ hj, if_pos (by omega)]; exact xor_byt _ _
theorem unbox_box16 (xs : List Int) (hx : xs.length = 16) (hb : Byt xs) : boxTo unboxI (boxTo boxI xs 16) 16 = xs := by
  apply ext16 _ _ (by simp [boxTo_length, hx]) hx
  intro j hj
  rw [boxTo_get _ _ _ _ (by rw [boxTo_length]; omega), if_pos hj, boxTo_get _ _ _ _ (by omega), if_pos hj]
  exact unbox_box _ (byt_getD xs hb j)
theorem box_unbox16 (xs : List Int) (hx : xs.length = 16) (hb : Byt xs) : boxTo boxI (boxTo unboxI xs 16) 16 = xs := by
  apply ext16 _ _ (by simp [boxTo_length, hx]) hx
  intro j hj
  rw [boxTo_get _ _ _ _ (by rw [boxTo_length]; omega), if_pos hj, boxTo_get _ _ _ _ (by omega), if_pos hj]
  exact box_unbox _ (byt_getD xs hb j)
theorem box_byt16 (xs : List Int) (hx : xs.length = 16) : Byt (boxTo boxI xs 16) := byt_of _ fun j hj => by
  rw [boxTo_length] at hj
  rw [boxTo_get _ _ _ _ hj, if_pos (by omega)]; exact box_byt _
theorem unbox_byt16 (xs : List Int) (hx : xs.length = 16) (hb : Byt xs) : Byt (boxTo unboxI xs 16) := byt_of _ fun j hj => by
  rw [boxTo_length] at hj
  rw [boxTo_get _ _ _ _ hj, if_pos (by omega)]; exact unbox_byt _ (byt_getD xs hb j)
theorem rows_undo (xs : List Int) (m p : Nat) (hx : xs.length = 16) (h : (m = 1 ∧ p = 3) ∨ (m = 3 ∧ p = 1)) : rowsTo (rowsTo xs m 16) p 16 = xs := by
  apply ext16 _ _ (by simp [rowsTo_length, hx]) hx
  intro j hj
  have h16 : ∀ n, n % 16 < 16 := fun n => Nat.mod_lt _ (by decide)
  rw [rowsTo_get _ _ _ _ (by rw [rowsTo_length]; omega), if_pos hj, rowsTo_get _ _ _ _ (by have := h16 (j + 4 * (j % 4) * p); omega), if_pos (h16 _)]
  congr 1
  rcases h with ⟨rfl, rfl⟩ | ⟨rfl, rfl⟩
  all_goals
    have : ∀ j : Fin 16, True := fun _ => trivial
    have h16 : j = 0 ∨ j = 1 ∨ j = 2 ∨ j = 3 ∨ j = 4 ∨ j = 5 ∨ j = 6 ∨ j = 7 ∨ j = 8 ∨ j = 9 ∨ j = 10 ∨ j = 11 ∨ j = 12 ∨ j = 13 ∨ j = 14 ∨ j = 15 := by omega
    rcases h16 with rfl | rfl | rfl | rfl | rfl | rfl | rfl | rfl | rfl | rfl | rfl | rfl | rfl | rfl | rfl | rfl <;> rfl
theorem rows_byt (xs : List Int) (m : Nat) (hx : xs.length = 16) (hb : Byt xs) : Byt (rowsTo xs m 16) := byt_of _ fun j hj => by
  rw [rowsTo_length] at hj
  rw [rowsTo_get _ _ _ _ hj, if_pos (by omega)]; exact byt_getD xs hb _
theorem colAcc4 (was ms : List Int) (i : Nat) : colAcc was ms i 4 = colE (ms.getD 0 0) (ms.getD 1 0) (ms.getD 2 0) (ms.getD 3 0) (was.getD (i / 4 * 4 + (i + 0) % 4) 0) (was.getD (i / 4 * 4 + (i + 1) % 4) 0) (was.getD (i / 4 * 4 + (i + 2) % 4) 0) (was.getD (i / 4 * 4 + (i + 3) % 4) 0) := rfl
theorem cols_undo (xs : List Int) (hx : xs.length = 16) (hb : Byt xs) : colsTo (colsTo xs [2, 3, 1, 1] 16) [14, 11, 13, 9] 16 = xs := by
  apply ext16 _ _ (by simp [colsTo_length, hx]) hx
  intro j hj
  have g : ∀ n, n < 16 → (colsTo xs [2, 3, 1, 1] 16).getD n 0 = colE 2 3 1 1 (xs.getD (n / 4 * 4 + (n + 0) % 4) 0) (xs.getD (n / 4 * 4 + (n + 1) % 4) 0) (xs.getD (n / 4 * 4 + (n + 2) % 4) 0) (xs.getD (n / 4 * 4 + (n + 3) % 4) 0) := fun n hn => by
    rw [colsTo_get _ _ _ _ (by omega), if_pos hn, colAcc4]; rfl
  have hbb := byt_getD xs hb
  rw [colsTo_get _ _ _ _ (by rw [colsTo_length]; omega), if_pos hj, colAcc4]
  have h16 : j = 0 ∨ j = 1 ∨ j = 2 ∨ j = 3 ∨ j = 4 ∨ j = 5 ∨ j = 6 ∨ j = 7 ∨ j = 8 ∨ j = 9 ∨ j = 10 ∨ j = 11 ∨ j = 12 ∨ j = 13 ∨ j = 14 ∨ j = 15 := by omega
  rcases h16 with rfl | rfl | rfl | rfl | rfl | rfl | rfl | rfl | rfl | rfl | rfl | rfl | rfl | rfl | rfl | rfl <;>
    (rw [g _ (by decide), g _ (by decide), g _ (by decide), g _ (by decide)]; exact col_dec _ _ _ _ (hbb _) (hbb _) (hbb _) (hbb _))
theorem cols_undo' (xs : List Int) (hx : xs.length = 16) (hb : Byt xs) : colsTo (colsTo xs [14, 11, 13, 9] 16) [2, 3, 1, 1] 16 = xs := by
  apply ext16 _ _ (by simp [colsTo_length, hx]) hx
  intro j hj
  have g : ∀ n, n < 16 → (colsTo xs [14, 11, 13, 9] 16).getD n 0 = colE 14 11 13 9 (xs.getD (n / 4 * 4 + (n + 0) % 4) 0) (xs.getD (n / 4 * 4 + (n + 1) % 4) 0) (xs.getD (n / 4 * 4 + (n + 2) % 4) 0) (xs.getD (n / 4 * 4 + (n + 3) % 4) 0) := fun n hn => by
    rw [colsTo_get _ _ _ _ (by omega), if_pos hn, colAcc4]; rfl
  have hbb := byt_getD xs hb
  rw [colsTo_get _ _ _ _ (by rw [colsTo_length]; omega), if_pos hj, colAcc4]
  have h16 : j = 0 ∨ j = 1 ∨ j = 2 ∨ j = 3 ∨ j = 4 ∨ j = 5 ∨ j = 6 ∨ j = 7 ∨ j = 8 ∨ j = 9 ∨ j = 10 ∨ j = 11 ∨ j = 12 ∨ j = 13 ∨ j = 14 ∨ j = 15 := by omega
  rcases h16 with rfl | rfl | rfl | rfl | rfl | rfl | rfl | rfl | rfl | rfl | rfl | rfl | rfl | rfl | rfl | rfl <;>
    (rw [g _ (by decide), g _ (by decide), g _ (by decide), g _ (by decide)]; exact col_enc _ _ _ _ (hbb _) (hbb _) (hbb _) (hbb _))
theorem cols_byt (xs ms : List Int) (hx : xs.length = 16) : Byt (colsTo xs ms 16) := byt_of _ fun j hj => by
  rw [colsTo_length] at hj
  rw [colsTo_get _ _ _ _ hj, if_pos (by omega), colAcc4]; exact colE_byt _ _ _ _ _ _ _ _

/-! Rounds. -/
theorem encRound_byt (ws : List Int) (n r : Nat) (b : List Int) (hl : b.length = 16) : Byt (encRound ws n r b) := by
  unfold encRound
  exact with_byt _ _ _ (by split <;> simp [colsTo_length, rowsTo_length, boxTo_length, hl])
theorem dec_enc_round (ws : List Int) (n r : Nat) (b : List Int) (hl : b.length = 16) (hb : Byt b) : decRound ws n r (encRound ws n r b) = b := by
  have l1 : (boxTo boxI b 16).length = 16 := by rw [boxTo_length, hl]
  have l2 : (rowsTo (boxTo boxI b 16) 1 16).length = 16 := by rw [rowsTo_length, l1]
  have b2 := rows_byt _ 1 l1 (box_byt16 b hl)
  unfold decRound encRound
  by_cases h : r < n
  · rw [if_pos h, if_pos h, with_with _ _ _ (by rw [colsTo_length, l2]) (cols_byt _ _ l2), cols_undo _ l2 b2, rows_undo _ 1 3 l1 (.inl ⟨rfl, rfl⟩), unbox_box16 b hl hb]
  · rw [if_neg h, if_neg h, with_with _ _ _ l2 b2, rows_undo _ 1 3 l1 (.inl ⟨rfl, rfl⟩), unbox_box16 b hl hb]
theorem decRound_byt (ws : List Int) (n r : Nat) (b : List Int) (hl : b.length = 16) : Byt (decRound ws n r b) := by
  unfold decRound
  have l0 : (if r < n then colsTo (withTo b ws r 16) [14, 11, 13, 9] 16 else withTo b ws r 16).length = 16 := by split <;> simp [colsTo_length, withTo_length, hl]
  refine unbox_byt16 _ (by rw [rowsTo_length, l0]) (rows_byt _ _ l0 ?_)
  split
  · exact cols_byt _ _ (by rw [withTo_length, hl])
  · exact with_byt _ _ _ hl
theorem enc_dec_round (ws : List Int) (n r : Nat) (b : List Int) (hl : b.length = 16) (hb : Byt b) : encRound ws n r (decRound ws n r b) = b := by
  have w1 : (withTo b ws r 16).length = 16 := by rw [withTo_length, hl]
  have w2 := with_byt b ws r hl
  unfold decRound encRound
  by_cases h : r < n
  · have l0 : (colsTo (withTo b ws r 16) [14, 11, 13, 9] 16).length = 16 := by rw [colsTo_length, w1]
    rw [if_pos h, if_pos h, box_unbox16 _ (by rw [rowsTo_length, l0]) (rows_byt _ _ l0 (cols_byt _ _ w1)), rows_undo _ 3 1 l0 (.inr ⟨rfl, rfl⟩), cols_undo' _ w1 w2, with_with _ _ _ hl hb]
  · rw [if_neg h, if_neg h, box_unbox16 _ (by rw [rowsTo_length, w1]) (rows_byt _ _ w1 w2), rows_undo _ 3 1 w1 (.inr ⟨rfl, rfl⟩), with_with _ _ _ hl hb]
theorem encTo_byt (ws : List Int) (n : Nat) (b : List Int) (hl : b.length = 16) (hb : Byt b) : ∀ i, Byt (encTo ws n b i)
  | 0 => hb
  | i + 1 => encRound_byt ws n (i + 1) _ (by rw [encTo_length, hl])
theorem decTo_byt (ws : List Int) (n : Nat) (b : List Int) (hl : b.length = 16) (hb : Byt b) : ∀ i, Byt (decTo ws n b i)
  | 0 => hb
  | i + 1 => decRound_byt ws n (n - i) _ (by rw [decTo_length, hl])
theorem decTo_encTo (ws : List Int) (n : Nat) (b : List Int) (hl : b.length = 16) (hb : Byt b) : ∀ i, i ≤ n → decTo ws n (encTo ws n b n) i = encTo ws n b (n - i)
  | 0, _ => rfl
  | i + 1, h => by
    rw [decTo, decTo_encTo ws n b hl hb i (by omega), show n - i = (n - (i + 1)) + 1 by omega, encTo]
    exact dec_enc_round ws n _ _ (by rw [encTo_length, hl]) (encTo_byt ws n b hl hb _)
theorem encTo_decTo (ws : List Int) (n : Nat) (b : List Int) (hl : b.length = 16) (hb : Byt b) : ∀ i, i ≤ n → encTo ws n (decTo ws n b n) i = decTo ws n b (n - i)
  | 0, _ => rfl
  | i + 1, h => by
    rw [encTo, encTo_decTo ws n b hl hb i (by omega)]
    have e : decTo ws n b (n - i) = decRound ws n (i + 1) (decTo ws n b (n - (i + 1))) := by
      rw [show n - i = (n - (i + 1)) + 1 by omega, decTo, show n - (n - (i + 1)) = i + 1 by omega]
    rw [e]
    exact enc_dec_round ws n _ _ (by rw [decTo_length, hl]) (decTo_byt ws n b hl hb _)
theorem decI_encI (key : List Int) (nk : Nat) (x : List Int) (hl : x.length = 16) (hb : Byt x) : decI key nk (encI key nk x) = x := by
  unfold decI encI
  rw [decTo_encTo _ _ _ (by rw [withTo_length, hl]) (with_byt _ _ _ hl) _ (Nat.le_refl _), Nat.sub_self]
  exact with_with _ _ _ hl hb
theorem encI_decI (key : List Int) (nk : Nat) (x : List Int) (hl : x.length = 16) (hb : Byt x) : encI key nk (decI key nk x) = x := by
  unfold decI encI
  rw [with_with _ _ _ (by rw [decTo_length, hl]) (decTo_byt _ _ _ hl hb _), encTo_decTo _ _ _ hl hb _ (Nat.le_refl _), Nat.sub_self]
  rfl
theorem encI_byt (key : List Int) (nk : Nat) (x : List Int) (hl : x.length = 16) : Byt (encI key nk x) := encTo_byt _ _ _ (by rw [withTo_length, hl]) (with_byt _ _ _ hl) _
theorem decI_byt (key : List Int) (nk : Nat) (x : List Int) (hl : x.length = 16) : Byt (decI key nk x) := with_byt _ _ _ (by rw [decTo_length, hl])
theorem undoAesE (key : List Int) (nk : Nat) : Undo 16 (encI key nk) (decI key nk) :=
  ⟨fun x hx hb => decI_encI key nk x hx hb, fun x hx _ => encI_byt key nk x hx, fun x hx => by rw [encI, encTo_length, withTo_length, hx]⟩
theorem undoAesD (key : List Int) (nk : Nat) : Undo 16 (decI key nk) (encI key nk) :=
  ⟨fun x hx hb => encI_decI key nk x hx hb, fun x hx _ => decI_byt key nk x hx, fun x hx => by rw [decI, withTo_length, decTo_length, hx]⟩
end Go.Proofs.YtommgcebjhkneaaDoor

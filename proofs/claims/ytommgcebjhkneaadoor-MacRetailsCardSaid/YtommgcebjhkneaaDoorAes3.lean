/-
  AES: a block enciphered, and deciphered.
-/
import Derived.Test.YtommgcebjhkneaaDoorAes2
namespace Go.Proofs.YtommgcebjhkneaaDoor
open Go Go.RowKit
set_option linter.unusedVariables false
set_option linter.unusedSimpArgs false

theorem wordsI_length (key : List Int) (nk : Nat) (h : key.length = 4 * nk) : (wordsI key nk).length = 16 * (nk + 7) := by
  unfold wordsI; rw [wst_length key nk _ h]; omega

theorem with_own (g : Nat) (xs ys : List Int) (base b c n : Nat) (r : Nat) (ri : Int) (hri : ri = r) (w : World) (hg : Row w g 31 xs) (hl : xs.length = 16)
    (ho : Own .u8 5 w base (.slice (some ⟨b, 0, none⟩) n c) ys) (hn : n = ys.length) (hr : 16 * r + 16 ≤ n) (hn2 : n < 100000) :
    Calls Tryd.prog 71 #[.pointer (some ⟨g, 0, none⟩), .slice (some ⟨b, 0, none⟩) n c, .int .i64 ri] w fun e w' => e = .returned (.tuple #[]) ∧ Only g w w' ∧ Row w' g 31 (withTo xs ys r 16) := by
  subst hri
  refine with_any g xs ⟨b, 0, none⟩ n c ys r w hg hl (fun j hj => ?_) (fun e => ?_) hr hn2
  · have : (⟨b, 0, none⟩ : Addr).add j = ⟨b, j, none⟩ := by unfold Addr.add; split <;> simp_all
    rw [this]; exact ho.cell hn j (by omega)
  · exact ho.not_row hg (by decide) (by rw [← e]; rfl)

def encRound (ws : List Int) (n r : Nat) (b : List Int) : List Int :=
  withTo (if r < n then colsTo (rowsTo (boxTo boxI b 16) 1 16) [2, 3, 1, 1] 16 else rowsTo (boxTo boxI b 16) 1 16) ws r 16
def encTo (ws : List Int) (n : Nat) (b : List Int) : Nat → List Int
  | 0 => b
  | r + 1 => encRound ws n (r + 1) (encTo ws n b r)
def encI (key : List Int) (nk : Nat) (x : List Int) : List Int := encTo (wordsI key nk) (nk + 6) (withTo x (wordsI key nk) 0 16) (nk + 6)
theorem encRound_length (ws : List Int) (n r : Nat) (b : List Int) : (encRound ws n r b).length = b.length := by
  unfold encRound; rw [withTo_length]; split <;> simp [colsTo_length, rowsTo_length, boxTo_length]
theorem encTo_length (ws : List Int) (n : Nat) (b : List Int) (r : Nat) : (encTo ws n b r).length = b.length := by
  induction r with
  | zero => rfl
  | succ r ih => rw [encTo, encRound_length, ih]

/-- What a function hands back that answers a block, and no error. -/
def ArrNil (xs : List Int) (w : World) (e : Ending) (w' : World) : Prop := e = .returned (.tuple #[.agg (bs xs).toArray, .nilIface]) ∧ Below w.heap.size w w'

/-- Words, the slice told by its length. -/
theorem Words_len (nk : Nat) (hnk : nk = 4 ∨ nk = 6 ∨ nk = 8) (A : Option Addr) (c : Nat) (key : List Int) (w : World) (hk : key.length = 4 * nk) (hr : Rd .u8 w A key) (n : Nat) (hn : n = 16 * (nk + 7)) :
    Calls Tryd.prog 69 #[.slice A (4 * nk) c] w fun e w' => ∃ b cw, e = .returned (.tuple #[.slice (some ⟨b, 0, none⟩) n cw, .nilIface]) ∧ Own .u8 5 w' w.heap.size (.slice (some ⟨b, 0, none⟩) n cw) (wordsI key nk) ∧ Below w.heap.size w w' := by
  refine (Words_ok nk hnk A c key w hk hr).mono ?_
  rintro e w' ⟨v, rfl, h1, h2⟩
  have hl := wordsI_length key nk hk
  obtain ⟨b, cw, rfl, _⟩ := h1.form (by omega)
  rw [hl, ← hn] at h1 ⊢
  exact ⟨b, cw, rfl, h1, h2⟩

set_option maxHeartbeats 8000000 in
set_option maxRecDepth 100000 in
theorem Encrypt_ok (nk : Nat) (hnk : nk = 4 ∨ nk = 6 ∨ nk = 8) (A : Option Addr) (c : Nat) (key x : List Int) (w : World) (hk : key.length = 4 * nk) (hr : Rd .u8 w A key) (hx : x.length = 16) :
    Calls Tryd.prog 56 #[.slice A (4 * nk) c, .agg (bs x).toArray] w (ArrNil (encI key nk x) w) := by
  have HK := Hd.mk hk; have HR := Hd.mk hr; have HN := Hd.mk hnk; have HX := Hd.mk hx
  have n4 : 4 ≤ nk := by omega
  have n8 : nk ≤ 8 := by omega
  obtain ⟨n, hn⟩ : ∃ n, n = 16 * (nk + 7) := ⟨_, rfl⟩
  have hW : Hd (n = (wordsI key nk).length) := ⟨by rw [hn, wordsI_length key nk hk]⟩
  have Hn := Hd.mk hn
  clear hk hr hnk hx hn
  go_enter Tryd.func56, Tryd.ntmps56
  go_wp2_with (first
    | (refine box_arr rfl _ rfl rfl ?_; intro gb w1 h1 h2 h3 h4)
    | (refine alloc_arr arr16 rfl rfl ?_; intro gr w2 h5 h6 h7 h8)
    | (go_at_call 69; refine (Words_len nk HN.out _ _ _ _ HK.out ((HR.out.below h3).below h7) n Hn.out).mono ?_; rintro e w3 ⟨b, cw, rfl, h9, h10⟩; have hrb := Hd.mk ((h4.below h7 h2).below h10 (Nat.lt_of_lt_of_le h2 h7.size)); have hrr := Hd.mk (h8.below h10 h6))
    | (go_at_call 70; refine (rounds_ok _ HN.out _ _ _).mono ?_; rintro e w' ⟨rfl, rfl⟩)
    | (go_at_call 71; refine (with_own gb _ _ _ b cw n 0 0 rfl _ hrb.out HX.out h9 hW.out (by have := Hn.out; omega) (by have := Hn.out; omega)).mono ?_; rintro e w4 ⟨rfl, h11, h12⟩))
  have hO := Hd.mk (h9.only h11 (h9.not_row hrb.out (by decide)))
  have hR := Hd.mk (hrr.out.only h11 (by omega))
  have hB := Hd.mk (h11.to_below (((h3.trans (h7.mono h3.size))).trans (h10.mono (Nat.le_trans h3.size h7.size))) h1 (Nat.le_trans h3.size (Nat.le_trans h7.size h10.size)))
  have hY := Hd.mk h12
  have hgr : gb ≠ gr := by omega
  have hgr0 : w.heap.size ≤ gr := Nat.le_trans h3.size h5
  have hbase : w.heap.size ≤ w2.heap.size := Nat.le_trans h3.size h7.size
  have hO2 := Hd.mk (hO.out.lower hbase)
  clear h2 h3 h4 h5 h6 h7 h8 h9 h10 h11 h12 hrr hrb hO hbase
  go_loopg [9] (nk + 7) (fun q v9 wr => ∃ (i : Nat), i ≤ nk + 6 ∧ Hd (q + i = nk + 7) ∧ v9 = .int .i64 (i + 1) ∧ Hd (Row wr gb 31 (encTo (wordsI key nk) (nk + 6) (withTo x (wordsI key nk) 0 16) i)) ∧
    Hd (Own .u8 5 wr w.heap.size (.slice (some ⟨b, 0, none⟩) n cw) (wordsI key nk)) ∧ Hd (Row wr gr 31 (List.replicate 16 0)) ∧ Hd (Below w.heap.size w wr))
  case atStart => exact ⟨0, by omega, ⟨by omega⟩, rfl, hY, hO2, hR, hB⟩
  case round =>
    clear hY hO2 hR hB
    obtain ⟨i, hi, hq, rfl, hY, hO, hR, hB⟩ := hrel
    have hl0 : Hd ((encTo (wordsI key nk) (nk + 6) (withTo x (wordsI key nk) 0 16) i).length = 16) := ⟨by rw [encTo_length, withTo_length]; exact HX.out⟩
    generalize hst : encTo (wordsI key nk) (nk + 6) (withTo x (wordsI key nk) 0 16) i = st at hY hl0
    have HST := Hd.mk hst
    clear hst
    by_cases hlt : i < nk + 6
    · have hlast : ((i : Int) + 1 < (nk : Int) + 6 ∧ Hd (i + 1 < nk + 6)) ∨ (¬ ((i : Int) + 1 < (nk : Int) + 6) ∧ Hd (¬ i + 1 < nk + 6)) := by
        by_cases h : i + 1 < nk + 6
        · exact .inl ⟨by omega, ⟨h⟩⟩
        · exact .inr ⟨by omega, ⟨h⟩⟩
      have hle : (i : Int) + 1 ≤ (nk : Int) + 6 := by omega
      rcases hlast with ⟨hl, HL⟩ | ⟨hl, HL⟩
      · go_wp2_with (first
          | (go_at_call 74; refine (boxes_any _ _ (.inl ⟨rfl, rfl⟩) gb _ _ hY.out hl0.out).mono ?_; rintro e w5 ⟨rfl, h1, h2⟩)
          | (go_at_call 73; refine (rows_1 gb _ _ h2 (by rw [boxTo_length]; exact hl0.out)).mono ?_; rintro e w6 ⟨rfl, h3, h4⟩)
          | (go_at_call 72; refine (columns_any gb _ [2, 3, 1, 1] _ h4 (by rw [rowsTo_length, boxTo_length]; exact hl0.out) rfl).mono ?_; rintro e w7 ⟨rfl, h5, h6⟩)
          | (go_at_call 71; refine (with_own gb _ _ _ b cw n (i + 1) _ (by omega) _ h6 (by rw [colsTo_length, rowsTo_length, boxTo_length]; exact hl0.out) (hO.out.only ((h1.trans h3).trans h5) (hO.out.not_row hY.out (by decide))) hW.out (by have := Hn.out; omega) (by have := Hn.out; omega)).mono ?_; rintro e w8 ⟨rfl, h7, h8⟩))
        have ho8 := ((h1.trans h3).trans h5).trans h7
        go_roundg (nk + 7 - (i + 1))
        case measure => have := hq.out; omega
        case rel =>
          refine ⟨i + 1, by omega, ⟨by omega⟩, by go_num, ⟨?_⟩, ⟨hO.out.only ho8 (hO.out.not_row hY.out (by decide))⟩, ⟨hR.out.only ho8 (Ne.symm hgr)⟩, ⟨ho8.to_below hB.out (by assumption) hB.out.size⟩⟩
          show Row w8 gb _ (encRound _ _ _ (encTo _ _ _ i))
          rw [HST.out]
          unfold encRound
          rw [if_pos HL.out]
          exact h8
      · go_wp2_with (first
          | (go_at_call 74; refine (boxes_any _ _ (.inl ⟨rfl, rfl⟩) gb _ _ hY.out hl0.out).mono ?_; rintro e w5 ⟨rfl, h1, h2⟩)
          | (go_at_call 73; refine (rows_1 gb _ _ h2 (by rw [boxTo_length]; exact hl0.out)).mono ?_; rintro e w6 ⟨rfl, h3, h4⟩)
          | (go_at_call 71; refine (with_own gb _ _ _ b cw n (i + 1) _ (by omega) _ h4 (by rw [rowsTo_length, boxTo_length]; exact hl0.out) (hO.out.only (h1.trans h3) (hO.out.not_row hY.out (by decide))) hW.out (by have := Hn.out; omega) (by have := Hn.out; omega)).mono ?_; rintro e w8 ⟨rfl, h7, h8⟩))
        have ho8 := (h1.trans h3).trans h7
        go_roundg (nk + 7 - (i + 1))
        case measure => have := hq.out; omega
        case rel =>
          refine ⟨i + 1, by omega, ⟨by omega⟩, by go_num, ⟨?_⟩, ⟨hO.out.only ho8 (hO.out.not_row hY.out (by decide))⟩, ⟨hR.out.only ho8 (Ne.symm hgr)⟩, ⟨ho8.to_below hB.out (by assumption) hB.out.size⟩⟩
          show Row w8 gb _ (encRound _ _ _ (encTo _ _ _ i))
          rw [HST.out]
          unfold encRound
          rw [if_neg HL.out]
          exact h8
    · obtain rfl : i = nk + 6 := by omega
      have hle : ¬ (((nk + 6 : Nat) : Int) + 1 ≤ (nk : Int) + 6) := by omega
      go_wp2_with (first
        | (refine load_arr arr16 rfl _ rfl rfl hY.out hl0.out ?_)
        | (refine store_arr arr16 rfl _ _ rfl rfl rfl hR.out (by simp) hl0.out ?_; intro w5 h1 h2 h3))
      try simp only [Exit.inBlock, Exit.then]
      refine bodyPost_ret (results_arr arr16 rfl _ rfl h3 hl0.out) rfl ⟨?_, h1.to_below hB.out hgr0 hB.out.size⟩
      rw [← HST.out]
      rfl

def decRound (ws : List Int) (n r : Nat) (b : List Int) : List Int :=
  boxTo unboxI (rowsTo (if r < n then colsTo (withTo b ws r 16) [14, 11, 13, 9] 16 else withTo b ws r 16) 3 16) 16
def decTo (ws : List Int) (n : Nat) (b : List Int) : Nat → List Int
  | 0 => b
  | i + 1 => decRound ws n (n - i) (decTo ws n b i)
def decI (key : List Int) (nk : Nat) (x : List Int) : List Int := withTo (decTo (wordsI key nk) (nk + 6) x (nk + 6)) (wordsI key nk) 0 16
theorem decRound_length (ws : List Int) (n r : Nat) (b : List Int) : (decRound ws n r b).length = b.length := by
  unfold decRound; rw [boxTo_length, rowsTo_length]; split <;> simp [colsTo_length, withTo_length]
theorem decTo_length (ws : List Int) (n : Nat) (b : List Int) (i : Nat) : (decTo ws n b i).length = b.length := by
  induction i with
  | zero => rfl
  | succ i ih => rw [decTo, decRound_length, ih]

set_option maxHeartbeats 8000000 in
set_option maxRecDepth 100000 in
theorem Decrypt_ok (nk : Nat) (hnk : nk = 4 ∨ nk = 6 ∨ nk = 8) (A : Option Addr) (c : Nat) (key x : List Int) (w : World) (hk : key.length = 4 * nk) (hr : Rd .u8 w A key) (hx : x.length = 16) :
    Calls Tryd.prog 55 #[.slice A (4 * nk) c, .agg (bs x).toArray] w (ArrNil (decI key nk x) w) := by
  have HK := Hd.mk hk; have HR := Hd.mk hr; have HN := Hd.mk hnk; have HX := Hd.mk hx
  have n4 : 4 ≤ nk := by omega
  have n8 : nk ≤ 8 := by omega
  obtain ⟨n, hn⟩ : ∃ n, n = 16 * (nk + 7) := ⟨_, rfl⟩
  have hW : Hd (n = (wordsI key nk).length) := ⟨by rw [hn, wordsI_length key nk hk]⟩
  have Hn := Hd.mk hn
  clear hk hr hnk hx hn
  go_enter Tryd.func55, Tryd.ntmps55
  go_wp2_with (first
    | (refine box_arr rfl _ rfl rfl ?_; intro gb w1 h1 h2 h3 h4)
    | (refine alloc_arr arr16 rfl rfl ?_; intro gr w2 h5 h6 h7 h8)
    | (go_at_call 69; refine (Words_len nk HN.out _ _ _ _ HK.out ((HR.out.below h3).below h7) n Hn.out).mono ?_; rintro e w3 ⟨b, cw, rfl, h9, h10⟩; have hrb := Hd.mk ((h4.below h7 h2).below h10 (Nat.lt_of_lt_of_le h2 h7.size)); have hrr := Hd.mk (h8.below h10 h6))
    | (go_at_call 70; refine (rounds_ok _ HN.out _ _ _).mono ?_; rintro e w' ⟨rfl, rfl⟩))
  have hO := Hd.mk h9
  have hR := hrr
  have hB := Hd.mk (((h3.trans (h7.mono h3.size))).trans (h10.mono (Nat.le_trans h3.size h7.size)))
  have hY := hrb
  have hgr : gb ≠ gr := by omega
  have hgr0 : w.heap.size ≤ gr := Nat.le_trans h3.size h5
  have hbase : w.heap.size ≤ w2.heap.size := Nat.le_trans h3.size h7.size
  have hO2 := Hd.mk (hO.out.lower hbase)
  clear h2 h3 h4 h5 h6 h7 h8 h9 h10 hrr hrb hO hbase
  go_loopg [9] (nk + 7) (fun q v9 wr => ∃ (i : Nat), i ≤ nk + 6 ∧ Hd (q + i = nk + 7) ∧ v9 = .int .i64 (nk + 6 - i) ∧ Hd (Row wr gb 31 (decTo (wordsI key nk) (nk + 6) x i)) ∧
    Hd (Own .u8 5 wr w.heap.size (.slice (some ⟨b, 0, none⟩) n cw) (wordsI key nk)) ∧ Hd (Row wr gr 31 (List.replicate 16 0)) ∧ Hd (Below w.heap.size w wr))
  case atStart => exact ⟨0, by omega, ⟨by omega⟩, by go_num, hY, hO2, hR, hB⟩
  case round =>
    clear hY hO2 hR hB
    obtain ⟨i, hi, hq, rfl, hY, hO, hR, hB⟩ := hrel
    have hl0 : Hd ((decTo (wordsI key nk) (nk + 6) x i).length = 16) := ⟨by rw [decTo_length]; exact HX.out⟩
    generalize hst : decTo (wordsI key nk) (nk + 6) x i = st at hY hl0
    have HST := Hd.mk hst
    clear hst
    by_cases hlt : i < nk + 6
    · have hlast : ((nk : Int) + 6 - (i : Int) < (nk : Int) + 6 ∧ Hd (nk + 6 - i < nk + 6)) ∨ (¬ ((nk : Int) + 6 - (i : Int) < (nk : Int) + 6) ∧ Hd (¬ nk + 6 - i < nk + 6)) := by
        by_cases h : nk + 6 - i < nk + 6
        · exact .inl ⟨by omega, ⟨h⟩⟩
        · exact .inr ⟨by omega, ⟨h⟩⟩
      have hle : 1 ≤ (nk : Int) + 6 - (i : Int) := by omega
      have hw : Hd (((nk : Int) + 6 - (i : Int)) = ((nk + 6 - i : Nat) : Int)) := ⟨by omega⟩
      rcases hlast with ⟨hl, HL⟩ | ⟨hl, HL⟩
      · go_wp2_with (first
          | (go_at_call 71; refine (with_own gb _ _ _ b cw n (nk + 6 - i) _ (by omega) _ hY.out hl0.out hO.out hW.out (by have := Hn.out; omega) (by have := Hn.out; omega)).mono ?_; rintro e w5 ⟨rfl, h1, h2⟩)
          | (go_at_call 72; refine (columns_any gb _ [14, 11, 13, 9] _ h2 (by rw [withTo_length]; exact hl0.out) rfl).mono ?_; rintro e w6 ⟨rfl, h3, h4⟩)
          | (go_at_call 73; refine (rows_3 gb _ _ h4 (by rw [colsTo_length, withTo_length]; exact hl0.out)).mono ?_; rintro e w7 ⟨rfl, h5, h6⟩)
          | (go_at_call 74; refine (boxes_any _ _ (.inr ⟨rfl, rfl⟩) gb _ _ h6 (by rw [rowsTo_length, colsTo_length, withTo_length]; exact hl0.out)).mono ?_; rintro e w8 ⟨rfl, h7, h8⟩))
        have ho8 := ((h1.trans h3).trans h5).trans h7
        go_roundg (nk + 7 - (i + 1))
        case measure => have := hq.out; omega
        case rel =>
          refine ⟨i + 1, by omega, ⟨by omega⟩, by go_num, ⟨?_⟩, ⟨hO.out.only ho8 (hO.out.not_row hY.out (by decide))⟩, ⟨hR.out.only ho8 (Ne.symm hgr)⟩, ⟨ho8.to_below hB.out (by assumption) hB.out.size⟩⟩
          show Row w8 gb _ (decRound _ _ (nk + 6 - i) (decTo _ _ _ i))
          rw [HST.out]
          unfold decRound
          rw [if_pos HL.out]
          exact h8
      · go_wp2_with (first
          | (go_at_call 71; refine (with_own gb _ _ _ b cw n (nk + 6 - i) _ (by omega) _ hY.out hl0.out hO.out hW.out (by have := Hn.out; omega) (by have := Hn.out; omega)).mono ?_; rintro e w5 ⟨rfl, h1, h2⟩)
          | (go_at_call 73; refine (rows_3 gb _ _ h2 (by rw [withTo_length]; exact hl0.out)).mono ?_; rintro e w7 ⟨rfl, h5, h6⟩)
          | (go_at_call 74; refine (boxes_any _ _ (.inr ⟨rfl, rfl⟩) gb _ _ h6 (by rw [rowsTo_length, withTo_length]; exact hl0.out)).mono ?_; rintro e w8 ⟨rfl, h7, h8⟩))
        have ho8 := (h1.trans h5).trans h7
        go_roundg (nk + 7 - (i + 1))
        case measure => have := hq.out; omega
        case rel =>
          refine ⟨i + 1, by omega, ⟨by omega⟩, by go_num, ⟨?_⟩, ⟨hO.out.only ho8 (hO.out.not_row hY.out (by decide))⟩, ⟨hR.out.only ho8 (Ne.symm hgr)⟩, ⟨ho8.to_below hB.out (by assumption) hB.out.size⟩⟩
          show Row w8 gb _ (decRound _ _ (nk + 6 - i) (decTo _ _ _ i))
          rw [HST.out]
          unfold decRound
          rw [if_neg HL.out]
          exact h8
    · obtain rfl : i = nk + 6 := by omega
      have hle : ¬ (1 ≤ (nk : Int) + 6 - ((nk + 6 : Nat) : Int)) := by omega
      go_wp2_with (first
        | (go_at_call 71; refine (with_own gb _ _ _ b cw n 0 0 rfl _ hY.out hl0.out hO.out hW.out (by have := Hn.out; omega) (by have := Hn.out; omega)).mono ?_; rintro e w4 ⟨rfl, h11, h12⟩; have hR2 := Hd.mk (hR.out.only h11 (Ne.symm hgr)); have hl9 : Hd ((withTo st (wordsI key nk) 0 16).length = 16) := ⟨by rw [withTo_length]; exact hl0.out⟩)
        | (refine load_arr arr16 rfl _ rfl rfl h12 hl9.out ?_)
        | (refine store_arr arr16 rfl _ _ rfl rfl rfl hR2.out (by simp) hl9.out ?_; intro w5 h1 h2 h3))
      try simp only [Exit.inBlock, Exit.then]
      have hB4 := h11.to_below hB.out (by assumption) hB.out.size
      refine bodyPost_ret (results_arr arr16 rfl _ rfl h3 hl9.out) rfl ⟨?_, h1.to_below hB4 hgr0 hB4.size⟩
      rw [← HST.out]
      rfl
end Go.Proofs.YtommgcebjhkneaaDoor

/-
  AES: rows turned, columns multiplied, on a block behind a pointer.
-/
import Derived.Test.YtommgcebjhkneaaDoorAes0
namespace Go.Proofs.YtommgcebjhkneaaDoor
open Go Go.RowKit

/-- Rows turned m times, as far as byte k. -/
def rowsTo (xs : List Int) (m : Nat) : Nat → List Int
  | 0 => xs
  | k + 1 => (rowsTo xs m k).set k (xs.getD ((k + 4 * (k % 4) * m) % 16) 0)
theorem rowsTo_length (xs : List Int) (m k : Nat) : (rowsTo xs m k).length = xs.length := by
  induction k with
  | zero => rfl
  | succ k ih => simp [rowsTo, ih]

set_option maxHeartbeats 1000000 in
set_option maxRecDepth 100000 in
theorem rows_1 (g : Nat) (xs : List Int) (w : World) (hg : Row w g 31 xs) (hl : xs.length = 16) :
    Calls Tryd.prog 73 #[.pointer (some ⟨g, 0, none⟩), .int .i64 1] w fun e w' => e = .returned (.tuple #[]) ∧ Only g w w' ∧ Row w' g 31 (rowsTo xs 1 16) := by
  have HG := Hd.mk hg; have HL := Hd.mk hl
  have hlt := hg.lt
  clear hg hl
  go_enter Tryd.func73, Tryd.ntmps73
  go_wp2_with (first
    | (refine load_arr arr16 rfl _ rfl rfl HG.out HL.out ?_)
    | (refine alloc_arr arr16 rfl rfl ?_; intro g1 w1 h1 h2 h3 h4)
    | (refine store_arr arr16 rfl _ _ rfl rfl rfl h4 (by simp) HL.out ?_; intro w2 h5 h6 h7))
  have HO := Hd.mk ((Only.of_below (g := g) h3).fresh h1 h5)
  have HG2 := Hd.mk ((HG.out.below h3 hlt).only h5 (by omega))
  have HW := Hd.mk h7
  clear h3 h5 h6 h4 h7 HG
  go_loopg [5, 6, 10] 17 (fun q v5 v6 v10 wr => ∃ k : Nat, k ≤ 16 ∧ Hd (q + k = 17) ∧ v10 = .int .i64 k ∧ Hd (Only g w wr) ∧ Hd (Row wr g 31 (rowsTo xs 1 k)) ∧ Hd (Row wr g1 31 xs))
  case atStart => exact ⟨0, by omega, ⟨rfl⟩, rfl, HO, HG2, HW⟩
  case round =>
    clear HO HG2 HW
    obtain ⟨k, hk, hq, rfl, ho, hrow, hwas⟩ := hrel
    by_cases h16 : k < 16
    · go_wp2
      have hj : (k + 4 * (k % 4) * 1) % 16 < 16 := Nat.mod_lt _ (by omega)
      have hx := hwas.out.cell ((k + 4 * (k % 4) * 1) % 16) (by rw [HL.out]; exact hj)
      try simp only [Nat.mul_one] at hx
      have hf := hrow.out.frozen k
      have hx0 := hrow.out.cell k (by rw [rowsTo_length, HL.out]; exact h16)
      have e1 : ((↑k + 4 * ((k : Int) % 4) * 1) % 16).toNat = (k + 4 * (k % 4) * 1) % 16 := by omega
      have e2 : (↑k + 4 * ((k : Int) % 4) * 1) % 16 < 16 := by omega
      have e3 : 0 ≤ (↑k + 4 * ((k : Int) % 4) * 1) % 16 := by omega
      refine Lead.wp_region_lead_drawn 12 (by kernel_rfl) (by kernel_rfl) ?_
      simp only [List.take_succ_cons, List.take_zero, List.drop_succ_cons, List.drop_zero]
      repeat (first | go_big_quiet_step (fail) | quiet_step (fail))
      refine wpQuiet_nil ?_
      intro kq
      clear e1 e2 e3
      go_wp2
      go_roundg (17 - (k + 1))
      case measure => have := hq.out; omega
      case rel =>
        refine ⟨k + 1, by omega, ⟨by omega⟩, by go_num, ⟨?_⟩, ⟨?_⟩, ⟨?_⟩⟩
        · exact ((ho.out.drewN _).set_ (.inl rfl) _)
        · first | exact (hrow.out.drewN _).set_ k _ | simpa [rowsTo] using ((hrow.out.drewN kq).set_ k (xs.getD ((k + 4 * (k % 4)) % 16) 0))
        · exact (hwas.out.drewN _).other (by show g1 ≠ g; omega) _
    · obtain rfl : k = 16 := by omega
      go_wp2
      go_end0
      exact ⟨rfl, ho.out, hrow.out⟩

set_option maxHeartbeats 1000000 in
set_option maxRecDepth 100000 in
theorem rows_3 (g : Nat) (xs : List Int) (w : World) (hg : Row w g 31 xs) (hl : xs.length = 16) :
    Calls Tryd.prog 73 #[.pointer (some ⟨g, 0, none⟩), .int .i64 3] w fun e w' => e = .returned (.tuple #[]) ∧ Only g w w' ∧ Row w' g 31 (rowsTo xs 3 16) := by
  have HG := Hd.mk hg; have HL := Hd.mk hl
  have hlt := hg.lt
  clear hg hl
  go_enter Tryd.func73, Tryd.ntmps73
  go_wp2_with (first
    | (refine load_arr arr16 rfl _ rfl rfl HG.out HL.out ?_)
    | (refine alloc_arr arr16 rfl rfl ?_; intro g1 w1 h1 h2 h3 h4)
    | (refine store_arr arr16 rfl _ _ rfl rfl rfl h4 (by simp) HL.out ?_; intro w2 h5 h6 h7))
  have HO := Hd.mk ((Only.of_below (g := g) h3).fresh h1 h5)
  have HG2 := Hd.mk ((HG.out.below h3 hlt).only h5 (by omega))
  have HW := Hd.mk h7
  clear h3 h5 h6 h4 h7 HG
  go_loopg [5, 6, 10] 17 (fun q v5 v6 v10 wr => ∃ k : Nat, k ≤ 16 ∧ Hd (q + k = 17) ∧ v10 = .int .i64 k ∧ Hd (Only g w wr) ∧ Hd (Row wr g 31 (rowsTo xs 3 k)) ∧ Hd (Row wr g1 31 xs))
  case atStart => exact ⟨0, by omega, ⟨rfl⟩, rfl, HO, HG2, HW⟩
  case round =>
    clear HO HG2 HW
    obtain ⟨k, hk, hq, rfl, ho, hrow, hwas⟩ := hrel
    by_cases h16 : k < 16
    · go_wp2
      have hj : (k + 4 * (k % 4) * 3) % 16 < 16 := Nat.mod_lt _ (by omega)
      have hx := hwas.out.cell ((k + 4 * (k % 4) * 3) % 16) (by rw [HL.out]; exact hj)
      try simp only [Nat.mul_one] at hx
      have hf := hrow.out.frozen k
      have hx0 := hrow.out.cell k (by rw [rowsTo_length, HL.out]; exact h16)
      have e1 : ((↑k + 4 * ((k : Int) % 4) * 3) % 16).toNat = (k + 4 * (k % 4) * 3) % 16 := by omega
      have e2 : (↑k + 4 * ((k : Int) % 4) * 3) % 16 < 16 := by omega
      have e3 : 0 ≤ (↑k + 4 * ((k : Int) % 4) * 3) % 16 := by omega
      refine Lead.wp_region_lead_drawn 12 (by kernel_rfl) (by kernel_rfl) ?_
      simp only [List.take_succ_cons, List.take_zero, List.drop_succ_cons, List.drop_zero]
      repeat (first | go_big_quiet_step (fail) | quiet_step (fail))
      refine wpQuiet_nil ?_
      intro kq
      clear e1 e2 e3
      go_wp2
      go_roundg (17 - (k + 1))
      case measure => have := hq.out; omega
      case rel =>
        refine ⟨k + 1, by omega, ⟨by omega⟩, by go_num, ⟨?_⟩, ⟨?_⟩, ⟨?_⟩⟩
        · exact ((ho.out.drewN _).set_ (.inl rfl) _)
        · first | exact (hrow.out.drewN _).set_ k _ | simpa [rowsTo] using ((hrow.out.drewN kq).set_ k (xs.getD ((k + 4 * (k % 4)) % 16) 0))
        · exact (hwas.out.drewN _).other (by show g1 ≠ g; omega) _
    · obtain rfl : k = 16 := by omega
      go_wp2
      go_end0
      exact ⟨rfl, ho.out, hrow.out⟩

/-- A column's byte: the first j products summed up. -/
def colAcc (was ms : List Int) (i : Nat) : Nat → Int
  | 0 => 0
  | j + 1 => bits .xor .u8 (colAcc was ms i j) (mulI (ms.getD j 0) (was.getD (i / 4 * 4 + (i + j) % 4) 0))
/-- Columns multiplied, as far as byte k. -/
def colsTo (xs ms : List Int) : Nat → List Int
  | 0 => xs
  | k + 1 => (colsTo xs ms k).set k (colAcc xs ms k 4)
theorem colsTo_length (xs ms : List Int) (k : Nat) : (colsTo xs ms k).length = xs.length := by
  induction k with
  | zero => rfl
  | succ k ih => simp [colsTo, ih]

set_option maxHeartbeats 2000000 in
set_option maxRecDepth 100000 in
theorem columns_any (g : Nat) (xs ms : List Int) (w : World) (hg : Row w g 31 xs) (hl : xs.length = 16) (hm : ms.length = 4) :
    Calls Tryd.prog 72 #[.pointer (some ⟨g, 0, none⟩), .agg (bs ms).toArray] w fun e w' => e = .returned (.tuple #[]) ∧ Only g w w' ∧ Row w' g 31 (colsTo xs ms 16) := by
  have HG := Hd.mk hg; have HL := Hd.mk hl; have HM := Hd.mk hm
  have hlt := hg.lt
  clear hg hl hm
  go_enter Tryd.func72, Tryd.ntmps72
  go_wp2_with (first
    | (refine box_arr rfl _ rfl rfl ?_; intro g0 w0 h8 h9 h10 h11; have HG1 := Hd.mk (HG.out.below h10 hlt))
    | (refine load_arr arr16 rfl _ rfl rfl HG1.out HL.out ?_)
    | (refine alloc_arr arr16 rfl rfl ?_; intro g1 w1 h1 h2 h3 h4)
    | (refine store_arr arr16 rfl _ _ rfl rfl rfl h4 (by simp) HL.out ?_; intro w2 h5 h6 h7))
  have HO := Hd.mk (((Only.of_below (g := g) h10).below_ h3).fresh (by omega) h5)
  have HG2 := Hd.mk ((HG1.out.below h3 (by omega)).only h5 (by omega))
  have HM2 := Hd.mk ((h11.below h3 h9).only h5 (by omega))
  have HW := Hd.mk h7
  clear h3 h5 h6 h4 h7 HG HG1 h10 h11
  go_loopg [5, 6, 7, 8, 12] 17 (fun q v5 v6 v7 v8 v12 wr => ∃ k : Nat, k ≤ 16 ∧ Hd (q + k = 17) ∧ v12 = .int .i64 k ∧ Hd (Only g w wr) ∧ Hd (Row wr g 31 (colsTo xs ms k)) ∧ Hd (Row wr g1 31 xs) ∧ Hd (Row wr g0 141 ms))
  case atStart => exact ⟨0, by omega, ⟨rfl⟩, rfl, HO, HG2, HW, HM2⟩
  case round =>
    clear HO HG2 HW HM2
    obtain ⟨k, hk, hq, rfl, ho, hrow, hwas, hms⟩ := hrel
    by_cases h16 : k < 16
    · have hx0 := hrow.out.cell k (by rw [colsTo_length, HL.out]; exact h16)
      have hf0 := hrow.out.frozen k
      go_wp2
      have hrow2 := Hd.mk (hrow.out.set_ k 0)
      have hwas2 := Hd.mk (hwas.out.other (p := ⟨g, k, none⟩) (by show g1 ≠ g; omega) (.int .u8 0))
      have hms2 := Hd.mk (hms.out.other (p := ⟨g, k, none⟩) (by show g0 ≠ g; omega) (.int .u8 0))
      have ho2 := Hd.mk (ho.out.set_ (p := ⟨g, k, none⟩) (.inl rfl) (.int .u8 0))
      clear hx0 hf0 hrow hwas hms ho
      generalize wr.setCell ⟨g, k, none⟩ (.int .u8 0) = wi at hrow2 hwas2 hms2 ho2 ⊢
      go_loopg [8, 24] 5 (fun q2 v8 v24 ws => ∃ j : Nat, j ≤ 4 ∧ Hd (q2 + j = 5) ∧ v24 = .int .i64 j ∧ Hd (Only g w ws) ∧ Hd (Row ws g 31 ((colsTo xs ms k).set k (colAcc xs ms k j))) ∧ Hd (Row ws g1 31 xs) ∧ Hd (Row ws g0 141 ms))
      case atStart => exact ⟨0, by omega, ⟨rfl⟩, rfl, ho2, hrow2, hwas2, hms2⟩
      case round =>
        clear ho2 hrow2 hwas2 hms2
        obtain ⟨j, hj, hq2, rfl, ho3, hrow3, hwas3, hms3⟩ := hrel
        by_cases h4 : j < 4
        · go_wp2
          have hlen : k < ((colsTo xs ms k).set k (colAcc xs ms k j)).length := by rw [List.length_set, colsTo_length, HL.out]; exact h16
          have hx := hrow3.out.cell k hlen
          have hgd : ((colsTo xs ms k).set k (colAcc xs ms k j)).getD k 0 = colAcc xs ms k j := by
            rw [List.length_set] at hlen
            simp [hlen]
          rw [hgd] at hx
          have hy := hms3.out.cell j (by rw [HM.out]; exact h4)
          have hz := hwas3.out.cell (k / 4 * 4 + (k + j) % 4) (by rw [HL.out]; omega)
          have hf := hrow3.out.frozen k
          have e1 : ((k : Int) / 4 * 4 + ((k : Int) + j) % 4).toNat = k / 4 * 4 + (k + j) % 4 := by omega
          have e2 : (k : Int) / 4 * 4 + ((k : Int) + j) % 4 < 16 := by omega
          have e3 : 0 ≤ (k : Int) / 4 * 4 + ((k : Int) + j) % 4 := by omega
          clear hgd hlen
          refine Lead.wp_region_lead_drawn 19 (by kernel_rfl) (by kernel_rfl) ?_
          simp only [List.take_succ_cons, List.take_zero, List.drop_succ_cons, List.drop_zero]
          repeat (go_big_quiet_step (first | (go_at_call 81; exact (Mul_any _ _ _).mono fun e w' h => ⟨h.1, _, h.2.symm⟩)))
          refine wpQuiet_nil ?_
          intro kq
          clear e1 e2 e3 hy hz
          go_wp2
          go_roundg (5 - (j + 1))
          case measure => have := hq2.out; omega
          case rel =>
            refine ⟨j + 1, by omega, ⟨by omega⟩, by go_num, ⟨?_⟩, ⟨?_⟩, ⟨?_⟩, ⟨?_⟩⟩
            · exact ((ho3.out.drewN _).set_ (.inl rfl) _)
            · have := (hrow3.out.drewN kq).set_ k (colAcc xs ms k (j + 1))
              rw [List.set_set] at this
              simpa [colAcc] using this
            · exact (hwas3.out.drewN _).other (by show g1 ≠ g; omega) _
            · exact (hms3.out.drewN _).other (by show g0 ≠ g; omega) _
        · obtain rfl : j = 4 := by omega
          go_wp2
          go_roundg (17 - (k + 1))
          case measure => have := hq.out; omega
          case rel => exact ⟨k + 1, by omega, ⟨by omega⟩, by go_num, ho3, hrow3, hwas3, hms3⟩
    · obtain rfl : k = 16 := by omega
      go_wp2
      go_end0
      exact ⟨rfl, ho.out, hrow.out⟩
end Go.Proofs.YtommgcebjhkneaaDoor

/-
  AES's small steps on a block behind a pointer: each in place, nothing else changed.
-/
import Derived.Test.YtommgcebjhkneaaDoorArr
namespace Go.Proofs.YtommgcebjhkneaaDoor
open Go Go.RowKit

/-- The block turned by a round's key, as far as byte k. -/
def withTo (xs ys : List Int) (r : Nat) : Nat → List Int
  | 0 => xs
  | k + 1 => (withTo xs ys r k).set k (bits .xor .u8 ((withTo xs ys r k).getD k 0) (ys.getD (16 * r + k) 0))
theorem withTo_length (xs ys : List Int) (r k : Nat) : (withTo xs ys r k).length = xs.length := by
  induction k with
  | zero => rfl
  | succ k ih => simp [withTo, ih]

set_option maxHeartbeats 1000000 in
set_option maxRecDepth 100000 in
theorem with_any (g : Nat) (xs : List Int) (A : Addr) (n c : Nat) (ys : List Int) (r : Nat) (w : World)
    (hg : Row w g 31 xs) (hl : xs.length = 16)
    (hy : ∀ j, j < n → w.cell? (A.add j) = some (.int .u8 (ys.getD j 0))) (hA : A.block ≠ g) (hn : 16 * r + 16 ≤ n) (hr : n < 100000) :
    Calls Tryd.prog 71 #[.pointer (some ⟨g, 0, none⟩), .slice (some A) n c, .int .i64 r] w fun e w' => e = .returned (.tuple #[]) ∧ Only g w w' ∧ Row w' g 31 (withTo xs ys r 16) := by
  have HG := Hd.mk hg; have HL := Hd.mk hl; have HY := Hd.mk hy
  clear hg hl hy
  go_enter Tryd.func71, Tryd.ntmps71
  go_wp2
  go_loopg [6, 7] 17 (fun q v6 v7 wr => ∃ k : Nat, k ≤ 16 ∧ Hd (q + k = 17) ∧ v7 = .int .i64 k ∧ Hd (Only g w wr) ∧ Hd (Row wr g 31 (withTo xs ys r k)))
  case atStart => exact ⟨0, by omega, ⟨rfl⟩, rfl, ⟨Only.refl _ _⟩, ⟨HG.out⟩⟩
  case round =>
    obtain ⟨k, hk, hq, rfl, ho, hrow⟩ := hrel
    by_cases h16 : k < 16
    · go_wp2
      have hx := hrow.out.cell k (by rw [withTo_length, HL.out]; exact h16)
      have hy := HY.out (16 * r + k) (by omega)
      have hlt := World.block_lt_of_cell? w _ hy
      have hy2 : wr.cell? (A.add (16 * r + k)) = some (.int .u8 (ys.getD (16 * r + k) 0)) := by
        have hb : (A.add (16 * r + k)).block = A.block := by unfold Addr.add; split <;> rfl
        rw [ho.out.cell hlt (by rw [hb]; exact hA)]; exact hy
      have hf := hrow.out.frozen k
      have e1 : (16 * (r : Int) + k).toNat = 16 * r + k := by omega
      have e2 : 16 * (r : Int) + k < n := by omega
      have e3 : IntKind.i64.wrap (16 * (r : Int)) = 16 * r := wrap_id (by omega) (by omega)
      have e4 : IntKind.i64.wrap (16 * (r : Int) + k) = 16 * r + k := wrap_id (by omega) (by omega)
      have e5 : 0 ≤ 16 * (r : Int) + k := by omega
      clear hy hlt
      refine Lead.wp_region_lead_drawn 14 (by kernel_rfl) (by kernel_rfl) ?_
      simp only [List.take_succ_cons, List.take_zero, List.drop_succ_cons, List.drop_zero]
      repeat (first | go_big_quiet_step (fail) | quiet_step (fail))
      refine wpQuiet_nil ?_
      intro kq
      clear e1 e2 e3 e4 e5
      go_wp2
      go_roundg (17 - (k + 1))
      case measure => have := hq.out; omega
      case rel =>
        refine ⟨k + 1, by omega, ⟨by omega⟩, by go_num, ⟨?_⟩, ⟨?_⟩⟩
        · exact ((ho.out.drewN _).set_ (.inl rfl) _)
        · exact (hrow.out.drewN _).set_ k _
    · obtain rfl : k = 16 := by omega
      go_wp2
      go_end0
      exact ⟨rfl, ho.out, hrow.out⟩

/-- Each byte replaced, as far as byte k. -/
def boxTo (F : Int → Int) (xs : List Int) : Nat → List Int
  | 0 => xs
  | k + 1 => (boxTo F xs k).set k (F ((boxTo F xs k).getD k 0))
theorem boxTo_length (F : Int → Int) (xs : List Int) (k : Nat) : (boxTo F xs k).length = xs.length := by
  induction k with
  | zero => rfl
  | succ k ih => simp [boxTo, ih]

set_option maxHeartbeats 1000000 in
set_option maxRecDepth 100000 in
theorem boxes_any (f : Nat) (F : Int → Int) (hf : (f = 76 ∧ F = boxI) ∨ (f = 75 ∧ F = unboxI)) (g : Nat) (xs : List Int) (w : World)
    (hg : Row w g 31 xs) (hl : xs.length = 16) :
    Calls Tryd.prog 74 #[.pointer (some ⟨g, 0, none⟩), .func (.func f) #[] #[]] w fun e w' => e = .returned (.tuple #[]) ∧ Only g w w' ∧ Row w' g 31 (boxTo F xs 16) := by
  have HG := Hd.mk hg; have HL := Hd.mk hl
  clear hg hl
  rcases hf with ⟨rfl, rfl⟩ | ⟨rfl, rfl⟩
  all_goals
    go_enter Tryd.func74, Tryd.ntmps74
    go_wp2
    go_loopg [4, 5] 17 (fun q v4 v5 wr => ∃ k : Nat, k ≤ 16 ∧ Hd (q + k = 17) ∧ v5 = .int .i64 k ∧ Hd (Only g w wr) ∧ Hd (Row wr g 31 (boxTo _ xs k)))
    case atStart => exact ⟨0, by omega, ⟨rfl⟩, rfl, ⟨Only.refl _ _⟩, ⟨HG.out⟩⟩
    case round =>
      obtain ⟨k, hk, hq, rfl, ho, hrow⟩ := hrel
      by_cases h16 : k < 16
      · go_wp2
        have hx := hrow.out.cell k (by rw [boxTo_length, HL.out]; exact h16)
        have hf := hrow.out.frozen k
        refine Lead.wp_region_lead_drawn 10 (by kernel_rfl) (by kernel_rfl) ?_
        simp only [List.take_succ_cons, List.take_zero, List.drop_succ_cons, List.drop_zero]
        repeat (first | go_big_quiet_step (first | (go_at_call 76; exact Calls.quiet_of (Box_any _ _)) | (go_at_call 75; exact Calls.quiet_of (Unbox_any _ _))))
        refine wpQuiet_nil ?_
        intro kq
        go_wp2
        go_roundg (17 - (k + 1))
        case measure => have := hq.out; omega
        case rel =>
          refine ⟨k + 1, by omega, ⟨by omega⟩, by go_num, ⟨?_⟩, ⟨?_⟩⟩
          · exact ((ho.out.drewN _).set_ (.inl rfl) _)
          · exact (hrow.out.drewN _).set_ k _
      · obtain rfl : k = 16 := by omega
        go_wp2
        go_end0
        exact ⟨rfl, ho.out, hrow.out⟩
end Go.Proofs.YtommgcebjhkneaaDoor

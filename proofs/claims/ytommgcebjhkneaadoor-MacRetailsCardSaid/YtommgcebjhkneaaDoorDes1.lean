/-
  des: eight bytes as a number, and back; 28 bits turned. Conditions: bytes are bytes, numbers fit.
-/
import Derived.Test.YtommgcebjhkneaaDoorDes0
namespace Go.Proofs.YtommgcebjhkneaaDoor
open Go Go.RowKit
set_option linter.unusedVariables false
set_option linter.unusedSimpArgs false

/-- The number that the first k bytes make. -/
def numTo (xs : List Int) : Nat → Nat
  | 0 => 0
  | k + 1 => 256 * numTo xs k + (xs.getD k 0).toNat % 256
theorem numTo_lt (xs : List Int) (k : Nat) : numTo xs k < 2 ^ (8 * k) := by
  induction k with
  | zero => simp [numTo]
  | succ k ih =>
    rw [numTo, show 8 * (k + 1) = 8 * k + 8 by omega, Nat.pow_add]
    have := Nat.mod_lt (xs.getD k 0).toNat (show 0 < 256 by decide)
    omega
theorem or_byte (P c : Nat) (hP : P < 2 ^ 56) (hc : c < 256) : bits .or .u64 ((P : Int) * 256) (c : Int) = ((256 * P + c : Nat) : Int) := by
  have h2 := or_u64 (256 * P) c (by omega) (by omega)
  rw [show (P : Int) * 256 = ((256 * P : Nat) : Int) by omega, h2]
  have h3 := Nat.two_pow_add_eq_or_of_lt (i := 8) (b := c) (by omega) P
  simp only [show (2 : Nat) ^ 8 = 256 from rfl] at h3
  rw [h3]

theorem infoU8 : (Tryd.prog.info? 5).map (·.size) = some 1 := by kernel_rfl
theorem run_index_arr8 (cs : Array Value) (i : Nat) (hi : i < 8) (v : Value) (hv : cs[i]? = some v) (w : World) : (Instr.index 86 (.agg cs) (.int .i64 (i : Int))).run Tryd.prog w = .ok v w := by
  have hq := infoU8
  cases hq2 : Tryd.prog.info? 5 with
  | none => rw [hq2] at hq; cases hq
  | some inf =>
    have hs : inf.size = 1 := by simpa [hq2] using hq
    have hi2 : (i : Int) < 8 := by omega
    simp [Instr.index, asIntOf, run_underlying Tryd.underlying86, part, isAgg, run_underlying Tryd.underlying5, sizeOf, typeInfo, hq2, hs, hv, hi, hi2]

set_option maxRecDepth 100000 in
set_option maxHeartbeats 2000000 in
theorem number_any (xs : List Int) (hl : xs.length = 8) (hb : ∀ x ∈ xs, 0 ≤ x ∧ x ≤ 255) (w : World) :
    Calls Tryd.prog 60 #[.agg (bs xs).toArray] w fun e w' => e = .returned (.int .u64 (numTo xs 8 : Nat)) ∧ Below w.heap.size w w' := by
  have HL := Hd.mk hl; have HB := Hd.mk hb
  clear hl hb
  go_enter Tryd.func60, Tryd.ntmps60
  go_wp2_with (first
    | (refine box_arr rfl _ rfl rfl ?_; intro gb w1 h1 h2 h3 h4)
    | (refine load_arr arr8 rfl _ rfl rfl h4 HL.out ?_))
  have hB := Hd.mk h3
  clear h1 h2 h3 h4
  go_loopg [3, 7] 9 (fun q v3 v7 wr => ∃ (k : Nat), k ≤ 8 ∧ Hd (q + k = 9) ∧ v7 = .int .i64 k ∧ v3 = .int .u64 (numTo xs k : Nat) ∧ Hd (w1 = wr))
  case atStart => exact ⟨0, by omega, ⟨by omega⟩, rfl, rfl, ⟨rfl⟩⟩
  case round =>
    obtain ⟨k, hk, hq, rfl, rfl, hw⟩ := hrel
    obtain rfl := hw.out
    clear hw
    by_cases hlt : k < 8
    · have hlen : (bs xs).toArray.size = 8 := by simp [bs, HL.out]
      have hget := bs_get xs k (by rw [HL.out]; exact hlt)
      obtain ⟨c, hc⟩ : ∃ c : Nat, Hd (xs.getD k 0 = (c : Int) ∧ c < 256) := by
        have hk2 : k < xs.length := by rw [HL.out]; exact hlt
        have := HB.out (xs[k]) (List.getElem_mem hk2)
        refine ⟨(xs[k]).toNat, ?_, by omega⟩
        simp [List.getD, hk2]; omega
      rw [hc.out.1] at hget
      obtain ⟨P, hP⟩ : ∃ P, Hd (numTo xs k = P) := ⟨_, ⟨rfl⟩⟩
      have hP2 : P < 2 ^ 56 := by
        rw [← hP.out]; exact Nat.lt_of_lt_of_le (numTo_lt xs k) (Nat.pow_le_pow_right (by decide) (by omega))
      rw [hP.out]
      have hix := run_index_arr8 (bs xs).toArray k hlt _ hget
      go_wp2
      have hval : Hd (bits .or .u64 ((P : Int) * 256) (IntKind.u64.wrap (c : Int)) = ((numTo xs (k + 1) : Nat) : Int)) := ⟨by
        have h1 := hc.out.1; have h2 := hc.out.2
        rw [wrap_u64 c (by omega), or_byte P c hP2 h2, numTo, hP.out, h1]
        omega⟩
      go_roundg (9 - (k + 1))
      case measure => have := hq.out; omega
      case rel => exact ⟨k + 1, by omega, ⟨by omega⟩, by go_num, by rw [hval.out], ⟨rfl⟩⟩
    · obtain rfl : k = 8 := by omega
      go_wp2
      go_ret
      exact ⟨rfl, hB.out⟩

def turnN (x n : Nat) : Nat := (x * 2 ^ n ||| x / 2 ^ (28 - n)) % 2 ^ 28
theorem and_28 (y : Nat) (hy : y < 2 ^ 64) : bits .and .u64 (y : Int) 268435455 = ((y % 2 ^ 28 : Nat) : Int) := by
  have h := and_u64 y 268435455 hy (by decide)
  rw [show ((268435455 : Nat) : Int) = 268435455 from rfl] at h
  rw [h, show (268435455 : Nat) = 2 ^ 28 - 1 from rfl, Nat.and_two_pow_sub_one_eq_mod]
set_option maxRecDepth 100000 in
set_option maxHeartbeats 1000000 in
theorem dturn_any (x n : Nat) (hx : x < 2 ^ 28) (hn : n = 1 ∨ n = 2) (w : World) :
    Calls Tryd.prog 77 #[.int .u64 x, .int .i64 n] w fun e w' => e = .returned (.int .u64 (turnN x n : Nat)) ∧ ∃ k, w' = w.drewN k := by
  have hv : Hd (bits .and .u64 (bits .or .u64 ((x * 2 ^ n : Nat) : Int) ((x / 2 ^ (28 - n) : Nat) : Int)) 268435455 = ((turnN x n : Nat) : Int)) := ⟨by
    have h1 : x * 2 ^ n < 2 ^ 64 := by rcases hn with rfl | rfl <;> omega
    have h2 : x / 2 ^ (28 - n) < 2 ^ 64 := Nat.lt_of_le_of_lt (Nat.div_le_self _ _) (by omega)
    rw [or_u64 _ _ h1 h2, and_28 _ (Nat.or_lt_two_pow h1 h2)]
    rfl⟩
  rcases hn with rfl | rfl
  all_goals
    go_enter Tryd.func77, Tryd.ntmps77
    go_wp2
    go_quiet (fail)
    go_wp2
    go_ret
    refine ⟨?_, _, rfl⟩
    rw [← hv.out]
    simp
end Go.Proofs.YtommgcebjhkneaaDoor

/-
  des: a number as eight bytes. Condition: it fits 64 bits.
-/
import Derived.Test.YtommgcebjhkneaaDoorDes1
namespace Go.Proofs.YtommgcebjhkneaaDoor
open Go Go.RowKit
set_option linter.unusedVariables false
set_option linter.unusedSimpArgs false

/-- The first k bytes of a number are set. -/
def bytesTo (x : Nat) : Nat → List Int
  | 0 => List.replicate 8 0
  | k + 1 => (bytesTo x k).set k ((x / 2 ^ (56 - 8 * k) % 256 : Nat) : Int)
theorem bytesTo_length (x k : Nat) : (bytesTo x k).length = 8 := by
  induction k with
  | zero => rfl
  | succ k ih => rw [bytesTo, List.length_set, ih]

set_option maxRecDepth 100000 in
set_option maxHeartbeats 2000000 in
theorem bytes_any (x : Nat) (hx : x < 2 ^ 64) (w : World) :
    Calls Tryd.prog 62 #[.int .u64 x] w fun e w' => e = .returned (.agg (bs (bytesTo x 8)).toArray) ∧ Below w.heap.size w w' := by
  go_enter Tryd.func62, Tryd.ntmps62
  go_wp2_with (first
    | (have hh := h4; refine alloc_arr arr8 rfl rfl ?_; intro gb w2 h5 h6 h7 h8)
    | (refine alloc_arr arr8 rfl rfl ?_; intro gr w1 h1 h2 h3 h4))
  have hR := Hd.mk (h4.below h7 h2)
  have hY := Hd.mk h8
  have hB := Hd.mk (h3.trans (h7.mono h3.size))
  have hg : Hd (w.heap.size ≤ gr ∧ gr < gb ∧ w.heap.size ≤ gb) := ⟨h1, by omega, by omega⟩
  clear h1 h2 h3 h4 h5 h6 h7 h8 hh
  go_loopg [5] 9 (fun q v5 wr => ∃ (k : Nat), k ≤ 8 ∧ Hd (q + k = 9) ∧ v5 = .int .i64 k ∧ Hd (Row wr gb 86 (bytesTo x k)) ∧ Hd (Row wr gr 86 (List.replicate 8 0)) ∧ Hd (Below w.heap.size w wr))
  case atStart => exact ⟨0, by omega, ⟨by omega⟩, rfl, hY, hR, hB⟩
  case round =>
    clear hR hY hB
    obtain ⟨k, hk, hq, rfl, hY, hR, hB⟩ := hrel
    by_cases hlt : k < 8
    · have hc := hY.out.cell k (by rw [bytesTo_length]; exact hlt)
      obtain ⟨z, hz⟩ : ∃ z, Hd ((bytesTo x k).getD k 0 = z) := ⟨_, ⟨rfl⟩⟩
      rw [hz.out] at hc
      have hf := hY.out.frozen k
      go_wp2
      have hrow := hY.out.set_ k ((x : Int) / 2 ^ (56 - 8 * k) % 256)
      have hstep : Hd ((bytesTo x k).set k ((x : Int) / 2 ^ (56 - 8 * k) % 256) = bytesTo x (k + 1)) := ⟨by
        rw [bytesTo]
        push_cast
        rfl⟩
      rw [hstep.out] at hrow
      go_roundg (9 - (k + 1))
      case measure => have := hq.out; omega
      case rel => exact ⟨k + 1, by omega, ⟨by omega⟩, by go_num, ⟨hrow⟩, ⟨hR.out.other (by show gr ≠ gb; have := hg.out.2.1; omega) _⟩, ⟨hB.out.setCell hg.out.2.2 _⟩⟩
    · obtain rfl : k = 8 := by omega
      go_wp2_with (first
        | (refine load_arr arr8 rfl _ rfl rfl hY.out (bytesTo_length x 8) ?_)
        | (refine store_arr arr8 rfl _ _ rfl rfl rfl hR.out (by simp) (bytesTo_length x 8) ?_; intro w5 j1 j2 j3))
      try simp only [Exit.inBlock, Exit.then]
      refine bodyPost_ret (results_arr1 arr8 rfl _ rfl j3 (bytesTo_length x 8)) rfl ⟨rfl, j1.to_below hB.out hg.out.1 hB.out.size⟩
end Go.Proofs.YtommgcebjhkneaaDoor

/-
  lockboxref03.Bytes: eight bytes out of 64 bits. Condition: the bits can be read.
-/
import Derived.Test.YtommgcebjhkneaaDoorRef3b
import Derived.Test.YtommgcebjhkneaaDoorMac
namespace Go.Proofs.YtommgcebjhkneaaDoor
open Go Go.RowKit
set_option linter.unusedVariables false
set_option linter.unusedSimpArgs false

theorem bytesTo_at (X k : Nat) (hk : k < 8) : (bytesTo X 8)[k]? = some ((X / 2 ^ (56 - 8 * k) % 256 : Nat) : Int) := by
  have h8 : k = 0 ∨ k = 1 ∨ k = 2 ∨ k = 3 ∨ k = 4 ∨ k = 5 ∨ k = 6 ∨ k = 7 := by omega
  rcases h8 with rfl | rfl | rfl | rfl | rfl | rfl | rfl | rfl <;> rfl
theorem bytesTo_step (X k : Nat) (hk : k < 8) : (bytesTo X 8).take (k + 1) = (bytesTo X 8).take k ++ [((X / 2 ^ (56 - 8 * k) % 256 : Nat) : Int)] := by
  rw [List.take_add_one, bytesTo_at X k hk]; rfl
/-- The j highest bits of a byte. -/
def headN (X k j : Nat) : Nat := X / 2 ^ (64 - 8 * k - j) % 2 ^ j
theorem headN_step (X k j : Nat) (hk : k < 8) (hj : j < 8) : 2 * (headN X k j : Int) + bitI X (63 - (8 * k + j)) = (headN X k (j + 1) : Nat) := by
  unfold headN
  obtain ⟨m, hm⟩ : ∃ m, m = 63 - (8 * k + j) := ⟨_, rfl⟩
  rw [← hm, show 64 - 8 * k - j = m + 1 by omega, show 64 - 8 * k - (j + 1) = m by omega, bitI_eq, Nat.pow_succ 2 m, ← Nat.div_div_eq_div_mul, Nat.pow_succ 2 j, Nat.mul_comm (2 ^ j) 2, Nat.mod_mul]
  omega
theorem headN_lt (X k j : Nat) (hj : j ≤ 8) : headN X k j < 256 := Nat.lt_of_lt_of_le (Nat.mod_lt _ (Nat.two_pow_pos _)) (Nat.pow_le_pow_right (n := 2) (j := 8) (by decide) hj)
theorem headN_8 (X k : Nat) (hk : k < 8) : headN X k 8 = X / 2 ^ (56 - 8 * k) % 256 := by
  unfold headN
  rw [show 64 - 8 * k - 8 = 56 - 8 * k by omega]

set_option maxRecDepth 100000 in
set_option maxHeartbeats 4000000 in
theorem Bytes3 (X : Nat) (A : Option Addr) (c : Nat) (w : World) (hr : Rd .i64 w A (bitsN X 64)) :
    Calls Tryd.prog 48 #[.slice A 64 c] w (RetOwn (bytesTo X 8) w) := by
  have HR := Hd.mk hr
  clear hr
  go_enter Tryd.func48, Tryd.ntmps48
  go_wp2
  go_loopg [3, 4] 9 (fun q v3 v4 wr => ∃ (k i : Nat), k ≤ 8 ∧ Hd (q + k = 9) ∧ v4 = .int .i64 i ∧ Hd (i = 8 * k) ∧ i ≤ 64 ∧ Hd (Own .u8 5 wr w.heap.size v3 ((bytesTo X 8).take k)) ∧ Hd (Below w.heap.size w wr))
  case atStart => exact ⟨0, 0, by omega, ⟨by omega⟩, rfl, ⟨rfl⟩, by omega, ⟨Own.nil _ _⟩, ⟨Below.refl _ _⟩⟩
  case round =>
    obtain ⟨k, i, hk, hq, rfl, hi, hi2, hO, hB⟩ := hrel
    by_cases hlt : k < 8
    · have hi3 : i + 8 ≤ 64 := by have := hi.out; omega
      have hi4 : (i : Int) + 8 ≤ 64 := by omega
      obtain ⟨Y, hY⟩ : ∃ Y, Hd ((bytesTo X 8).take k = Y) := ⟨_, ⟨rfl⟩⟩
      have hYl : Hd (Y.length ≤ 8) := ⟨by rw [← hY.out, List.length_take]; omega⟩
      have hstep := Hd.mk (bytesTo_step X k hlt)
      rw [hY.out] at hO hstep
      rw [← headN_8 X k hlt] at hstep
      go_wp2
      obtain ⟨wo, hwo⟩ : ∃ wo : World, wo = wr := ⟨_, rfl⟩
      subst hwo
      go_loopg [5, 6] 9 (fun q v5 v6 wr => ∃ (j : Nat), j ≤ 8 ∧ Hd (q + j = 9) ∧ v6 = .int .i64 j ∧ v5 = .int .i64 (headN X k j : Nat) ∧ Hd (Own .u8 5 wr w.heap.size u3 Y) ∧ Hd (Below w.heap.size w wr))
      case atStart => exact ⟨0, by omega, ⟨by omega⟩, rfl, by rw [show headN X k 0 = 0 from Nat.mod_one _]; rfl, hO, hB⟩
      case round =>
        clear hO hB
        obtain ⟨j, hj, hqj, rfl, rfl, hO, hB⟩ := hrel
        by_cases hj8 : j < 8
        · obtain ⟨p, hp⟩ : ∃ p, Hd (p = 8 * k + j) := ⟨_, ⟨rfl⟩⟩
          have hp64 : p < 64 := by have := hp.out; omega
          obtain ⟨ad, eA, e1⟩ := (HR.out.below hB.out).get p (by rw [bitsN_length]; exact hp64)
          subst eA
          rw [bitsN_getD X 64 p hp64] at e1
          have hs := headN_step X k j hlt hj8
          rw [← hp.out] at hs
          rw [show 64 - 1 - p = 63 - p by omega] at e1
          have hb := bitI_01 X (63 - p)
          have hlt1 := headN_lt X k j (by omega)
          have hlt2 := headN_lt X k (j + 1) (by omega)
          have HS := Hd.mk hs
          obtain ⟨a, ha⟩ : ∃ a, Hd (headN X k j = a) := ⟨_, ⟨rfl⟩⟩
          obtain ⟨b, hb2⟩ : ∃ b, Hd (headN X k (j + 1) = b) := ⟨_, ⟨rfl⟩⟩
          rw [ha.out, hb2.out] at hs
          rw [ha.out] at hlt1 ⊢
          rw [hb2.out] at hlt2
          generalize bitI X (63 - p) = y at *
          have f1 : IntKind.i64.wrap ((i : Int) + (j : Int)) = (p : Int) := by rw [wrap_id (by omega) (by omega)]; have := hp.out; have := hi.out; omega
          have f2 : IntKind.i64.wrap (2 * (a : Int)) = 2 * (a : Int) := wrap_id (by omega) (by omega)
          have f3 : IntKind.i64.wrap (2 * (a : Int) + y) = (b : Int) := by rw [hs]; exact wrap_id (by omega) (by omega)
          have f4 : (i : Int) + (j : Int) = (p : Int) := by have := hp.out; have := hi.out; omega
          clear HS hb
          go_wp2
          go_roundg (9 - (j + 1))
          case measure => have := hqj.out; omega
          case rel => exact ⟨j + 1, by omega, ⟨by omega⟩, by go_num, by rw [hb2.out], hO, hB⟩
        · obtain rfl : j = 8 := by omega
          obtain ⟨a, ha⟩ : ∃ a, Hd (headN X k 8 = a) := ⟨_, ⟨rfl⟩⟩
          have hlt1 := headN_lt X k 8 (by omega)
          rw [ha.out] at hlt1 hstep ⊢
          go_wp2_with (first
            | (refine one_any slU8 rfl _ rfl rfl ?_; intro g5 w5 h51 h52 h53)
            | (at_builtin; refine append_any slU8 rfl _ _ rfl rfl (hO.out.below h52) rfl rfl h53 (fun e => by cases e) (by have := hYl.out; simp only [List.length_cons, List.length_nil]; omega) (Nat.le_trans hB.out.size h52.size) ?_; intro v6 w6 h61 h62 h63))
          go_roundg (9 - (k + 1))
          case measure => have := hq.out; omega
          case rel =>
            refine ⟨k + 1, i + 8, by omega, ⟨by omega⟩, by go_num, ⟨by have := hi.out; omega⟩, by omega, ⟨by rw [hstep.out]; exact h61⟩, ⟨?_⟩⟩
            exact h62.below (hB.out.trans (h52.mono hB.out.size)) (Nat.le_trans hB.out.size h52.size) (fun b6 hb6 => ((hO.out.below h52).lt b6 hb6).1)
    · obtain rfl : k = 8 := by omega
      obtain rfl : i = 64 := hi.out
      have hv := hO.out
      rw [List.take_of_length_le (by rw [bytesTo_length]; exact Nat.le_refl _)] at hv
      go_wp2
      go_ret
      exact ⟨_, rfl, hv, hB.out⟩
end Go.Proofs.YtommgcebjhkneaaDoor

/-
  The field of 256 elements: what each function computes, on numbers as the walk finds them.
-/
import Derived.Test.YtommgcebjhkneaaDoorBase
namespace Go.Proofs.YtommgcebjhkneaaDoor
open Go Go.RowKit

def dbl (a : Int) : Int := if (bits .and .u8 a 128 != 0) = true then bits .xor .u8 (a * 2 % 256) 27 else a * 2 % 256
def mulTo : Nat → Int → Int → Int → Int
  | 0, _, _, o => o
  | n + 1, a, b, o => mulTo n (dbl a) (b / 2) (if (bits .and .u8 b 1 == 1) = true then bits .xor .u8 o a else o)
def mulI (a b : Int) : Int := mulTo 8 a b 0

set_option maxHeartbeats 1000000 in
theorem Mul_any (a b : Int) (w : World) :
    Calls Tryd.prog 81 #[.int .u8 a, .int .u8 b] w fun e w' => e = .returned (.int .u8 (mulI a b)) ∧ w = w' := by
  go_enter Tryd.func81, Tryd.ntmps81
  go_wp2
  go_loopg [0, 1, 5, 7] 9 (fun q v0 v1 v5 v7 wr => ∃ (k : Nat) (x y o : Int), k ≤ 8 ∧ Hd (q + k = 9) ∧ v7 = .int .i64 k ∧ v0 = .int .u8 x ∧ v1 = .int .u8 y ∧ v5 = .int .u8 o ∧ Hd (mulTo (8 - k) x y o = mulI a b) ∧ Hd (w = wr))
  case atStart => exact ⟨0, a, b, 0, by omega, ⟨rfl⟩, rfl, rfl, rfl, rfl, ⟨rfl⟩, ⟨rfl⟩⟩
  case round =>
    obtain ⟨k, x, y, o, hk, hq, rfl, rfl, rfl, rfl, hm, hw⟩ := hrel
    by_cases h8 : k < 8
    · have hs : mulTo (8 - (k + 1)) (dbl x) (y / 2) (if (bits .and .u8 y 1 == 1) = true then bits .xor .u8 o x else o) = mulI a b := by
        have e : 8 - k = (8 - (k + 1)) + 1 := by omega
        rw [← hm.out, e]; rfl
      have HS := Hd.mk hs
      clear hs hm
      cases h1 : (bits .and .u8 y 1 == 1) <;> cases h2 : (bits .and .u8 x 128 != 0)
      all_goals
        go_wp2
        go_roundg (9 - (k + 1))
        case measure => have := hq.out; omega
        case rel =>
          refine ⟨k + 1, _, _, _, by omega, ⟨by omega⟩, by go_num, rfl, rfl, rfl, ⟨?_⟩, hw⟩
          have h := HS.out
          simp only [dbl, h1, h2, if_true, if_false, Bool.false_eq_true] at h
          exact h
    · obtain rfl : k = 8 := by omega
      go_wp2
      go_ret
      exact ⟨by rw [← hm.out]; rfl, hw.out⟩

def powTo : Nat → Int → Int → Int
  | 0, _, o => o
  | n + 1, a, o => powTo n (mulI a a) (mulI o (mulI a a))
def invI (a : Int) : Int := powTo 7 a 1

set_option maxHeartbeats 1000000 in
theorem Inv_any (a : Int) (w : World) :
    Calls Tryd.prog 82 #[.int .u8 a] w fun e w' => e = .returned (.int .u8 (invI a)) ∧ w = w' := by
  go_enter Tryd.func82, Tryd.ntmps82
  go_wp2
  go_loopg [0, 3, 4] 8 (fun q v0 v3 v4 wr => ∃ (k : Nat) (x o : Int), k ≤ 7 ∧ Hd (q + k = 8) ∧ v4 = .int .i64 k ∧ v0 = .int .u8 x ∧ v3 = .int .u8 o ∧ Hd (powTo (7 - k) x o = invI a) ∧ Hd (w = wr))
  case atStart => exact ⟨0, a, 1, by omega, ⟨rfl⟩, rfl, rfl, rfl, ⟨rfl⟩, ⟨rfl⟩⟩
  case round =>
    obtain ⟨k, x, o, hk, hq, rfl, rfl, rfl, hm, hw⟩ := hrel
    by_cases h7 : k < 7
    · have HS : Hd (powTo (7 - (k + 1)) (mulI x x) (mulI o (mulI x x)) = invI a) := by
        have e : 7 - k = (7 - (k + 1)) + 1 := by omega
        refine ⟨?_⟩
        rw [← hm.out, e]; rfl
      clear hm
      go_wp2_with (go_at_call 81; refine (Mul_any _ _ _).mono ?_; rintro e w' ⟨rfl, rfl⟩)
      go_roundg (8 - (k + 1))
      case measure => have := hq.out; omega
      case rel => exact ⟨k + 1, _, _, by omega, ⟨by omega⟩, by go_num, rfl, rfl, HS, hw⟩
    · obtain rfl : k = 7 := by omega
      go_wp2
      go_ret
      exact ⟨by rw [← hm.out]; rfl, hw.out⟩

def turnI (a n : Int) : Int := bits .or .u8 (a * 2 ^ n.toNat % 256) (a / 2 ^ (8 - n).toNat)

set_option maxHeartbeats 1000000 in
theorem turn_any (a n : Int) (w : World) (hn : n = 1 ∨ n = 2 ∨ n = 3 ∨ n = 4 ∨ n = 6) :
    Calls Tryd.prog 83 #[.int .u8 a, .int .i64 n] w fun e w' => e = .returned (.int .u8 (turnI a n)) ∧ ∃ k, w' = w.drewN k := by
  rcases hn with rfl | rfl | rfl | rfl | rfl
  all_goals
    go_enter Tryd.func83, Tryd.ntmps83
    go_wp2
    go_quiet (fail)
    go_wp2
    go_ret
    exact ⟨by simp [turnI], _, rfl⟩

def boxI (a : Int) : Int :=
  bits .xor .u8 (bits .xor .u8 (bits .xor .u8 (bits .xor .u8 (bits .xor .u8 (invI a) (turnI (invI a) 1)) (turnI (invI a) 2)) (turnI (invI a) 3)) (turnI (invI a) 4)) 99
def unboxI (a : Int) : Int := invI (bits .xor .u8 (bits .xor .u8 (bits .xor .u8 (turnI a 1) (turnI a 3)) (turnI a 6)) 5)

set_option maxHeartbeats 1000000 in
theorem Box_any (a : Int) (w : World) :
    Calls Tryd.prog 76 #[.int .u8 a] w fun e w' => e = .returned (.int .u8 (boxI a)) ∧ ∃ k, w' = w.drewN k := by
  go_enter Tryd.func76, Tryd.ntmps76
  go_wp2_with (first | (go_at_call 82; refine (Inv_any _ _).mono ?_; rintro e w' ⟨rfl, rfl⟩) | (go_at_call 83; refine (turn_any _ _ _ (by simp)).mono ?_; rintro e w' ⟨rfl, k, rfl⟩))
  go_ret
  exact ⟨rfl, _, rfl⟩

set_option maxHeartbeats 1000000 in
theorem Unbox_any (a : Int) (w : World) :
    Calls Tryd.prog 75 #[.int .u8 a] w fun e w' => e = .returned (.int .u8 (unboxI a)) ∧ ∃ k, w' = w.drewN k := by
  go_enter Tryd.func75, Tryd.ntmps75
  go_wp2_with (first | (go_at_call 82; refine (Inv_any _ _).mono ?_; rintro e w' ⟨rfl, rfl⟩) | (go_at_call 83; refine (turn_any _ _ _ (by simp)).mono ?_; rintro e w' ⟨rfl, k, rfl⟩))
  go_ret
  exact ⟨rfl, _, rfl⟩
end Go.Proofs.YtommgcebjhkneaaDoor

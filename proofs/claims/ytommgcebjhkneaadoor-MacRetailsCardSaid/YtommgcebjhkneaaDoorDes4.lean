/-
  des.mix: a round's function. Conditions: the half fits 32 bits, the key 64.
-/
import Derived.Test.YtommgcebjhkneaaDoorDes3
namespace Go.Proofs.YtommgcebjhkneaaDoor
open Go Go.RowKit
set_option linter.unusedVariables false
set_option linter.unusedSimpArgs false

def wideN (half : Nat) : Nat := ((half &&& 1) * 8589934592 ||| half * 2) ||| half / 2147483648
def sixN (half key i : Nat) : Nat := (wideN half / 2 ^ (28 - 4 * i) &&& 63) ^^^ (key / 2 ^ (42 - 6 * i) &&& 63)
def outN (half key : Nat) : Nat → Nat
  | 0 => 0
  | k + 1 => 16 * outN half key k + boxN k (sixN half key k)
def mixN (half key : Nat) : Nat := permN tabP 32 (outN half key 8) 32
theorem sixN_lt (half key i : Nat) : sixN half key i < 64 :=
  Nat.xor_lt_two_pow (n := 6) (Nat.and_lt_two_pow (n := 6) _ (by decide)) (Nat.and_lt_two_pow (n := 6) _ (by decide))
theorem outN_lt (half key : Nat) : ∀ k, k ≤ 8 → outN half key k < 2 ^ (4 * k)
  | 0, _ => by simp [outN]
  | k + 1, h => by
    have h1 := outN_lt half key k (by omega)
    have h2 := boxN_lt k (sixN half key k) (by omega) (sixN_lt half key k)
    rw [outN, show 4 * (k + 1) = 4 * k + 4 by omega, Nat.pow_add]
    omega
theorem mixN_lt (half key : Nat) : mixN half key < 2 ^ 32 := permN_lt tabP 32 _ 32
theorem or_four (P c : Nat) (hP : P < 2 ^ 32) (hc : c < 16) : bits .or .u64 ((P : Int) * 16) (c : Int) = ((16 * P + c : Nat) : Int) := by
  have h2 := or_u64 (16 * P) c (by omega) (by omega)
  rw [show (P : Int) * 16 = ((16 * P : Nat) : Int) by omega, h2]
  have h3 := Nat.two_pow_add_eq_or_of_lt (i := 4) (b := c) (by omega) P
  simp only [show (2 : Nat) ^ 4 = 16 from rfl] at h3
  rw [h3]
theorem xor_six (a b : Nat) (ha : a < 2 ^ 64) (hb : b < 2 ^ 64) : bits .xor .u64 (bits .and .u64 (a : Int) 63) (bits .and .u64 (b : Int) 63) = (((a &&& 63) ^^^ (b &&& 63) : Nat) : Int) := by
  have h1 := and_u64 a 63 ha (by decide)
  have h2 := and_u64 b 63 hb (by decide)
  rw [show ((63 : Nat) : Int) = 63 from rfl] at h1 h2
  rw [h1, h2, xor_u64 _ _ (Nat.lt_of_le_of_lt Nat.and_le_left ha) (Nat.lt_of_le_of_lt Nat.and_le_left hb)]

set_option maxRecDepth 100000 in
set_option maxHeartbeats 4000000 in
theorem mix_any (half key : Nat) (hh : half < 2 ^ 32) (hkey : key < 2 ^ 64) (w : World) :
    Calls Tryd.prog 61 #[.int .u64 half, .int .u64 key] w fun e w' => e = .returned (.int .u64 (mixN half key : Nat)) ∧ ∃ k, w' = w.drewN k := by
  obtain ⟨a, ha⟩ : ∃ a : Nat, a = half &&& 1 := ⟨_, rfl⟩
  have a2 : a < 2 := by rw [ha]; exact Nat.and_lt_two_pow (n := 1) _ (by decide)
  obtain ⟨b, hb⟩ : ∃ b : Nat, b = a * 8589934592 ||| half * 2 := ⟨_, rfl⟩
  have b64 : b < 2 ^ 64 := by rw [hb]; exact Nat.or_lt_two_pow (by omega) (by omega)
  obtain ⟨wd, hwd⟩ : ∃ wd : Nat, wd = b ||| half / 2147483648 := ⟨_, rfl⟩
  have wd64 : wd < 2 ^ 64 := by rw [hwd]; exact Nat.or_lt_two_pow b64 (by omega)
  have HW : Hd (wideN half = wd) := ⟨by rw [hwd, hb, ha]; rfl⟩
  have f1 : bits .and .u64 (half : Int) 1 = (a : Int) := by rw [ha]; exact and_u64 half 1 (by omega) (by decide)
  have f2 : bits .or .u64 ((a : Int) * 8589934592) ((half : Int) * 2) = (b : Int) := by rw [hb]; exact or_u64 (a * 8589934592) (half * 2) (by omega) (by omega)
  have f3 : bits .or .u64 (b : Int) ((half : Int) / 2147483648) = (wd : Int) := by rw [hwd]; exact or_u64 b (half / 2147483648) b64 (by omega)
  clear ha hb hwd
  go_enter Tryd.func61, Tryd.ntmps61
  go_wp2
  clear f1 f2 f3
  go_loopg [5, 18] 9 (fun q v5 v18 wr => ∃ (k kk : Nat), k ≤ 8 ∧ Hd (q + k = 9) ∧ v18 = .int .i64 k ∧ v5 = .int .u64 (outN half key k : Nat) ∧ Hd (wr = w.drewN kk))
  case atStart => exact ⟨0, 0, by omega, ⟨rfl⟩, rfl, rfl, ⟨rfl⟩⟩
  case round =>
    obtain ⟨k, kk, hk, hq, rfl, rfl, hw⟩ := hrel
    obtain rfl := hw.out
    clear hw
    by_cases hlt : k < 8
    · have e1 : IntKind.i64.wrap (4 * (k : Int)) = 4 * k := wrap_id (by omega) (by omega)
      have e2 : IntKind.i64.wrap (28 - 4 * (k : Int)) = 28 - 4 * k := wrap_id (by omega) (by omega)
      have e3 : IntKind.i64.wrap (6 * (k : Int)) = 6 * k := wrap_id (by omega) (by omega)
      have e4 : IntKind.i64.wrap (42 - 6 * (k : Int)) = 42 - 6 * k := wrap_id (by omega) (by omega)
      have e5 : (28 - 4 * (k : Int)).toNat = 28 - 4 * k := by omega
      have e6 : (42 - 6 * (k : Int)).toNat = 42 - 6 * k := by omega
      have e7 : 0 ≤ 28 - 4 * (k : Int) := by omega
      have e8 : 0 ≤ 42 - 6 * (k : Int) := by omega
      obtain ⟨P, hP⟩ : ∃ P, Hd (outN half key k = P) := ⟨_, ⟨rfl⟩⟩
      have hP2 : P < 2 ^ 32 := by
        rw [← hP.out]
        exact Nat.lt_of_lt_of_le (outN_lt half key k (by omega)) (Nat.pow_le_pow_right (by decide) (by omega))
      rw [hP.out]
      obtain ⟨s, hs⟩ : ∃ s, Hd (sixN half key k = s) := ⟨_, ⟨rfl⟩⟩
      have hs6 : s < 64 := by rw [← hs.out]; exact sixN_lt half key k
      have hc : Hd (boxN k s < 16) := ⟨boxN_lt k s hlt hs6⟩
      have hX : bits .xor .u64 (bits .and .u64 ((wd : Int) / 2 ^ (28 - 4 * k)) 63) (bits .and .u64 ((key : Int) / 2 ^ (42 - 6 * k)) 63) = (s : Int) := by
        have h := xor_six (wd / 2 ^ (28 - 4 * k)) (key / 2 ^ (42 - 6 * k)) (Nat.lt_of_le_of_lt (Nat.div_le_self _ _) wd64) (Nat.lt_of_le_of_lt (Nat.div_le_self _ _) hkey)
        rw [← hs.out, sixN, HW.out, ← h]
        push_cast
        rfl
      go_wp2
      go_quiet (fail)
      clear e1 e2 e3 e4 e5 e6 e7 e8 hX
      go_wp2_with (first
        | (go_at_call 78; refine (box_any k s hlt hs6 _).mono ?_; rintro e w' ⟨rfl, rfl⟩))
      have hval : Hd (bits .or .u64 ((P : Int) * 16) (boxN k s : Nat) = ((outN half key (k + 1) : Nat) : Int)) := ⟨by
        rw [or_four P _ hP2 hc.out, outN, hP.out, hs.out]⟩
      go_roundg (9 - (k + 1))
      case measure => have := hq.out; omega
      case rel => exact ⟨k + 1, _, by omega, ⟨by omega⟩, by go_num, by rw [hval.out], ⟨rfl⟩⟩
    · obtain rfl : k = 8 := by omega
      have ho : Hd (outN half key 8 < 2 ^ 64) := ⟨Nat.lt_of_lt_of_le (outN_lt half key 8 (by omega)) (Nat.pow_le_pow_right (by decide) (by omega))⟩
      go_wp2_with (first
        | (go_at_call 59; refine (permute_any _ ho.out 32 32 tabP tblP (by omega) (by omega) _).mono ?_; rintro e w' ⟨rfl, q1, rfl⟩))
      go_ret
      exact ⟨rfl, _, rfl⟩
end Go.Proofs.YtommgcebjhkneaaDoor

/-
  des.box, des.mix: four bits out of six by the eight tables; a round's function. Conditions: the box is one of eight, the six bits are less than 64, numbers fit.
-/
import Derived.Test.YtommgcebjhkneaaDoorDesP
import Derived.Test.YtommgcebjhkneaaDoorRowV
namespace Go.Proofs.YtommgcebjhkneaaDoor
open Go Go.RowKit
set_option linter.unusedVariables false
set_option linter.unusedSimpArgs false

def tabIP : ByteArray := { data := ([53, 56, 53, 48, 52, 50, 51, 52, 50, 54, 49, 56, 49, 48, 48, 50, 54, 48, 53, 50, 52, 52, 51, 54, 50, 56, 50, 48, 49, 50, 48, 52, 54, 50, 53, 52, 52, 54, 51, 56, 51, 48, 50, 50, 49, 52, 48, 54, 54, 52, 53, 54, 52, 56, 52, 48, 51, 50, 50, 52, 49, 54, 48, 56].append [53, 55, 52, 57, 52, 49, 51, 51, 50, 53, 49, 55, 48, 57, 48, 49, 53, 57, 53, 49, 52, 51, 51, 53, 50, 55, 49, 57, 49, 49, 48, 51, 54, 49, 53, 51, 52, 53, 51, 55, 50, 57, 50, 49, 49, 51, 48, 53, 54, 51, 53, 53, 52, 55, 51, 57, 51, 49, 50, 51, 49, 53, 48, 55]).toArray }
def tabPC1 : ByteArray := { data := ([53, 55, 52, 57, 52, 49, 51, 51, 50, 53, 49, 55, 48, 57, 48, 49, 53, 56, 53, 48, 52, 50, 51, 52, 50, 54, 49, 56, 49, 48, 48, 50, 53, 57, 53, 49, 52, 51, 51, 53, 50, 55, 49, 57, 49, 49, 48, 51, 54, 48, 53, 50, 52, 52, 51, 54].append [54, 51, 53, 53, 52, 55, 51, 57, 51, 49, 50, 51, 49, 53, 48, 55, 54, 50, 53, 52, 52, 54, 51, 56, 51, 48, 50, 50, 49, 52, 48, 54, 54, 49, 53, 51, 52, 53, 51, 55, 50, 57, 50, 49, 49, 51, 48, 53, 50, 56, 50, 48, 49, 50, 48, 52]).toArray }
def tabPC2 : ByteArray := { data := ([49, 52, 49, 55, 49, 49, 50, 52, 48, 49, 48, 53, 48, 51, 50, 56, 49, 53, 48, 54, 50, 49, 49, 48, 50, 51, 49, 57, 49, 50, 48, 52, 50, 54, 48, 56, 49, 54, 48, 55, 50, 55, 50, 48, 49, 51, 48, 50].append [52, 49, 53, 50, 51, 49, 51, 55, 52, 55, 53, 53, 51, 48, 52, 48, 53, 49, 52, 53, 51, 51, 52, 56, 52, 52, 52, 57, 51, 57, 53, 54, 51, 52, 53, 51, 52, 54, 52, 50, 53, 48, 51, 54, 50, 57, 51, 50]).toArray }
def tabP : ByteArray := { data := #[49, 54, 48, 55, 50, 48, 50, 49, 50, 57, 49, 50, 50, 56, 49, 55, 48, 49, 49, 53, 50, 51, 50, 54, 48, 53, 49, 56, 51, 49, 49, 48, 48, 50, 48, 56, 50, 52, 49, 52, 51, 50, 50, 55, 48, 51, 48, 57, 49, 57, 49, 51, 51, 48, 48, 54, 50, 50, 49, 49, 48, 52, 50, 53] }
def boxT : Nat → ByteArray
  | 0 => { data := #[101, 52, 100, 49, 50, 102, 98, 56, 51, 97, 54, 99, 53, 57, 48, 55, 48, 102, 55, 52, 101, 50, 100, 49, 97, 54, 99, 98, 57, 53, 51, 56, 52, 49, 101, 56, 100, 54, 50, 98, 102, 99, 57, 55, 51, 97, 53, 48, 102, 99, 56, 50, 52, 57, 49, 55, 53, 98, 51, 101, 97, 48, 54, 100] }
  | 1 => { data := #[102, 49, 56, 101, 54, 98, 51, 52, 57, 55, 50, 100, 99, 48, 53, 97, 51, 100, 52, 55, 102, 50, 56, 101, 99, 48, 49, 97, 54, 57, 98, 53, 48, 101, 55, 98, 97, 52, 100, 49, 53, 56, 99, 54, 57, 51, 50, 102, 100, 56, 97, 49, 51, 102, 52, 50, 98, 54, 55, 99, 48, 53, 101, 57] }
  | 2 => { data := #[97, 48, 57, 101, 54, 51, 102, 53, 49, 100, 99, 55, 98, 52, 50, 56, 100, 55, 48, 57, 51, 52, 54, 97, 50, 56, 53, 101, 99, 98, 102, 49, 100, 54, 52, 57, 56, 102, 51, 48, 98, 49, 50, 99, 53, 97, 101, 55, 49, 97, 100, 48, 54, 57, 56, 55, 52, 102, 101, 51, 98, 53, 50, 99] }
  | 3 => { data := #[55, 100, 101, 51, 48, 54, 57, 97, 49, 50, 56, 53, 98, 99, 52, 102, 100, 56, 98, 53, 54, 102, 48, 51, 52, 55, 50, 99, 49, 97, 101, 57, 97, 54, 57, 48, 99, 98, 55, 100, 102, 49, 51, 101, 53, 50, 56, 52, 51, 102, 48, 54, 97, 49, 100, 56, 57, 52, 53, 98, 99, 55, 50, 101] }
  | 4 => { data := #[50, 99, 52, 49, 55, 97, 98, 54, 56, 53, 51, 102, 100, 48, 101, 57, 101, 98, 50, 99, 52, 55, 100, 49, 53, 48, 102, 97, 51, 57, 56, 54, 52, 50, 49, 98, 97, 100, 55, 56, 102, 57, 99, 53, 54, 51, 48, 101, 98, 56, 99, 55, 49, 101, 50, 100, 54, 102, 48, 57, 97, 52, 53, 51] }
  | 5 => { data := #[99, 49, 97, 102, 57, 50, 54, 56, 48, 100, 51, 52, 101, 55, 53, 98, 97, 102, 52, 50, 55, 99, 57, 53, 54, 49, 100, 101, 48, 98, 51, 56, 57, 101, 102, 53, 50, 56, 99, 51, 55, 48, 52, 97, 49, 100, 98, 54, 52, 51, 50, 99, 57, 53, 102, 97, 98, 101, 49, 55, 54, 48, 56, 100] }
  | 6 => { data := #[52, 98, 50, 101, 102, 48, 56, 100, 51, 99, 57, 55, 53, 97, 54, 49, 100, 48, 98, 55, 52, 57, 49, 97, 101, 51, 53, 99, 50, 102, 56, 54, 49, 52, 98, 100, 99, 51, 55, 101, 97, 102, 54, 56, 48, 53, 57, 50, 54, 98, 100, 56, 49, 52, 97, 55, 57, 53, 48, 102, 101, 50, 51, 99] }
  | _ => { data := #[100, 50, 56, 52, 54, 102, 98, 49, 97, 57, 51, 101, 53, 48, 99, 55, 49, 102, 100, 56, 97, 51, 55, 52, 99, 53, 54, 98, 48, 101, 57, 50, 55, 98, 52, 49, 57, 99, 101, 50, 48, 54, 97, 100, 102, 51, 53, 56, 50, 49, 101, 55, 52, 97, 56, 100, 102, 99, 57, 48, 51, 53, 54, 98] }
def tblB (s : ByteArray) (size m : Nat) : Bool :=
  s.size == 2 * m && (List.range (2 * m)).all (fun i => decide (48 ≤ (s.get! i).toNat ∧ (s.get! i).toNat ≤ 57)) && (List.range m).all (fun i => decide (1 ≤ placeAt s i ∧ placeAt s i ≤ size))
theorem tbl_of {s : ByteArray} {size m : Nat} (h : tblB s size m = true) : Tbl s size m := by
  simp only [tblB, Bool.and_eq_true, beq_iff_eq] at h
  exact ⟨h.1.1, fun i hi => by simpa using List.all_eq_true.1 h.1.2 i (List.mem_range.2 hi), fun i hi => by simpa using List.all_eq_true.1 h.2 i (List.mem_range.2 hi)⟩
theorem tblIP : Tbl tabIP 64 64 := tbl_of (by kernel_rfl)
theorem tblPC1 : Tbl tabPC1 64 56 := tbl_of (by kernel_rfl)
theorem tblPC2 : Tbl tabPC2 56 48 := tbl_of (by kernel_rfl)
theorem tblP : Tbl tabP 32 32 := tbl_of (by kernel_rfl)
theorem fullIP : fullB tabIP = true := by kernel_rfl

/-- What des.box answers: a digit's value. -/
def hexN (v : Nat) : Nat := if 97 ≤ v then v - 87 else v - 48
def idxN (six : Nat) : Nat := ((six / 16 &&& 2) ||| (six &&& 1)) * 16 + (six / 2 &&& 15)
def boxN (i six : Nat) : Nat := hexN ((boxT i).get! (idxN six)).toNat
theorem boxT_ok : (List.range 8).all (fun i => (boxT i).size == 64 && (List.range 64).all fun j => decide ((48 ≤ ((boxT i).get! j).toNat ∧ ((boxT i).get! j).toNat ≤ 57) ∨ (97 ≤ ((boxT i).get! j).toNat ∧ ((boxT i).get! j).toNat ≤ 102))) = true := by kernel_rfl
theorem boxT_at (i : Nat) (hi : i < 8) : (boxT i).size = 64 ∧ ∀ j, j < 64 → (48 ≤ ((boxT i).get! j).toNat ∧ ((boxT i).get! j).toNat ≤ 57) ∨ (97 ≤ ((boxT i).get! j).toNat ∧ ((boxT i).get! j).toNat ≤ 102) := by
  have h := List.all_eq_true.1 boxT_ok i (List.mem_range.2 hi)
  simp only [Bool.and_eq_true, beq_iff_eq] at h
  exact ⟨h.1, fun j hj => by simpa using List.all_eq_true.1 h.2 j (List.mem_range.2 hj)⟩
theorem idxN_lt (six : Nat) (h : six < 64) : idxN six < 64 := by
  have a4 : six / 16 &&& 2 < 4 := Nat.and_lt_two_pow (n := 2) _ (by decide)
  have b2 : six &&& 1 < 2 := Nat.and_lt_two_pow (n := 1) _ (by decide)
  have c4 : (six / 16 &&& 2) ||| (six &&& 1) < 4 := Nat.or_lt_two_pow (n := 2) a4 (by omega)
  have d16 : six / 2 &&& 15 < 16 := Nat.and_lt_two_pow (n := 4) _ (by decide)
  unfold idxN
  omega
theorem boxN_lt (i six : Nat) (hi : i < 8) (hs : six < 64) : boxN i six < 16 := by
  have h := (boxT_at i hi).2 _ (idxN_lt six hs)
  unfold boxN hexN
  split <;> omega

theorem infoStr : (Tryd.prog.info? 9).map (·.size) = some 1 := by kernel_rfl
theorem run_index_box (i : Nat) (hi : i < 8) (w : World) :
    (Instr.index 151 (.agg #[.string (boxT 0), .string (boxT 1), .string (boxT 2), .string (boxT 3), .string (boxT 4), .string (boxT 5), .string (boxT 6), .string (boxT 7)]) (.int .i64 (i : Int))).run Tryd.prog w = .ok (.string (boxT i)) w := by
  have hq := infoStr
  cases hq2 : Tryd.prog.info? 9 with
  | none => rw [hq2] at hq; cases hq
  | some inf =>
    have hs : inf.size = 1 := by simpa [hq2] using hq
    have hi2 : (i : Int) < 8 := by omega
    have hv : (#[Value.string (boxT 0), .string (boxT 1), .string (boxT 2), .string (boxT 3), .string (boxT 4), .string (boxT 5), .string (boxT 6), .string (boxT 7)] : Array Value)[i]? = some (.string (boxT i)) := by
      have h8 : i = 0 ∨ i = 1 ∨ i = 2 ∨ i = 3 ∨ i = 4 ∨ i = 5 ∨ i = 6 ∨ i = 7 := by omega
      rcases h8 with rfl | rfl | rfl | rfl | rfl | rfl | rfl | rfl <;> rfl
    generalize (#[Value.string (boxT 0), .string (boxT 1), .string (boxT 2), .string (boxT 3), .string (boxT 4), .string (boxT 5), .string (boxT 6), .string (boxT 7)] : Array Value) = cs at *
    simp [Instr.index, asIntOf, run_underlying Tryd.underlying151, part, isAgg, run_underlying Tryd.underlying9, sizeOf, typeInfo, hq2, hs, hv, hi, hi2]

set_option maxRecDepth 100000 in
set_option maxHeartbeats 8000000 in
theorem box_any (i six : Nat) (hi : i < 8) (hs : six < 64) (w : World) :
    Calls Tryd.prog 78 #[.int .i64 i, .int .u64 six] w fun e w' => e = .returned (.int .u64 (boxN i six : Nat)) ∧ w = w' := by
  obtain ⟨a, ha⟩ : ∃ a : Nat, a = six / 16 &&& 2 := ⟨_, rfl⟩
  obtain ⟨b, hb⟩ : ∃ b : Nat, b = six &&& 1 := ⟨_, rfl⟩
  obtain ⟨c, hc⟩ : ∃ c : Nat, c = a ||| b := ⟨_, rfl⟩
  obtain ⟨d, hd⟩ : ∃ d : Nat, d = six / 2 &&& 15 := ⟨_, rfl⟩
  have a4 : a < 4 := by rw [ha]; exact Nat.and_lt_two_pow (n := 2) _ (by decide)
  have b2 : b < 2 := by rw [hb]; exact Nat.and_lt_two_pow (n := 1) _ (by decide)
  have c4 : c < 4 := by rw [hc]; exact Nat.or_lt_two_pow (n := 2) a4 (by omega)
  have d16 : d < 16 := by rw [hd]; exact Nat.and_lt_two_pow (n := 4) _ (by decide)
  have fa : bits .and .u64 ((six : Int) / 16) 2 = (a : Int) := by rw [ha]; exact and_u64 (six / 16) 2 (by omega) (by decide)
  have fb : bits .and .u64 (six : Int) 1 = (b : Int) := by rw [hb]; exact and_u64 six 1 (by omega) (by decide)
  have fc : bits .or .u64 (a : Int) (b : Int) = (c : Int) := by rw [hc]; exact or_u64 a b (by omega) (by omega)
  have fd : bits .and .u64 ((six : Int) / 2) 15 = (d : Int) := by rw [hd]; exact and_u64 (six / 2) 15 (by omega) (by decide)
  obtain ⟨j, hj⟩ : ∃ j : Nat, j = c * 16 + d := ⟨_, rfl⟩
  have j64 : j < 64 := by omega
  have hidx : idxN six = j := by rw [hj, hc, ha, hb, hd]; rfl
  have fj : (c : Int) * 16 + (d : Int) = (j : Int) := by omega
  have hv := (boxT_at i hi).2 j j64
  have hsz := (boxT_at i hi).1
  have hbn : Hd (boxN i six = hexN ((boxT i).get! j).toNat) := ⟨by rw [boxN, hidx]⟩
  have hget : ∀ h : j < (boxT i).size, (((boxT i)[j]'h).toNat : Int) = (((boxT i).get! j).toNat : Int) := fun h => by rw [get_bang _ _ h]
  generalize ((boxT i).get! j).toNat = v at *
  have hix := fun w => run_index_box i hi w
  rw [hbn.out]
  clear ha hb hc hd hj hidx hbn
  generalize boxT i = bt at *
  simp only [boxT] at hix
  by_cases h97 : 97 ≤ v
  · have hle : (97 : Int) ≤ (v : Int) := by omega
    have e1 : ((v : Int) - 97) % 256 = (v : Int) - 97 := by omega
    have e2 : Hd ((v : Int) - 97 + 10 = ((hexN v : Nat) : Int)) := ⟨by rw [hexN, if_pos h97]; omega⟩
    go_enter Tryd.func78, Tryd.ntmps78
    go_wp2
    go_ret
    rw [e2.out]
    exact ⟨rfl, rfl⟩
  · have hle : ¬ ((97 : Int) ≤ (v : Int)) := by omega
    have e1 : ((v : Int) - 48) % 256 = (v : Int) - 48 := by omega
    have e2 : Hd ((v : Int) - 48 = ((hexN v : Nat) : Int)) := ⟨by rw [hexN, if_neg h97]; omega⟩
    go_enter Tryd.func78, Tryd.ntmps78
    go_wp2
    go_ret
    rw [e2.out]
    exact ⟨rfl, rfl⟩
end Go.Proofs.YtommgcebjhkneaaDoor

/-
  des.Rounds: the sixteen round keys. Condition: eight bytes.
-/
import Derived.Test.YtommgcebjhkneaaDoorDes4
namespace Go.Proofs.YtommgcebjhkneaaDoor
open Go Go.RowKit
set_option linter.unusedVariables false
set_option linter.unusedSimpArgs false

def rotN (r : Nat) : Nat := if r = 0 ∨ r = 1 ∨ r = 8 ∨ r = 15 then 1 else 2
def cdN (x : Nat) : Nat → Nat × Nat
  | 0 => (x / 268435456, x % 268435456)
  | r + 1 => (turnN (cdN x r).1 (rotN r), turnN (cdN x r).2 (rotN r))
def rkN (x r : Nat) : Nat := permN tabPC2 56 ((cdN x (r + 1)).1 * 268435456 + (cdN x (r + 1)).2) 48
def rksTo (x : Nat) : Nat → List Int
  | 0 => List.replicate 16 0
  | k + 1 => (rksTo x k).set k (rkN x k : Nat)
theorem rksTo_length (x k : Nat) : (rksTo x k).length = 16 := by
  induction k with
  | zero => rfl
  | succ k ih => rw [rksTo, List.length_set, ih]
theorem rksTo_get (x : Nat) : ∀ (k j : Nat), j < k → k ≤ 16 → (rksTo x k)[j]? = some ((rkN x j : Nat) : Int)
  | 0, j, h, _ => by omega
  | k + 1, j, h, hk => by
    rw [rksTo, List.getElem?_set]
    by_cases hj : k = j
    · subst hj; rw [if_pos rfl, if_pos (by rw [rksTo_length]; omega)]
    · rw [if_neg hj]; exact rksTo_get x k j (by omega) (by omega)
theorem turnN_lt (x n : Nat) : turnN x n < 268435456 := Nat.mod_lt _ (by decide)
theorem cdN_lt (x : Nat) (hx : x < 2 ^ 56) (r : Nat) : (cdN x r).1 < 268435456 ∧ (cdN x r).2 < 268435456 := by
  cases r with
  | zero => exact ⟨by simp only [cdN]; omega, Nat.mod_lt _ (by decide)⟩
  | succ r => exact ⟨turnN_lt _ _, turnN_lt _ _⟩
theorem or_28 (c d : Nat) (hc : c < 268435456) (hd : d < 268435456) : bits .or .u64 ((c : Int) * 268435456) (d : Int) = ((c * 268435456 + d : Nat) : Int) := by
  have h2 := or_u64 (c * 268435456) d (by omega) (by omega)
  rw [show (c : Int) * 268435456 = ((c * 268435456 : Nat) : Int) by omega, h2]
  have h3 := Nat.two_pow_add_eq_or_of_lt (i := 28) (b := d) (by omega) c
  rw [show (2 : Nat) ^ 28 = 268435456 from rfl, Nat.mul_comm] at h3
  rw [h3]

set_option maxRecDepth 100000 in
set_option maxHeartbeats 2000000 in
theorem Rounds_any (xs : List Int) (hl : xs.length = 8) (hb : ∀ x ∈ xs, 0 ≤ x ∧ x ≤ 255) (w : World) :
    Calls Tryd.prog 58 #[.agg (bs xs).toArray] w fun e w' => e = .returned (.agg (ns .u64 (rksTo (permN tabPC1 64 (numTo xs 8) 56) 16)).toArray) ∧ Below w.heap.size w w' := by
  have HL := Hd.mk hl; have HB := Hd.mk hb
  clear hl hb
  obtain ⟨x, hx⟩ : ∃ x, Hd (permN tabPC1 64 (numTo xs 8) 56 = x) := ⟨_, ⟨rfl⟩⟩
  have hx56 : x < 2 ^ 56 := by rw [← hx.out]; exact permN_lt tabPC1 64 _ 56
  rw [hx.out]
  go_enter Tryd.func58, Tryd.ntmps58
  go_wp2_with (first
    | (refine box_arr rfl _ rfl rfl ?_; intro ga w1 h1 h2 h3 h4)
    | (have hh := h8; refine alloc_v zero16u rfl rfl ?_; intro gb w3 h9 h10 h11 h12)
    | (refine alloc_v zero16u rfl rfl ?_; intro gr w2 h5 h6 h7 h8)
    | (refine load_arr arr8 rfl _ rfl rfl ((h4.below h7 h2).below h11 (Nat.lt_of_lt_of_le h2 h7.size)) HL.out ?_)
    | (go_at_call 60; refine (number_any xs HL.out HB.out _).mono ?_; rintro e w4 ⟨rfl, h13⟩)
    | (go_at_call 59; refine (permute_any _ (num8_lt xs) 64 56 tabPC1 tblPC1 (by omega) (by omega) _).mono ?_; rintro e w5 ⟨rfl, q1, rfl⟩; rw [hx.out]; have m28 := and_28 x (by omega)))
  clear m28
  have s1 := h3.size; have s2 := h7.size; have s3 := h11.size; have s4 := h13.size
  have hY := Hd.mk ((h12.below h13 h10).drewN q1)
  have hR := Hd.mk (((h8.below h11 h6).below h13 (Nat.lt_of_lt_of_le h6 s3)).drewN q1)
  have hB := Hd.mk (below_drewN (((h3.trans (h7.mono s1)).trans (h11.mono (Nat.le_trans s1 s2))).trans (h13.mono (Nat.le_trans s1 (Nat.le_trans s2 s3)))) q1)
  have hg : Hd (w.heap.size ≤ gr ∧ gr < gb ∧ w.heap.size ≤ gb) := ⟨by omega, by omega, by omega⟩
  clear h1 h2 h3 h4 h5 h6 h7 h8 h9 h10 h11 h12 h13 hh s1 s2 s3 s4
  go_loopg [5, 6, 16] 17 (fun q v5 v6 v16 wr => ∃ (k : Nat), k ≤ 16 ∧ Hd (q + k = 17) ∧ v16 = .int .i64 k ∧ v5 = .int .u64 ((cdN x k).1 : Nat) ∧ v6 = .int .u64 ((cdN x k).2 : Nat) ∧ Hd (RowV wr gb 122 (ns .u64 (rksTo x k))) ∧ Hd (RowV wr gr 122 (ns .u64 (List.replicate 16 0))) ∧ Hd (Below w.heap.size w wr))
  case atStart => exact ⟨0, by omega, ⟨by omega⟩, rfl, by simp [cdN], by simp [cdN], hY, hR, hB⟩
  case round =>
    clear hY hR hB
    obtain ⟨k, hk, hq, rfl, rfl, rfl, hY, hR, hB⟩ := hrel
    by_cases hlt : k < 16
    · have hc0 := hY.out.cell k
      obtain ⟨z, hz⟩ : ∃ z, (ns .u64 (rksTo x k))[k]? = some z := ⟨_, List.getElem?_eq_getElem (by rw [ns_length, rksTo_length]; exact hlt)⟩
      rw [hz] at hc0
      have hf := hY.out.frozen k
      have hcd := cdN_lt x hx56 k
      have hn2 := cdN_lt x hx56 (k + 1)
      obtain ⟨c, hc⟩ : ∃ c, Hd ((cdN x k).1 = c) := ⟨_, ⟨rfl⟩⟩
      obtain ⟨d, hd⟩ : ∃ d, Hd ((cdN x k).2 = d) := ⟨_, ⟨rfl⟩⟩
      obtain ⟨c', hc'⟩ : ∃ c, Hd ((cdN x (k + 1)).1 = c) := ⟨_, ⟨rfl⟩⟩
      obtain ⟨d', hd'⟩ : ∃ d, Hd ((cdN x (k + 1)).2 = d) := ⟨_, ⟨rfl⟩⟩
      rw [hc.out, hd.out] at hcd
      rw [hc'.out, hd'.out] at hn2
      rw [hc.out, hd.out]
      have hor := or_28 c' d' hn2.1 hn2.2
      have hrk : Hd (permN tabPC2 56 (c' * 268435456 + d') 48 = rkN x k) := ⟨by rw [rkN, hc'.out, hd'.out]⟩
      have hv64 : Hd (c' * 268435456 + d' < 2 ^ 64) := ⟨by omega⟩
      have htc1 : Hd (∀ w, rotN k = 1 → Calls Tryd.prog 77 #[.int .u64 (c : Nat), .int .i64 1] w fun e w' => e = .returned (.int .u64 (c' : Nat)) ∧ ∃ k, w' = w.drewN k) := ⟨fun w hn => by
        rw [← hc'.out, cdN, hc.out, hn]; exact dturn_any c 1 hcd.1 (.inl rfl) w⟩
      have htc2 : Hd (∀ w, rotN k = 2 → Calls Tryd.prog 77 #[.int .u64 (c : Nat), .int .i64 2] w fun e w' => e = .returned (.int .u64 (c' : Nat)) ∧ ∃ k, w' = w.drewN k) := ⟨fun w hn => by
        rw [← hc'.out, cdN, hc.out, hn]; exact dturn_any c 2 hcd.1 (.inr rfl) w⟩
      have htd1 : Hd (∀ w, rotN k = 1 → Calls Tryd.prog 77 #[.int .u64 (d : Nat), .int .i64 1] w fun e w' => e = .returned (.int .u64 (d' : Nat)) ∧ ∃ k, w' = w.drewN k) := ⟨fun w hn => by
        rw [← hd'.out, cdN, hd.out, hn]; exact dturn_any d 1 hcd.2 (.inl rfl) w⟩
      have htd2 : Hd (∀ w, rotN k = 2 → Calls Tryd.prog 77 #[.int .u64 (d : Nat), .int .i64 2] w fun e w' => e = .returned (.int .u64 (d' : Nat)) ∧ ∃ k, w' = w.drewN k) := ⟨fun w hn => by
        rw [← hd'.out, cdN, hd.out, hn]; exact dturn_any d 2 hcd.2 (.inr rfl) w⟩
      have hcase : (∃ m : Nat, Hd (rotN k = 1) ∧ (k = 0 ∨ k = 1 ∨ k = 8 ∨ k = 15)) ∨ (Hd (rotN k = 2) ∧ k ≠ 0 ∧ k ≠ 1 ∧ k ≠ 8 ∧ k ≠ 15) := by
        by_cases h : k = 0 ∨ k = 1 ∨ k = 8 ∨ k = 15
        · exact .inl ⟨0, ⟨by rw [rotN, if_pos h]⟩, h⟩
        · exact .inr ⟨⟨by rw [rotN, if_neg h]⟩, by omega, by omega, by omega, by omega⟩
      clear hz
      have hbool : (Hd (rotN k = 1) ∧ ((k : Int) == 0) = true) ∨ (Hd (rotN k = 1) ∧ ((k : Int) == 0) = false ∧ ((k : Int) == 1) = true) ∨ (Hd (rotN k = 1) ∧ ((k : Int) == 0) = false ∧ ((k : Int) == 1) = false ∧ ((k : Int) == 8) = true) ∨
          (Hd (rotN k = 1) ∧ ((k : Int) == 0) = false ∧ ((k : Int) == 1) = false ∧ ((k : Int) == 8) = false ∧ ((k : Int) == 15) = true) ∨ (Hd (rotN k = 2) ∧ ((k : Int) == 0) = false ∧ ((k : Int) == 1) = false ∧ ((k : Int) == 8) = false ∧ ((k : Int) == 15) = false) := by
        simp only [beq_iff_eq, beq_eq_false_iff_ne, ne_eq]
        rcases hcase with ⟨_, h, h2⟩ | ⟨h, h2⟩
        · rcases h2 with h2 | h2 | h2 | h2
          · exact .inl ⟨h, by omega⟩
          · exact .inr (.inl ⟨h, by omega, by omega⟩)
          · exact .inr (.inr (.inl ⟨h, by omega, by omega, by omega⟩))
          · exact .inr (.inr (.inr (.inl ⟨h, by omega, by omega, by omega, by omega⟩)))
        · exact .inr (.inr (.inr (.inr ⟨h, by omega, by omega, by omega, by omega⟩)))
      clear hcase
      have hstep : Hd (∀ wr2 : World, RowV (wr2.setCell ⟨gb, k, none⟩ (.int .u64 ((rkN x k : Nat) : Int))) gb 122 ((ns .u64 (rksTo x k)).set k (.int .u64 ((rkN x k : Nat) : Int))) → RowV (wr2.setCell ⟨gb, k, none⟩ (.int .u64 ((rkN x k : Nat) : Int))) gb 122 (ns .u64 (rksTo x (k + 1)))) := ⟨fun wr2 h => by
        rw [rksTo, ns, List.map_set]; exact h⟩
      rcases hbool with ⟨hr, b0⟩ | ⟨hr, b0, b1⟩ | ⟨hr, b0, b1, b2⟩ | ⟨hr, b0, b1, b2, b3⟩ | ⟨hr, b0, b1, b2, b3⟩
      all_goals
        go_wp2_with (first
| (go_at_call 77; (with_reducible refine (htc1.out _ hr.out).mono ?_); rintro e w' ⟨rfl, q2, rfl⟩)
          | (go_at_call 77; (with_reducible refine (htc2.out _ hr.out).mono ?_); rintro e w' ⟨rfl, q2, rfl⟩)
          | (go_at_call 77; (with_reducible refine (htd1.out _ hr.out).mono ?_); rintro e w' ⟨rfl, q3, rfl⟩)
          | (go_at_call 77; (with_reducible refine (htd2.out _ hr.out).mono ?_); rintro e w' ⟨rfl, q3, rfl⟩)
          | (go_at_call 59; refine (permute_any _ hv64.out 56 48 tabPC2 tblPC2 (by omega) (by omega) _).mono ?_; rintro e w5 ⟨rfl, q4, rfl⟩; rw [hrk.out]))
        go_roundg (17 - (k + 1))
        case measure => have := hq.out; omega
        case rel =>
          refine ⟨k + 1, by omega, ⟨by omega⟩, by go_num, by rw [hc'.out], by rw [hd'.out], ⟨?_⟩, ⟨?_⟩, ⟨?_⟩⟩
          · exact hstep.out _ ((hY.out.drewN _).set_ k _)
          · exact (hR.out.drewN _).other (by show gr ≠ gb; have := hg.out.2.1; omega) _
          · exact (below_drewN hB.out _).setCell hg.out.2.2 _
    · obtain rfl : k = 16 := by omega
      have hlen : Hd ((ns .u64 (rksTo x 16)).length = 16) := ⟨by rw [ns_length, rksTo_length]⟩
      go_wp2_with (first
        | (refine load_v agg16u rfl _ rfl rfl hY.out hlen.out ?_)
        | (refine store_v agg16u rfl _ _ rfl rfl rfl hR.out (by simp [ns]) hlen.out (ns_one _ _) ?_; intro w5 j1 j2 j3))
      try simp only [Exit.inBlock, Exit.then]
      refine bodyPost_ret (results_v1 agg16u rfl _ rfl j3 hlen.out) rfl ⟨rfl, j1.to_below hB.out hg.out.1 hB.out.size⟩
end Go.Proofs.YtommgcebjhkneaaDoor

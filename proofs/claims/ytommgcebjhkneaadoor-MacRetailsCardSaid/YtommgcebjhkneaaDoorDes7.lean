/-
  des.parts: a key's three. Conditions: the key has 8, 16 or 24 bytes; it can be read.
-/
import Derived.Test.YtommgcebjhkneaaDoorDes6
import Derived.Test.YtommgcebjhkneaaDoorBlock2
namespace Go.Proofs.YtommgcebjhkneaaDoor
open Go Go.RowKit
set_option linter.unusedVariables false
set_option linter.unusedSimpArgs false

/-- A key's three parts, one behind the other. -/
def partsI (key : List Int) : List Int :=
  if key.length = 24 then key else if key.length = 16 then key ++ key.take 8 else key ++ List.replicate 16 0
theorem putAt_eq (ys : List Value) : ∀ (vs : List Value) (off : Nat), off + ys.length ≤ vs.length → putAt vs off ys = vs.take off ++ ys ++ vs.drop (off + ys.length) := by
  induction ys with
  | nil => intro vs off h; simp [putAt]
  | cons y ys ih =>
    intro vs off h
    simp only [List.length_cons] at h
    have h1 : (vs.set off y).take (off + 1) = vs.take off ++ [y] := by
      rw [List.take_add_one, List.take_set_of_le (Nat.le_refl _), List.getElem?_set_self (by omega)]; rfl
    rw [putAt, ih _ _ (by rw [List.length_set]; omega), h1, List.drop_set_of_lt (by omega), List.length_cons, show off + 1 + ys.length = off + (ys.length + 1) by omega]
    simp
theorem putAt_bs (xs ys : List Int) (off : Nat) (h : off + ys.length ≤ xs.length) : putAt (bs xs) off (bs ys) = bs (xs.take off ++ ys ++ xs.drop (off + ys.length)) := by
  rw [putAt_eq _ _ _ (by rw [bs_length, bs_length]; exact h), bs_length]
  simp [bs, List.map_take, List.map_drop]
theorem three (key : List Int) (h : key.length = 24) : ∃ A B C, key = A ++ (B ++ C) ∧ A.length = 8 ∧ B.length = 8 ∧ C.length = 8 :=
  ⟨key.take 8, (key.drop 8).take 8, key.drop 16, by rw [show key.drop 16 = (key.drop 8).drop 8 by rw [List.drop_drop], List.take_append_drop, List.take_append_drop], by simp [h], by simp [h], by simp [h]⟩
theorem two (key : List Int) (h : key.length = 16) : ∃ A B, key = A ++ B ∧ A.length = 8 ∧ B.length = 8 :=
  ⟨key.take 8, key.drop 8, by rw [List.take_append_drop], by simp [h], by simp [h]⟩
theorem parts24 (key : List Int) (h : key.length = 24) : putAt (putAt (putAt (bs (List.replicate 24 0)) 16 (bs (key.drop 16))) 8 (bs ((key.drop 8).take 8))) 0 (bs (key.take 8)) = bs (partsI key) := by
  obtain ⟨A, B, C, rfl, hA, hB, hC⟩ := three key h
  rw [partsI, if_pos h]
  have e1 : (A ++ (B ++ C)).drop 16 = C := by simp [List.drop_append, hA, hB, List.take_of_length_le]
  have e2 : ((A ++ (B ++ C)).drop 8).take 8 = B := by simp [List.drop_append, List.take_append, hA, hB]
  have e3 : (A ++ (B ++ C)).take 8 = A := by simp [List.take_append, hA]
  rw [e1, e2, e3, putAt_bs _ _ _ (by simp [hC]), putAt_bs _ _ _ (by simp [hB, hC]), putAt_bs _ _ _ (by simp [hA, hB, hC])]
  simp [List.take_append, List.drop_append, hA, hB, hC]
theorem parts16 (key : List Int) (h : key.length = 16) : putAt (putAt (putAt (bs (List.replicate 24 0)) 8 (bs ((key.drop 8).take 8))) 0 (bs (key.take 8))) 16 (bs (key.take 8)) = bs (partsI key) := by
  obtain ⟨A, B, rfl, hA, hB⟩ := two key h
  rw [partsI, if_neg (by omega), if_pos h]
  have e2 : ((A ++ B).drop 8).take 8 = B := by simp [List.drop_append, hA, hB, List.take_of_length_le]
  have e3 : (A ++ B).take 8 = A := by simp [List.take_append, hA]
  rw [e2, e3, putAt_bs _ _ _ (by simp [hB]), putAt_bs _ _ _ (by simp [hA, hB]), putAt_bs _ _ _ (by simp [hA, hB])]
  simp [List.take_append, List.drop_append, hA, hB, List.take_of_length_le, List.drop_of_length_le]
theorem parts16b (key : List Int) (h : key.length = 16) : bs (key.take 8) = ((putAt (putAt (bs (List.replicate 24 0)) 8 (bs ((key.drop 8).take 8))) 0 (bs (key.take 8))).drop 0).take 8 := by
  obtain ⟨A, B, rfl, hA, hB⟩ := two key h
  have e2 : ((A ++ B).drop 8).take 8 = B := by simp [List.drop_append, hA, hB, List.take_of_length_le]
  have e3 : (A ++ B).take 8 = A := by simp [List.take_append, hA]
  rw [e2, e3, putAt_bs _ _ _ (by simp [hB]), putAt_bs _ _ _ (by simp [hA, hB])]
  simp [bs, List.take_append, hA]
theorem parts8 (key : List Int) (h : key.length = 8) : putAt (bs (List.replicate 24 0)) 0 (bs (key.take 8)) = bs (partsI key) := by
  rw [partsI, if_neg (by omega), if_neg (by omega), List.take_of_length_le (by omega), putAt_bs _ _ _ (by simp [h])]
  simp [h]
theorem partsI_length (key : List Int) (h : key.length = 8 ∨ key.length = 16 ∨ key.length = 24) : (partsI key).length = 24 := by
  unfold partsI
  rcases h with h | h | h <;> simp [h]
theorem partsI_byt (key : List Int) (h : ∀ x ∈ key, 0 ≤ x ∧ x ≤ 255) : ∀ x ∈ partsI key, 0 ≤ x ∧ x ≤ 255 := by
  intro x hx
  unfold partsI at hx
  split at hx
  · exact h x hx
  · split at hx
    · rcases List.mem_append.1 hx with hx | hx
      · exact h x hx
      · exact h x (List.mem_of_mem_take hx)
    · rcases List.mem_append.1 hx with hx | hx
      · exact h x hx
      · have := List.eq_of_mem_replicate hx; omega

def RetParts (key : List Int) (w : World) (e : Ending) (w' : World) : Prop := e = .returned (.tuple #[.agg (bs (partsI key)).toArray, .bool true]) ∧ Below w.heap.size w w'

set_option maxRecDepth 100000 in
set_option maxHeartbeats 4000000 in
theorem parts_24 (ad : Addr) (c : Nat) (key : List Int) (w : World) (hk : key.length = 24) (hc : 24 ≤ c) (hr : Rd .u8 w (some ad) key) :
    Calls Tryd.prog 52 #[.slice (some ad) 24 c] w (RetParts key w) := by
  have HK := Hd.mk hk; have HR := Hd.mk hr
  have h3 := Hd.mk (hr.cut 16 c (by omega))
  have h2 := Hd.mk ((hr.cut 8 c (by omega)).take_ 8)
  have h1 := Hd.mk (hr.take_ 8)
  have n1 : ¬ (c = 16) := by omega
  have n2 : ¬ (c = 8) := by omega
  have c16 : 16 ≤ c := by omega
  have c8 : 8 ≤ c := by omega
  have hP := Hd.mk (parts24 key hk)
  have l3 : Hd ((key.drop 16).length = 8) := ⟨by simp [hk]⟩
  have l2 : Hd (((key.drop 8).take 8).length = 8) := ⟨by simp [hk]⟩
  have l1 : Hd ((key.take 8).length = 8) := ⟨by simp [hk]⟩
  rw [if_neg n1] at h3
  rw [if_neg n2] at h2
  simp only [Option.map_some] at h3 h2
  clear hk hr
  have ha := fun (A : Option Addr) (c : Nat) (w : World) => run_arrayAt (P := Tryd.prog) arr8 A 8 c (by omega) w
  go_enter Tryd.func52, Tryd.ntmps52
  go_wp2_with (first
    | (have hh := g4; refine alloc_v zero3x8 rfl rfl ?_; intro gb w2 g5 g6 g7 g8)
    | (refine alloc_v zero3x8 rfl rfl ?_; intro gr w1 g1 g2 g3 g4)
    | (refine load_rd arr8 rfl _ rfl _ rfl ((h3.out.below g3).below g7) l3.out ?_)
    | (refine store_part agg8 rfl _ _ rfl 16 rfl rfl g8 (by simp [bs]) (by rw [bs_length]; exact l3.out) (bs_oneV _) ?_; intro w3 g9 g10 g11)
    | (refine load_rd arr8 rfl _ rfl _ rfl (((h2.out.below g3).below g7).only g9 (fun ad' e => by cases e; have := h2.out.lt _ rfl (by rw [l2.out]; omega); have := g3.size; omega)) l2.out ?_)
    | (refine store_part agg8 rfl _ _ rfl 8 rfl rfl g11 (by rw [putAt_length]; simp [bs]) (by rw [bs_length]; exact l2.out) (bs_oneV _) ?_; intro w4 g12 g13 g14)
    | (refine load_rd arr8 rfl _ rfl _ rfl ((((h1.out.below g3).below g7).only g9 (fun ad' e => by cases e; have := h1.out.lt _ rfl (by rw [l1.out]; omega); have := g3.size; omega)).only g12 (fun ad' e => by cases e; have := h1.out.lt _ rfl (by rw [l1.out]; omega); have := g3.size; omega)) l1.out ?_)
    | (refine store_part agg8 rfl _ _ rfl 0 rfl rfl g14 (by rw [putAt_length, putAt_length]; simp [bs]) (by rw [bs_length]; exact l1.out) (bs_oneV _) ?_; intro w5 g15 g16 g17; rw [hP.out] at g17)
    | (refine load_v agg3x8 rfl _ rfl rfl g17 (by rw [bs_length, partsI_length key (.inr (.inr HK.out))]) ?_)
    | (refine store_v agg3x8 rfl _ _ rfl rfl rfl ((((g4.below g7 g2).only g9 (by omega)).only g12 (by omega)).only g15 (by omega)) (by simp [bs]) (by rw [bs_length, partsI_length key (.inr (.inr HK.out))]) (bs_oneV _) ?_; intro w6 g18 g19 g20))
  try simp only [Exit.inBlock, Exit.then]
  have b2 := g3.trans (g7.mono g3.size)
  have b5 := ((g9.trans g12).trans g15).to_below b2 (Nat.le_trans g3.size g5) b2.size
  refine bodyPost_ret (results_v agg3x8 rfl _ rfl g20 (by rw [bs_length, partsI_length key (.inr (.inr HK.out))])) rfl ⟨rfl, g18.to_below b5 g1 b5.size⟩

set_option maxRecDepth 100000 in
set_option maxHeartbeats 4000000 in
theorem parts_16 (ad : Addr) (c : Nat) (key : List Int) (w : World) (hk : key.length = 16) (hc : 16 ≤ c) (hr : Rd .u8 w (some ad) key) :
    Calls Tryd.prog 52 #[.slice (some ad) 16 c] w (RetParts key w) := by
  have HK := Hd.mk hk; have HR := Hd.mk hr
  have h2 := Hd.mk ((hr.cut 8 c (by omega)).take_ 8)
  have h1 := Hd.mk (hr.take_ 8)
  have hQ := Hd.mk (parts16b key hk)
  have n2 : ¬ (c = 8) := by omega
  have c16 : 16 ≤ c := by omega
  have c8 : 8 ≤ c := by omega
  have hP := Hd.mk (parts16 key hk)
  have l2 : Hd (((key.drop 8).take 8).length = 8) := ⟨by simp [hk]⟩
  have l1 : Hd ((key.take 8).length = 8) := ⟨by simp [hk]⟩
  rw [if_neg n2] at h2
  simp only [Option.map_some] at h2
  clear hk hr
  have ha := fun (A : Option Addr) (c : Nat) (w : World) => run_arrayAt (P := Tryd.prog) arr8 A 8 c (by omega) w
  go_enter Tryd.func52, Tryd.ntmps52
  go_wp2_with (first
    | (have hh := g4; refine alloc_v zero3x8 rfl rfl ?_; intro gb w2 g5 g6 g7 g8)
    | (refine alloc_v zero3x8 rfl rfl ?_; intro gr w1 g1 g2 g3 g4)
    | (refine load_rd arr8 rfl _ rfl _ rfl ((h2.out.below g3).below g7) l2.out ?_)
    | (refine store_part agg8 rfl _ _ rfl 8 rfl rfl g8 (by simp [bs]) (by rw [bs_length]; exact l2.out) (bs_oneV _) ?_; intro w4 g12 g13 g14)
    | (refine load_rd arr8 rfl _ rfl _ rfl (((h1.out.below g3).below g7).only g12 (fun ad' e => by cases e; have := h1.out.lt _ rfl (by rw [l1.out]; omega); have := g3.size; omega)) l1.out ?_)
    | (refine store_part agg8 rfl _ _ rfl 0 rfl rfl g14 (by rw [putAt_length]; simp [bs]) (by rw [bs_length]; exact l1.out) (bs_oneV _) ?_; intro w5 g15 g16 g17)
    | (refine load_part agg8 rfl _ rfl 0 rfl g17 _ hQ.out (by rw [bs_length]; exact l1.out) ?_)
    | (refine store_part agg8 rfl _ _ rfl 16 rfl rfl g17 (by rw [putAt_length, putAt_length]; simp [bs]) (by rw [bs_length]; exact l1.out) (bs_oneV _) ?_; intro w7 g21 g22 g23; rw [hP.out] at g23)
    | (refine load_v agg3x8 rfl _ rfl rfl g23 (by rw [bs_length, partsI_length key (.inr (.inl HK.out))]) ?_)
    | (refine store_v agg3x8 rfl _ _ rfl rfl rfl ((((g4.below g7 g2).only g12 (by omega)).only g15 (by omega)).only g21 (by omega)) (by simp [bs]) (by rw [bs_length, partsI_length key (.inr (.inl HK.out))]) (bs_oneV _) ?_; intro w6 g18 g19 g20))
  try simp only [Exit.inBlock, Exit.then]
  have b2 := g3.trans (g7.mono g3.size)
  have b5 := ((g12.trans g15).trans g21).to_below b2 (Nat.le_trans g3.size g5) b2.size
  refine bodyPost_ret (results_v agg3x8 rfl _ rfl g20 (by rw [bs_length, partsI_length key (.inr (.inl HK.out))])) rfl ⟨rfl, g18.to_below b5 g1 b5.size⟩

set_option maxRecDepth 100000 in
set_option maxHeartbeats 4000000 in
theorem parts_8 (ad : Addr) (c : Nat) (key : List Int) (w : World) (hk : key.length = 8) (hc : 8 ≤ c) (hr : Rd .u8 w (some ad) key) :
    Calls Tryd.prog 52 #[.slice (some ad) 8 c] w (RetParts key w) := by
  have HK := Hd.mk hk; have HR := Hd.mk hr
  have h1 := Hd.mk (hr.take_ 8)
  have c8 : 8 ≤ c := by omega
  have hP := Hd.mk (parts8 key hk)
  have l1 : Hd ((key.take 8).length = 8) := ⟨by simp [hk]⟩
  clear hk hr
  have ha := fun (A : Option Addr) (c : Nat) (w : World) => run_arrayAt (P := Tryd.prog) arr8 A 8 c (by omega) w
  go_enter Tryd.func52, Tryd.ntmps52
  go_wp2_with (first
    | (have hh := g4; refine alloc_v zero3x8 rfl rfl ?_; intro gb w2 g5 g6 g7 g8)
    | (refine alloc_v zero3x8 rfl rfl ?_; intro gr w1 g1 g2 g3 g4)
    | (refine load_rd arr8 rfl _ rfl _ rfl ((h1.out.below g3).below g7) l1.out ?_)
    | (refine store_part agg8 rfl _ _ rfl 0 rfl rfl g8 (by simp [bs]) (by rw [bs_length]; exact l1.out) (bs_oneV _) ?_; intro w5 g15 g16 g17; rw [hP.out] at g17)
    | (refine load_v agg3x8 rfl _ rfl rfl g17 (by rw [bs_length, partsI_length key (.inl HK.out)]) ?_)
    | (refine store_v agg3x8 rfl _ _ rfl rfl rfl ((g4.below g7 g2).only g15 (by omega)) (by simp [bs]) (by rw [bs_length, partsI_length key (.inl HK.out)]) (bs_oneV _) ?_; intro w6 g18 g19 g20))
  try simp only [Exit.inBlock, Exit.then]
  have b2 := g3.trans (g7.mono g3.size)
  have b5 := g15.to_below b2 (Nat.le_trans g3.size g5) b2.size
  refine bodyPost_ret (results_v agg3x8 rfl _ rfl g20 (by rw [bs_length, partsI_length key (.inl HK.out)])) rfl ⟨rfl, g18.to_below b5 g1 b5.size⟩

/-- A key of another length has no parts. -/
theorem parts_no (A : Option Addr) (n c : Nat) (w : World) (hn : n ≠ 8 ∧ n ≠ 16 ∧ n ≠ 24) :
    Calls Tryd.prog 52 #[.slice A n c] w fun e w' => e = .returned (.tuple #[.agg (bs (List.replicate 24 0)).toArray, .bool false]) ∧ Below w.heap.size w w' := by
  have n1 : ((n : Int) == 24) = false := by simp; omega
  have n2 : ((n : Int) == 16) = false := by simp; omega
  have n3 : ((n : Int) == 8) = false := by simp; omega
  go_enter Tryd.func52, Tryd.ntmps52
  go_wp2_with (first
    | (have hh := g4; refine alloc_v zero3x8 rfl rfl ?_; intro gb w2 g5 g6 g7 g8)
    | (refine alloc_v zero3x8 rfl rfl ?_; intro gr w1 g1 g2 g3 g4)
    | (refine load_v agg3x8 rfl _ rfl rfl g8 (by simp [bs]) ?_)
    | (refine store_v agg3x8 rfl _ _ rfl rfl rfl (g4.below g7 g2) (by simp [bs]) (by simp [bs]) (bs_oneV _) ?_; intro w6 g18 g19 g20))
  try simp only [Exit.inBlock, Exit.then]
  have b2 := g3.trans (g7.mono g3.size)
  refine bodyPost_ret (results_v agg3x8 rfl _ rfl g20 (by simp [bs])) rfl ⟨rfl, g18.to_below b2 g1 b2.size⟩
end Go.Proofs.YtommgcebjhkneaaDoor

/-
  des.Triple: a block enciphered, or deciphered, by TDES. Conditions: the key has 8, 16 or 24 bytes; it can be read; the block has eight bytes.
-/
import Derived.Test.YtommgcebjhkneaaDoorDes7
namespace Go.Proofs.YtommgcebjhkneaaDoor
open Go Go.RowKit
set_option linter.unusedVariables false
set_option linter.unusedSimpArgs false

def kpart (key : List Int) (i : Nat) : List Int := ((partsI key).drop (8 * i)).take 8
def tripleI (key : List Int) (back : Bool) (x : List Int) : List Int :=
  if key.length = 8 then desI (kpart key 0) back x
  else if back then desI (kpart key 0) true (desI (kpart key 1) false (desI (kpart key 2) true x))
  else desI (kpart key 2) false (desI (kpart key 1) true (desI (kpart key 0) false x))
theorem tripleI_length (key : List Int) (back : Bool) (x : List Int) : (tripleI key back x).length = 8 := by
  unfold tripleI
  split
  · exact desI_length _ _ _
  · split <;> exact desI_length _ _ _

section
variable {P : Program} {o : Oper} {a : Act} {C : World → Prop} {K : Act → Prop} {T n g : Nat} {t : TypeId} {vs : List Value}
theorem quiet_load_part (hT : AggT P T n) (x : Operand) (ho : o.op = .load T x) (off : Nat) (hx : a.eval x = .pointer (some ⟨g, off, none⟩)) (hr : ∀ w, C w → RowV w g t vs) (ys : List Value) (hys : ys = (vs.drop off).take n) (hl : ys.length = n)
    (h : K (a.put o.dst (.agg ys.toArray))) : o.quiet P a C K := by
  obtain ⟨d, hd, hd2⟩ := hT.desc
  refine ⟨_, fun w hw => ?_, h⟩
  have hrun : (execOp a.eval o).run P w = .ok (.value (.agg ys.toArray)) w := by
    have hl2 := run_loadVar_mid (P := P) w g off T ys d (fun j v hv => by
      rw [(hr w hw).cell]
      rw [hys, List.getElem?_take, List.getElem?_drop] at hv
      split at hv
      · exact hv
      · cases hv) hd hd2 (by rw [hT.size, hl])
    unfold execOp
    simp [ho, hx, Instr.loadAt, Instr.sureAddr, asAddr, hl2]
  unfold Oper.quietAt
  rw [hrun]
  exact ⟨rfl, rfl⟩
end

theorem parts_any (A : Option Addr) (n c : Nat) (key : List Int) (w : World) (hn : n = key.length) (hk : key.length = 8 ∨ key.length = 16 ∨ key.length = 24) (hc : n ≤ c) (hr : Rd .u8 w A key) :
    Calls Tryd.prog 52 #[.slice A n c] w (RetParts key w) := by
  obtain ⟨ad, rfl, _⟩ := hr.get 0 (by omega)
  subst hn
  rcases hk with hk | hk | hk
  · rw [hk] at hc ⊢; exact parts_8 ad c key w hk hc hr
  · rw [hk] at hc ⊢; exact parts_16 ad c key w hk hc hr
  · rw [hk] at hc ⊢; exact parts_24 ad c key w hk hc hr

theorem swap_parts (A B C : List Int) (hA : A.length = 8) (hB : B.length = 8) (hC : C.length = 8) : putAt (putAt (bs (A ++ (B ++ C))) 0 (bs C)) 16 (bs A) = bs (C ++ (B ++ A)) := by
  rw [putAt_bs _ _ _ (by simp [hA, hB, hC]), putAt_bs _ _ _ (by simp [hA, hB, hC])]
  simp [List.take_append, List.drop_append, hA, hB, hC, List.take_of_length_le, List.drop_of_length_le]
theorem part0 (A B C : List Int) (hA : A.length = 8) (hB : B.length = 8) (hC : C.length = 8) : bs A = ((bs (A ++ (B ++ C))).drop 0).take 8 := by
  simp [bs, List.take_append, hA, List.take_of_length_le]
theorem part1 (A B C : List Int) (hA : A.length = 8) (hB : B.length = 8) (hC : C.length = 8) : bs B = ((bs (A ++ (B ++ C))).drop 8).take 8 := by
  simp [bs, List.take_append, List.drop_append, hA, hB, hC, List.take_of_length_le, List.drop_of_length_le]
theorem part2 (A B C : List Int) (hA : A.length = 8) (hB : B.length = 8) (hC : C.length = 8) : bs C = ((bs (A ++ (B ++ C))).drop 16).take 8 := by
  simp [bs, List.take_append, List.drop_append, hA, hB, hC, List.take_of_length_le, List.drop_of_length_le]

set_option maxRecDepth 100000 in
set_option maxHeartbeats 4000000 in
theorem Triple_ok (back : Bool) (A : Option Addr) (n c : Nat) (key x : List Int) (w : World) (hn : n = key.length) (hk : key.length = 8 ∨ key.length = 16 ∨ key.length = 24) (hc : n ≤ c) (hkb : ∀ y ∈ key, 0 ≤ y ∧ y ≤ 255)
    (hr : Rd .u8 w A key) (hx : x.length = 8) (hxb : ∀ y ∈ x, 0 ≤ y ∧ y ≤ 255) :
    Calls Tryd.prog 40 #[.slice A n c, .agg (bs x).toArray, .bool back] w (ArrNil (tripleI key back x) w) := by
  have hP := Hd.mk (fun w hr => parts_any A n c key w hn hk hc hr)
  have HR := Hd.mk hr; have HX := Hd.mk hx
  obtain ⟨k0, k1, k2, hkk, h0, h1, h2⟩ := three (partsI key) (partsI_length key hk)
  have hpb := partsI_byt key hkb
  rw [hkk] at hpb
  have b0 : ∀ y ∈ k0, 0 ≤ y ∧ y ≤ 255 := fun y hy => hpb y (by simp [hy])
  have b1 : ∀ y ∈ k1, 0 ≤ y ∧ y ≤ 255 := fun y hy => hpb y (by simp [hy])
  have b2 : ∀ y ∈ k2, 0 ≤ y ∧ y ≤ 255 := fun y hy => hpb y (by simp [hy])
  have p0 : kpart key 0 = k0 := by rw [kpart, hkk]; simp [List.take_append, h0, List.take_of_length_le]
  have p1 : kpart key 1 = k1 := by rw [kpart, hkk]; simp [List.take_append, List.drop_append, h0, h1, List.take_of_length_le, List.drop_of_length_le]
  have p2 : kpart key 2 = k2 := by rw [kpart, hkk]; simp [List.take_append, List.drop_append, h0, h1, h2, List.take_of_length_le, List.drop_of_length_le]
  have hl24 : Hd ((bs (k0 ++ (k1 ++ k2))).length = 24) := ⟨by simp [bs, h0, h1, h2]⟩
  have q0 := Hd.mk (part0 k0 k1 k2 h0 h1 h2); have q1 := Hd.mk (part1 k0 k1 k2 h0 h1 h2); have q2 := Hd.mk (part2 k0 k1 k2 h0 h1 h2)
  have L0 : Hd ((bs k0).length = 8) := ⟨by rw [bs_length, h0]⟩
  have L1 : Hd ((bs k1).length = 8) := ⟨by rw [bs_length, h1]⟩
  have L2 : Hd ((bs k2).length = 8) := ⟨by rw [bs_length, h2]⟩
  have hParts : Hd (∀ w, Rd .u8 w A key → Calls Tryd.prog 52 #[.slice A n c] w fun e w' => e = .returned (.tuple #[.agg (bs (k0 ++ (k1 ++ k2))).toArray, .bool true]) ∧ Below w.heap.size w w') := ⟨fun w hr => by
    have := hP.out w hr; unfold RetParts at this; rw [hkk] at this; exact this⟩
  by_cases hk8 : key.length = 8
  · have n8 : n = 8 := by omega
    subst n8
    have hB : Hd (∀ w, Calls Tryd.prog 53 #[.agg (bs k0).toArray, .agg (bs x).toArray, .bool back] w fun e w' => e = .returned (.agg (bs (tripleI key back x)).toArray) ∧ Below w.heap.size w w') := ⟨fun w => by
      rw [tripleI, if_pos hk8, p0]; exact DesBlock_any k0 x back h0 b0 hx hxb w⟩
    have LT : Hd ((tripleI key back x).length = 8) := ⟨tripleI_length _ _ _⟩
    generalize tripleI key back x = E at *
    clear hr hx hxb hkk hpb b0 b1 b2 p0 p1 p2 h0 h1 h2 hn hk hkb hk8 hP
    go_enter Tryd.func40, Tryd.ntmps40
    go_wp2_with (first
      | (refine box_arr rfl _ rfl rfl ?_; intro gx w1 g1 g2 g3 g4)
      | (refine alloc_arr arr8 rfl rfl ?_; intro gr w2 g5 g6 g7 g8)
      | (go_at_call 52; refine (hParts.out _ ((HR.out.below g3).below g7)).mono ?_; rintro e w3 ⟨rfl, g9⟩)
      | (refine alloc_v zero3x8 rfl rfl ?_; intro gk w4 g10 g11 g12 g13)
      | (refine store_v agg3x8 rfl _ _ rfl rfl rfl g13 (by simp [bs]) hl24.out (bs_oneV _) ?_; intro w5 g14 g15 g16;
         have s1 := g3.size; have s2 := g7.size; have s3 := g9.size; have s4 := g12.size;
         have RX := Hd.mk ((((g4.below g7 g2).below g9 (by omega)).below g12 (by omega)).only g14 (by omega));
         have RR := Hd.mk (((g8.below g9 g6).below g12 (by omega)).only g14 (by omega)))
      | (refine load_part agg8 rfl _ rfl 0 rfl g16 _ q0.out L0.out ?_)
      | (refine load_arr arr8 rfl _ rfl rfl RX.out HX.out ?_)
      | (go_at_call 53; refine (hB.out _).mono ?_; rintro e w6 ⟨rfl, g17⟩)
      | (refine store_arr arr8 rfl _ _ rfl rfl rfl (RR.out.below g17 RR.out.lt) (by simp) LT.out ?_; intro w7 g18 g19 g20))
    try simp only [Exit.inBlock, Exit.then]
    have b4 := (((g3.trans (g7.mono s1)).trans (g9.mono (by omega))).trans (g12.mono (by omega)))
    have b6 := (g14.to_below b4 (by omega) (by omega)).trans (g17.mono (by omega))
    refine bodyPost_ret (results_arr arr8 rfl _ rfl g20 LT.out) rfl ⟨rfl, g18.to_below b6 (by omega) b6.size⟩
  · have n8 : ¬ (n = 8) := by omega
    have n8' : ((n : Int) == 8) = false := by simp; omega
    cases back with
    | false =>
      obtain ⟨E1, hE1⟩ : ∃ E, desI k0 false x = E := ⟨_, rfl⟩
      obtain ⟨E2, hE2⟩ : ∃ E, desI k1 true E1 = E := ⟨_, rfl⟩
      obtain ⟨E, hE⟩ : ∃ E, desI k2 false E2 = E := ⟨_, rfl⟩
      have hTE : tripleI key false x = E := by rw [tripleI, if_neg hk8, if_neg (by simp), p0, p1, p2, hE1, hE2, hE]
      have c1 : Hd (∀ w, Calls Tryd.prog 53 #[.agg (bs k0).toArray, .agg (bs x).toArray, .bool false] w fun e w' => e = .returned (.agg (bs E1).toArray) ∧ Below w.heap.size w w') := ⟨fun w => by rw [← hE1]; exact DesBlock_any k0 x false h0 b0 hx hxb w⟩
      have c2 : Hd (∀ w, Calls Tryd.prog 53 #[.agg (bs k1).toArray, .agg (bs E1).toArray, .bool true] w fun e w' => e = .returned (.agg (bs E2).toArray) ∧ Below w.heap.size w w') := ⟨fun w => by rw [← hE2]; exact DesBlock_any k1 E1 true h1 b1 (by rw [← hE1]; exact desI_length _ _ _) (by rw [← hE1]; exact bytes_byt _ _) w⟩
      have c3 : Hd (∀ w, Calls Tryd.prog 53 #[.agg (bs k2).toArray, .agg (bs E2).toArray, .bool false] w fun e w' => e = .returned (.agg (bs E).toArray) ∧ Below w.heap.size w w') := ⟨fun w => by rw [← hE]; exact DesBlock_any k2 E2 false h2 b2 (by rw [← hE2]; exact desI_length _ _ _) (by rw [← hE2]; exact bytes_byt _ _) w⟩
      have LT : Hd (E.length = 8) := ⟨by rw [← hE]; exact desI_length _ _ _⟩
      rw [hTE]
      clear hr hx hxb hkk hpb b0 b1 b2 p0 p1 p2 h0 h1 h2 hn hk hkb hk8 hP hE1 hE2 hE hTE
      go_enter Tryd.func40, Tryd.ntmps40
      go_wp2_with (first
        | (refine box_arr rfl _ rfl rfl ?_; intro gx w1 g1 g2 g3 g4)
        | (refine alloc_arr arr8 rfl rfl ?_; intro gr w2 g5 g6 g7 g8)
        | (go_at_call 52; refine (hParts.out _ ((HR.out.below g3).below g7)).mono ?_; rintro e w3 ⟨rfl, g9⟩)
        | (refine alloc_v zero3x8 rfl rfl ?_; intro gk w4 g10 g11 g12 g13)
        | (refine store_v agg3x8 rfl _ _ rfl rfl rfl g13 (by simp [bs]) hl24.out (bs_oneV _) ?_; intro w5 g14 g15 g16;
           have s1 := g3.size; have s2 := g7.size; have s3 := g9.size; have s4 := g12.size;
           have RX := Hd.mk ((((g4.below g7 g2).below g9 (by omega)).below g12 (by omega)).only g14 (by omega));
           have RR := Hd.mk (((g8.below g9 g6).below g12 (by omega)).only g14 (by omega))))
      have RK : Hd (∀ k : Cl w5, RowV k.v gk 112 (bs (k0 ++ (k1 ++ k2)))) := ⟨fun k => g16.below k.h g16.lt⟩
      have RX2 : Hd (∀ k : Cl w5, Row k.v gx 86 x) := ⟨fun k => RX.out.below k.h RX.out.lt⟩
      refine wp_region_lead_cl 14 (by kernel_rfl) (by kernel_rfl) ?_
      simp only [List.take_succ_cons, List.take_zero, List.drop_succ_cons, List.drop_zero]
      repeat (first
        | go_big_quiet_step ((first
            | (go_at_call 53; (with_reducible exact Cl.of (c1.out _)))
            | (go_at_call 53; (with_reducible exact Cl.of (c2.out _)))
            | (go_at_call 53; (with_reducible exact Cl.of (c3.out _)))))
        | (go_big_quiet_want; refine quiet_load_part agg8 _ rfl 16 rfl (fun w3 hw3 => by obtain ⟨k, rfl⟩ := hw3; exact RK.out k) _ q2.out L2.out ?_; go_big_quiet_on; simp only [Act.put, List.setIfInBounds_toArray, List.set_cons_succ, List.set_cons_zero])
        | (go_big_quiet_want; refine quiet_load_part agg8 _ rfl 8 rfl (fun w3 hw3 => by obtain ⟨k, rfl⟩ := hw3; exact RK.out k) _ q1.out L1.out ?_; go_big_quiet_on; simp only [Act.put, List.setIfInBounds_toArray, List.set_cons_succ, List.set_cons_zero])
        | (go_big_quiet_want; refine quiet_load_part agg8 _ rfl 0 rfl (fun w3 hw3 => by obtain ⟨k, rfl⟩ := hw3; exact RK.out k) _ q0.out L0.out ?_; go_big_quiet_on; simp only [Act.put, List.setIfInBounds_toArray, List.set_cons_succ, List.set_cons_zero])
        | (go_big_quiet_want; refine quiet_load_arr arr8 _ rfl rfl (fun w3 hw3 => by obtain ⟨k, rfl⟩ := hw3; exact RX2.out k) HX.out ?_; go_big_quiet_on; simp only [Act.put, List.setIfInBounds_toArray, List.set_cons_succ, List.set_cons_zero]))
      refine wpQuiet_nil ?_
      intro kc
      have b4 := (((g3.trans (g7.mono s1)).trans (g9.mono (by omega))).trans (g12.mono (by omega)))
      have b6 := (g14.to_below b4 (by omega) (by omega)).trans (kc.h.mono (by omega))
      go_wp2_with (first
        | (refine store_arr arr8 rfl _ _ rfl rfl rfl (RR.out.below kc.h RR.out.lt) (by simp) LT.out ?_; intro w7 g18 g19 g20))
      try simp only [Exit.inBlock, Exit.then]
      refine bodyPost_ret (results_arr arr8 rfl _ rfl g20 LT.out) rfl ⟨rfl, g18.to_below b6 (by omega) b6.size⟩
    | true =>
      obtain ⟨E1, hE1⟩ : ∃ E, desI k2 true x = E := ⟨_, rfl⟩
      obtain ⟨E2, hE2⟩ : ∃ E, desI k1 false E1 = E := ⟨_, rfl⟩
      obtain ⟨E, hE⟩ : ∃ E, desI k0 true E2 = E := ⟨_, rfl⟩
      have hTE : tripleI key true x = E := by rw [tripleI, if_neg hk8, if_pos rfl, p0, p1, p2, hE1, hE2, hE]
      have c1 : Hd (∀ w, Calls Tryd.prog 53 #[.agg (bs k2).toArray, .agg (bs x).toArray, .bool true] w fun e w' => e = .returned (.agg (bs E1).toArray) ∧ Below w.heap.size w w') := ⟨fun w => by rw [← hE1]; exact DesBlock_any k2 x true h2 b2 hx hxb w⟩
      have c2 : Hd (∀ w, Calls Tryd.prog 53 #[.agg (bs k1).toArray, .agg (bs E1).toArray, .bool false] w fun e w' => e = .returned (.agg (bs E2).toArray) ∧ Below w.heap.size w w') := ⟨fun w => by rw [← hE2]; exact DesBlock_any k1 E1 false h1 b1 (by rw [← hE1]; exact desI_length _ _ _) (by rw [← hE1]; exact bytes_byt _ _) w⟩
      have c3 : Hd (∀ w, Calls Tryd.prog 53 #[.agg (bs k0).toArray, .agg (bs E2).toArray, .bool true] w fun e w' => e = .returned (.agg (bs E).toArray) ∧ Below w.heap.size w w') := ⟨fun w => by rw [← hE]; exact DesBlock_any k0 E2 true h0 b0 (by rw [← hE2]; exact desI_length _ _ _) (by rw [← hE2]; exact bytes_byt _ _) w⟩
      have LT : Hd (E.length = 8) := ⟨by rw [← hE]; exact desI_length _ _ _⟩
      rw [hTE]
      have hSw := Hd.mk (swap_parts k0 k1 k2 h0 h1 h2)
      have r0 := Hd.mk (part0 k2 k1 k0 h2 h1 h0); have r1 := Hd.mk (part1 k2 k1 k0 h2 h1 h0); have r2 := Hd.mk (part2 k2 k1 k0 h2 h1 h0)
      clear hr hx hxb hkk hpb b0 b1 b2 p0 p1 p2 h0 h1 h2 hn hk hkb hk8 hP hE1 hE2 hE hTE
      go_enter Tryd.func40, Tryd.ntmps40
      go_wp2_with (first
        | (refine box_arr rfl _ rfl rfl ?_; intro gx w1 g1 g2 g3 g4)
        | (refine alloc_arr arr8 rfl rfl ?_; intro gr w2 g5 g6 g7 g8)
        | (go_at_call 52; refine (hParts.out _ ((HR.out.below g3).below g7)).mono ?_; rintro e w3 ⟨rfl, g9⟩)
        | (refine alloc_v zero3x8 rfl rfl ?_; intro gk w4 g10 g11 g12 g13)
        | (refine store_v agg3x8 rfl _ _ rfl rfl rfl g13 (by simp [bs]) hl24.out (bs_oneV _) ?_; intro w5 g14 g15 g16;
           have s1 := g3.size; have s2 := g7.size; have s3 := g9.size; have s4 := g12.size;
           have RX := Hd.mk ((((g4.below g7 g2).below g9 (by omega)).below g12 (by omega)).only g14 (by omega));
           have RR := Hd.mk (((g8.below g9 g6).below g12 (by omega)).only g14 (by omega)); have HG16 := Hd.mk g16)
        | (refine load_part agg8 rfl _ rfl 16 rfl HG16.out _ q2.out L2.out ?_)
        | (refine load_part agg8 rfl _ rfl 0 rfl HG16.out _ q0.out L0.out ?_)
        | (refine store_part agg8 rfl _ _ rfl 0 rfl rfl HG16.out (by rw [hl24.out]; decide) L2.out (bs_oneV _) ?_; intro w5a g21 g22 g23)
        | (refine store_part agg8 rfl _ _ rfl 16 rfl rfl g23 (by rw [putAt_length, hl24.out]; decide) L0.out (bs_oneV _) ?_; intro w5b g24 g25 g26; rw [hSw.out] at g26))
      have RK : Hd (∀ k : Cl w5b, RowV k.v gk 112 (bs (k2 ++ (k1 ++ k0)))) := ⟨fun k => g26.below k.h g26.lt⟩
      have oo := g21.trans g24
      have RX5 := Hd.mk (RX.out.only oo (by omega)); have RR5 := Hd.mk (RR.out.only oo (by omega))
      have RX2 : Hd (∀ k : Cl w5b, Row k.v gx 86 x) := ⟨fun k => RX5.out.below k.h RX5.out.lt⟩
      refine wp_region_lead_cl 14 (by kernel_rfl) (by kernel_rfl) ?_
      simp only [List.take_succ_cons, List.take_zero, List.drop_succ_cons, List.drop_zero, Act.put]
      repeat (first
        | go_big_quiet_step ((first
            | (go_at_call 53; (with_reducible exact Cl.of (c1.out _)))
            | (go_at_call 53; (with_reducible exact Cl.of (c2.out _)))
            | (go_at_call 53; (with_reducible exact Cl.of (c3.out _)))))
        | (go_big_quiet_want; refine quiet_load_part agg8 _ rfl 16 rfl (fun w3 hw3 => by obtain ⟨k, rfl⟩ := hw3; exact RK.out k) _ r2.out L0.out ?_; go_big_quiet_on; simp only [Act.put, List.setIfInBounds_toArray, List.set_cons_succ, List.set_cons_zero])
        | (go_big_quiet_want; refine quiet_load_part agg8 _ rfl 8 rfl (fun w3 hw3 => by obtain ⟨k, rfl⟩ := hw3; exact RK.out k) _ r1.out L1.out ?_; go_big_quiet_on; simp only [Act.put, List.setIfInBounds_toArray, List.set_cons_succ, List.set_cons_zero])
        | (go_big_quiet_want; refine quiet_load_part agg8 _ rfl 0 rfl (fun w3 hw3 => by obtain ⟨k, rfl⟩ := hw3; exact RK.out k) _ r0.out L2.out ?_; go_big_quiet_on; simp only [Act.put, List.setIfInBounds_toArray, List.set_cons_succ, List.set_cons_zero])
        | (go_big_quiet_want; refine quiet_load_arr arr8 _ rfl rfl (fun w3 hw3 => by obtain ⟨k, rfl⟩ := hw3; exact RX2.out k) HX.out ?_; go_big_quiet_on; simp only [Act.put, List.setIfInBounds_toArray, List.set_cons_succ, List.set_cons_zero]))
      refine wpQuiet_nil ?_
      intro kc
      have b4 := (((g3.trans (g7.mono s1)).trans (g9.mono (by omega))).trans (g12.mono (by omega)))
      have b6 := ((g14.trans oo).to_below b4 (by omega) (by omega)).trans (kc.h.mono (by have := oo.size; omega))
      go_wp2_with (first
        | (refine store_arr arr8 rfl _ _ rfl rfl rfl (RR5.out.below kc.h RR5.out.lt) (by simp) LT.out ?_; intro w7 g18 g19 g20))
      try simp only [Exit.inBlock, Exit.then]
      refine bodyPost_ret (results_arr arr8 rfl _ rfl g20 LT.out) rfl ⟨rfl, g18.to_below b6 (by omega) b6.size⟩
end Go.Proofs.YtommgcebjhkneaaDoor

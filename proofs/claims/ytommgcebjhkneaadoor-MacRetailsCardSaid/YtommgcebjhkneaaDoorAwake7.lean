/-
  lockboxlaw07.awake: the code of the empty text under a known key. Condition: errors.errorType holds what the program's text lays into it.
-/
import Derived.Test.YtommgcebjhkneaaDoorAwake6
import Derived.Test.YtommgcebjhkneaaDoorVal7
import Derived.Test.YtommgcebjhkneaaDoorMac3
import Derived.Test.YtommgcebjhkneaaDoorRef3b
namespace Go.Proofs.YtommgcebjhkneaaDoor
open Go Go.RowKit
set_option linter.unusedVariables false
set_option linter.unusedSimpArgs false
set_option maxRecDepth 100000

def vkK2 : List Int := [247, 221, 172, 48, 106, 226, 102, 204, 249, 11, 193, 30, 228, 109, 81, 59]
theorem vk_dbl : doubledI (doubledI vks0_10) = vkK2 := by kernel_rfl
theorem vk_part : part 0 16 = true := rfl
theorem vk_full : xTo (padI [] 16) vkK2 0 16 = vkin1 := by kernel_rfl
theorem vk_blk : xorI (blk 16 vkin1 0) (List.replicate 16 0) = vkin1 := by kernel_rfl
theorem vk_len : (padI [] 16).length = 16 := by kernel_rfl
theorem vk_zero : encI vkkey 4 (List.replicate 16 0) = vks0_10 := vkval0
theorem vk_cmac : (cmacI (encI vkkey 4) 16 []).take 4 = [187, 29, 105, 41] := by
  have hp : part ([] : List Int).length 16 = true := rfl
  rw [cmacI, macText, macTurn, macFull, if_pos hp, if_pos hp, vk_zero, vk_dbl, vk_len]
  show (lastF (encI vkkey 4) 16 (List.replicate 16 0) (xTo (padI [] 16) vkK2 0 16) 1).take 4 = _
  rw [vk_full]
  show (encI vkkey 4 (xorI (blk 16 vkin1 0) (List.replicate 16 0))).take 4 = _
  rw [vk_blk, vkval1]
  kernel_rfl

theorem vkkey_byt : Byt vkkey := by
  intro x hx
  have h : vkkey.all (fun x => decide (0 ≤ x ∧ x ≤ 255)) = true := by kernel_rfl
  simpa using List.all_eq_true.1 h x hx
def vkout : List Int := [187, 29, 105, 41]
theorem byt_nil : Byt [] := fun x hx => by cases hx

set_option maxHeartbeats 4000000 in
theorem awake7 (w : World) (hL : Laid w) :
    Calls Tryd.prog 18 #[] w fun e w' => e = .returned (.bool true) ∧ Below w.heap.size w w' := by
  have HL := Hd.mk hL
  have hk1 := Hd.mk (RowV.new w 5 (ns .u8 vkkey)).rd
  have hW1 : Hd (Below w.heap.size w (w.alloc (.cells (ns .u8 vkkey).toArray 5))) := ⟨(Below.refl _ _).alloc (Nat.le_refl _) _⟩
  have hF := Hd.mk (doAesE 4 (.inl rfl) vkkey none rfl)
  have cC : Hd (∀ w' B g, Ciph B w' g 1 vkkey none → Calls Tryd.prog 31 #[.pointer (some ⟨g, 0, none⟩), .slice none 0 0, .int .i64 4] w' (RetNewNil vkout w')) := ⟨fun w' B g h => by
    have h2 := Cmac_ok 16 B g 1 vkkey none _ hF.out none 0 0 [] 4 w' h rfl (by omega) Rd.nil (fun _ => rfl) byt_nil (by omega) (by omega)
    rw [vk_cmac] at h2; exact h2⟩
  have cR : Hd (∀ w', Rd .u8 w' (some ⟨w.heap.size, 0, none⟩) vkkey → Calls Tryd.prog 21 #[.slice (some ⟨w.heap.size, 0, none⟩) 16 16, .slice none 0 0, .int .i64 8] w' (RetNewNil ((retailI vkkey []).take 8) w')) := ⟨fun w' h =>
    Retail_ok ⟨w.heap.size, 0, none⟩ 16 vkkey rfl (by omega) none 0 0 [] 8 w' h vkkey_byt rfl (by omega) Rd.nil (fun _ => rfl) byt_nil (by omega) (by omega)⟩
  have hRl : Hd (((retailI vkkey []).take 8).length = 8) := ⟨by rw [List.length_take, retailI_length]; rfl⟩
  have cP : Hd (∀ w', Calls Tryd.prog 19 #[.slice none 0 0, .int .i64 8] w' (RetOwn (padI [] 8) w')) := ⟨fun w' => Pad_any none 0 0 [] 8 w' rfl Rd.nil (fun _ => rfl) (by omega) (by omega) (by omega)⟩
  generalize (retailI vkkey []).take 8 = RR at *
  clear hL
  go_enter Tryd.func18, Tryd.ntmps18
  go_wp2_with (first
    | (go_at_call 23; refine (New_ok 1 (.inl rfl) _ 16 _ vkkey none _ rfl rfl hk1.out (fun e => by cases e)).mono ?_; rintro e w2 ⟨gc, rfl, n1, n2, n3⟩;
       have N2 := Hd.mk n2; have N3 := Hd.mk (hW1.out.trans (n3.mono hW1.out.size)); have RK2 := Hd.mk (hk1.out.below n3); have XC := Hd.mk (cC.out w2 _ gc n2); clear n1 n2 n3)
    | (go_at_call 31; (with_reducible refine XC.out.mono ?_); intro e w3 hh; obtain ⟨A3, c3, rfl, a1, a2, a3, a4, a5, a6⟩ := hh.len 4 rfl;
       have B3 := Hd.mk (N3.out.trans (a6.mono N3.out.size)); have R3 := Hd.mk a3; have XR := Hd.mk (cR.out w3 (RK2.out.below a6)); clear a1 a2 a3 a4 a5 a6)
    | (go_at_call 21; (with_reducible refine XR.out.mono ?_); intro e w4 hh; obtain ⟨A4, c4, rfl, a1, a2, a3, a4, a5, a6⟩ := hh.len 8 hRl.out;
       have B4 := Hd.mk (B3.out.trans (a6.mono B3.out.size)); have R4 := Hd.mk (R3.out.below a6);
       have B5 := Hd.mk (B4.out.trans (((Below.refl _ _).alloc (Nat.le_refl _) (.cells (ns .u8 vkout).toArray 5) : Below w4.heap.size w4 (w4.alloc (.cells (ns .u8 vkout).toArray 5))).mono B4.out.size));
       have XS := Hd.mk (Same_true A3 (some ⟨w4.heap.size, 0, none⟩) 4 c3 4 4 vkout vkout (w4.alloc (.cells (ns .u8 vkout).toArray 5)) rfl rfl (by omega) (R4.out.below ((Below.refl _ _).alloc (Nat.le_refl _) _)) (RowV.new w4 5 (ns .u8 vkout)).rd rfl);
       clear a1 a2 a3 a4 a5 a6)
    | (go_at_call 11; (refine XS.out.mono ?_); rintro e w6 ⟨rfl, kq, rfl⟩; have B6 := Hd.mk (below_drewN B5.out kq))
    | (go_at_call 19; (with_reducible refine (cP.out _).mono ?_); intro e w7 hh; obtain ⟨A7, c7, rfl, p1, p2, p3, p4, p5⟩ := hh.len 8 rfl; have B7 := Hd.mk (B6.out.trans (p5.mono B6.out.size)); clear p1 p2 p3 p4 p5))
  go_ret
  exact ⟨rfl, B7.out⟩
end Go.Proofs.YtommgcebjhkneaaDoor

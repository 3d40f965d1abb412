/-
  des.Block: a block enciphered, or deciphered, by DES. Condition: eight bytes each.
-/
import Derived.Test.YtommgcebjhkneaaDoorDes5
namespace Go.Proofs.YtommgcebjhkneaaDoor
open Go Go.RowKit
set_option linter.unusedVariables false
set_option linter.unusedSimpArgs false

/-- The round functions of a key. -/
def rfN (K : Nat) (back : Bool) (i x : Nat) : Nat := mixN x (rkN K (if back then 15 - i else i))
def keyN (key : List Int) : Nat := permN tabPC1 64 (numTo key 8) 56
def desI (key : List Int) (back : Bool) (x : List Int) : List Int := bytesTo (blockG tabIP (rfN (keyN key) back) (numTo x 8)) 8
theorem desI_length (key : List Int) (back : Bool) (x : List Int) : (desI key back x).length = 8 := bytesTo_length _ _
theorem or_32 (c d : Nat) (hc : c < 2 ^ 32) (hd : d < 2 ^ 32) : bits .or .u64 ((c : Int) * 4294967296) (d : Int) = ((c * 4294967296 + d : Nat) : Int) := by
  have h2 := or_u64 (c * 4294967296) d (by omega) (by omega)
  rw [show (c : Int) * 4294967296 = ((c * 4294967296 : Nat) : Int) by omega, h2]
  have h3 := Nat.two_pow_add_eq_or_of_lt (i := 32) (b := d) (by omega) c
  rw [show (2 : Nat) ^ 32 = 4294967296 from rfl, Nat.mul_comm] at h3
  rw [h3]
theorem and_32 (y : Nat) (hy : y < 2 ^ 64) : bits .and .u64 (y : Int) 4294967295 = ((y % 4294967296 : Nat) : Int) := by
  have h := and_u64 y 4294967295 hy (by decide)
  rw [show ((4294967295 : Nat) : Int) = 4294967295 from rfl] at h
  rw [h, show (4294967295 : Nat) = 2 ^ 32 - 1 from rfl, Nat.and_two_pow_sub_one_eq_mod]

set_option maxRecDepth 100000 in
set_option maxHeartbeats 8000000 in
theorem DesBlock_any (key xs : List Int) (back : Bool) (hk : key.length = 8) (hkb : ∀ x ∈ key, 0 ≤ x ∧ x ≤ 255) (hl : xs.length = 8) (hb : ∀ x ∈ xs, 0 ≤ x ∧ x ≤ 255) (w : World) :
    Calls Tryd.prog 53 #[.agg (bs key).toArray, .agg (bs xs).toArray, .bool back] w fun e w' => e = .returned (.agg (bs (desI key back xs)).toArray) ∧ Below w.heap.size w w' := by
  have HK := Hd.mk hk; have HKB := Hd.mk hkb; have HL := Hd.mk hl; have HB := Hd.mk hb
  clear hk hkb hl hb
  obtain ⟨K, hK⟩ : ∃ K, Hd (permN tabPC1 64 (numTo key 8) 56 = K) := ⟨_, ⟨rfl⟩⟩
  obtain ⟨y, hy⟩ : ∃ y, Hd (permN tabIP 64 (numTo xs 8) 64 = y) := ⟨_, ⟨rfl⟩⟩
  have y64 : y < 2 ^ 64 := by rw [← hy.out]; exact permN_lt tabIP 64 _ 64
  have hks : Hd (∀ w, Calls Tryd.prog 58 #[.agg (bs key).toArray] w fun e w' => e = .returned (.agg (ns .u64 (rksTo K 16)).toArray) ∧ Below w.heap.size w w') := ⟨fun w => by rw [← hK.out]; exact Rounds_any key HK.out HKB.out w⟩
  have hlen16 : Hd ((ns .u64 (rksTo K 16)).length = 16) := ⟨by rw [ns_length, rksTo_length]⟩
  obtain ⟨f, hf⟩ : ∃ f, Hd (rfN K back = f) := ⟨_, ⟨rfl⟩⟩
  have hflt : Hd (∀ i x, f i x < 2 ^ 32) := ⟨fun i x => by rw [← hf.out]; exact mixN_lt _ _⟩
  obtain ⟨p, hp⟩ : ∃ p, Hd (feist f (y / 4294967296) (y % 4294967296) = p) := ⟨_, ⟨rfl⟩⟩
  have hplt : Hd (∀ i, (p i).1 < 2 ^ 32 ∧ (p i).2 < 2 ^ 32) := ⟨fun i => by rw [← hp.out]; exact feist_lt f hflt.out _ _ (by omega) (Nat.mod_lt _ (by decide)) i⟩
  have hres : Hd (desI key back xs = bytesTo (unpermN tabIP ((p 16).2 * 4294967296 + (p 16).1) 64) 8) := ⟨by
    rw [desI, blockG, keyN, hK.out, hy.out, hf.out, show (2 : Nat) ^ 32 = 4294967296 from rfl, hp.out]⟩
  rw [hres.out]
  have a32 := and_32 y y64
  go_enter Tryd.func53, Tryd.ntmps53
  go_wp2_with (first
    | (have hh := h4; refine box_arr rfl _ rfl rfl ?_; intro gx w2 h5 h6 h7 h8)
    | (refine box_arr rfl _ rfl rfl ?_; intro gk w1 h1 h2 h3 h4)
    | (refine alloc_arr arr8 rfl rfl ?_; intro gr w3 h9 h10 h11 h12)
    | (have hh2 := h13; refine load_arr arr8 rfl _ rfl rfl (((((h8.below h11 h6)).below h13 (Nat.lt_of_lt_of_le h6 h11.size)).below h16 (Nat.lt_of_lt_of_le h6 (Nat.le_trans h11.size h13.size))).only h18 (by have := h11.size; have := h13.size; omega)) HL.out ?_)
    | (refine load_arr arr8 rfl _ rfl rfl ((h4.below h7 h2).below h11 (Nat.lt_of_lt_of_le h2 h7.size)) HK.out ?_)
    | (go_at_call 58; refine (hks.out _).mono ?_; rintro e w4 ⟨rfl, h13⟩)
    | (refine alloc_v zero16u rfl rfl ?_; intro gs w5 h14 h15 h16 h17)
    | (refine store_v agg16u rfl _ _ rfl rfl rfl h17 (by simp [ns]) hlen16.out (ns_one _ _) ?_; intro w6 h18 h19 h20)
    | (go_at_call 60; refine (number_any xs HL.out HB.out _).mono ?_; rintro e w7 ⟨rfl, h21⟩)
    | (go_at_call 59; refine (permute_any _ (num8_lt xs) 64 64 tabIP tblIP (by omega) (by omega) _).mono ?_; rintro e w8 ⟨rfl, q1, rfl⟩; rw [hy.out]))
  have s1 := h3.size; have s2 := h7.size; have s3 := h11.size; have s4 := h13.size; have s5 := h16.size; have s7 := h21.size
  have hR := Hd.mk (((((h12.below h13 h10).below h16 (Nat.lt_of_lt_of_le h10 s4)).only h18 (by omega)).below h21 (by omega)).drewN q1)
  have hS := Hd.mk ((h20.below h21 (by omega)).drewN q1)
  have hB5 := (((h3.trans (h7.mono s1)).trans (h11.mono (Nat.le_trans s1 s2))).trans (h13.mono (by omega))).trans (h16.mono (by omega))
  have hB := Hd.mk (below_drewN ((h18.to_below hB5 (by omega) (by omega)).trans (h21.mono (by omega))) q1)
  have hg : Hd (w.heap.size ≤ gr ∧ gr < gs) := ⟨by omega, by omega⟩
  clear h1 h2 h3 h4 h5 h6 h7 h8 h9 h10 h11 h12 h13 h14 h15 h16 h17 h18 h19 h20 h21 hh hh2 s1 s2 s3 s4 s5 s7 hB5 a32
  have hW : Hd (∃ wr, wr = w7.drewN q1) := ⟨_, rfl⟩
  go_loopg [9, 10, 21] 17 (fun q v9 v10 v21 wr => ∃ (k n : Nat), k ≤ 16 ∧ Hd (q + k = 17) ∧ v21 = .int .i64 k ∧ v9 = .int .u64 ((p k).1 : Nat) ∧ v10 = .int .u64 ((p k).2 : Nat) ∧ Hd (wr = (w7.drewN q1).drewN n))
  case atStart =>
    have e1 : (p 0).1 = y / 4294967296 := by rw [← hp.out]; rfl
    have e2 : (p 0).2 = y % 4294967296 := by rw [← hp.out]; rfl
    exact ⟨0, 0, by omega, ⟨by omega⟩, rfl, by rw [e1]; simp, by rw [e2]; simp, ⟨rfl⟩⟩
  case round =>
    obtain ⟨k, n, hk, hq, rfl, rfl, rfl, hw⟩ := hrel
    obtain rfl := hw.out
    clear hw
    by_cases hlt : k < 16
    · obtain ⟨L, hLd⟩ : ∃ L, Hd ((p k).1 = L) := ⟨_, ⟨rfl⟩⟩
      obtain ⟨R, hRd⟩ : ∃ L, Hd ((p k).2 = L) := ⟨_, ⟨rfl⟩⟩
      have hlr : Hd (L < 2 ^ 32 ∧ R < 2 ^ 32) := ⟨by have := hplt.out k; rw [hLd.out, hRd.out] at this; exact this⟩
      have hnx : Hd ((p (k + 1)).1 = R ∧ (p (k + 1)).2 = L ^^^ f k R) := ⟨by rw [← hp.out, feist, hp.out, hLd.out, hRd.out]; exact ⟨rfl, rfl⟩⟩
      rw [hLd.out, hRd.out]
      have hkey : Hd (∀ r, rkN K r < 2 ^ 64) := ⟨fun r => Nat.lt_of_lt_of_le (permN_lt tabPC2 56 _ 48) (Nat.pow_le_pow_right (by decide) (by omega))⟩
      cases back with
      | false =>
        have hc : w7.cell? ⟨gs, k, none⟩ = _ := hS.out.cell k
        rw [ns, List.getElem?_map, rksTo_get K 16 k hlt (by omega), Option.map_some] at hc
        obtain ⟨kk, hkk⟩ : ∃ kk, Hd (rkN K k = kk) := ⟨_, ⟨rfl⟩⟩
        rw [hkk.out] at hc
        have hmx : Hd (mixN R kk = f k R) := ⟨by rw [← hf.out, ← hkk.out]; rfl⟩
        have k64 : Hd (kk < 2 ^ 64) := ⟨by rw [← hkk.out]; exact hkey.out k⟩
        go_wp2_with (first
          | (go_at_call 61; refine (mix_any R kk hlr.out.2 k64.out _).mono ?_; rintro e w' ⟨rfl, q2, rfl⟩; rw [hmx.out]; clear hc))
        have hval : Hd (bits .xor .u64 (L : Int) (f k R : Nat) = (((p (k + 1)).2 : Nat) : Int)) := ⟨by
          rw [hnx.out.2]; exact xor_u64 L (f k R) (by have := hlr.out.1; omega) (by have := hflt.out k R; omega)⟩
        go_roundg (17 - (k + 1))
        case measure => have := hq.out; omega
        case rel => exact ⟨k + 1, n + q2, by omega, ⟨by omega⟩, by go_num, by rw [hnx.out.1], by rw [hval.out], ⟨by simp only [World.drewN_drewN, Nat.add_assoc]⟩⟩
      | true =>
        have hc : w7.cell? ⟨gs, 15 - k, none⟩ = _ := hS.out.cell (15 - k)
        rw [ns, List.getElem?_map, rksTo_get K 16 (15 - k) (by omega) (by omega), Option.map_some] at hc
        obtain ⟨kk, hkk⟩ : ∃ kk, Hd (rkN K (15 - k) = kk) := ⟨_, ⟨rfl⟩⟩
        rw [hkk.out] at hc
        have hmx : Hd (mixN R kk = f k R) := ⟨by rw [← hf.out, ← hkk.out]; rfl⟩
        have k64 : Hd (kk < 2 ^ 64) := ⟨by rw [← hkk.out]; exact hkey.out _⟩
        have i1 : 0 ≤ 15 - (k : Int) := by omega
        have i2 : 15 - (k : Int) < 16 := by omega
        have i3 : (15 - (k : Int)).toNat = 15 - k := by omega
        go_wp2_with (first
          | (go_at_call 61; refine (mix_any R kk hlr.out.2 k64.out _).mono ?_; rintro e w' ⟨rfl, q2, rfl⟩; rw [hmx.out]; clear hc))
        have hval : Hd (bits .xor .u64 (L : Int) (f k R : Nat) = (((p (k + 1)).2 : Nat) : Int)) := ⟨by
          rw [hnx.out.2]; exact xor_u64 L (f k R) (by have := hlr.out.1; omega) (by have := hflt.out k R; omega)⟩
        go_roundg (17 - (k + 1))
        case measure => have := hq.out; omega
        case rel => exact ⟨k + 1, n + q2, by omega, ⟨by omega⟩, by go_num, by rw [hnx.out.1], by rw [hval.out], ⟨by simp only [World.drewN_drewN, Nat.add_assoc]⟩⟩
    · obtain rfl : k = 16 := by omega
      have hl2 := hplt.out 16
      obtain ⟨L, hLd⟩ : ∃ L, Hd ((p 16).1 = L) := ⟨_, ⟨rfl⟩⟩
      obtain ⟨R, hRd⟩ : ∃ L, Hd ((p 16).2 = L) := ⟨_, ⟨rfl⟩⟩
      rw [hLd.out, hRd.out] at hl2
      rw [hLd.out, hRd.out]
      have ho := or_32 R L hl2.2 hl2.1
      have h64 : Hd (R * 4294967296 + L < 2 ^ 64) := ⟨by omega⟩
      have h642 : Hd (unpermN tabIP (R * 4294967296 + L) 64 < 2 ^ 64) := ⟨unpermN_lt tabIP _ 64 tblIP.pl⟩
      have hb8 : Hd ((bytesTo (unpermN tabIP (R * 4294967296 + L) 64) 8).length = 8) := ⟨bytesTo_length _ _⟩
      go_wp2_with (first
        | (go_at_call 63; refine (unpermute_any _ h64.out 64 tabIP tblIP (by omega) _).mono ?_; rintro e w9 ⟨rfl, q3, rfl⟩; clear ho)
        | (go_at_call 62; refine (bytes_any _ h642.out _).mono ?_; rintro e w10 ⟨rfl, j0⟩; have J0 : Hd (Below w7.heap.size w7 w10) := ⟨⟨j0.os, j0.tape, j0.output, j0.size, j0.block⟩⟩; have hR10 := Hd.mk (Row.below (show Row w7 gr _ _ from hR.out) J0.out (show Row w7 gr _ _ from hR.out).lt))
        | (refine store_arr arr8 rfl _ _ rfl rfl rfl (hR10.out) (by simp) hb8.out ?_; intro w11 j1 j2 j3))
      try simp only [Exit.inBlock, Exit.then]
      have hB7 : Below w.heap.size w w7 := ⟨hB.out.os, hB.out.tape, hB.out.output, hB.out.size, hB.out.block⟩
      refine bodyPost_ret (results_arr1 arr8 rfl _ rfl j3 hb8.out) rfl ⟨by rw [hLd.out, hRd.out], j1.to_below (hB7.trans (J0.out.mono hB7.size)) hg.out.1 (Nat.le_trans hB7.size J0.out.size)⟩
end Go.Proofs.YtommgcebjhkneaaDoor

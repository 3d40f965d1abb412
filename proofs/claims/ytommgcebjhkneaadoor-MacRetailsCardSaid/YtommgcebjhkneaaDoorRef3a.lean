/-
  lockboxref03: bits out of bytes and back, bits moved by a table: walks, told by the bits' numbers. Conditions: tables name places that there are; slices can be read.
-/
import Derived.Test.YtommgcebjhkneaaDoorBits
import Derived.Test.YtommgcebjhkneaaDoorBlock2
import Derived.Test.YtommgcebjhkneaaDoorPush
namespace Go.Proofs.YtommgcebjhkneaaDoor
open Go Go.RowKit
set_option linter.unusedVariables false
set_option linter.unusedSimpArgs false

/-- What a function hands back that answers whole numbers of its own. -/
def RetInts (xs : List Int) (w : World) (e : Ending) (w' : World) : Prop := ∃ v, e = .returned v ∧ Own .i64 3 w' w.heap.size v xs ∧ Below w.heap.size w w'
theorem RetInts.len {xs : List Int} {w w' : World} {e : Ending} (h : RetInts xs w e w') (n : Nat) (hn : xs.length = n) (hp : 0 < n) :
    ∃ g c, e = .returned (.slice (some ⟨g, 0, none⟩) n c) ∧ Own .i64 3 w' w.heap.size (.slice (some ⟨g, 0, none⟩) n c) xs ∧ n ≤ c ∧ Rd .i64 w' (some ⟨g, 0, none⟩) xs ∧ w.heap.size ≤ g ∧ g < w'.heap.size ∧ Below w.heap.size w w' := by
  subst hn
  obtain ⟨v, rfl, h1, h2⟩ := h
  obtain ⟨g, c, rfl, k1, k2, k3⟩ := h1.form hp
  obtain ⟨A', c', e, _, _, r, _⟩ := h1.reads
  injection e with e1
  exact ⟨g, c, rfl, h1, k1, e1 ▸ r, k2, k3, h2⟩

set_option maxRecDepth 100000 in
set_option maxHeartbeats 1000000 in
theorem place_any (i m size : Nat) (s : ByteArray) (hT : Tbl s size m) (hi : i < m) (hm : m ≤ 64) (w : World) :
    Calls Tryd.prog 47 #[.string s, .int .i64 i] w fun e w' => e = .returned (.int .i64 (placeAt s i : Nat)) ∧ ∃ k, w' = w.drewN k := by
  have HT := Hd.mk hT
  have hlen : s.size = 2 * m := hT.len
  clear hT
  obtain ⟨a, ha⟩ : ∃ a, Hd (a = 2 * i) := ⟨_, ⟨rfl⟩⟩
  have b1 : a + 1 < s.size := by have := ha.out; omega
  have hd1 := HT.out.dig (2 * i) (by omega)
  have hd2 := HT.out.dig (2 * i + 1) (by omega)
  have b2 : (a : Int) < 2 * (m : Int) := by have := ha.out; omega
  have b3 : (a : Int) + 1 < 2 * (m : Int) := by have := ha.out; omega
  have b4 : 0 ≤ (a : Int) + 1 := by omega
  have f0 : IntKind.i64.wrap (2 * (i : Int)) = (a : Int) := by rw [wrap_id (by omega) (by omega)]; have := ha.out; omega
  have f9 : IntKind.i64.wrap ((a : Int) + 1) = (a : Int) + 1 := wrap_id (by omega) (by omega)
  have f8 : ((a : Int) + 1).toNat = a + 1 := by omega
  obtain ⟨A, hA⟩ : ∃ A : Nat, Hd ((s.get! (2 * i)).toNat = A) := ⟨_, ⟨rfl⟩⟩
  obtain ⟨B, hB⟩ : ∃ B : Nat, Hd ((s.get! (2 * i + 1)).toNat = B) := ⟨_, ⟨rfl⟩⟩
  rw [hA.out] at hd1
  rw [hB.out] at hd2
  have e5 : ∀ h : a < s.size, ((s[a]'h).toNat : Int) = (A : Int) := fun h => by
    have h1 := hA.out; have h2 := ha.out; subst h2
    rw [← h1, get_bang s _ h]
  have e6 : ∀ h : a + 1 < s.size, ((s[a + 1]'h).toNat : Int) = (B : Int) := fun h => by
    have h1 := hB.out; have h2 := ha.out; subst h2
    rw [← h1, get_bang s _ h]
  have f1 : ((A : Int) - 48) % 256 = (A : Int) - 48 := by omega
  have f2 : ((B : Int) - 48) % 256 = (B : Int) - 48 := by omega
  have hn2 : Hd (placeAt s i = (A - 48) * 10 + (B - 48)) := ⟨by rw [placeAt, hA.out, hB.out]⟩
  obtain ⟨n, hn⟩ : ∃ n : Nat, Hd (placeAt s i = n) := ⟨_, ⟨rfl⟩⟩
  have f3 : IntKind.i64.wrap (((A : Int) - 48) * 10) = ((A : Int) - 48) * 10 := wrap_id (by omega) (by omega)
  have f4 : IntKind.i64.wrap (((A : Int) - 48) * 10 + ((B : Int) - 48)) = (n : Int) := by rw [wrap_id (by omega) (by omega)]; have h1 := hn2.out; have h2 := hn.out; omega
  rw [hn.out]
  have f5 : ((A : Int) - 48) * 10 + ((B : Int) - 48) = (n : Int) := by have h1 := hn2.out; have h2 := hn.out; omega
  go_enter Tryd.func47, Tryd.ntmps47
  go_wp2
  go_quiet (fail)
  go_wp2
  go_ret
  exact ⟨rfl, _, rfl⟩

set_option maxRecDepth 100000 in
set_option maxHeartbeats 2000000 in
theorem permute3 (s : ByteArray) (size m x : Nat) (hT : Tbl s size m) (hm : m ≤ 64) (hsz : size ≤ 64) (A : Option Addr) (c : Nat) (w : World) (hr : Rd .i64 w A (bitsN x size)) :
    Calls Tryd.prog 44 #[.slice A size c, .string s] w (RetInts (bitsN (permN s size x m) m) w) := by
  have HT := Hd.mk hT; have HR := Hd.mk hr
  have hlen : s.size = 2 * m := hT.len
  have hdiv : (2 * (m : Int)).tdiv 2 = (m : Int) := by rw [Int.tdiv_eq_ediv_of_nonneg (by omega)]; omega
  clear hT hr
  obtain ⟨Y, hY⟩ : ∃ Y, Hd (permN s size x m = Y) := ⟨_, ⟨rfl⟩⟩
  rw [hY.out]
  go_enter Tryd.func44, Tryd.ntmps44
  go_wp2
  go_loopg [5, 6] (m + 1) (fun q v5 v6 wr => ∃ (k : Nat), k ≤ m ∧ Hd (q + k = m + 1) ∧ v6 = .int .i64 k ∧ Hd (Own .i64 3 wr w.heap.size v5 ((bitsN Y m).take k)) ∧ Hd (Below w.heap.size w wr))
  case atStart => exact ⟨0, by omega, ⟨by omega⟩, rfl, ⟨Own.nil _ _⟩, ⟨Below.refl _ _⟩⟩
  case round =>
    obtain ⟨k, hk, hq, rfl, hO, hB⟩ := hrel
    by_cases hlt : k < m
    · have hpl := HT.out.pl k hlt
      obtain ⟨p, hp⟩ : ∃ p, Hd (placeAt s k = p + 1) := ⟨placeAt s k - 1, ⟨by omega⟩⟩
      have hp2 : p < size := by have := hp.out; omega
      clear hpl
      obtain ⟨ad, eA, e1⟩ := (HR.out.below hB.out).get p (by rw [bitsN_length]; exact hp2)
      subst eA
      have hbit : Hd ((bitsN x size).getD p 0 = bitI Y (m - 1 - k)) := ⟨by
        rw [bitsN_getD x size p hp2, ← hY.out, permN_bitI s size x m k hlt, hp.out, show size - 1 - p = size - (p + 1) by omega]⟩
      rw [hbit.out] at e1
      generalize hy : bitI Y (m - 1 - k) = y at e1
      have HY := Hd.mk hy
      clear hy
      have hstep : Hd ((bitsN Y m).take (k + 1) = (bitsN Y m).take k ++ [y]) := ⟨by rw [bitsN_step Y m k hlt, HY.out]⟩
      have hl4 : Hd (((bitsN Y m).take k).length ≤ 64) := ⟨by rw [List.length_take, bitsN_length]; omega⟩
      have hpi : ((p + 1 : Nat) : Int) - 1 = (p : Int) := by omega
      have cP : Hd (Calls Tryd.prog 47 #[.string s, .int .i64 k] wr fun e w' => e = .returned (.int .i64 (p + 1 : Nat)) ∧ ∃ k, w' = wr.drewN k) := ⟨by rw [← hp.out]; exact place_any k m size s HT.out hlt hm wr⟩
      go_wp2_with (first
        | (go_at_call 47; (with_reducible refine cP.out.mono ?_); rintro e w' ⟨rfl, kq, rfl⟩)
        | (refine one_any slInt rfl _ rfl rfl ?_; intro g5 w5 h51 h52 h53)
        | (at_builtin; refine append_any slInt rfl _ _ rfl rfl ((hO.out.drewN kq).below h52) rfl rfl h53 (fun e => by cases e) (by have := hl4.out; simp only [List.length_cons, List.length_nil]; omega) (Nat.le_trans hB.out.size h52.size) ?_; intro v6 w6 h61 h62 h63))
      go_roundg (m + 1 - (k + 1))
      case measure => have := hq.out; omega
      case rel =>
        refine ⟨k + 1, by omega, ⟨by omega⟩, by go_num, ⟨?_⟩, ⟨?_⟩⟩
        · rw [hstep.out]; exact h61
        · exact h62.below ((below_drewN hB.out kq).trans (h52.mono hB.out.size)) (Nat.le_trans hB.out.size h52.size) (fun b6 hb6 => (((hO.out.drewN kq).below h52).lt b6 hb6).1)
    · obtain rfl : k = m := by omega
      have hv := hO.out
      rw [List.take_of_length_le (by rw [bitsN_length]; exact Nat.le_refl _)] at hv
      go_wp2
      go_ret
      exact ⟨_, rfl, hv, hB.out⟩

set_option maxRecDepth 100000 in
set_option maxHeartbeats 2000000 in
theorem Bits_any (A : Option Addr) (n c : Nat) (xs : List Int) (w : World) (hn : n = xs.length) (hn2 : n ≤ 1000) (hb : ∀ x ∈ xs, 0 ≤ x ∧ x ≤ 255) (hr : Rd .u8 w A xs) :
    Calls Tryd.prog 45 #[.slice A n c] w (RetInts (bitsN (numTo xs n) (8 * n)) w) := by
  have HN := Hd.mk hn; have HB := Hd.mk hb; have HR := Hd.mk hr
  clear hn hb hr
  go_enter Tryd.func45, Tryd.ntmps45
  go_wp2
  go_loopg [3, 4, 5] (n + 1) (fun q v3 v4 v5 wr => ∃ (k : Nat), k ≤ n ∧ Hd (q + k = n + 1) ∧ v4 = .int .i64 k ∧ Hd (Own .i64 3 wr w.heap.size v3 (bitsN (numTo xs k) (8 * k))) ∧ Hd (Below w.heap.size w wr))
  case atStart => exact ⟨0, by omega, ⟨by omega⟩, rfl, ⟨Own.nil _ _⟩, ⟨Below.refl _ _⟩⟩
  case round =>
    obtain ⟨k, hk, hq, rfl, hO, hB⟩ := hrel
    by_cases hlt : k < n
    · obtain ⟨ad, eA, e0⟩ := HR.out.get k (by have := HN.out; omega)
      subst eA
      have hk2 : k < xs.length := by have := HN.out; omega
      obtain ⟨b, hb⟩ : ∃ b : Nat, Hd (xs.getD k 0 = (b : Int) ∧ b < 256) := by
        have := HB.out (xs[k]) (List.getElem_mem hk2)
        refine ⟨(xs[k]).toNat, ?_, by omega⟩
        simp [List.getD, hk2]; omega
      have hstep : Hd (bitsN (numTo xs (k + 1)) (8 * (k + 1)) = bitsN (numTo xs k) (8 * k) ++ bitsN b 8) := ⟨by
        rw [num_bits xs k (by omega), hb.out.1, show (b : Int).toNat % 256 = b by have := hb.out.2; omega]⟩
      obtain ⟨X, hX⟩ : ∃ X, Hd (bitsN (numTo xs k) (8 * k) = X) := ⟨_, ⟨rfl⟩⟩
      have hXl : Hd (X.length = 8 * k) := ⟨by rw [← hX.out, bitsN_length]⟩
      rw [hX.out] at hO hstep
      clear e0 hk2
      go_wp2
      obtain ⟨wo, rfl⟩ : ∃ wo : World, wo = wr := ⟨_, rfl⟩
      go_loopg [3, 5] 9 (fun q v3 v5 wr => ∃ (j : Nat), j ≤ 8 ∧ Hd (q + j = 9) ∧ v5 = .int .i64 (7 - (j : Int)) ∧ Hd (Own .i64 3 wr w.heap.size v3 (X ++ (bitsN b 8).take j)) ∧ Hd (Below w.heap.size w wr))
      case atStart => exact ⟨0, by omega, ⟨by omega⟩, rfl, ⟨by simpa using hO.out⟩, hB⟩
      case round =>
        clear hO hB
        obtain ⟨j, hj, hqj, rfl, hO, hB⟩ := hrel
        by_cases hj8 : j < 8
        · obtain ⟨ad', eA, e1⟩ := (HR.out.below hB.out).get k (by have := HN.out; omega)
          cases eA
          rw [hb.out.1] at e1
          have t1 : 0 ≤ 7 - (j : Int) := by omega
          have t2 : (7 - (j : Int)).toNat = 7 - j := by omega
          have hb2 : b < 256 := hb.out.2
          have hbit : bits .and .i64 ((b : Int) / 2 ^ (7 - j)) 1 = bitI b (7 - j) := by
            rw [bitI_eq]
            have h : b / 2 ^ (7 - j) < 2 ^ 63 := Nat.lt_of_le_of_lt (Nat.div_le_self _ _) (by have := hb.out.2; omega)
            have h1 : ((b : Int) / 2 ^ (7 - j)) = ((b / 2 ^ (7 - j) : Nat) : Int) := by push_cast; rfl
            rw [h1]
            generalize b / 2 ^ (7 - j) = z at *
            show IntKind.i64.wrap ((BitVec.ofInt 64 (z : Int) &&& BitVec.ofInt 64 1).toNat : Int) = _
            rw [BitVec.toNat_and, ofInt_u64 z (by omega), show (BitVec.ofInt 64 1).toNat = 1 from rfl, Nat.and_one_is_mod, IntKind.wrap_i64]
            omega
          have hstep2 : Hd ((bitsN b 8).take (j + 1) = (bitsN b 8).take j ++ [bitI b (7 - j)]) := ⟨bitsN_step b 8 j hj8⟩
          have hl4 : Hd ((X ++ (bitsN b 8).take j).length ≤ 10000) := ⟨by rw [List.length_append, hXl.out, List.length_take]; omega⟩
          go_wp2_with (first
            | (refine one_any slInt rfl _ rfl rfl ?_; intro g5 w5 h51 h52 h53)
            | (at_builtin; refine append_any slInt rfl _ _ rfl rfl (hO.out.below h52) rfl rfl h53 (fun e => by cases e) (by have := hl4.out; simp only [List.length_cons, List.length_nil]; omega) (Nat.le_trans hB.out.size h52.size) ?_; intro v6 w6 h61 h62 h63))
          go_roundg (9 - (j + 1))
          case measure => have := hqj.out; omega
          case rel =>
            refine ⟨j + 1, by omega, ⟨by omega⟩, by go_num, ⟨?_⟩, ⟨?_⟩⟩
            · rw [hstep2.out, ← List.append_assoc]; exact h61
            · exact h62.below (hB.out.trans (h52.mono hB.out.size)) (Nat.le_trans hB.out.size h52.size) (fun b6 hb6 => ((hO.out.below h52).lt b6 hb6).1)
        · obtain rfl : j = 8 := by omega
          have t1 : ¬ (0 ≤ 7 - ((8 : Nat) : Int)) := by omega
          have hv := hO.out
          rw [List.take_of_length_le (by rw [bitsN_length]; exact Nat.le_refl _)] at hv
          have HV := Hd.mk hv
          clear hv
          go_wp2
          go_roundg (n + 1 - (k + 1))
          case measure => have := hq.out; omega
          case rel => exact ⟨k + 1, by omega, ⟨by omega⟩, by go_num, ⟨by rw [hstep.out]; exact HV.out⟩, hB⟩
    · obtain rfl : k = n := by omega
      have hv := hO.out
      go_wp2
      go_ret
      exact ⟨_, rfl, hv, hB.out⟩
end Go.Proofs.YtommgcebjhkneaaDoor

/-
  mode: a text's blocks, one after the other. Conditions: the text is of whole blocks, of at most a million bytes; what is called at each block answers as many bytes, and turns nothing but one variable of its own.
-/
import Derived.Test.YtommgcebjhkneaaDoorMode
namespace Go.Proofs.YtommgcebjhkneaaDoor
open Go Go.RowKit
set_option linter.unusedVariables false
set_option linter.unusedSimpArgs false

/-- Block number i of n bytes. -/
def blk (n : Nat) (xs : List Int) (i : Nat) : List Int := (xs.drop (n * i)).take n
def catTo (ys : Nat → List Int) : Nat → List Int
  | 0 => []
  | k + 1 => catTo ys k ++ ys k
theorem blk_length (n m : Nat) (xs : List Int) (h : xs.length = n * m) (i : Nat) (hi : i < m) : (blk n xs i).length = n := by
  have : n * i + n ≤ n * m := by rw [← Nat.mul_succ]; exact Nat.mul_le_mul_left n hi
  simp [blk, h]; omega
theorem catTo_length (ys : Nat → List Int) (n k : Nat) (h : ∀ i, i < k → (ys i).length = n) : (catTo ys k).length = n * k := by
  induction k with
  | zero => rfl
  | succ k ih => rw [catTo, List.length_append, ih (fun i hi => h i (by omega)), h k (by omega), Nat.mul_succ]

theorem blk_byt (n : Nat) (xs : List Int) (h : Byt xs) (i : Nat) : Byt (blk n xs i) := fun x hx => h x (List.mem_of_mem_drop (List.mem_of_mem_take hx))
/-- New bytes, no error; but for block gl nothing has changed. -/
def RetEach (gl : Nat) (xs : List Int) (w : World) (e : Ending) (w' : World) : Prop := ∃ v, e = .returned (.tuple #[v, .nilIface]) ∧ New w' w.heap.size v xs ∧ Only gl w w'

/-- What is called at a block. -/
def StepOk (f : FuncId) (caps : Array Value) (gl n m B : Nat) (xs : List Int) (ys : Nat → List Int) (Lst : Nat → World → Option Nat → Prop) : Prop :=
  ∀ i w1 ob ad1 c1, i < m → B ≤ w1.heap.size → Lst i w1 ob → (∀ b, ob = some b → B ≤ b) → Rd .u8 w1 (some ad1) (blk n xs i) → n ≤ c1 → ad1.block < B → ad1.block ≠ gl →
    Calls Tryd.prog f (#[.slice (some ad1) n c1] ++ caps) w1 fun e w2 => ∃ v, e = .returned (.tuple #[v, .nilIface]) ∧ New w2 w1.heap.size v (ys i) ∧ Lst (i + 1) w2 ob ∧ Only gl w1 w2
/-- What it holds stays, whatever else is written. -/
def Stays (Lst : Nat → World → Option Nat → Prop) : Prop :=
  ∀ i w1 w2 ob ob', Lst i w1 ob → w1.heap.size ≤ w2.heap.size → (∀ b, b < w1.heap.size → some b ≠ ob → w2.heap[b]? = w1.heap[b]?) → (ob' = ob ∨ ∃ b, ob' = some b ∧ w1.heap.size ≤ b) → (∀ b, ob' = some b → b < w2.heap.size) → Lst i w2 ob'

set_option maxRecDepth 100000 in
set_option maxHeartbeats 4000000 in
theorem each_ok (f : FuncId) (caps : Array Value) (gl n m : Nat) (A : Option Addr) (N c : Nat) (xs : List Int) (ys : Nat → List Int) (Lst : Nat → World → Option Nat → Prop) (w : World)
    (Bc gc : Nat) (kind : Int) (key : List Int) (bk : Option Addr) (hc : Ciph Bc w gc kind key bk) (hkn : (n : Int) = if kind = 2 then 8 else 16)
    (hN : N = xs.length) (hm : xs.length = n * m) (hN2 : N ≤ 1000000) (hcap : N ≤ c) (hr : Rd .u8 w A xs) (hA : ∀ ad, A = some ad → 0 < xs.length → ad.block ≠ gl) (hgl : gl < w.heap.size)
    (hys : ∀ i, i < m → (ys i).length = n) (h0 : Lst 0 w none) (hs : StepOk f caps gl n m w.heap.size xs ys Lst) (hst : Stays Lst)
    (hgo : ∀ args w, (callFunc f args).run Tryd.prog w = .ok (.enter f args) w) :
    Calls Tryd.prog 27 #[.pointer (some ⟨gc, 0, none⟩), .slice A N c, .func (.func f) #[] caps] w (RetEach gl (catTo ys m) w) := by
  have hn0 : n = 8 ∨ n = 16 := by split at hkn <;> omega
  have hS := Hd.mk (Size_any Bc gc w kind key bk hc)
  rw [← hkn] at hS
  have hNm : N = n * m := by omega
  have hrem : (N : Int).tmod (n : Int) = 0 := by
    rw [hNm]; push_cast; exact Int.mul_tmod_right _ _
  have HN := Hd.mk hN; have HM := Hd.mk hm; have HR := Hd.mk hr; have HA := Hd.mk hA; have HY := Hd.mk hys; have H0 := Hd.mk h0; have HS := Hd.mk hs; have HST := Hd.mk hst; have HNM := Hd.mk hNm
  have HG := Hd.mk hgl
  have hnz : ¬ ((n : Int) = 0) := by omega
  clear hN hm hr hA hys h0 hs hst hNm hc hkn hgl
  go_enter Tryd.func27, Tryd.ntmps27
  go_wp2_with (first
    | (go_at_call 15; refine hS.out.mono ?_; rintro e w' ⟨rfl, rfl⟩))
  clear hrem hnz
  go_loopg [9, 10, 11, 12] (m + 1) (fun q v9 v10 v11 v12 wr => ∃ (k kn : Nat), k ≤ m ∧ Hd (q + k = m + 1) ∧ v10 = .int .i64 kn ∧ Hd (kn = n * k) ∧ Hd (Own .u8 5 wr w.heap.size v9 (catTo ys k)) ∧ Hd (Only gl w wr) ∧ Hd (Lst k wr v9.ownBlock))
  case atStart => exact ⟨0, 0, by omega, ⟨by omega⟩, rfl, ⟨by simp⟩, ⟨Own.nil _ _⟩, ⟨Only.refl _ _⟩, H0⟩
  case round =>
    clear H0
    obtain ⟨k, kn, hk, hq, rfl, hkn, hO, hB, hL⟩ := hrel
    by_cases hlt : k < m
    · have hkn1 : kn + n ≤ N := by
        rw [hkn.out, HNM.out, ← Nat.mul_succ]; exact Nat.mul_le_mul_left n hlt
      have hcat : Hd ((catTo ys k).length = kn) := ⟨by rw [catTo_length ys n k (fun i hi => HY.out i (by omega)), hkn.out]⟩
      obtain ⟨ad, rfl⟩ : ∃ ad, A = some ad := by
        obtain ⟨ad, e, _⟩ := HR.out.get 0 (by have := HN.out; omega)
        exact ⟨ad, e⟩
      have hne : ¬ (c = kn) := by omega
      have e1 : (kn : Int) + n ≤ N := by omega
      have e2 : (kn : Int) < N := by omega
      have e3 : ((kn : Int) + n).toNat = kn + n := by omega
      have e4 : kn + n - kn = n := by omega
      have hpos : 0 < xs.length := by have := HN.out; omega
      have hblk : Hd (Rd .u8 wr (some (ad.add kn)) (blk n xs k)) := ⟨by
        have h := ((HR.out.only hB.out (fun ad e => HA.out ad e hpos)).cut kn c (by have := HN.out; omega)).take_ n
        rw [if_neg (by omega)] at h
        rw [blk, ← hkn.out]; exact h⟩
      have hadlt : Hd (ad.block < w.heap.size) := ⟨HR.out.lt ad rfl (by have := HN.out; omega)⟩
      have hbs : Hd (w.heap.size ≤ wr.heap.size) := ⟨hB.out.size⟩
      have hyl : Hd ((ys k).length = n) := ⟨HY.out k hlt⟩
      go_wp2_with (first
        | (refine (HS.out k _ _ _ _ hlt hbs.out hL.out (fun b hb => (hO.out.lt b hb).1) hblk.out (by omega) (by rw [block_add]; exact hadlt.out) (by rw [block_add]; exact HA.out _ rfl hpos)).mono ?_; rintro e w2 ⟨v, rfl, ⟨A2, c2, rfl, k1, k2, k3, k4⟩, h2, h3⟩)
        | (at_builtin; refine append_any slU8 rfl _ _ rfl rfl (hO.out.only h3 (fun e => by have := (hO.out.lt _ e).1; have := HG.out; omega)) rfl rfl k2 (fun _ e => k3 e) (by rw [hcat.out, hyl.out]; omega) (Nat.le_trans hbs.out h3.size) ?_; intro v6 w6 h61 h62 h63))
      go_roundg (m + 1 - (k + 1))
      case measure => have := hq.out; omega
      case rel =>
        refine ⟨k + 1, kn + n, by omega, ⟨by omega⟩, by go_num, ⟨by rw [hkn.out, Nat.mul_succ]⟩, ⟨h61⟩, ⟨h62.only (hB.out.trans h3) (fun b hb => (hO.out.lt b hb).1)⟩, ⟨HST.out _ _ _ _ _ h2 h62.size (fun b hb hne => h62.block b hb hne) h63 (fun b hb => (h61.lt b hb).2)⟩⟩
    · obtain rfl : k = m := by omega
      have e2 : ¬ ((kn : Int) < (N : Int)) := by have := hkn.out; have := HNM.out; omega
      have hv := hO.out
      go_wp2
      go_ret2
      exact ⟨_, rfl, New.of_own hv, hB.out⟩

set_option maxRecDepth 100000 in
theorem each_no (f : Value) (hf : (match f with | .agg _ => false | _ => true) = true) (n : Nat) (A : Option Addr) (N c : Nat) (w : World)
    (Bc gc : Nat) (kind : Int) (key : List Int) (bk : Option Addr) (hc : Ciph Bc w gc kind key bk) (hkn : (n : Int) = if kind = 2 then 8 else 16) (hN : N % n ≠ 0) :
    Calls Tryd.prog 27 #[.pointer (some ⟨gc, 0, none⟩), .slice A N c, f] w fun e w' => e = .returned (.tuple #[.slice none 0 0, errV (some 2)]) ∧ w = w' := by
  have hn0 : n = 8 ∨ n = 16 := by split at hkn <;> omega
  have hS := Hd.mk (Size_any Bc gc w kind key bk hc)
  rw [← hkn] at hS
  have hrem : ¬ ((N : Int).tmod (n : Int) = 0) := by rw [← Int.ofNat_tmod]; omega
  have hnz : ¬ ((n : Int) = 0) := by omega
  clear hc hkn
  go_enter Tryd.func27, Tryd.ntmps27
  go_wp2_with (first
    | (go_at_call 15; refine hS.out.mono ?_; rintro e w' ⟨rfl, rfl⟩))
  go_ret2
  exact ⟨rfl, rfl⟩
end Go.Proofs.YtommgcebjhkneaaDoor

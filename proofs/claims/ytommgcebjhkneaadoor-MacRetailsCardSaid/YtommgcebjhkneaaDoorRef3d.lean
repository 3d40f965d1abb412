/-
  lockboxref03.Keys: the sixteen round keys, as lists of bits. Condition: eight bytes that can be read.
-/
import Derived.Test.YtommgcebjhkneaaDoorOwnV
namespace Go.Proofs.YtommgcebjhkneaaDoor
open Go Go.RowKit
set_option linter.unusedVariables false
set_option linter.unusedSimpArgs false

section
variable {P : Program} {ops : Array Oper} {rest : List Oper} {o : Oper} {a : Act} {w w0 : World} {Q : Exit → Act → World → Prop} {T E base bytes g : Nat} {k : IntKind} {xs ys : List Int} {v : Value} {ad : Addr}
/-- append(v, x...) at one step of a region whose order is drawn; x is not empty. -/
theorem step_append (hT : SlT P T E k bytes) {Z : Prop} {K : Act → World → Prop} (hgd : o.guard = none) (s x : Operand) (ho : o.op = .call { callee := .builtin .append, args := #[s, x], argTypes := #[T, T] })
    (hs : a.eval s = v) (HO : Own k E w base v xs) {m c : Nat} (hx : a.eval x = .slice (some ad) m c) (hm : m = ys.length) (HR : Rd k w (some ad) ys) (h0 : 0 < m) (hl : xs.length + ys.length ≤ 1000000000) (hbase : base ≤ w.heap.size)
    (h : ∀ v1 w1, Own k E w1 base v1 (xs ++ ys) → Grow v w w1 → (v1.ownBlock = v.ownBlock ∨ ∃ b, v1.ownBlock = some b ∧ w.heap.size ≤ b) → K (a.put o.dst v1) w1) :
    if Region.wanted o (yielded ops a.tmps) = true then Oper.wp P o a w K Q else Z := by
  obtain ⟨i, hi, hzz⟩ := Option.map_eq_some_iff.1 hT.info
  simp only [Prod.mk.injEq] at hzz
  obtain ⟨hz, hsz, hby⟩ := hzz
  subst hm
  refine step_append_lies w hgd s x T ho base E i _ 1 bytes hT.und hi hz hsz hby rfl (by decide) v xs.length _ hs HO ad ys.length c (ys.map (Value.int k)) hx (by simp) ?_ ?_ h0 (by unfold maxLen; omega) ?_ hbase w.heap.size rfl ?_
  · intro j u hu
    have hj : j < ys.length := by
      have := (List.getElem?_eq_some_iff.1 hu).1
      simpa using this
    obtain ⟨ad', e, hc⟩ := HR.get j hj
    have : ad = ad' := Option.some.inj e
    subst this
    rw [hc]
    rw [map_get k ys j hj] at hu
    exact hu
  · intro u hu
    obtain ⟨y, _, rfl⟩ := List.mem_map.1 hu
    rfl
  · have := hT.pos
    calc (xs.length + ys.length) * bytes ≤ 1000000000 * 8 := Nat.mul_le_mul hl this.2
      _ ≤ 140737488355328 := by decide
  · intro g cap w1 hown hgrow hat _
    refine h _ w1 ?_ hgrow ?_
    · unfold Own; rw [List.length_append, List.map_append]; exact hown
    · rcases hat with hat | hat
      · exact .inl (by rw [hat]; rfl)
      · exact .inr ⟨g, rfl, by omega⟩
theorem one_v {u : Value} (hg : o.guard = none) (T E : TypeId) (x : Operand) (ho : o.op = .buildSlice T 1 #[(0, x)]) (hx : a.eval x = u) (h1 : u.cells = #[u])
    (hu : P.underlying T = some (.slice E)) (hsz : (P.info? E).map (·.size) = some 1) (hz : ((P.info? E).bind (·.zero)).isSome = true)
    (h : ∀ g w1, w.heap.size ≤ g → Below w.heap.size w w1 → RowV w1 g E [u] → wpList P ops Q rest (a.put o.dst (.slice (some ⟨g, 0, none⟩) 1 1)) w1) : wpList P ops Q (o :: rest) a w :=
  vals_any hg T E 1 _ ho [u] (fun v hv => by simp only [List.mem_singleton] at hv; subst hv; exact h1) hu hsz hz rfl (by decide) (by decide) (by simp [hx]) (fun g w1 m1 _ m3 m4 => h g w1 m1 m3 m4)
theorem own_empty (w : World) : Own k E (w.alloc (.cells #[] E)) w.heap.size (.slice (some ⟨w.heap.size, 0, none⟩) 0 0) [] :=
  ⟨rfl, .inr ⟨w.heap.size, 0, #[], rfl, Nat.le_refl _, heap_alloc_new w _, Nat.le_refl _, by decide, rfl, rfl⟩⟩
end
theorem infoSl : (Tryd.prog.info? 55).map (·.size) = some 1 ∧ ((Tryd.prog.info? 55).bind (·.zero)).isSome = true := by constructor <;> kernel_rfl
theorem emInt : ∃ i, Tryd.prog.underlying 55 = some (.slice 3) ∧ Tryd.prog.info? 3 = some i ∧ i.size = 1 := by
  obtain ⟨i, hi, hzz⟩ := Option.map_eq_some_iff.1 slInt.info
  simp only [Prod.mk.injEq] at hzz
  exact ⟨i, Tryd.underlying55, hi, hzz.2.1⟩

set_option maxRecDepth 100000 in
set_option maxHeartbeats 16000000 in
theorem Keys3 (key : List Int) (hkl : key.length = 8) (hkb : Byt key) (A : Option Addr) (c : Nat) (w : World) (hr : Rd .u8 w A key) :
    Calls Tryd.prog 43 #[.slice A 8 c] w (RetRows (fun j => bitsN (rkN (keyN key) j) 48) 16 48 w) := by
  have cB : Hd (Calls Tryd.prog 45 #[.slice A 8 c] w (RetInts (bitsN (numTo key 8) 64) w)) := ⟨Bits_any A 8 c key w hkl.symm (by omega) hkb hr⟩
  obtain ⟨K, hK⟩ : ∃ K, Hd (keyN key = K) := ⟨_, ⟨rfl⟩⟩
  have hK56 : Hd (K < 2 ^ 56) := ⟨by rw [← hK.out]; exact permN_lt tabPC1 64 _ 56⟩
  have cP : Hd (∀ w' A c, Rd .i64 w' A (bitsN (numTo key 8) 64) → Calls Tryd.prog 44 #[.slice A 64 c, .string tabPC1] w' (RetInts (bitsN K 56) w')) := ⟨fun w' A c h => by rw [← hK.out]; exact permute3 tabPC1 64 56 _ tblPC1 (by omega) (by omega) A c w' h⟩
  rw [hK.out]
  clear hr hkl hkb
  generalize numTo key 8 = X at *
  go_enter Tryd.func43, Tryd.ntmps43
  go_wp2_with (first
    | (go_at_call 45; (with_reducible refine cB.out.mono ?_); intro e w1 hh; obtain ⟨g1, c1, rfl, a1, a2, a3, a4, a5, a6⟩ := hh.len 64 (bitsN_length _ _) (by decide);
       have B1 := Hd.mk a6; have XP := Hd.mk (cP.out w1 (some ⟨g1, 0, none⟩) c1 a3); clear a1 a2 a3 a4 a5 a6)
    | (go_at_call 44; (refine XP.out.mono ?_); intro e w2 hh; obtain ⟨g2, c2, rfl, a1, a2, a3, a4, a5, a6⟩ := hh.len 56 (bitsN_length _ _) (by decide);
       have B2 := Hd.mk (B1.out.trans (a6.mono B1.out.size)); have RL := Hd.mk a3; have h56 : 56 ≤ c2 := a2; have hc28 : ¬ (c2 = 28) := by omega;
       clear a1 a2 a3 a4 a5 a6))
  have RL1 : Hd (Rd .i64 w2 (some ⟨g2, 0, none⟩) (bitsN (cdN K 0).1 28)) := ⟨by
    have h := RL.out.take_ 28
    rw [show (56 : Nat) = 28 + 28 from rfl, bitsN_take] at h; exact h⟩
  have RL2 : Hd (Rd .i64 w2 (some ⟨g2, 28, none⟩) (bitsN (cdN K 0).2 28)) := ⟨by
    have h := RL.out.cut 28 c2 (by rw [bitsN_length]; exact h56)
    rw [if_neg hc28, show (56 : Nat) = 28 + 28 from rfl, bitsN_drop] at h; exact h⟩
  have h28 : 28 ≤ c2 - 28 := by omega
  clear RL cB cP XP B1
  go_loopg [4, 5, 6, 7] 17 (fun q v4 v5 v6 v7 wr => ∃ (k g4 o4 c4 g5 o5 c5 : Nat) (vs : List Value), k ≤ 16 ∧ Hd (q + k = 17) ∧ v7 = .int .i64 (k + 1 : Nat) ∧ v4 = .slice (some ⟨g4, o4, none⟩) 28 c4 ∧ v5 = .slice (some ⟨g5, o5, none⟩) 28 c5 ∧ 28 ≤ c4 ∧ 28 ≤ c5 ∧
    Hd (Rd .i64 wr (some ⟨g4, o4, none⟩) (bitsN (cdN K k).1 28)) ∧ Hd (Rd .i64 wr (some ⟨g5, o5, none⟩) (bitsN (cdN K k).2 28)) ∧ Hd (OwnV 55 wr w.heap.size v6 vs) ∧ Hd (RowsOf wr (fun j => bitsN (rkN K j) 48) k 48 vs) ∧ Hd (Below w.heap.size w wr))
  case atStart => exact ⟨0, g2, 0, c2, g2, 28, c2 - 28, [], by omega, ⟨by omega⟩, rfl, rfl, rfl, by omega, h28, RL1, RL2, ⟨OwnV.nil _ _⟩, ⟨RowsOf.nil _ _ _⟩, B2⟩
  case round =>
    clear RL1 RL2 B2 h28 hc28 h56
    obtain ⟨k, g4, o4, c4, g5, o5, c5, vs, hk, hq, rfl, rfl, rfl, hc4, hc5, R4, R5, hO, hRs, hB⟩ := hrel
    by_cases hlt : k < 16
    · obtain ⟨C, hC⟩ : ∃ C, Hd ((cdN K k).1 = C) := ⟨_, ⟨rfl⟩⟩
      obtain ⟨D, hD⟩ : ∃ D, Hd ((cdN K k).2 = D) := ⟨_, ⟨rfl⟩⟩
      have hCl : Hd (C < 2 ^ 28 ∧ D < 2 ^ 28) := ⟨by rw [← hC.out, ← hD.out]; exact cdN_lt K hK56.out k⟩
      obtain ⟨kk, hkk⟩ : ∃ kk, Hd (kk = k + 1) := ⟨_, ⟨rfl⟩⟩
      have hkk16 : kk ≤ 16 := by have := hkk.out; omega
      rw [hC.out] at R4
      rw [hD.out] at R5
      rw [← hkk.out]
      have nc1 : ¬ (c4 = 1) := by omega
      have nc2 : ¬ (c4 = 2) := by omega
      have nc3 : ¬ (c5 = 1) := by omega
      have nc4 : ¬ (c5 = 2) := by omega
      have nc5 : 1 ≤ c4 := by omega
      have nc6 : 2 ≤ c4 := by omega
      have nc7 : 1 ≤ c5 := by omega
      have nc8 : 2 ≤ c5 := by omega
      have nd5 : (1 : Int) ≤ (c4 : Int) := by omega
      have nd6 : (2 : Int) ≤ (c4 : Int) := by omega
      have nd7 : (1 : Int) ≤ (c5 : Int) := by omega
      have nd8 : (2 : Int) ≤ (c5 : Int) := by omega
      have hcase : (rotN k = 1 ∧ (kk = 1 ∨ kk = 2 ∨ kk = 9 ∨ kk = 16)) ∨ (rotN k = 2 ∧ kk ≠ 1 ∧ kk ≠ 2 ∧ kk ≠ 9 ∧ kk ≠ 16) := by
        have := hkk.out
        unfold rotN
        by_cases h : k = 0 ∨ k = 1 ∨ k = 8 ∨ k = 15
        · left; rw [if_pos h]; exact ⟨rfl, by omega⟩
        · right; rw [if_neg h]; exact ⟨rfl, by omega, by omega, by omega, by omega⟩
      rcases hcase with ⟨hn, hkc⟩ | ⟨hn, n1, n2, n3, n4⟩
      · have HN := Hd.mk hn
        clear hn
        rcases hkc with rfl | rfl | rfl | rfl
        all_goals
          have hnn : Hd (1 = 1 ∨ 1 = 2) := ⟨by decide⟩
          obtain ⟨pT, hpT⟩ : ∃ T, Hd (turnN C 1 = T) := ⟨_, ⟨rfl⟩⟩
          obtain ⟨qT, hqT⟩ : ∃ T, Hd (turnN D 1 = T) := ⟨_, ⟨rfl⟩⟩
          have prot : Hd ((bitsN C 28).drop 1 ++ (bitsN C 28).take 1 = bitsN pT 28) := ⟨by rw [← hpT.out]; exact rot_bits C 1 hCl.out.1 hnn.out⟩
          have qrot : Hd ((bitsN D 28).drop 1 ++ (bitsN D 28).take 1 = bitsN qT 28) := ⟨by rw [← hqT.out]; exact rot_bits D 1 hCl.out.2 hnn.out⟩
          have hqlt : Hd (qT < 2 ^ 28) := ⟨by rw [← hqT.out]; exact turnN_lt D 1⟩
          have hnext : Hd ((cdN K (k + 1)).1 = pT ∧ (cdN K (k + 1)).2 = qT) := ⟨by rw [cdN, HN.out, hC.out, hpT.out], by rw [cdN, HN.out, hD.out, hqT.out]⟩
          have hrk : Hd (permN tabPC2 56 (pT * 2 ^ 28 + qT) 48 = rkN K k) := ⟨by rw [rkN, hnext.out.1, hnext.out.2]⟩
          clear hpT hqT
          have pR : Hd (Rd .i64 wr (some ⟨g4, o4 + 1, none⟩) ((bitsN C 28).drop 1)) := ⟨by
            have h := R4.out.cut 1 c4 (by rw [bitsN_length]; exact hc4)
            rw [if_neg nc1] at h; exact h⟩
          have pl : Hd (((bitsN C 28).drop 1).length = 27 ∧ ((bitsN C 28).take 1).length = 1) := ⟨by simp [bitsN_length]⟩
          have pE : Hd (Own .i64 3 (wr.alloc (.cells #[] 3)).drew wr.heap.size (.slice (some ⟨wr.heap.size, 0, none⟩) 0 0) []) := ⟨Own.drew (own_empty wr)⟩
          have pB : Hd (Below wr.heap.size wr (wr.alloc (.cells #[] 3)).drew) := ⟨below_drewN ((Below.refl _ _).alloc (Nat.le_refl _) _) 1⟩
          have pL : Hd (g4 < wr.heap.size) := ⟨R4.out.lt _ rfl (by rw [bitsN_length]; decide)⟩
          have pN : Hd ((Value.slice (some ⟨wr.heap.size, 0, none⟩) 0 0).ownBlock ≠ some g4) := ⟨fun e2 => by have := pL.out; have e3 : some wr.heap.size = some g4 := e2; injection e3 with e3; omega⟩
          go_wp2
          go_region_held3 (fun _ => True) (trivial) (first
            | (refine step_append slInt rfl _ _ rfl rfl px1 rfl pl.out.2.symm (((R4.out.take_ 1).below pB.out).grow px2 (fun ad e => by cases e; exact pN.out)) (by decide) (by rw [List.length_append, pl.out.1, pl.out.2]; decide) (Nat.le_trans pB.out.size px2.size) ?_; intro pvb pwb py1 py2 py3)
            | (refine step_append slInt rfl _ _ rfl rfl pE.out rfl pl.out.1.symm (pR.out.below pB.out) (by decide) (by rw [pl.out.1]; decide) pB.out.size ?_; intro pva pwa px1 px2 px3))
          have pb1 := Hd.mk (px2.below pB.out pB.out.size (fun b hb => (pE.out.lt b hb).1))
          have pb2 := Hd.mk (py2.below pb1.out pb1.out.size (fun b hb => (px1.lt b hb).1))
          rw [List.nil_append, prot.out] at py1
          obtain ⟨pg, pc, rfl, pc28, pge, _⟩ := py1.form (by rw [bitsN_length]; decide)
          have pne : Hd ((u6 : Value).ownBlock ≠ some pg) := ⟨fun e => absurd (hO.out.lt _ e).2 (Nat.not_lt.2 pge)⟩
          rw [bitsN_length] at py1 pc28 ⊢
          have pQ : Hd (Rd .i64 pwb (some ⟨pg, 0, none⟩) (bitsN pT 28)) := ⟨by obtain ⟨A', c', e, _, _, r, _⟩ := py1.reads; injection e with e1; rw [← e1] at r; exact r⟩
          clear pR pE pB pL pN px1 px2 px3 py1 py2 py3 pb1 pl
          have R5b := Hd.mk (R5.out.below pb2.out)
          have hOb := Hd.mk (hO.out.below pb2.out)
          have hRb := Hd.mk (hRs.out.below pb2.out)
          have hBb := Hd.mk (hB.out.trans (pb2.out.mono hB.out.size))
          clear R4 R5 hO hRs hB
          have qR : Hd (Rd .i64 pwb (some ⟨g5, o5 + 1, none⟩) ((bitsN D 28).drop 1)) := ⟨by
            have h := R5b.out.cut 1 c5 (by rw [bitsN_length]; exact hc5)
            rw [if_neg nc3] at h; exact h⟩
          have ql : Hd (((bitsN D 28).drop 1).length = 27 ∧ ((bitsN D 28).take 1).length = 1) := ⟨by simp [bitsN_length]⟩
          have qE : Hd (Own .i64 3 (pwb.alloc (.cells #[] 3)).drew pwb.heap.size (.slice (some ⟨pwb.heap.size, 0, none⟩) 0 0) []) := ⟨Own.drew (own_empty pwb)⟩
          have qB : Hd (Below pwb.heap.size pwb (pwb.alloc (.cells #[] 3)).drew) := ⟨below_drewN ((Below.refl _ _).alloc (Nat.le_refl _) _) 1⟩
          have qL : Hd (g5 < pwb.heap.size) := ⟨R5b.out.lt _ rfl (by rw [bitsN_length]; decide)⟩
          have qN : Hd ((Value.slice (some ⟨pwb.heap.size, 0, none⟩) 0 0).ownBlock ≠ some g5) := ⟨fun e2 => by have := qL.out; have e3 : some pwb.heap.size = some g5 := e2; injection e3 with e3; omega⟩
          go_wp2
          go_region_held3 (fun _ => True) (trivial) (first
            | (refine step_append slInt rfl _ _ rfl rfl qx1 rfl ql.out.2.symm (((R5b.out.take_ 1).below qB.out).grow qx2 (fun ad e => by cases e; exact qN.out)) (by decide) (by rw [List.length_append, ql.out.1, ql.out.2]; decide) (Nat.le_trans qB.out.size qx2.size) ?_; intro qvb qwb qy1 qy2 qy3)
            | (refine step_append slInt rfl _ _ rfl rfl qE.out rfl ql.out.1.symm (qR.out.below qB.out) (by decide) (by rw [ql.out.1]; decide) qB.out.size ?_; intro qva qwa qx1 qx2 qx3))
          have qb1 := Hd.mk (qx2.below qB.out qB.out.size (fun b hb => (qE.out.lt b hb).1))
          have qb2 := Hd.mk (qy2.below qb1.out qb1.out.size (fun b hb => (qx1.lt b hb).1))
          rw [List.nil_append, qrot.out] at qy1
          obtain ⟨qg, qc, rfl, qc28, qge, _⟩ := qy1.form (by rw [bitsN_length]; decide)
          have qne : Hd ((u6 : Value).ownBlock ≠ some qg) := ⟨fun e => absurd (hOb.out.lt _ e).2 (Nat.not_lt.2 qge)⟩
          rw [bitsN_length] at qy1 qc28 ⊢
          have qQ : Hd (Rd .i64 qwb (some ⟨qg, 0, none⟩) (bitsN qT 28)) := ⟨by obtain ⟨A', c', e, _, _, r, _⟩ := qy1.reads; injection e with e1; rw [← e1] at r; exact r⟩
          clear qR qE qB qL qN qx1 qx2 qx3 qy1 qy2 qy3 qb1 ql
          have R4c := Hd.mk (pQ.out.below qb2.out)
          have hOc := Hd.mk (hOb.out.below qb2.out)
          have hRc := Hd.mk (hRb.out.below qb2.out)
          have hBc := Hd.mk (hBb.out.trans (qb2.out.mono hBb.out.size))
          have hvl : Hd (vs.length = k) := ⟨hRc.out.1⟩
          have hLc : Hd (∀ b, (u6 : Value).ownBlock = some b → b < qwb.heap.size) := ⟨fun b hb => (hOc.out.lt b hb).2⟩
          clear R5b hOb hRb hBb pb2 qb2 pQ prot qrot nc1 nc2 nc3 nc4 nc5 nc6 nc7 nc8 nd5 nd6 nd7 nd8
          have rE : Hd (Own .i64 3 (qwb.alloc (.cells #[] 3)) qwb.heap.size (.slice (some ⟨qwb.heap.size, 0, none⟩) 0 0) []) := ⟨own_empty qwb⟩
          have rB : Hd (Below qwb.heap.size qwb (qwb.alloc (.cells #[] 3))) := ⟨(Below.refl _ _).alloc (Nat.le_refl _) _⟩
          have zn : Hd ((Value.slice (some ⟨qwb.heap.size, 0, none⟩) 0 0).ownBlock ≠ some qg) := ⟨fun e => by have h1 := qQ.out.lt _ rfl (by rw [bitsN_length]; decide); have e3 : some qwb.heap.size = some qg := e; injection e3 with e3; rw [e3] at h1; exact absurd h1 (Nat.lt_irrefl _)⟩
          go_wp2_with (first
            | (at_builtin; refine append_any slInt rfl _ _ rfl rfl z1 rfl (bitsN_length _ _).symm ((qQ.out.below rB.out).grow z2 (fun ad e => by cases e; exact zn.out)) (fun _ e => by cases e) (by simp [bitsN_length]) (Nat.le_trans rB.out.size z2.size) ?_; intro vb wb y1 y2 y3;
               have yb := Hd.mk (y2.below zb.out zb.out.size (fun b hb => (z1.lt b hb).1));
               rw [List.nil_append, ← bitsN_append pT qT 28 28 hqlt.out] at y1;
               obtain ⟨gy, cy, hy1, cy56, _, _⟩ := y1.form (by rw [bitsN_length]; decide); subst hy1;
               rw [bitsN_length] at y1 cy56 ⊢;
               have RY : Hd (Rd .i64 wb (some ⟨gy, 0, none⟩) (bitsN (pT * 2 ^ 28 + qT) 56)) := ⟨by obtain ⟨A', c', e, _, _, r, _⟩ := y1.reads; injection e with e1; rw [← e1] at r; exact r⟩;
               have XP := Hd.mk (permute3 tabPC2 56 48 (pT * 2 ^ 28 + qT) tblPC2 (by omega) (by omega) (some ⟨gy, 0, none⟩) cy wb RY.out); rw [hrk.out] at XP; clear y1 y2 y3 z1 z2 z3)
            | (at_builtin; refine append_any slInt rfl _ _ rfl rfl rE.out rfl (bitsN_length _ _).symm (R4c.out.below rB.out) (fun _ e => by cases e) (by simp [bitsN_length]) rB.out.size ?_; intro va wa z1 z2 z3;
               have zb := Hd.mk (z2.below rB.out rB.out.size (fun b hb => (rE.out.lt b hb).1)))
            | (go_at_call 44; (refine XP.out.mono ?_); intro e w7 hh; obtain ⟨g7, c7, rfl, p1, p2, p3, p4, p5, p6⟩ := hh.len 48 (bitsN_length _ _) (by decide);
               have B7 := Hd.mk (yb.out.trans (p6.mono yb.out.size)); have R7 := Hd.mk p3;
               have n7 : Hd ((u6 : Value).ownBlock ≠ some g7) := ⟨fun e => by have h1 := hLc.out _ e; have h2 := yb.out.size; exact absurd h1 (Nat.not_lt.2 (Nat.le_trans h2 p4))⟩; clear p1 p2 p3 p4 p5 p6 XP)
            | (refine one_v rfl 91 55 _ rfl rfl rfl Tryd.underlying91 infoSl.1 infoSl.2 ?_; intro g8 w8 m1 m3 m4)
            | (at_builtin; refine append_v slSl rfl _ _ rfl rfl (hOc.out.below (B7.out.trans (m3.mono B7.out.size))) rfl rfl m4 (fun v hv => by simp only [List.mem_singleton] at hv; subst hv; rfl) (by decide) (by rw [hvl.out]; simp; omega) (Nat.le_trans hBc.out.size (B7.out.trans (m3.mono B7.out.size)).size) ?_; intro v9 w9 o1 o2 o3))
          have B8 := Hd.mk (B7.out.trans (m3.mono B7.out.size))
          have OB8 := Hd.mk (hOc.out.below B8.out)
          have RB8 := Hd.mk (hRc.out.below B8.out)
          go_roundg (17 - (k + 1))
          case measure => have := hq.out; omega
          case rel =>
            refine ⟨k + 1, pg, 0, pc, qg, 0, qc, vs ++ [.slice (some ⟨g7, 0, none⟩) 48 c7], by omega, ⟨by omega⟩, by have := hkk.out; congr 1; omega, rfl, rfl, pc28, qc28, ⟨?_⟩, ⟨?_⟩, ⟨o1⟩, ⟨?_⟩, ⟨?_⟩⟩
            · rw [hnext.out.1]; exact (R4c.out.below B8.out).grow o2 (fun ad e => by cases e; exact pne.out)
            · rw [hnext.out.2]; exact (qQ.out.below B8.out).grow o2 (fun ad e => by cases e; exact qne.out)
            · refine RowsOf.snoc (RB8.out.grow OB8.out (fun j => by rw [bitsN_length]; decide) o2) ?_
              exact (R7.out.below m3).grow o2 (fun ad e => by cases e; exact n7.out)
            · exact o2.below (hBc.out.trans (B8.out.mono hBc.out.size)) (Nat.le_trans hBc.out.size B8.out.size) (fun b hb => (OB8.out.lt b hb).1)
      · have t1 : ((kk : Int) == 1) = false := by simp; omega
        have t2 : ((kk : Int) == 2) = false := by simp; omega
        have t3 : ((kk : Int) == 9) = false := by simp; omega
        have t4 : ((kk : Int) == 16) = false := by simp; omega
        have HN := Hd.mk hn
        clear hn n1 n2 n3 n4
        have hnn : Hd (2 = 1 ∨ 2 = 2) := ⟨by decide⟩
        obtain ⟨pT, hpT⟩ : ∃ T, Hd (turnN C 2 = T) := ⟨_, ⟨rfl⟩⟩
        obtain ⟨qT, hqT⟩ : ∃ T, Hd (turnN D 2 = T) := ⟨_, ⟨rfl⟩⟩
        have prot : Hd ((bitsN C 28).drop 2 ++ (bitsN C 28).take 2 = bitsN pT 28) := ⟨by rw [← hpT.out]; exact rot_bits C 2 hCl.out.1 hnn.out⟩
        have qrot : Hd ((bitsN D 28).drop 2 ++ (bitsN D 28).take 2 = bitsN qT 28) := ⟨by rw [← hqT.out]; exact rot_bits D 2 hCl.out.2 hnn.out⟩
        have hqlt : Hd (qT < 2 ^ 28) := ⟨by rw [← hqT.out]; exact turnN_lt D 2⟩
        have hnext : Hd ((cdN K (k + 1)).1 = pT ∧ (cdN K (k + 1)).2 = qT) := ⟨by rw [cdN, HN.out, hC.out, hpT.out], by rw [cdN, HN.out, hD.out, hqT.out]⟩
        have hrk : Hd (permN tabPC2 56 (pT * 2 ^ 28 + qT) 48 = rkN K k) := ⟨by rw [rkN, hnext.out.1, hnext.out.2]⟩
        clear hpT hqT
        have pR : Hd (Rd .i64 wr (some ⟨g4, o4 + 2, none⟩) ((bitsN C 28).drop 2)) := ⟨by
          have h := R4.out.cut 2 c4 (by rw [bitsN_length]; exact hc4)
          rw [if_neg nc2] at h; exact h⟩
        have pl : Hd (((bitsN C 28).drop 2).length = 26 ∧ ((bitsN C 28).take 2).length = 2) := ⟨by simp [bitsN_length]⟩
        have pE : Hd (Own .i64 3 (wr.alloc (.cells #[] 3)).drew wr.heap.size (.slice (some ⟨wr.heap.size, 0, none⟩) 0 0) []) := ⟨Own.drew (own_empty wr)⟩
        have pB : Hd (Below wr.heap.size wr (wr.alloc (.cells #[] 3)).drew) := ⟨below_drewN ((Below.refl _ _).alloc (Nat.le_refl _) _) 1⟩
        have pL : Hd (g4 < wr.heap.size) := ⟨R4.out.lt _ rfl (by rw [bitsN_length]; decide)⟩
        have pN : Hd ((Value.slice (some ⟨wr.heap.size, 0, none⟩) 0 0).ownBlock ≠ some g4) := ⟨fun e2 => by have := pL.out; have e3 : some wr.heap.size = some g4 := e2; injection e3 with e3; omega⟩
        go_wp2
        go_region_held3 (fun _ => True) (trivial) (first
          | (refine step_append slInt rfl _ _ rfl rfl px1 rfl pl.out.2.symm (((R4.out.take_ 2).below pB.out).grow px2 (fun ad e => by cases e; exact pN.out)) (by decide) (by rw [List.length_append, pl.out.1, pl.out.2]; decide) (Nat.le_trans pB.out.size px2.size) ?_; intro pvb pwb py1 py2 py3)
          | (refine step_append slInt rfl _ _ rfl rfl pE.out rfl pl.out.1.symm (pR.out.below pB.out) (by decide) (by rw [pl.out.1]; decide) pB.out.size ?_; intro pva pwa px1 px2 px3))
        have pb1 := Hd.mk (px2.below pB.out pB.out.size (fun b hb => (pE.out.lt b hb).1))
        have pb2 := Hd.mk (py2.below pb1.out pb1.out.size (fun b hb => (px1.lt b hb).1))
        rw [List.nil_append, prot.out] at py1
        obtain ⟨pg, pc, rfl, pc28, pge, _⟩ := py1.form (by rw [bitsN_length]; decide)
        have pne : Hd ((u6 : Value).ownBlock ≠ some pg) := ⟨fun e => absurd (hO.out.lt _ e).2 (Nat.not_lt.2 pge)⟩
        rw [bitsN_length] at py1 pc28 ⊢
        have pQ : Hd (Rd .i64 pwb (some ⟨pg, 0, none⟩) (bitsN pT 28)) := ⟨by obtain ⟨A', c', e, _, _, r, _⟩ := py1.reads; injection e with e1; rw [← e1] at r; exact r⟩
        clear pR pE pB pL pN px1 px2 px3 py1 py2 py3 pb1 pl
        have R5b := Hd.mk (R5.out.below pb2.out)
        have hOb := Hd.mk (hO.out.below pb2.out)
        have hRb := Hd.mk (hRs.out.below pb2.out)
        have hBb := Hd.mk (hB.out.trans (pb2.out.mono hB.out.size))
        clear R4 R5 hO hRs hB
        have qR : Hd (Rd .i64 pwb (some ⟨g5, o5 + 2, none⟩) ((bitsN D 28).drop 2)) := ⟨by
          have h := R5b.out.cut 2 c5 (by rw [bitsN_length]; exact hc5)
          rw [if_neg nc4] at h; exact h⟩
        have ql : Hd (((bitsN D 28).drop 2).length = 26 ∧ ((bitsN D 28).take 2).length = 2) := ⟨by simp [bitsN_length]⟩
        have qE : Hd (Own .i64 3 (pwb.alloc (.cells #[] 3)).drew pwb.heap.size (.slice (some ⟨pwb.heap.size, 0, none⟩) 0 0) []) := ⟨Own.drew (own_empty pwb)⟩
        have qB : Hd (Below pwb.heap.size pwb (pwb.alloc (.cells #[] 3)).drew) := ⟨below_drewN ((Below.refl _ _).alloc (Nat.le_refl _) _) 1⟩
        have qL : Hd (g5 < pwb.heap.size) := ⟨R5b.out.lt _ rfl (by rw [bitsN_length]; decide)⟩
        have qN : Hd ((Value.slice (some ⟨pwb.heap.size, 0, none⟩) 0 0).ownBlock ≠ some g5) := ⟨fun e2 => by have := qL.out; have e3 : some pwb.heap.size = some g5 := e2; injection e3 with e3; omega⟩
        go_wp2
        go_region_held3 (fun _ => True) (trivial) (first
          | (refine step_append slInt rfl _ _ rfl rfl qx1 rfl ql.out.2.symm (((R5b.out.take_ 2).below qB.out).grow qx2 (fun ad e => by cases e; exact qN.out)) (by decide) (by rw [List.length_append, ql.out.1, ql.out.2]; decide) (Nat.le_trans qB.out.size qx2.size) ?_; intro qvb qwb qy1 qy2 qy3)
          | (refine step_append slInt rfl _ _ rfl rfl qE.out rfl ql.out.1.symm (qR.out.below qB.out) (by decide) (by rw [ql.out.1]; decide) qB.out.size ?_; intro qva qwa qx1 qx2 qx3))
        have qb1 := Hd.mk (qx2.below qB.out qB.out.size (fun b hb => (qE.out.lt b hb).1))
        have qb2 := Hd.mk (qy2.below qb1.out qb1.out.size (fun b hb => (qx1.lt b hb).1))
        rw [List.nil_append, qrot.out] at qy1
        obtain ⟨qg, qc, rfl, qc28, qge, _⟩ := qy1.form (by rw [bitsN_length]; decide)
        have qne : Hd ((u6 : Value).ownBlock ≠ some qg) := ⟨fun e => absurd (hOb.out.lt _ e).2 (Nat.not_lt.2 qge)⟩
        rw [bitsN_length] at qy1 qc28 ⊢
        have qQ : Hd (Rd .i64 qwb (some ⟨qg, 0, none⟩) (bitsN qT 28)) := ⟨by obtain ⟨A', c', e, _, _, r, _⟩ := qy1.reads; injection e with e1; rw [← e1] at r; exact r⟩
        clear qR qE qB qL qN qx1 qx2 qx3 qy1 qy2 qy3 qb1 ql
        have R4c := Hd.mk (pQ.out.below qb2.out)
        have hOc := Hd.mk (hOb.out.below qb2.out)
        have hRc := Hd.mk (hRb.out.below qb2.out)
        have hBc := Hd.mk (hBb.out.trans (qb2.out.mono hBb.out.size))
        have hvl : Hd (vs.length = k) := ⟨hRc.out.1⟩
        have hLc : Hd (∀ b, (u6 : Value).ownBlock = some b → b < qwb.heap.size) := ⟨fun b hb => (hOc.out.lt b hb).2⟩
        clear R5b hOb hRb hBb pb2 qb2 pQ prot qrot nc1 nc2 nc3 nc4 nc5 nc6 nc7 nc8 nd5 nd6 nd7 nd8
        have rE : Hd (Own .i64 3 (qwb.alloc (.cells #[] 3)) qwb.heap.size (.slice (some ⟨qwb.heap.size, 0, none⟩) 0 0) []) := ⟨own_empty qwb⟩
        have rB : Hd (Below qwb.heap.size qwb (qwb.alloc (.cells #[] 3))) := ⟨(Below.refl _ _).alloc (Nat.le_refl _) _⟩
        have zn : Hd ((Value.slice (some ⟨qwb.heap.size, 0, none⟩) 0 0).ownBlock ≠ some qg) := ⟨fun e => by have h1 := qQ.out.lt _ rfl (by rw [bitsN_length]; decide); have e3 : some qwb.heap.size = some qg := e; injection e3 with e3; rw [e3] at h1; exact absurd h1 (Nat.lt_irrefl _)⟩
        go_wp2_with (first
          | (at_builtin; refine append_any slInt rfl _ _ rfl rfl z1 rfl (bitsN_length _ _).symm ((qQ.out.below rB.out).grow z2 (fun ad e => by cases e; exact zn.out)) (fun _ e => by cases e) (by simp [bitsN_length]) (Nat.le_trans rB.out.size z2.size) ?_; intro vb wb y1 y2 y3;
             have yb := Hd.mk (y2.below zb.out zb.out.size (fun b hb => (z1.lt b hb).1));
             rw [List.nil_append, ← bitsN_append pT qT 28 28 hqlt.out] at y1;
             obtain ⟨gy, cy, hy1, cy56, _, _⟩ := y1.form (by rw [bitsN_length]; decide); subst hy1;
             rw [bitsN_length] at y1 cy56 ⊢;
             have RY : Hd (Rd .i64 wb (some ⟨gy, 0, none⟩) (bitsN (pT * 2 ^ 28 + qT) 56)) := ⟨by obtain ⟨A', c', e, _, _, r, _⟩ := y1.reads; injection e with e1; rw [← e1] at r; exact r⟩;
             have XP := Hd.mk (permute3 tabPC2 56 48 (pT * 2 ^ 28 + qT) tblPC2 (by omega) (by omega) (some ⟨gy, 0, none⟩) cy wb RY.out); rw [hrk.out] at XP; clear y1 y2 y3 z1 z2 z3)
          | (at_builtin; refine append_any slInt rfl _ _ rfl rfl rE.out rfl (bitsN_length _ _).symm (R4c.out.below rB.out) (fun _ e => by cases e) (by simp [bitsN_length]) rB.out.size ?_; intro va wa z1 z2 z3;
             have zb := Hd.mk (z2.below rB.out rB.out.size (fun b hb => (rE.out.lt b hb).1)))
          | (go_at_call 44; (refine XP.out.mono ?_); intro e w7 hh; obtain ⟨g7, c7, rfl, p1, p2, p3, p4, p5, p6⟩ := hh.len 48 (bitsN_length _ _) (by decide);
             have B7 := Hd.mk (yb.out.trans (p6.mono yb.out.size)); have R7 := Hd.mk p3;
             have n7 : Hd ((u6 : Value).ownBlock ≠ some g7) := ⟨fun e => by have h1 := hLc.out _ e; have h2 := yb.out.size; exact absurd h1 (Nat.not_lt.2 (Nat.le_trans h2 p4))⟩; clear p1 p2 p3 p4 p5 p6 XP)
          | (refine one_v rfl 91 55 _ rfl rfl rfl Tryd.underlying91 infoSl.1 infoSl.2 ?_; intro g8 w8 m1 m3 m4)
          | (at_builtin; refine append_v slSl rfl _ _ rfl rfl (hOc.out.below (B7.out.trans (m3.mono B7.out.size))) rfl rfl m4 (fun v hv => by simp only [List.mem_singleton] at hv; subst hv; rfl) (by decide) (by rw [hvl.out]; simp; omega) (Nat.le_trans hBc.out.size (B7.out.trans (m3.mono B7.out.size)).size) ?_; intro v9 w9 o1 o2 o3))
        have B8 := Hd.mk (B7.out.trans (m3.mono B7.out.size))
        have OB8 := Hd.mk (hOc.out.below B8.out)
        have RB8 := Hd.mk (hRc.out.below B8.out)
        go_roundg (17 - (k + 1))
        case measure => have := hq.out; omega
        case rel =>
          refine ⟨k + 1, pg, 0, pc, qg, 0, qc, vs ++ [.slice (some ⟨g7, 0, none⟩) 48 c7], by omega, ⟨by omega⟩, by have := hkk.out; congr 1; omega, rfl, rfl, pc28, qc28, ⟨?_⟩, ⟨?_⟩, ⟨o1⟩, ⟨?_⟩, ⟨?_⟩⟩
          · rw [hnext.out.1]; exact (R4c.out.below B8.out).grow o2 (fun ad e => by cases e; exact pne.out)
          · rw [hnext.out.2]; exact (qQ.out.below B8.out).grow o2 (fun ad e => by cases e; exact qne.out)
          · refine RowsOf.snoc (RB8.out.grow OB8.out (fun j => by rw [bitsN_length]; decide) o2) ?_
            exact (R7.out.below m3).grow o2 (fun ad e => by cases e; exact n7.out)
          · exact o2.below (hBc.out.trans (B8.out.mono hBc.out.size)) (Nat.le_trans hBc.out.size B8.out.size) (fun b hb => (OB8.out.lt b hb).1)
    · obtain rfl : k = 16 := by omega
      go_wp2
      go_ret
      exact ⟨_, vs, rfl, hO.out, hRs.out, hB.out⟩
end Go.Proofs.YtommgcebjhkneaaDoor

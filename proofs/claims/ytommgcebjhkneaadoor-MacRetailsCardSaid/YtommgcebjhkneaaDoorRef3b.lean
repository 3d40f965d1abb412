/-
  lockboxref03: a digit, a round's function, on lists of bits. Conditions: the half has 32 bits, the round's key 48.
-/
import Derived.Test.YtommgcebjhkneaaDoorRef3a
import Derived.Great.BuildSlice
namespace Go.Proofs.YtommgcebjhkneaaDoor
open Go Go.RowKit
set_option linter.unusedVariables false
set_option linter.unusedSimpArgs false

/-! Literal rows of any cells. -/
section
variable {P : Program} {ops : Array Oper} {rest : List Oper} {o : Oper} {a : Act} {w : World} {Q : Exit → Act → World → Prop} {T E : TypeId} {k : IntKind} {bytes : Nat}
theorem vals_any (hg : o.guard = none) (T E : TypeId) (len : Nat) (parts : Array (Nat × Operand)) (ho : o.op = .buildSlice T len parts) (vs : List Value) (h1 : ∀ v ∈ vs, v.cells = #[v])
    (hu : P.underlying T = some (.slice E)) (hsz : (P.info? E).map (·.size) = some 1) (hz : ((P.info? E).bind (·.zero)).isSome = true)
    (hlen : vs.length = len) (hpos : 0 < len) (hsmall : len ≤ 2 ^ 24)
    (hparts : (parts.map fun (i, x) => (i, a.eval x)).toList = (vs.zipIdx 0).map fun x => (x.2, x.1))
    (h : ∀ g w1, w.heap.size ≤ g → g < w1.heap.size → Below w.heap.size w w1 → RowV w1 g E vs → wpList P ops Q rest (a.put o.dst (.slice (some ⟨g, 0, none⟩) len len)) w1) : wpList P ops Q (o :: rest) a w := by
  cases hie : P.info? E with
  | none => simp [hie] at hsz
  | some ie =>
    simp only [hie, Option.map_some, Option.some.injEq, Option.bind_some] at hsz hz
    obtain ⟨z, hzz⟩ := Option.isSome_iff_exists.1 hz
    refine wpList_buildSlice hg T E len parts ho vs.toArray ie z hu hie hzz (by rw [hsz]; omega) (by rw [hsz]; omega) ?_ (h _ _ (Nat.le_refl _) (by simp) ((Below.refl _ _).alloc (Nat.le_refl _) _) (RowV.new w E vs))
    rw [hparts, hsz]
    exact Great.fill_flat _ _ h1 (by simp [hlen])
theorem RowV.rd {g : Nat} {t : TypeId} {xs : List Int} (h : RowV w g t (ns k xs)) : Rd k w (some ⟨g, 0, none⟩) xs := by
  refine ⟨fun j hj => ⟨_, rfl, ?_⟩⟩
  rw [show (⟨g, 0, none⟩ : Addr).add j = ⟨g, j, none⟩ by cases j <;> simp [Addr.add], h.cell, ns, map_get k xs j hj]
theorem four_any (hT : SlT P T E k bytes) (hgd : o.guard = none) (x0 x1 x2 x3 : Operand) (ho : o.op = .buildSlice T 4 #[(0, x0), (1, x1), (2, x2), (3, x3)]) {y0 y1 y2 y3 : Int}
    (e0 : a.eval x0 = .int k y0) (e1 : a.eval x1 = .int k y1) (e2 : a.eval x2 = .int k y2) (e3 : a.eval x3 = .int k y3)
    (h : ∀ g w1, w.heap.size ≤ g → Below w.heap.size w w1 → Rd k w1 (some ⟨g, 0, none⟩) [y0, y1, y2, y3] → wpList P ops Q rest (a.put o.dst (.slice (some ⟨g, 0, none⟩) 4 4)) w1) :
    wpList P ops Q (o :: rest) a w := by
  obtain ⟨i, hi, hzz⟩ := Option.map_eq_some_iff.1 hT.info
  simp only [Prod.mk.injEq] at hzz
  obtain ⟨hz, hsz, hby⟩ := hzz
  refine vals_any hgd T E 4 _ ho (ns k [y0, y1, y2, y3]) (fun v hv => by obtain ⟨n, _, rfl⟩ := List.mem_map.1 hv; rfl) hT.und (by rw [hi]; simp [hsz]) (by rw [hi]; simp [hz]) rfl (by decide) (by decide) ?_ (fun g w1 h1 _ h3 h4 => h g w1 h1 h3 h4.rd)
  simp [e0, e1, e2, e3, ns]
end

set_option maxRecDepth 100000 in
theorem digit3 (v : Nat) (hv : (48 ≤ v ∧ v ≤ 57) ∨ (97 ≤ v ∧ v ≤ 102)) (w : World) :
    Calls Tryd.prog 57 #[.int .u8 v] w fun e w' => e = .returned (.int .i64 (hexN v : Nat)) ∧ w = w' := by
  by_cases h97 : 97 ≤ v
  · have hle : (97 : Int) ≤ (v : Int) := by omega
    have e2 : Hd ((v : Int) - 87 = ((hexN v : Nat) : Int)) := ⟨by rw [hexN, if_pos h97]; omega⟩
    go_enter Tryd.func57, Tryd.ntmps57
    go_wp2
    go_ret
    rw [← e2.out]
    exact ⟨rfl, rfl⟩
  · have hle : ¬ ((97 : Int) ≤ (v : Int)) := by omega
    have e2 : Hd ((v : Int) - 48 = ((hexN v : Nat) : Int)) := ⟨by rw [hexN, if_neg h97]; omega⟩
    go_enter Tryd.func57, Tryd.ntmps57
    go_wp2
    go_ret
    rw [← e2.out]
    exact ⟨rfl, rfl⟩
theorem infoStr1 : (Tryd.prog.info? 9).map (·.size) = some 1 ∧ ((Tryd.prog.info? 9).bind (·.zero)).isSome = true := by constructor <;> kernel_rfl
def boxVals : List Value := [.string (boxT 0), .string (boxT 1), .string (boxT 2), .string (boxT 3), .string (boxT 4), .string (boxT 5), .string (boxT 6), .string (boxT 7)]
theorem boxVals_get (i : Nat) (hi : i < 8) : boxVals[i]? = some (.string (boxT i)) := by
  have h8 : i = 0 ∨ i = 1 ∨ i = 2 ∨ i = 3 ∨ i = 4 ∨ i = 5 ∨ i = 6 ∨ i = 7 := by omega
  rcases h8 with rfl | rfl | rfl | rfl | rfl | rfl | rfl | rfl <;> rfl

set_option maxRecDepth 100000 in
set_option maxHeartbeats 8000000 in
theorem mix3 (half key : Nat) (hh : half < 2 ^ 32) (A1 A2 : Option Addr) (c1 c2 : Nat) (w : World) (hr1 : Rd .i64 w A1 (bitsN half 32)) (hr2 : Rd .i64 w A2 (bitsN key 48)) :
    Calls Tryd.prog 46 #[.slice A1 32 c1, .slice A2 48 c2] w (RetInts (bitsN (mixN half key) 32) w) := by
  have HR1 := Hd.mk hr1; have HR2 := Hd.mk hr2
  have HH := Hd.mk hh
  clear hr1 hr2 hh
  go_enter Tryd.func46, Tryd.ntmps46
  go_wp2
  generalize hW : World.alloc w _ = w1
  generalize hgb : w.heap.size = gb
  have HB1 : Hd (Below w.heap.size w w1) := ⟨by rw [← hW]; exact (Below.refl _ _).alloc (Nat.le_refl _) _⟩
  have HV : Hd (RowV w1 gb 9 boxVals) := ⟨by rw [← hW, ← hgb]; exact RowV.new w _ boxVals⟩
  have hgb2 : Hd (gb < w1.heap.size) := ⟨by rw [← hW, ← hgb]; simp⟩
  have R1 := Hd.mk (HR1.out.below HB1.out)
  have R2 := Hd.mk (HR2.out.below HB1.out)
  clear hW hgb HR1 HR2
  go_loopg [6, 7] 9 (fun q v6 v7 wr => ∃ (k : Nat), k ≤ 8 ∧ Hd (q + k = 9) ∧ v7 = .int .i64 k ∧ Hd (Own .i64 3 wr w1.heap.size v6 (bitsN (outN half key k) (4 * k))) ∧ Hd (Below w1.heap.size w1 wr))
  case atStart => exact ⟨0, by omega, ⟨by omega⟩, rfl, ⟨Own.nil _ _⟩, ⟨Below.refl _ _⟩⟩
  case round =>
    obtain ⟨k, hk, hq, rfl, hO, hB⟩ := hrel
    by_cases hlt : k < 8
    · obtain ⟨s, hs⟩ : ∃ s, Hd (sixN half key k = s) := ⟨_, ⟨rfl⟩⟩
      have hs6 : Hd (s < 64) := ⟨by rw [← hs.out]; exact sixN_lt half key k⟩
      obtain ⟨X, hX⟩ : ∃ X, Hd (bitsN (outN half key k) (4 * k) = X) := ⟨_, ⟨rfl⟩⟩
      have hXl : Hd (X.length = 4 * k) := ⟨by rw [← hX.out, bitsN_length]⟩
      rw [hX.out] at hO
      have hltI : (k : Int) < 8 := by omega
      go_wp2
      obtain ⟨wo, hwo⟩ : ∃ wo : World, wo = wr := ⟨_, rfl⟩
      subst hwo
      go_loopg [8, 9] 7 (fun q v8 v9 wr => ∃ (j : Nat), j ≤ 6 ∧ Hd (q + j = 7) ∧ v9 = .int .i64 (j + 1 : Nat) ∧ Hd (Own .i64 3 wr wo.heap.size v8 ((bitsN s 6).take j)) ∧ Hd (Below wo.heap.size wo wr))
      case atStart => exact ⟨0, by omega, ⟨by omega⟩, rfl, ⟨Own.nil _ _⟩, ⟨Below.refl _ _⟩⟩
      case round =>
        obtain ⟨j, hj, hqj, rfl, hO2, hB2⟩ := hrel
        by_cases hj6 : j < 6
        · obtain ⟨p, hp⟩ : ∃ p, Hd (p = (4 * k + j + 31) % 32) := ⟨_, ⟨rfl⟩⟩
          have hp32 : p < 32 := by rw [hp.out]; omega
          obtain ⟨r, hr⟩ : ∃ r, Hd (r = 6 * k + j) := ⟨_, ⟨rfl⟩⟩
          have hr48 : r < 48 := by have := hr.out; omega
          obtain ⟨ad1, eA1, e1⟩ := ((R1.out.below hB.out).below hB2.out).get p (by rw [bitsN_length]; exact hp32)
          obtain ⟨ad2, eA2, e2⟩ := ((R2.out.below hB.out).below hB2.out).get r (by rw [bitsN_length]; exact hr48)
          subst eA1 eA2
          rw [bitsN_getD half 32 p hp32] at e1
          rw [bitsN_getD key 48 r hr48] at e2
          obtain ⟨jj, hjj⟩ : ∃ jj : Nat, jj = j + 1 := ⟨_, rfl⟩
          have hbit : Hd (∀ x y, bitI half (32 - 1 - p) = x → bitI key (48 - 1 - r) = y → bits .xor .i64 x y = bitI s (6 - 1 - j)) := ⟨fun x y hx hy => by
            rw [← hx, ← hy, ← hs.out]
            exact six_bits half key k j HH.out hlt hj6 _ (by rw [hp.out, hr.out])⟩
          generalize hx : bitI half (32 - 1 - p) = x at e1
          generalize hy : bitI key (48 - 1 - r) = y at e2
          have hz := Hd.mk (hbit.out x y hx hy)
          have hstep := Hd.mk (bitsN_step s 6 j hj6)
          rw [← hz.out] at hstep
          clear hbit hx hy hz
          have hl4 : Hd (((bitsN s 6).take j).length ≤ 6) := ⟨by rw [List.length_take, bitsN_length]; omega⟩
          rw [← hjj]
          have hjr : Hd (jj = j + 1) := ⟨hjj⟩
          have hj1 : 1 ≤ jj ∧ jj ≤ 6 := by omega
          clear hjj
          have g1 : IntKind.i64.wrap (4 * (k : Int)) = 4 * (k : Int) := wrap_id (by omega) (by omega)
          have g2 : IntKind.i64.wrap (4 * (k : Int) + (jj : Int)) = 4 * (k : Int) + jj := wrap_id (by omega) (by omega)
          have g3 : IntKind.i64.wrap (4 * (k : Int) + (jj : Int) - 2) = 4 * (k : Int) + jj - 2 := wrap_id (by omega) (by omega)
          have g4 : IntKind.i64.wrap (4 * (k : Int) + (jj : Int) - 2 + 32) = 4 * (k : Int) + jj - 2 + 32 := wrap_id (by omega) (by omega)
          have g5 : (4 * (k : Int) + (jj : Int) - 2 + 32).tmod 32 = (p : Int) := by rw [Int.tmod_eq_emod_of_nonneg (by omega)]; have := hp.out; have := hjr.out; omega
          have g6 : IntKind.i64.wrap (6 * (k : Int)) = 6 * (k : Int) := wrap_id (by omega) (by omega)
          have g7 : IntKind.i64.wrap (6 * (k : Int) + (jj : Int)) = 6 * (k : Int) + jj := wrap_id (by omega) (by omega)
          have g8 : IntKind.i64.wrap (6 * (k : Int) + (jj : Int) - 1) = (r : Int) := by rw [wrap_id (by omega) (by omega)]; have := hr.out; have := hjr.out; omega
          go_wp2
          refine Lead.wp_region_push_drawn 20 (by kernel_rfl) (by kernel_rfl) (fun _ _ _ _ _ h => h) ?_
          simp only [List.take_succ_cons, List.take_zero, List.drop_succ_cons, List.drop_zero]
          repeat (first | go_big_quiet_step (fail) | quiet_step (fail))
          refine wpQuiet_nil ?_
          intro kq
          clear e1 e2 g1 g2 g3 g4 g5 g6 g7 g8
          go_wp2_with (first
            | (refine one_any slInt rfl _ rfl rfl ?_; intro g5 w5 h51 h52 h53)
            | (at_builtin; refine append_any slInt rfl _ _ rfl rfl ((hO2.out.drewN kq).below h52) rfl rfl h53 (fun e => by cases e) (by have := hl4.out; simp only [List.length_cons, List.length_nil]; omega) (Nat.le_trans hB2.out.size h52.size) ?_; intro v6 w6 h61 h62 h63))
          go_roundg (7 - (j + 1))
          case measure => have := hqj.out; omega
          case rel =>
            refine ⟨j + 1, by omega, ⟨by omega⟩, by have := hjr.out; subst this; go_num, ⟨?_⟩, ⟨?_⟩⟩
            · rw [hstep.out]; exact h61
            · exact h62.below ((below_drewN hB2.out kq).trans (h52.mono hB2.out.size)) (Nat.le_trans hB2.out.size h52.size) (fun b6 hb6 => (((hO2.out.drewN kq).below h52).lt b6 hb6).1)
        · obtain rfl : j = 6 := by omega
          have hv := hO2.out
          rw [List.take_of_length_le (by rw [bitsN_length]; exact Nat.le_refl _)] at hv
          obtain ⟨g8, c8, rfl, f1, f2, f3⟩ := hv.form (by rw [bitsN_length]; omega)
          rw [bitsN_length] at f1 hv ⊢
          have hv6 : Hd ((6 : Nat) = (bitsN s 6).length) := ⟨by rw [bitsN_length]⟩
          have hc := fun i (hi : i < 6) => (hv.cell hv6.out i (by rw [bitsN_length]; exact hi)).trans (by rw [bitsN_getD s 6 i hi])
          have k0 := hc 0 (by decide); have k1 := hc 1 (by decide); have k2 := hc 2 (by decide); have k3 := hc 3 (by decide); have k4 := hc 4 (by decide); have k5 := hc 5 (by decide)
          have hidx := idx_bits s hs6.out
          have hb := fun i => bitI_01 s i
          obtain ⟨x, hx⟩ : ∃ x, Hd (idxN s = x) := ⟨_, ⟨rfl⟩⟩
          have hx64 : x < 64 := by rw [← hx.out]; exact idxN_lt s hs6.out
          rw [hx.out] at hidx
          have y0 := hb 0; have y1 := hb 1; have y2 := hb 2; have y3 := hb 3; have y4 := hb 4; have y5 := hb 5
          simp only [Nat.reduceSub] at k0 k1 k2 k3 k4 k5
          clear hc hb
          generalize bitI s 0 = b0 at *
          generalize bitI s 1 = b1 at *
          generalize bitI s 2 = b2 at *
          generalize bitI s 3 = b3 at *
          generalize bitI s 4 = b4 at *
          generalize bitI s 5 = b5 at *
          have z0 : 0 ≤ b0 ∧ b0 ≤ 1 := by omega
          have z1 : 0 ≤ b1 ∧ b1 ≤ 1 := by omega
          have z2 : 0 ≤ b2 ∧ b2 ≤ 1 := by omega
          have z3 : 0 ≤ b3 ∧ b3 ≤ 1 := by omega
          have z4 : 0 ≤ b4 ∧ b4 ≤ 1 := by omega
          have z5 : 0 ≤ b5 ∧ b5 ≤ 1 := by omega
          clear y0 y1 y2 y3 y4 y5
          have m1 : IntKind.i64.wrap (2 * b5) = 2 * b5 := wrap_id (by omega) (by omega)
          have m2 : IntKind.i64.wrap (2 * b5 + b0) = 2 * b5 + b0 := wrap_id (by omega) (by omega)
          have m3 : IntKind.i64.wrap (8 * b4) = 8 * b4 := wrap_id (by omega) (by omega)
          have m4 : IntKind.i64.wrap (4 * b3) = 4 * b3 := wrap_id (by omega) (by omega)
          have m5 : IntKind.i64.wrap (8 * b4 + 4 * b3) = 8 * b4 + 4 * b3 := wrap_id (by omega) (by omega)
          have m6 : IntKind.i64.wrap (2 * b2) = 2 * b2 := wrap_id (by omega) (by omega)
          have m7 : IntKind.i64.wrap (8 * b4 + 4 * b3 + 2 * b2) = 8 * b4 + 4 * b3 + 2 * b2 := wrap_id (by omega) (by omega)
          have m8 : IntKind.i64.wrap (8 * b4 + 4 * b3 + 2 * b2 + b1) = 8 * b4 + 4 * b3 + 2 * b2 + b1 := wrap_id (by omega) (by omega)
          have m9 : IntKind.i64.wrap (16 * (2 * b5 + b0)) = 16 * (2 * b5 + b0) := wrap_id (by omega) (by omega)
          have m10 : IntKind.i64.wrap (16 * (2 * b5 + b0) + (8 * b4 + 4 * b3 + 2 * b2 + b1)) = (x : Int) := by rw [← hidx]; exact wrap_id (by omega) (by omega)
          have hbx := ((HV.out.below hB.out hgb2.out).below hB2.out (HV.out.below hB.out hgb2.out).lt).cell k
          rw [boxVals_get k hlt] at hbx
          have hsz := (boxT_at k hlt).1
          have hval := (boxT_at k hlt).2 x hx64
          have hget : ∀ h : x < (boxT k).size, (((boxT k)[x]'h).toNat : Int) = (((boxT k).get! x).toNat : Int) := fun h => by rw [get_bang _ _ h]
          have hbn : Hd (boxN k s = hexN ((boxT k).get! x).toNat) := ⟨by rw [boxN, hx.out]⟩
          have hlt16 := boxN_lt k s hlt hs6.out
          rw [hbn.out] at hlt16
          generalize ((boxT k).get! x).toNat = v at *
          generalize boxT k = bt at *
          obtain ⟨d, hd⟩ : ∃ d, Hd (hexN v = d) := ⟨_, ⟨rfl⟩⟩
          rw [hd.out] at hlt16 hbn
          have cD : Hd (∀ w, Calls Tryd.prog 57 #[.int .u8 v] w fun e w' => e = .returned (.int .i64 d) ∧ w = w') := ⟨fun w => by rw [← hd.out]; exact digit3 v hval w⟩
          obtain ⟨d8, hd8⟩ : ∃ d8, Hd (d / 8 = d8) := ⟨_, ⟨rfl⟩⟩
          obtain ⟨d4, hd4⟩ : ∃ d4, Hd (d / 4 = d4) := ⟨_, ⟨rfl⟩⟩
          obtain ⟨d2, hd2⟩ : ∃ d2, Hd (d / 2 = d2) := ⟨_, ⟨rfl⟩⟩
          have n1 : (d : Int).tdiv 8 = (d8 : Int) := by rw [← hd8.out]; rfl
          have n2 : (d : Int).tdiv 4 = (d4 : Int) := by rw [← hd4.out]; rfl
          have n3 : (d : Int).tdiv 2 = (d2 : Int) := by rw [← hd2.out]; rfl
          have n8 : d8 < 16 := by rw [← hd8.out]; omega
          have n9 : d4 < 16 := by rw [← hd4.out]; omega
          have n10 : d2 < 16 := by rw [← hd2.out]; omega
          obtain ⟨r8, hr8⟩ : ∃ r8, Hd (d8 % 2 = r8) := ⟨_, ⟨rfl⟩⟩
          obtain ⟨r4, hr4⟩ : ∃ r4, Hd (d4 % 2 = r4) := ⟨_, ⟨rfl⟩⟩
          obtain ⟨r2, hr2⟩ : ∃ r2, Hd (d2 % 2 = r2) := ⟨_, ⟨rfl⟩⟩
          obtain ⟨r1, hr1⟩ : ∃ r1, Hd (d % 2 = r1) := ⟨_, ⟨rfl⟩⟩
          have n4 : (d8 : Int).tmod 2 = (r8 : Int) := by rw [← hr8.out]; rfl
          have n5 : (d4 : Int).tmod 2 = (r4 : Int) := by rw [← hr4.out]; rfl
          have n6 : (d2 : Int).tmod 2 = (r2 : Int) := by rw [← hr2.out]; rfl
          have n7 : (d : Int).tmod 2 = (r1 : Int) := by rw [← hr1.out]; rfl
          have n11 : r8 < 2 := by rw [← hr8.out]; omega
          have n12 : r4 < 2 := by rw [← hr4.out]; omega
          have n13 : r2 < 2 := by rw [← hr2.out]; omega
          have n14 : r1 < 2 := by rw [← hr1.out]; omega
          have hfour : Hd (bitsN (outN half key (k + 1)) (4 * (k + 1)) = X ++ [(r8 : Int), (r4 : Int), (r2 : Int), (r1 : Int)]) := ⟨by
            rw [outN, hs.out, hbn.out, Nat.mul_comm 16, show (16 : Nat) = 2 ^ 4 from rfl, show 4 * (k + 1) = 4 * k + 4 by omega, bitsN_append _ _ _ _ hlt16, hX.out, four_bits d hlt16, hd8.out, hd4.out, hd2.out, hr8.out, hr4.out, hr2.out, hr1.out]⟩
          clear hidx hval
          go_wp2
          go_quiet (fail)
          go_wp2
          go_quiet (fail)
          clear k0 k1 k2 k3 k4 k5 m1 m2 m3 m4 m5 m6 m7 m8
          go_wp2_with (first
            | (go_at_call 57; (with_reducible refine (cD.out _).mono ?_); rintro e w' ⟨rfl, rfl⟩)
            | (refine four_any slInt rfl _ _ _ _ rfl rfl rfl rfl rfl ?_; intro g5 w5 h51 h52 h53)
            | (at_builtin; refine append_any slInt rfl _ _ rfl rfl (((hO.out.below hB2.out).drewN _).below h52) rfl rfl h53 (fun e => by cases e) (by rw [hXl.out]; simp only [List.length_cons, List.length_nil]; omega) (Nat.le_trans (Nat.le_trans hB.out.size hB2.out.size) h52.size) ?_; intro v6 w6 h61 h62 h63))
          go_roundg (9 - (k + 1))
          case measure => have := hq.out; omega
          case rel =>
            refine ⟨k + 1, by omega, ⟨by omega⟩, by go_num, ⟨by rw [hfour.out]; exact h61⟩, ⟨?_⟩⟩
            exact h62.below ((below_drewN (hB.out.trans (hB2.out.mono hB.out.size)) _).trans (h52.mono (Nat.le_trans hB.out.size hB2.out.size))) (Nat.le_trans (Nat.le_trans hB.out.size hB2.out.size) h52.size) (fun b6 hb6 => ((((hO.out.below hB2.out).drewN _).below h52).lt b6 hb6).1)
    · obtain rfl : k = 8 := by omega
      obtain ⟨g, c, rfl, f1, f2, f3⟩ := hO.out.form (by rw [bitsN_length]; omega)
      rw [bitsN_length] at f1 hO ⊢
      have RX : Hd (Rd .i64 wr (some ⟨g, 0, none⟩) (bitsN (outN half key 8) 32)) := ⟨by obtain ⟨A', c', e, _, _, r, _⟩ := hO.out.reads; injection e with e1; rw [← e1] at r; exact r⟩
      have cP := Hd.mk (permute3 tabP 32 32 (outN half key 8) tblP (by omega) (by omega) (some ⟨g, 0, none⟩) c wr RX.out)
      have hm : Hd (permN tabP 32 (outN half key 8) 32 = mixN half key) := ⟨rfl⟩
      rw [hm.out] at cP
      go_wp2_with (first
        | (go_at_call 44; (refine cP.out.mono ?_); rintro e w' ⟨v, rfl, q1, q2⟩))
      go_ret
      exact ⟨_, rfl, q1.lower (Nat.le_trans HB1.out.size hB.out.size), (HB1.out.trans (hB.out.mono HB1.out.size)).trans (q2.mono (Nat.le_trans HB1.out.size hB.out.size))⟩
end Go.Proofs.YtommgcebjhkneaaDoor

/-
  lockboxlaw06.ModeKeeps answers true, whatever the bytes. Conditions: the slices can be read.
-/
import Derived.Test.YtommgcebjhkneaaDoorLaw6b
import Derived.ChangeKeysEq
namespace Go.Proofs.YtommgcebjhkneaaDoor
open Go Go.RowKit
set_option linter.unusedVariables false
set_option linter.unusedSimpArgs false

theorem cellsU8' : Tryd.prog.cellsOf 5 = 1 := by kernel_rfl
set_option maxRecDepth 100000 in
theorem eql16 (w : World) : ∀ (st : List Int), st.length = 16 → (binOp .eql 31 (.agg (bs st).toArray) (.agg (bs st).toArray)).run Tryd.prog w = .ok (.bool true) w
  | [a0, a1, a2, a3, a4, a5, a6, a7, a8, a9, a10, a11, a12, a13, a14, a15], _ => by
    obtain ⟨i, hi, hzz⟩ := Option.map_eq_some_iff.1 slU8.info
    simp only [Prod.mk.injEq] at hzz
    simp only [binOp]
    have h := run_equalIn_array (P := Tryd.prog) (w := w) 9999 (bs [a0, a1, a2, a3, a4, a5, a6, a7, a8, a9, a10, a11, a12, a13, a14, a15]).toArray (bs [a0, a1, a2, a3, a4, a5, a6, a7, a8, a9, a10, a11, a12, a13, a14, a15]).toArray Tryd.underlying31 hi
    have h2 : (Op.eqItems 9999 5 (Tryd.prog.cellsOf 5) (bs [a0, a1, a2, a3, a4, a5, a6, a7, a8, a9, a10, a11, a12, a13, a14, a15]).toArray (bs [a0, a1, a2, a3, a4, a5, a6, a7, a8, a9, a10, a11, a12, a13, a14, a15]).toArray (List.range 16)).run Tryd.prog w = .ok true w := by
      rw [cellsU8', show List.range 16 = [0, 1, 2, 3, 4, 5, 6, 7, 8, 9, 10, 11, 12, 13, 14, 15] from rfl]
      have hp : ∀ (xs : Array Value) (j : Nat) (v : Value) (w : World), xs[j]? = some v → (part 5 xs j).run Tryd.prog w = .ok v w := by
        intro xs j v w hv
        simp [part, isAgg, run_underlying Tryd.underlying5, hv]
      have he : ∀ (a : Int) (w : World), (Op.equalIn 9999 5 (.int .u8 a) (.int .u8 a)).run Tryd.prog w = .ok true w := fun a w => by
        have := run_equalIn_int (P := Tryd.prog) (w := w) 9998 5 .u8 .u8 a a Tryd.underlying5
        simpa using this
      simp [Op.eqItems, bs, hp, he]
    simp only [Op.equal, Op.maxDepth, Sem.run_bind]
    rw [h, h2]
    simp

section
variable {P : Program} {ops : Array Oper} {rest : List Oper} {o : Oper} {a : Act} {w : World} {Q : Exit → Act → World → Prop} {T n g : Nat} {t : TypeId} {xs : List Int}
/-- An array loaded behind a guard that holds. -/
theorem load_arr_want (hT : ArrT P T n) (hw : Region.wanted o (yielded ops a.tmps) = true) (x : Operand) (ho : o.op = .load T x) (hx : a.eval x = .pointer (some ⟨g, 0, none⟩)) (hr : Row w g t xs) (hl : xs.length = n)
    (h : wpList P ops Q rest (a.put o.dst (.agg (bs xs).toArray)) w) : wpList P ops Q (o :: rest) a w := by
  obtain ⟨e, hd⟩ := hT.desc
  exact wpList_step fun K hK => by rw [if_pos hw]; exact wp_load_row T x ho g hx t _ _ _ hr hd rfl (by rw [hT.size]; simp [bs_length, hl]) (hK _ _ h)
end
theorem chain_len (n m : Nat) (kind : Int) (key : List Int) (bk : Option Addr) (back : Bool) (F : List Int → List Int) (hF : DoOk n kind key bk back F) (start xs : List Int) (hs : start.length = n) (hx : xs.length = n * m) :
    (if back then chainB F n m start xs else chainF F n m start xs).length = n * m := by
  have hb := fun i hi => blk_length n m xs hx i hi
  split
  · exact catTo_length _ n m fun i hi => by rw [xorI_length _ _ (by rw [hF.len _ (hb i hi), lastB_length n m start xs hs hx i (by omega)]), hF.len _ (hb i hi)]
  · exact catTo_length _ n m fun i hi => lastF_length F n m start xs hF.len hs hx (i + 1) (by omega)
theorem alone_len (n m : Nat) (kind : Int) (key : List Int) (bk : Option Addr) (back : Bool) (F : List Int → List Int) (hF : DoOk n kind key bk back F) (xs : List Int) (hx : xs.length = n * m) : (aloneI F n m xs).length = n * m :=
  catTo_length _ n m fun i hi => hF.len _ (blk_length n m xs hx i hi)

/-- n bytes that lie at A from base on and may be written, whatever they are. -/
structure Wr (w : World) (base : Nat) (A : Option Addr) (n : Nat) : Prop where
  get : ∀ j, j < n → ∃ ad v, A = some ad ∧ base ≤ ad.block ∧ w.cell? (ad.add j) = some (.int .u8 v) ∧ w.frozen? (ad.add j) = false
theorem Wr.set_ {w : World} {base n : Nat} {A : Option Addr} (h : Wr w base A n) (p : Addr) (u : Int) : Wr (w.setCell p (.int .u8 u)) base A n :=
  ⟨fun j hj => by
    obtain ⟨ad, v, e, h1, h2, h3⟩ := h.get j hj
    by_cases e2 : p = ad.add j
    · subst e2; exact ⟨ad, u, e, h1, World.cell?_setCell_same w _ _ h2, by rw [World.frozen?_setCell]; exact h3⟩
    · exact ⟨ad, v, e, h1, (World.cell?_setCell_other w p _ _ e2).trans h2, by rw [World.frozen?_setCell]; exact h3⟩⟩
theorem Wr.of_new {w : World} {base n c : Nat} {A : Option Addr} {xs : List Int} (h : New w base (.slice A n c) xs) (hx : xs.length = n) : Wr w base A n := by
  obtain ⟨A', c', e, h1, h2, h3, h4⟩ := h
  injection e with e1 e2 e3
  subst e1
  exact ⟨fun j hj => by
    obtain ⟨ad, e, hc⟩ := h2.get j (by omega)
    exact ⟨ad, _, e, (h4 ad e).1, hc, (h4 ad e).2.2 j⟩⟩
theorem Wr.below {w w1 : World} {base n : Nat} {A : Option Addr} (h : Wr w base A n) (hb : Below w.heap.size w w1) : Wr w1 base A n :=
  ⟨fun j hj => by
    obtain ⟨ad, v, e, h1, h2, h3⟩ := h.get j hj
    have hl := World.block_lt_of_cell? w _ h2
    exact ⟨ad, v, e, h1, (hb.cell hl).trans h2, (hb.frozen hl).trans h3⟩⟩
theorem Wr.lower {w : World} {base B n : Nat} {A : Option Addr} (h : Wr w base A n) (hB : B ≤ base) : Wr w B A n :=
  ⟨fun j hj => by
    obtain ⟨ad, v, e, h1, h2, h3⟩ := h.get j hj
    exact ⟨ad, v, e, Nat.le_trans hB h1, h2, h3⟩⟩

set_option maxRecDepth 100000 in
set_option maxHeartbeats 4000000 in
theorem ModeKeeps_any (A A2 : Option Addr) (n c n2 c2 : Nat) (key st txt : List Int) (w : World) (hx : n = key.length) (hy : n2 = txt.length) (hst : st.length = 16) (hc2 : n2 ≤ c2) (hr : Rd .u8 w A key) (hr2 : Rd .u8 w A2 txt) (hbt : Byt txt) (h02 : A2 = none → c2 = 0) (hL : Laid w) :
    Calls Tryd.prog 6 #[.slice A n c, .agg (bs st).toArray, .slice A2 n2 c2] w fun e w' => e = .returned (.bool true) ∧ Below w.heap.size w w' := by
  have HX := Hd.mk hx; have HY := Hd.mk hy; have HS := Hd.mk hst; have HR := Hd.mk hr; have HR2 := Hd.mk hr2; have HL := Hd.mk hL; have H02 := Hd.mk h02; have HBT := Hd.mk hbt
  have AW := Hd.mk (fun w hL => awake6 awake6_1 awake6_2 w hL)
  clear hx hy hr hr2 hL hst h02 hbt
  by_cases h1 : (100 : Int) < (n : Int)
  · go_enter Tryd.func6, Tryd.ntmps6
    go_wp2_with (first
      | (refine box_arr rfl _ rfl rfl ?_; intro gb w0 b1 b2 b3 b4)
      | (go_at_call 8; (with_reducible refine (AW.out _ (HL.out.below b3)).mono ?_); rintro e w1 ⟨rfl, k1⟩)
      | (go_at_call 8; (with_reducible refine (AW.out _ ((HL.out.below b3).below k1)).mono ?_); rintro e w2 ⟨rfl, k2⟩))
    go_ret
    exact ⟨rfl, (b3.trans (k1.mono b3.size)).trans (k2.mono (Nat.le_trans b3.size k1.size))⟩
  · by_cases h2 : (200 : Int) < (n2 : Int)
    · go_enter Tryd.func6, Tryd.ntmps6
      go_wp2_with (first
        | (refine box_arr rfl _ rfl rfl ?_; intro gb w0 b1 b2 b3 b4)
        | (go_at_call 8; (with_reducible refine (AW.out _ (HL.out.below b3)).mono ?_); rintro e w1 ⟨rfl, k1⟩)
        | (go_at_call 8; (with_reducible refine (AW.out _ ((HL.out.below b3).below k1)).mono ?_); rintro e w2 ⟨rfl, k2⟩))
      go_ret
      exact ⟨rfl, (b3.trans (k1.mono b3.size)).trans (k2.mono (Nat.le_trans b3.size k1.size))⟩
    · obtain ⟨m, hm⟩ : ∃ m, Hd (m = n2 / 16) := ⟨_, ⟨rfl⟩⟩
      obtain ⟨N, hN⟩ : ∃ N, Hd (N = 16 * m) := ⟨_, ⟨rfl⟩⟩
      have hq : (n2 : Int).tdiv 16 = (m : Int) := by have := hm.out; rw [Int.tdiv_eq_ediv_of_nonneg (by omega)]; omega
      have hq2 : (m : Int) * 16 = (N : Int) := by have := hN.out; omega
      have hNn : N ≤ n2 := by have := hN.out; have := hm.out; omega
      have hNc : N ≤ c2 := by omega
      have hTl : Hd (N = (txt.take N).length) := ⟨by rw [List.length_take]; have := HY.out; omega⟩
      obtain ⟨T, hT⟩ : ∃ T, Hd (txt.take N = T) := ⟨_, ⟨rfl⟩⟩
      rw [hT.out] at hTl
      have HRT : Hd (Rd .u8 w A2 T) := ⟨hT.out ▸ HR2.out.take_ N⟩
      have BT : Hd (Byt T) := ⟨hT.out ▸ fun x hx => HBT.out x (List.mem_of_mem_take hx)⟩
      have hrl : Hd ((rightTo key 16).length = 16) := ⟨rightTo_length key 16⟩
      obtain ⟨K, hK⟩ : ∃ K, Hd (rightTo key 16 = K) := ⟨_, ⟨rfl⟩⟩
      have hn0 : Hd (n ≤ 100) := ⟨by omega⟩
      have hN2 : Hd (N ≤ 200) := ⟨by omega⟩
      rw [hK.out] at hrl
      go_enter Tryd.func6, Tryd.ntmps6
      go_wp2_with (first
        | (refine box_arr rfl _ rfl rfl ?_; intro gb w0 b1 b2 b3 b4)
        | (go_at_call 8; (with_reducible refine (AW.out _ (HL.out.below b3)).mono ?_); rintro e w1 ⟨rfl, k1⟩;
           have X1 := Hd.mk (right_any 1 16 (.inl ⟨rfl, rfl⟩) A n c key w1 HX.out ((HR.out.below b3).below k1) (by have := hn0.out; omega)))
        | (go_at_call 14; (with_reducible refine X1.out.mono ?_); intro e w2 hh; rw [hK.out] at hh; obtain ⟨A3, c3, rfl, a1, a2, a3, a4, a5⟩ := hh.len 16 hrl.out;
           have X2 := Hd.mk (cipher_ok 1 (.inl rfl) A3 16 c3 K none 0 0 [] w2 hrl.out.symm rfl a3 a4 rfl Rd.nil (fun _ => rfl) (by omega)))
        | (go_at_call 13; (with_reducible refine X2.out.mono ?_); rintro e w3 ⟨gc, gbk, gt, rfl, c1, _, _, _, c5⟩;
           have B3 := Hd.mk (((b3.trans (k1.mono b3.size)).trans (a5.mono (Nat.le_trans b3.size k1.size))).trans (c5.mono (Nat.le_trans (Nat.le_trans b3.size k1.size) a5.size)));
           have hgb : Hd (gb < w3.heap.size) := ⟨Nat.lt_of_lt_of_le b2 (Nat.le_trans k1.size (Nat.le_trans a5.size c5.size))⟩;
           have R3 := Hd.mk (((b4.below k1 b2).below a5 (Nat.lt_of_lt_of_le b2 k1.size)).below c5 (Nat.lt_of_lt_of_le b2 (Nat.le_trans k1.size a5.size))))
        | (refine empty_any (k := .u8) rfl emU8 rfl ?_; intro g4 w4 d1 d2 d3 d4)
        | (at_builtin; refine append_any slU8 rfl _ _ rfl rfl d4 rfl hTl.out ((HRT.out.below B3.out).below d3) (fun _ e => by have := H02.out e; omega) (by rw [← hTl.out]; have := hN2.out; simp only [List.length_nil]; omega) d3.size ?_; intro v5 w5 f1 f2 f3;
           have D5 := Hd.mk (f2.below d3 d3.size (fun b hb => (d4.lt b hb).1)))
        | (refine load_arr arr16 rfl _ rfl rfl (R3.out.below D5.out hgb.out) HS.out ?_)
        | (refine alloc_arr arr16 rfl rfl ?_; intro gf w6 i1 i2 i3 i4)
        | (refine store_arr arr16 rfl _ _ rfl rfl rfl i4 (by simp) HS.out ?_; intro w7 j1 j2 j3;
           have D7 := Hd.mk (j1.to_below (D5.out.trans (i3.mono D5.out.size)) (Nat.le_trans D5.out.size i1) (Nat.le_trans D5.out.size i3.size));
           have B7 := Hd.mk (B3.out.trans (D7.out.mono B3.out.size));
           have R7 := Hd.mk (R3.out.below D7.out hgb.out); have RF7 := Hd.mk j3;
           have W7 := Hd.mk (f1.only ((Only.of_below i3).trans j1) (fun e => by have := (f1.lt _ e).2; omega));
           have HT7 := Hd.mk (HRT.out.below B7.out);
           have X3 := Hd.mk (Chained_ok 16 m _ gc 1 K _ false _ (doAesE 4 (.inl rfl) K _ (by rw [hrl.out])) A2 (some ⟨gb, 0, none⟩) N c2 16 st T w7 (c1.below D7.out (Nat.le_refl _)) HS.out (Rd.of_row R7.out) hTl.out (by rw [← hTl.out]; exact hN.out) (by have := hN2.out; omega) hNc HT7.out BT.out))
        | (go_at_call 17; (with_reducible refine X3.out.mono ?_); intro e w8 hh; obtain ⟨Ax, cx, rfl, l1, l2, l3, l4, l5, l6⟩ := hh.len N (by rw [chain_len 16 m 1 K _ false _ (doAesE 4 (.inl rfl) K none (by rw [hrl.out])) st T HS.out (by rw [← hTl.out]; exact hN.out)]; exact hN.out.symm);
           have E8 := Hd.mk l6;
           have WX := Hd.mk (Wr.of_new (n := N) l1 (by rw [chain_len 16 m 1 K _ false _ (doAesE 4 (.inl rfl) K none (by rw [hrl.out])) st T HS.out (by rw [← hTl.out]; exact hN.out)]; exact hN.out.symm));
           have X4 := Hd.mk (Alone_ok 16 m _ gc 1 K _ true _ (doAesD 4 (.inl rfl) K _ (by rw [hrl.out])) A2 N c2 T w8 ((c1.below D7.out (Nat.le_refl _)).below l6 D7.out.size) hTl.out (by rw [← hTl.out]; exact hN.out) (by have := hN2.out; omega) hNc (HT7.out.below l6) BT.out))
        | (go_at_call 16; (with_reducible refine X4.out.mono ?_); intro e w9 hh; obtain ⟨Ay, cy, rfl, p1, p2, p3, p4, p5, p6⟩ := hh.len N (by rw [alone_len 16 m 1 K none true _ (doAesD 4 (.inl rfl) K none (by rw [hrl.out])) T (by rw [← hTl.out]; exact hN.out)]; exact hN.out.symm);
           have E9 := Hd.mk (E8.out.trans (p6.mono E8.out.size));
           have WY := Hd.mk ((Wr.of_new (n := N) p1 (by rw [alone_len 16 m 1 K none true _ (doAesD 4 (.inl rfl) K none (by rw [hrl.out])) T (by rw [← hTl.out]; exact hN.out)]; exact hN.out.symm)).lower E8.out.size);
           have WX9 := Hd.mk (WX.out.below p6);
           have X5 := Hd.mk (Xor_ok A2 A2 N c2 c2 T T w9 hTl.out hTl.out (by have := hN2.out; omega) (HT7.out.below E9.out) (HT7.out.below E9.out)))
        | (go_at_call 9; (with_reducible refine X5.out.mono ?_); intro e w10 hh; obtain ⟨Az, cz, rfl, q1, q2, q3, q4, q5, q6⟩ := hh.len N (by rw [xorI_length _ _ rfl]; exact hTl.out.symm);
           have E10 := Hd.mk (E9.out.trans (q6.mono E9.out.size));
           have WZ10 := Hd.mk ((Wr.of_new (n := N) q1 (by rw [xorI_length _ _ rfl]; exact hTl.out.symm)).lower E9.out.size);
           have WX10 := Hd.mk (WX9.out.below q6); have WY10 := Hd.mk (WY.out.below q6)))
      go_loopg [18] (N + 1) (fun q v18 wr => ∃ (k : Nat), k ≤ N ∧ Hd (q + k = N + 1) ∧ v18 = .int .i64 k ∧ Hd (Wr wr w7.heap.size Ax N) ∧ Hd (Wr wr w7.heap.size Ay N) ∧ Hd (Wr wr w7.heap.size Az N) ∧ Hd (Below w7.heap.size w7 wr))
      case atStart => exact ⟨0, by omega, ⟨by omega⟩, rfl, WX10, WY10, WZ10, E10⟩
      case round =>
        obtain ⟨k, hk, hq, rfl, VX, VY, VZ, EE⟩ := hrel
        by_cases hlt : k < N
        · obtain ⟨ax, vx, eX, bx, x1, x2⟩ := VX.out.get k hlt
          obtain ⟨ay, vy, eY, hby, y1, y2⟩ := (VY.out.set_ (ax.add k) (bits .xor .u8 vx 255)).get k hlt
          obtain ⟨az, vz, eZ, bz, z1, z2⟩ := ((VZ.out.set_ (ax.add k) (bits .xor .u8 vx 255)).set_ (ay.add k) (bits .xor .u8 vy 255)).get k hlt
          subst eX eY eZ
          go_wp2
          go_roundg (N + 1 - (k + 1))
          case measure => have := hq.out; omega
          case rel =>
            refine ⟨k + 1, by omega, ⟨by omega⟩, by go_num, ⟨((VX.out.set_ _ _).set_ _ _).set_ _ _⟩, ⟨((VY.out.set_ _ _).set_ _ _).set_ _ _⟩, ⟨((VZ.out.set_ _ _).set_ _ _).set_ _ _⟩, ⟨?_⟩⟩
            exact ((EE.out.setCell (by rw [block_add]; exact bx) _).setCell (by rw [block_add]; exact hby) _).setCell (by rw [block_add]; exact bz) _
        · obtain rfl : k = N := by omega
          obtain ⟨A5, c5', ev5, g5a, g5b, g5c, _⟩ := W7.out.reads
          rw [List.nil_append] at ev5 g5a g5c
          subst ev5
          rw [← hTl.out] at g5a ⊢
          have sT := Hd.mk (Same_true A2 A5 k c2 k c5' T T wr hTl.out hTl.out (by have := hN2.out; omega) (HT7.out.below EE.out) (g5c.below EE.out) rfl)
          have RR := Hd.mk (R7.out.below EE.out R7.out.lt)
          have RF := Hd.mk (RF7.out.below EE.out RF7.out.lt)
          have hE := eql16
          have hst16 := HS.out
          go_wp2_with (first
            | (go_at_call 11; (with_reducible refine sT.out.mono ?_); rintro e w11 ⟨rfl, qq, rfl⟩)
            | (refine load_arr_want arr16 (by rfl) _ rfl rfl (RR.out.drewN _) HS.out ?_)
            | (refine load_arr_want arr16 (by rfl) _ rfl rfl (RF.out.drewN _) HS.out ?_))
          go_ret
          exact ⟨rfl, below_drewN (B7.out.trans (EE.out.mono B7.out.size)) _⟩
end Go.Proofs.YtommgcebjhkneaaDoor

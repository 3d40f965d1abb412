/-
  block: what key fits; a cipher made; a block enciphered or deciphered by AES. Conditions: the kind is AES's; the key has 16, 24 or 32 bytes.
-/
import Derived.Test.YtommgcebjhkneaaDoorBlock
import Derived.Test.YtommgcebjhkneaaDoorErr
namespace Go.Proofs.YtommgcebjhkneaaDoor
open Go Go.RowKit
set_option linter.unusedVariables false
set_option linter.unusedSimpArgs false

/-- A world in which nothing of w has changed. -/
structure Cl (w : World) where
  v : World
  h : Below w.heap.size w v
instance (w : World) : Nonempty (Cl w) := ⟨⟨w, Below.refl _ _⟩⟩
theorem Cl.of {P : Program} {f : FuncId} {args : Array Value} {w : World} {k : Cl w} {v : Value} (h : Calls P f args k.v fun e w' => e = .returned v ∧ Below k.v.heap.size k.v w') :
    Calls P f args k.v fun e w'' => e = .returned v ∧ ∃ k' : Cl w, w'' = k'.v :=
  h.mono fun e w' h => ⟨h.1, ⟨w', k.h.trans (h.2.mono k.h.size)⟩, rfl⟩
theorem Cl.of_same {P : Program} {f : FuncId} {args : Array Value} {w : World} {k : Cl w} {v : Value} (h : Calls P f args k.v fun e w' => e = .returned v ∧ k.v = w') :
    Calls P f args k.v fun e w'' => e = .returned v ∧ ∃ k' : Cl w, w'' = k'.v :=
  h.mono fun e w' h => ⟨h.1, k, h.2.symm⟩
theorem Cl.of_drew {P : Program} {f : FuncId} {args : Array Value} {w : World} {k : Cl w} {v : Value} (h : Calls P f args k.v fun e w' => e = .returned v ∧ ∃ n, w' = k.v.drewN n) :
    Calls P f args k.v fun e w'' => e = .returned v ∧ ∃ k' : Cl w, w'' = k'.v :=
  h.mono fun e w' h => by obtain ⟨n, hn⟩ := h.2; exact ⟨h.1, ⟨w', by rw [hn]; exact below_drewN k.h n⟩, rfl⟩

/-- A region of two parts, its head in worlds in which nothing of w has changed. -/
theorem wp_region_lead_cl {P : Program} {Q : Exit → Act → World → Prop} {l : List Oper} {id : Nat} {a : Act} {w : World} (n : Nat) (hmo : P.follows .mixedOrders = true) (hB : Lead.leadB l n = true)
    (h : wpQuiet P (l.take n).toArray (fun w' => ∃ k : Cl w, w' = k.v) (fun a' => ∀ k : Cl w, wpList P l.toArray Q (l.drop n) a' k.v) (l.take n) a) : (Code.region id l.toArray true).wp P Q a w := by
  refine Lead.wp_region_lead (fun w' => ∃ k : Cl w, w' = k.v) n hmo hB ⟨⟨w.drew, by exact below_drewN (Below.refl _ _) 1⟩, rfl⟩ ?_
  have : (fun a' : Act => ∀ k : Cl w, wpList P l.toArray Q (l.drop n) a' k.v) = (fun a' => ∀ w', (∃ k : Cl w, w' = k.v) → wpList P l.toArray Q (l.drop n) a' w') := by
    funext a'
    apply propext
    exact ⟨fun h w' ⟨k, hk⟩ => hk ▸ h k, fun h k => h _ ⟨k, rfl⟩⟩
  rw [← this]
  exact h

/-- Block g is a cipher of a kind, a key and a book; it and its key lie below B. -/
structure Ciph (B : Nat) (w : World) (g : Nat) (kind : Int) (key : List Int) (bk : Option Addr) : Prop where
  lt : g < B
  size : B ≤ w.heap.size
  kind_ : w.cell? ⟨g, 0, none⟩ = some (.int .i64 kind)
  key_ : ∃ A c, w.cell? ⟨g, 1, none⟩ = some (.slice A key.length c) ∧ Rd .u8 w A key ∧ key.length ≤ c ∧ ∀ ad, A = some ad → ad.block < B
  book_ : w.cell? ⟨g, 2, none⟩ = some (.pointer bk)
section
variable {B g : Nat} {w w1 : World} {kind : Int} {key : List Int} {bk : Option Addr}
theorem Ciph.keep (h : Ciph B w g kind key bk) (hs : w.heap.size ≤ w1.heap.size) (hk : ∀ p : Addr, p.block < B → w1.cell? p = w.cell? p) : Ciph B w1 g kind key bk := by
  obtain ⟨A, c, h1, h2, h3, h4⟩ := h.key_
  exact ⟨h.lt, Nat.le_trans h.size hs, (hk _ h.lt).trans h.kind_, ⟨A, c, (hk _ h.lt).trans h1, h2.keep fun ad j e _ => hk _ (by rw [block_add]; exact h4 ad e), h3, h4⟩, (hk _ h.lt).trans h.book_⟩
theorem Ciph.below {n : Nat} (h : Ciph B w g kind key bk) (hb : Below n w w1) (hn : B ≤ n) : Ciph B w1 g kind key bk :=
  h.keep hb.size fun p hp => hb.cell (Nat.lt_of_lt_of_le hp hn)
theorem Ciph.only {gl : Nat} (h : Ciph B w g kind key bk) (hb : Only gl w w1) (hn : B ≤ gl) : Ciph B w1 g kind key bk :=
  h.keep hb.size fun p hp => hb.cell (Nat.lt_of_lt_of_le hp h.size) (by omega)
theorem Ciph.drewN (h : Ciph B w g kind key bk) (n : Nat) : Ciph B (w.drewN n) g kind key bk := h.keep (Nat.le_refl _) fun _ _ => rfl
theorem Ciph.raise {B' : Nat} (h : Ciph B w g kind key bk) (h1 : B ≤ B') (h2 : B' ≤ w.heap.size) : Ciph B' w g kind key bk := by
  obtain ⟨A, c, k1, k2, k3, k4⟩ := h.key_
  exact ⟨Nat.lt_of_lt_of_le h.lt h1, h2, h.kind_, ⟨A, c, k1, k2, k3, fun ad e => Nat.lt_of_lt_of_le (k4 ad e) h1⟩, h.book_⟩
end

section
variable {P : Program} {o : Oper} {a : Act} {C : World → Prop} {K : Act → Prop} {T n g : Nat} {t : TypeId} {xs : List Int}
theorem run_load_rd (hT : ArrT P T n) (ad : Addr) {w : World} (hr : Rd .u8 w (some ad) xs) (hl : xs.length = n) : (loadVar T ad).run P w = .ok (.agg (bs xs).toArray) w := by
  obtain ⟨e, hd⟩ := hT.desc
  have hc : (loadCells ad n).run P w = .ok (bs xs).toArray w := by
    have := run_loadCells_list (P := P) w ad (bs xs) (fun j v hv => by
      have hj : j < xs.length := by
        have := (List.getElem?_eq_some_iff.1 hv).1
        simpa [bs] using this
      obtain ⟨ad', e, h2⟩ := hr.get j hj
      cases e
      rw [h2]
      rw [bs, map_get .u8 xs j hj] at hv
      exact hv)
    rwa [bs_length, hl] at this
  have hq0 := hT.size
  cases hq : P.info? T with
  | none => rw [hq] at hq0; cases hq0
  | some i =>
    have hs : i.size = n := by simpa [hq] using hq0
    have hagg : (isAgg T).run P w = .ok true w := by
      unfold isAgg
      rw [Sem.run_bind, run_underlying hd w]
      simp
    simp [loadVar, Sem.run_bind, hagg, sizeOf, typeInfo, hq, hs, hc]
theorem load_rd {ops : Array Oper} {rest : List Oper} {w : World} {Q : Exit → Act → World → Prop} (hT : ArrT P T n) (hgd : o.guard = none) (x : Operand) (ho : o.op = .load T x) (ad : Addr) (hx : a.eval x = .pointer (some ad)) (hr : Rd .u8 w (some ad) xs) (hl : xs.length = n)
    (h : wpList P ops Q rest (a.put o.dst (.agg (bs xs).toArray)) w) : wpList P ops Q (o :: rest) a w := by
  refine wpList_plain hgd fun K hK => ?_
  have hrun : (execOp a.eval o).run P w = .ok (.value (.agg (bs xs).toArray)) w := by
    unfold execOp
    simp [ho, hx, Instr.loadAt, Instr.sureAddr, asAddr, run_load_rd hT ad hr hl]
  unfold Oper.wp
  rw [hrun]
  exact hK _ _ h
theorem quiet_load_arr (hT : ArrT P T n) (x : Operand) (ho : o.op = .load T x) (hx : a.eval x = .pointer (some ⟨g, 0, none⟩)) (hr : ∀ w, C w → Row w g t xs) (hl : xs.length = n)
    (h : K (a.put o.dst (.agg (bs xs).toArray))) : o.quiet P a C K := by
  obtain ⟨e, hd⟩ := hT.desc
  refine ⟨_, fun w hw => ?_, h⟩
  have hrun : (execOp a.eval o).run P w = .ok (.value (.agg (bs xs).toArray)) w := by
    have hl2 := run_loadVar_row (P := P) w g t T _ _ _ (hr w hw) hd rfl (by rw [hT.size]; simp [bs_length, hl])
    unfold execOp
    simp [ho, hx, Instr.loadAt, Instr.sureAddr, asAddr, hl2]
  unfold Oper.quietAt
  rw [hrun]
  exact ⟨rfl, rfl⟩
end

theorem Size_any (B g : Nat) (w : World) (kind : Int) (key : List Int) (bk : Option Addr) (hc : Ciph B w g kind key bk) :
    Calls Tryd.prog 15 #[.pointer (some ⟨g, 0, none⟩)] w fun e w' => e = .returned (.int .i64 (if kind = 2 then 8 else 16)) ∧ w = w' := by
  have hk := hc.kind_
  clear hc
  go_enter Tryd.func15, Tryd.ntmps15
  by_cases h : kind = 2
  · subst h
    go_wp2
    go_ret
    simp
  · go_wp2
    go_ret
    simp [h]

set_option maxHeartbeats 1000000 in
theorem wide_aes (back : Bool) (nk : Nat) (hnk : nk = 4 ∨ nk = 6 ∨ nk = 8) (B g : Nat) (w : World) (key : List Int) (bk : Option Addr) (hc : Ciph B w g 1 key bk) (hkl : key.length = 4 * nk) (x : List Int) (hx : x.length = 16) :
    Calls Tryd.prog 41 #[.pointer (some ⟨g, 0, none⟩), .agg (bs x).toArray, .bool back] w (ArrNil (if back then decI key nk x else encI key nk x) w) := by
  obtain ⟨E, hE⟩ : ∃ E, encI key nk x = E := ⟨_, rfl⟩
  obtain ⟨D, hD⟩ : ∃ D, decI key nk x = D := ⟨_, rfl⟩
  have hel : Hd (E.length = 16 ∧ D.length = 16) := ⟨by rw [← hE, ← hD, encI, encTo_length, withTo_length]; exact ⟨hx, by rw [decI, withTo_length, decTo_length]; exact hx⟩⟩
  have cE : Hd (∀ (A : Option Addr) (c : Nat) (w : World), Rd .u8 w A key → Calls Tryd.prog 56 #[.slice A (4 * nk) c, .agg (bs x).toArray] w (ArrNil E w)) := ⟨fun A c w hr => hE ▸ Encrypt_ok nk hnk A c key x w hkl hr hx⟩
  have cD : Hd (∀ (A : Option Addr) (c : Nat) (w : World), Rd .u8 w A key → Calls Tryd.prog 55 #[.slice A (4 * nk) c, .agg (bs x).toArray] w (ArrNil D w)) := ⟨fun A c w hr => hD ▸ Decrypt_ok nk hnk A c key x w hkl hr hx⟩
  rw [hE, hD]
  clear hE hD
  obtain ⟨A, c, h1, h2, h3, h4⟩ := hc.key_
  have hk := hc.kind_
  have HC := Hd.mk hc; have HK := Hd.mk hkl; have HN := Hd.mk hnk; have HX := Hd.mk hx; have H1 := Hd.mk h1; have H2 := Hd.mk h2; have HKD := Hd.mk hk
  have hgl : Hd (g < w.heap.size) := ⟨Nat.lt_of_lt_of_le hc.lt hc.size⟩
  clear hc hkl hnk hx h1 h2 h3 h4 hk
  cases back
  all_goals
    go_enter Tryd.func41, Tryd.ntmps41
    go_wp2_with (first
      | (refine box_arr rfl _ rfl rfl ?_; intro gb w1 g1 g2 g3 g4)
      | (refine alloc_arr arr16 rfl rfl ?_; intro gr w2 g5 g6 g7 g8; have hk := (g3.trans (g7.mono g3.size)).cell (p := ⟨g, 0, none⟩) hgl.out |>.trans HKD.out))
    have hB2 := g3.trans (g7.mono g3.size)
    have HB2 := Hd.mk hB2
    have hR := Hd.mk (g4.below g7 g2)
    have hY := Hd.mk g8
    have hgb := Hd.mk (Nat.lt_of_lt_of_le g2 g7.size)
    have hgr : Hd (gr < w2.heap.size ∧ w.heap.size ≤ gr) := ⟨g6, Nat.le_trans g3.size g5⟩
    have hkey : ∀ k : Cl w2, k.v.cell? ⟨g, 1, none⟩ = some (.slice A key.length c) := fun k => (k.h.cell (p := ⟨g, 1, none⟩) (Nat.lt_of_lt_of_le hgl.out HB2.out.size)).trans ((HB2.out.cell (p := ⟨g, 1, none⟩) hgl.out).trans H1.out)
    have hrow : Hd (∀ k : Cl w2, Row k.v gb 31 x) := ⟨fun k => hR.out.below k.h hgb.out⟩
    clear g1 g2 g3 g4 g5 g6 g7 g8 hB2
    rw [HK.out] at hkey
    refine wp_region_lead_cl 8 (by kernel_rfl) (by kernel_rfl) ?_
    simp only [List.take_succ_cons, List.take_zero, List.drop_succ_cons, List.drop_zero]
    repeat (first
      | go_big_quiet_step ((first
          | (go_at_call 56; exact Cl.of (cE.out _ _ _ ((H2.out.below HB2.out).below (Cl.h _))))
          | (go_at_call 55; exact Cl.of (cD.out _ _ _ ((H2.out.below HB2.out).below (Cl.h _))))))
      | (go_big_quiet_want; refine quiet_load_arr arr16 _ rfl rfl (fun w3 hw3 => by obtain ⟨k, rfl⟩ := hw3; exact hrow.out k) HX.out ?_; go_big_quiet_on; simp only [Act.put, List.setIfInBounds_toArray, List.set_cons_succ, List.set_cons_zero]))
    refine wpQuiet_nil ?_
    intro kc
    clear hkey
    go_wp2_with (first
      | (refine store_arr arr16 rfl _ _ rfl rfl rfl (hY.out.below kc.h hgr.out.1) (by simp) hel.out.1 ?_; intro w5 g1 g2 g3; have hlen := Hd.mk hel.out.1)
      | (refine store_arr arr16 rfl _ _ rfl rfl rfl (hY.out.below kc.h hgr.out.1) (by simp) hel.out.2 ?_; intro w5 g1 g2 g3; have hlen := Hd.mk hel.out.2))
    try simp only [Exit.inBlock, Exit.then]
    have hB4 := HB2.out.trans (kc.h.mono HB2.out.size)
    refine bodyPost_ret (results_arr arr16 rfl _ rfl g3 hlen.out) rfl ⟨?_, g1.to_below hB4 hgr.out.2 hB4.size⟩
    rfl

set_option maxRecDepth 100000 in
set_option maxHeartbeats 2000000 in
/-- Do, by AES. -/
theorem Do_aes (back : Bool) (nk : Nat) (hnk : nk = 4 ∨ nk = 6 ∨ nk = 8) (B g : Nat) (w : World) (key : List Int) (bk : Option Addr) (hc : Ciph B w g 1 key bk) (hkl : key.length = 4 * nk)
    (A : Option Addr) (n c : Nat) (x : List Int) (hx : x.length = 16) (hn : n = 16) (hr : Rd .u8 w A x) :
    Calls Tryd.prog 29 #[.pointer (some ⟨g, 0, none⟩), .slice A n c, .bool back] w (RetNewNil (if back then decI key nk x else encI key nk x) w) := by
  subst hn
  obtain ⟨ad, rfl⟩ : ∃ ad, A = some ad := by
    obtain ⟨ad, e, _⟩ := hr.get 0 (by omega)
    exact ⟨ad, e⟩
  have hk := hc.kind_
  obtain ⟨E, hE⟩ : ∃ E, (if back then decI key nk x else encI key nk x) = E := ⟨_, rfl⟩
  have hel : Hd (E.length = 16) := ⟨by rw [← hE, encI, decI]; split <;> simp [encTo_length, decTo_length, withTo_length, hx]⟩
  have cW : Hd (Calls Tryd.prog 41 #[.pointer (some ⟨g, 0, none⟩), .agg (bs x).toArray, .bool back] w (ArrNil E w)) := ⟨hE ▸ wide_aes back nk hnk B g w key bk hc hkl x hx⟩
  rw [hE]
  clear hE
  have HC := Hd.mk hc; have HK := Hd.mk hkl; have HN := Hd.mk hnk; have HX := Hd.mk hx; have HR := Hd.mk hr
  have ha := run_arrayAt (P := Tryd.prog) arr16 (some ad) 16 c (by omega)
  clear hc hkl hnk hx hr
  go_enter Tryd.func29, Tryd.ntmps29
  go_wp2_with (first
    | (go_at_call 15; refine (Size_any B g _ 1 key bk HC.out).mono ?_; rintro e w' ⟨rfl, rfl⟩)
    | (refine load_rd arr16 rfl _ rfl ad (by rfl) HR.out HX.out ?_)
    | (go_at_call 41; refine cW.out.mono ?_; rintro e w1 ⟨rfl, h1⟩)
    | (refine alloc_arr arr16 rfl rfl ?_; intro gr w2 h2 h3 h4 h5)
    | (refine store_arr arr16 rfl _ _ rfl rfl rfl h5 (by simp) hel.out ?_; intro w3 h6 h7 h8))
  go_ret2
  exact ⟨_, rfl, New.of_row h8 (Nat.le_trans h1.size h2) hel.out.symm (Nat.le_refl _), h6.to_below (h1.trans (h4.mono h1.size)) (Nat.le_trans h1.size h2) (Nat.le_trans h1.size h4.size)⟩

set_option maxRecDepth 100000 in
/-- Do at a wrong length. -/
theorem Do_no (back : Bool) (B g : Nat) (w : World) (kind : Int) (key : List Int) (bk : Option Addr) (hc : Ciph B w g kind key bk) (A : Option Addr) (n c : Nat) (hn : ¬ ((n : Int) = if kind = 2 then 8 else 16)) :
    Calls Tryd.prog 29 #[.pointer (some ⟨g, 0, none⟩), .slice A n c, .bool back] w fun e w' => e = .returned (.tuple #[.slice none 0 0, errV (some 2)]) ∧ w = w' := by
  have hS := Hd.mk (Size_any B g w kind key bk hc)
  generalize (if kind = 2 then (8 : Int) else 16) = m at *
  clear hc
  go_enter Tryd.func29, Tryd.ntmps29
  go_wp2_with (first
    | (go_at_call 15; refine hS.out.mono ?_; rintro e w' ⟨rfl, rfl⟩))
  go_ret2
  exact ⟨rfl, rfl⟩

def fitsI (kind : Int) (n : Nat) : Bool :=
  if kind = 1 then n == 16 || n == 24 || n == 32 else if kind = 2 then n == 8 || n == 16 || n == 24 else decide (1 ≤ n ∧ n ≤ 32)

set_option maxRecDepth 100000 in
theorem fits_any (kind : Int) (hk : kind = 1 ∨ kind = 2 ∨ kind = 3) (n : Nat) (w : World) :
    Calls Tryd.prog 35 #[.int .i64 kind, .int .i64 n] w fun e w' => e = .returned (.bool (fitsI kind n)) ∧ w = w' := by
  rcases hk with rfl | rfl | rfl
  · by_cases h1 : (n : Int) = 16
    · go_enter Tryd.func35, Tryd.ntmps35
      go_wp2
      go_ret
      refine ⟨?_, rfl⟩
      obtain rfl : n = 16 := by omega
      rfl
    · by_cases h2 : (n : Int) = 24
      · go_enter Tryd.func35, Tryd.ntmps35
        go_wp2
        go_ret
        refine ⟨?_, rfl⟩
        obtain rfl : n = 24 := by omega
        rfl
      · by_cases h3 : (n : Int) = 32
        · go_enter Tryd.func35, Tryd.ntmps35
          go_wp2
          go_ret
          refine ⟨?_, rfl⟩
          obtain rfl : n = 32 := by omega
          rfl
        · go_enter Tryd.func35, Tryd.ntmps35
          go_wp2
          go_ret
          refine ⟨?_, rfl⟩
          have e1 : (n == 16) = false := by simp; omega
          have e2 : (n == 24) = false := by simp; omega
          have e3 : (n == 32) = false := by simp; omega
          have b1 : ((n : Int) == 16) = false := by simpa using h1
          have b2 : ((n : Int) == 24) = false := by simpa using h2
          have b3 : ((n : Int) == 32) = false := by simpa using h3
          simp [fitsI, e1, e2, e3, b1, b2, b3]
  · by_cases h1 : (n : Int) = 8
    · go_enter Tryd.func35, Tryd.ntmps35
      go_wp2
      go_ret
      refine ⟨?_, rfl⟩
      obtain rfl : n = 8 := by omega
      rfl
    · by_cases h2 : (n : Int) = 16
      · go_enter Tryd.func35, Tryd.ntmps35
        go_wp2
        go_ret
        refine ⟨?_, rfl⟩
        obtain rfl : n = 16 := by omega
        rfl
      · by_cases h3 : (n : Int) = 24
        · go_enter Tryd.func35, Tryd.ntmps35
          go_wp2
          go_ret
          refine ⟨?_, rfl⟩
          obtain rfl : n = 24 := by omega
          rfl
        · go_enter Tryd.func35, Tryd.ntmps35
          go_wp2
          go_ret
          refine ⟨?_, rfl⟩
          have e1 : (n == 8) = false := by simp; omega
          have e2 : (n == 16) = false := by simp; omega
          have e3 : (n == 24) = false := by simp; omega
          have b1 : ((n : Int) == 8) = false := by simpa using h1
          have b2 : ((n : Int) == 16) = false := by simpa using h2
          have b3 : ((n : Int) == 24) = false := by simpa using h3
          simp [fitsI, e1, e2, e3, b1, b2, b3]
  · by_cases h1 : (1 : Int) ≤ (n : Int)
    · by_cases h2 : (n : Int) ≤ 32
      · go_enter Tryd.func35, Tryd.ntmps35
        go_wp2
        go_ret
        refine ⟨?_, rfl⟩
        have e1 : 1 ≤ n ∧ n ≤ 32 := by omega
        simp [fitsI, e1]
      · go_enter Tryd.func35, Tryd.ntmps35
        go_wp2
        go_ret
        refine ⟨?_, rfl⟩
        have e1 : ¬ (n ≤ 32) := by omega
        simp [fitsI, e1]
    · go_enter Tryd.func35, Tryd.ntmps35
      go_wp2
      go_ret
      refine ⟨?_, rfl⟩
      have e1 : n = 0 := by omega
      subst e1
      rfl

/-- What New hands back: a cipher in new memory. -/
def RetCiph (kind : Int) (key : List Int) (bk : Option Addr) (w : World) (e : Ending) (w' : World) : Prop :=
  ∃ g, e = .returned (.tuple #[.pointer (some ⟨g, 0, none⟩), .nilIface]) ∧ w.heap.size ≤ g ∧ Ciph w'.heap.size w' g kind key bk ∧ Below w.heap.size w w'

set_option maxRecDepth 100000 in
set_option maxHeartbeats 2000000 in
theorem New_ok (kind : Int) (hk : kind = 1 ∨ kind = 2) (A : Option Addr) (n c : Nat) (key : List Int) (bk : Option Addr) (w : World) (hn : n = key.length) (hf : fitsI kind n = true) (hr : Rd .u8 w A key) (h0 : A = none → c = 0) :
    Calls Tryd.prog 23 #[.int .i64 kind, .slice A n c, .pointer bk] w (RetCiph kind key bk w) := by
  have hlen : Hd (key.length ≤ 100000000) := ⟨by subst hn; rcases hk with rfl | rfl <;> simp [fitsI] at hf <;> omega⟩
  have hF : Hd (∀ w, Calls Tryd.prog 35 #[.int .i64 kind, .int .i64 n] w fun e w' => e = .returned (.bool true) ∧ w = w') := ⟨fun w => hf ▸ fits_any kind (by omega) n w⟩
  have HN := Hd.mk hn; have HR := Hd.mk hr; have H0 := Hd.mk h0
  clear hn hr h0 hf
  rcases hk with rfl | rfl
  all_goals
    go_enter Tryd.func23, Tryd.ntmps23
    go_wp2_with (first
      | (go_at_call 35; refine (hF.out _).mono ?_; rintro e w' ⟨rfl, rfl⟩)
      | (go_at_call 32; refine (Clone_any A n c key w HN.out HR.out H0.out hlen.out).mono ?_; rintro e w' ⟨v, rfl, ⟨A2, c2, rfl, k1, k2, k3, k4⟩, h2⟩))
    go_ret2
    have hA := fun kk : Int => (Below.refl w'.heap.size w').alloc (Nat.le_refl _) (.cells #[.int .i64 kk, .slice A2 key.length c2, .pointer bk] 57)
    exact ⟨w'.heap.size, rfl, h2.size, ⟨by simp, Nat.le_refl _, by rw [World.cell?_alloc_at _ _ _ _ rfl]; rfl, ⟨A2, c2, by rw [World.cell?_alloc_at _ _ _ _ rfl]; rfl, k2.below (hA _), k1, fun ad e => Nat.lt_of_lt_of_le (k4 ad e).2.1 (by simp)⟩, by rw [World.cell?_alloc_at _ _ _ _ rfl]; rfl⟩, h2.trans ((hA _).mono h2.size)⟩
end Go.Proofs.YtommgcebjhkneaaDoor

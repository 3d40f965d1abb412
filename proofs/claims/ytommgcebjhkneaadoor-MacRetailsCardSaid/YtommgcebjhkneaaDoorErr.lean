/-
  api.Code: an error's number, where the error is nil, or one of the numbers itself (errors.As, walked at that target).
-/
import Derived.Test.YtommgcebjhkneaaDoorBase
import Derived.LaidEql
import Derived.Stop.Asserts
import Derived.RowKitTokens
namespace Go.Proofs.YtommgcebjhkneaaDoor
open Go Go.RowKit Go.Extern.Stop Go.Stop Go.Extern
set_option linter.unusedVariables false
set_option linter.unusedSimpArgs false

theorem as_nil (t : Value) (w : World) :
    Calls Tryd.prog 24 #[.nilIface, t] w fun e w' => e = .returned (.bool false) ∧ w = w' := by
  go_enter Tryd.func24, Tryd.ntmps24
  go_wp2
  go_ret
  exact ⟨rfl, rfl⟩

/-- What the handle of type t is. -/
abbrev hdl (t : Nat) : Value := .pointer (some ⟨1, t, none⟩)

theorem re_valueOfP (t : Addr) (w : World) : (ReflectliteValue.unpack (.iface 49 (.pointer (some t)))).run Tryd.prog w
    = .ok (.agg #[hdl 49, .pointer (some ⟨w.heap.size, 0, none⟩), .int .u64 150]) (w.alloc (.cells #[.pointer (some t)] 49)) := by kernel_rfl
theorem re_typeP (a : Addr) (w : World) : (ReflectliteValue.methodAny (ReflectliteValue.valueError "reflectlite.Value.Type" 0) (fun t _ _ _ => ReflectliteType.toType t) #[.agg #[hdl 49, .pointer (some a), .int .u64 150]]).run Tryd.prog w
    = .ok (.iface 99 (.agg #[hdl 49])) w := by kernel_rfl
theorem re_methodKind (h : Value) (w : World) : (Go.method 281 99 (.agg #[h]) "Kind").run Tryd.prog w = .ok (99, h) w := by kernel_rfl
theorem re_kindP (w : World) : ((ReflectliteType.abiMethod fun t => (fun a : Nat => Value.int IntKind.u8 (a : Int)) <$> Rtype.kind t) #[hdl 49]).run Tryd.prog w = .ok (.int .u8 22) w := by kernel_rfl
theorem re_kindE (w : World) : ((ReflectliteType.abiMethod fun t => (fun a : Nat => Value.int IntKind.u8 (a : Int)) <$> Rtype.kind t) #[hdl 47]).run Tryd.prog w = .ok (.int .u8 2) w := by kernel_rfl
theorem re_rlm (z : Sem Value) (f : TypeId → Addr → Nat → Nat → Sem Value) (v : Value) :
    ReflectliteValue.method z f #[v] = (do match ← ReflectliteValue.parts v with | none => z | some (t, a, fl) => f t a fl (fl % 32)) := rfl
theorem re_partsP (a : Addr) (w : World) : (ReflectliteValue.parts (.agg #[hdl 49, .pointer (some a), .int .u64 150])).run Tryd.prog w = .ok (some (49, a, 150)) w := by kernel_rfl
theorem re_isNilP (a p : Addr) (W : World) (ha : W.cell? a = some (.pointer (some p))) :
    (ReflectliteValue.method (ReflectliteValue.valueError "reflectlite.Value.IsNil" 0) ReflectliteValue.isNil #[.agg #[hdl 49, .pointer (some a), .int .u64 150]]).run Tryd.prog W = .ok (.bool false) W := by
  rw [re_rlm]
  simp only [Sem.run_bind, re_partsP, Result.andThen]
  simp [ReflectliteValue.isNil, loadVar, isAgg, underlying, Tryd.underlying49, ha, Result.andThen]
theorem re_methodElem (h : Value) (w : World) : (Go.method 281 99 (.agg #[h]) "Elem").run Tryd.prog w = .ok (113, .agg #[h]) w := by kernel_rfl
theorem re_methodImplements (h : Value) (w : World) : (Go.method 281 99 (.agg #[h]) "Implements").run Tryd.prog w = .ok (114, .agg #[h]) w := by kernel_rfl
theorem re_methodAssignableTo (h : Value) (w : World) : (Go.method 281 99 (.agg #[h]) "AssignableTo").run Tryd.prog w = .ok (111, .agg #[h]) w := by kernel_rfl
theorem re_elemP (w : World) : (ReflectliteType.method ReflectliteType.elem #[.agg #[hdl 49]]).run Tryd.prog w = .ok (.iface 99 (.agg #[hdl 47])) w := by kernel_rfl
theorem re_implementsE (w : World) : (ReflectliteType.relation "Implements" ReflectliteType.implements_ #[.agg #[hdl 47], .iface 99 (.agg #[hdl 25])]).run Tryd.prog w = .ok (.bool true) w := by kernel_rfl
theorem re_typeOfE (v : Value) (w : World) : (ReflectliteType.typeOf #[.iface 47 v]).run Tryd.prog w = .ok (.iface 99 (.agg #[hdl 47])) w := by kernel_rfl
theorem re_assignableE (w : World) : (ReflectliteType.relation "AssignableTo" ReflectliteType.assignableTo #[.agg #[hdl 47], .iface 99 (.agg #[hdl 47])]).run Tryd.prog w = .ok (.bool true) w := by kernel_rfl
theorem re_valueOfE (n : Int) (w : World) : (ReflectliteValue.unpack (.iface 47 (.int .i64 n))).run Tryd.prog w
    = .ok (.agg #[hdl 47, .pointer (some ⟨w.heap.size, 0, none⟩), .int .u64 130]) (w.alloc (.cells #[.int .i64 n] 47)) := by kernel_rfl
theorem re_elemOfP (w : World) : (Rtype.elem? 49).run Tryd.prog w = .ok (some 47) w := by kernel_rfl
theorem re_mkE (p : Addr) (w : World) : (ReflectliteValue.mk 47 p ReflectliteValue.flagAddr).run Tryd.prog w = .ok (.agg #[hdl 47, .pointer (some p), .int .u64 386]) w := by kernel_rfl
theorem re_elemVP (a p : Addr) (W : World) (ha : W.cell? a = some (.pointer (some p))) :
    (ReflectliteValue.method (ReflectliteValue.valueError "reflectlite.Value.Elem" 0) ReflectliteValue.elem #[.agg #[hdl 49, .pointer (some a), .int .u64 150]]).run Tryd.prog W
      = .ok (.agg #[hdl 47, .pointer (some p), .int .u64 386]) W := by
  rw [re_rlm]
  simp only [Sem.run_bind, re_partsP, Result.andThen]
  simp [ReflectliteValue.elem, loadVar, isAgg, underlying, Tryd.underlying49, ha, Result.andThen, re_elemOfP, re_mkE]
theorem re_rls (v x : Value) : ReflectliteValue.set #[v, x] = (do
    let (some (dst, a, fl), some (src, b, _)) := (← ReflectliteValue.parts v, ← ReflectliteValue.parts x)
      | unsupported (.noEntry "extern/(internal/reflectlite.Value).Set.zeroValue")
    if fl / ReflectliteValue.flagAddr % 2 == 0 then unsupported (.noEntry "extern/(internal/reflectlite.Value).Set.unaddressable")
    let val ← loadVar src b
    if ← Rtype.directlyAssignable dst src then storeVar dst a val
    else if ← Rtype.implements dst src then
      if (← Rtype.kind src) == 20 then
        match val with
        | .nilIface => unsupported (.noEntry "extern/reflectlite: a nil value of one interface type handed on as a value of another")
        | _ => storeVar dst a val
      else storeVar dst a (.iface src val)
    else panicString ("reflectlite.Set: value of type " ++ (← Rtype.spelt src) ++ " is not assignable to type " ++ (← Rtype.spelt dst))
    pure (.tuple #[])) := rfl
theorem re_partsEa (a : Addr) (w : World) : (ReflectliteValue.parts (.agg #[hdl 47, .pointer (some a), .int .u64 386])).run Tryd.prog w = .ok (some (47, a, 386)) w := by kernel_rfl
theorem re_partsE (a : Addr) (w : World) : (ReflectliteValue.parts (.agg #[hdl 47, .pointer (some a), .int .u64 130])).run Tryd.prog w = .ok (some (47, a, 130)) w := by kernel_rfl
theorem re_directE (w : World) : (Rtype.directlyAssignable 47 47).run Tryd.prog w = .ok true w := by kernel_rfl
theorem re_sizeE (w : World) : (sizeOf 47).run Tryd.prog w = .ok 1 w := by kernel_rfl
theorem re_aggE (w : World) : (isAgg 47).run Tryd.prog w = .ok false w := by kernel_rfl
theorem re_setE (ta b : Addr) (n : Int) (old : Value) (W : World) (hb : W.cell? b = some (.int .i64 n)) (ht : W.cell? ta = some old) (hf : W.frozen? ta = false) :
    (ReflectliteValue.set #[.agg #[hdl 47, .pointer (some ta), .int .u64 386], .agg #[hdl 47, .pointer (some b), .int .u64 130]]).run Tryd.prog W
      = .ok (.tuple #[]) (W.setCell ta (.int .i64 n)) := by
  rw [re_rls]
  simp only [Sem.run_bind, re_partsEa, re_partsE, Result.andThen]
  simp [ReflectliteValue.flagAddr, loadVar, re_aggE, hb, Result.andThen, re_directE, storeVar, Value.cells, storeCells, Addr.add, re_sizeE]
  rw [run_store Tryd.prog W ta _ _ (by rfl)]
  simp [ht, hf]
/-- errors.As finds the number at once: '*target' is set; four new blocks. -/
def asWorld (w : World) (t : Addr) (n : Int) : World :=
  ((((w.alloc (.cells #[.pointer (some t)] 49)).alloc (.cells #[hdl 49, .pointer (some ⟨w.heap.size, 0, none⟩), .int .u64 150] 69)).alloc (.cells #[hdl 49, .pointer (some ⟨w.heap.size, 0, none⟩), .int .u64 150] 69)).alloc (.cells #[.int .i64 n] 47)).setCell t (.int .i64 n)

/-- The one variable that errors.As reads. -/
def Laid (w : World) : Prop := w.cell? ⟨0, 0, none⟩ = some (.iface 99 (.agg #[hdl 25]))

set_option maxHeartbeats 4000000 in
theorem as_hit (n : Int) (t : Addr) (old : Value) (w : World) (hL : Laid w) (ht0 : w.cell? t = some old) (hf0 : w.frozen? t = false) :
    Calls Tryd.prog 24 #[.iface 47 (.int .i64 n), .iface 49 (.pointer (some t))] w fun ev w' => ev = .returned (.bool true) ∧ w' = asWorld w t n := by
  unfold asWorld
  have hg : w.cell? ⟨0, 0, none⟩ = some (.iface 99 (.agg #[.pointer (some ⟨1, 25, none⟩)])) := hL
  clear hL
  have h6 := @run_callFunc_extern Tryd.prog 36 _ (fun args => ReflectliteValue.unpack (args.getD 0 (.tuple #[]))) Tryd.func36 (by kernel_rfl) (by kernel_rfl) (by kernel_rfl) (by kernel_rfl)
  have h7 := @run_callFunc_extern Tryd.prog 37 _ (ReflectliteValue.methodAny (ReflectliteValue.valueError "reflectlite.Value.Type" 0) (fun t _ _ _ => ReflectliteType.toType t)) Tryd.func37 (by kernel_rfl) (by kernel_rfl) (by kernel_rfl) (by kernel_rfl)
  have h8 := @run_callFunc_extern Tryd.prog 38 _ (ReflectliteValue.method (ReflectliteValue.valueError "reflectlite.Value.IsNil" 0) ReflectliteValue.isNil) Tryd.func38 (by kernel_rfl) (by kernel_rfl) (by kernel_rfl) (by kernel_rfl)
  have h27 := @run_callFunc_extern Tryd.prog 99 _ (ReflectliteType.abiMethod fun t => do pure (.int .u8 (← Rtype.kind t))) Tryd.func99 (by kernel_rfl) (by kernel_rfl) (by kernel_rfl) (by kernel_rfl)
  have h37 := @run_callFunc_extern Tryd.prog 113 _ (ReflectliteType.method ReflectliteType.elem) Tryd.func113 (by kernel_rfl) (by kernel_rfl) (by kernel_rfl) (by kernel_rfl)
  have h38 := @run_callFunc_extern Tryd.prog 114 _ (ReflectliteType.relation "Implements" ReflectliteType.implements_) Tryd.func114 (by kernel_rfl) (by kernel_rfl) (by kernel_rfl) (by kernel_rfl)
  have h10 := @run_callFunc_extern Tryd.prog 49 _ ReflectliteType.typeOf Tryd.func49 (by kernel_rfl) (by kernel_rfl) (by kernel_rfl) (by kernel_rfl)
  have h35 := @run_callFunc_extern Tryd.prog 111 _ (ReflectliteType.relation "AssignableTo" ReflectliteType.assignableTo) Tryd.func111 (by kernel_rfl) (by kernel_rfl) (by kernel_rfl) (by kernel_rfl)
  have h11 := @run_callFunc_extern Tryd.prog 50 _ (ReflectliteValue.method (ReflectliteValue.valueError "reflectlite.Value.Elem" 0) ReflectliteValue.elem) Tryd.func50 (by kernel_rfl) (by kernel_rfl) (by kernel_rfl) (by kernel_rfl)
  have h12 := @run_callFunc_extern Tryd.prog 51 _ ReflectliteValue.set Tryd.func51 (by kernel_rfl) (by kernel_rfl) (by kernel_rfl) (by kernel_rfl)
  have tO := re_typeOfE
  have mA := re_methodAssignableTo
  have a25 := re_assignableE
  have v25 := re_valueOfE
  have f6 := re_valueOfP
  have f7 := re_typeP
  have mK := re_methodKind
  have mE := re_methodElem
  have mI := re_methodImplements
  have k27 := re_kindP
  have k25 := re_kindE
  have e27 := re_elemP
  have i25 := re_implementsE
  have n8 := re_isNilP ⟨w.heap.size, 0, none⟩ t ((w.alloc (.cells #[.pointer (some t)] 49)).alloc (.cells #[hdl 49, .pointer (some ⟨w.heap.size, 0, none⟩), .int .u64 150] 69)) (by simp)
  have hlt : 0 < w.heap.size := by
    rcases Nat.eq_zero_or_pos w.heap.size with h0 | h
    · simp [World.cell?, h0] at hg
    · exact h
  have hg2 : ((w.alloc (.cells #[.pointer (some t)] 49)).alloc (.cells #[hdl 49, .pointer (some ⟨w.heap.size, 0, none⟩), .int .u64 150] 69)).cell? ⟨0, 0, none⟩ = some (.iface 99 (.agg #[hdl 25])) := by
    rw [World.cell?_alloc_lt _ _ ⟨0, 0, none⟩ (by simp), World.cell?_alloc_lt _ _ ⟨0, 0, none⟩ hlt]; exact hg
  have htl : t.block < w.heap.size := by
    rcases Nat.lt_or_ge t.block w.heap.size with h | h
    · exact h
    · simp [World.cell?, Array.getElem?_eq_none h] at ht0
  have el := re_elemVP ⟨w.heap.size, 0, none⟩ t (((w.alloc (.cells #[.pointer (some t)] 49)).alloc (.cells #[hdl 49, .pointer (some ⟨w.heap.size, 0, none⟩), .int .u64 150] 69)).alloc (.cells #[hdl 49, .pointer (some ⟨w.heap.size, 0, none⟩), .int .u64 150] 69)) (by rw [World.cell?_alloc_lt _ _ ⟨w.heap.size, 0, none⟩ (by simp; omega)]; simp)
  have st := re_setE t ⟨w.heap.size + 1 + 1 + 1, 0, none⟩ n old ((((w.alloc (.cells #[.pointer (some t)] 49)).alloc (.cells #[hdl 49, .pointer (some ⟨w.heap.size, 0, none⟩), .int .u64 150] 69)).alloc (.cells #[hdl 49, .pointer (some ⟨w.heap.size, 0, none⟩), .int .u64 150] 69)).alloc (.cells #[.int .i64 n] 47))
    (by rw [World.cell?_alloc_at _ _ _ _ (by simp)]; rfl)
    (by rw [World.cell?_alloc_lt _ _ t (by simp; omega), World.cell?_alloc_lt _ _ t (by simp; omega), World.cell?_alloc_lt _ _ t (by simp; omega), World.cell?_alloc_lt _ _ t htl]; exact ht0)
    (by rw [World.frozen?_alloc_old _ _ t (by simp; omega), World.frozen?_alloc_old _ _ t (by simp; omega), World.frozen?_alloc_old _ _ t (by simp; omega), World.frozen?_alloc_old _ _ t (Nat.ne_of_lt htl)]; exact hf0)
  go_enter Tryd.func24, Tryd.ntmps24
  go_wp2
  refine wp_loop_rounds 1 ?_
  rw [rounds_succ]
  go_wp2
  go_ret
  exact ⟨rfl, rfl⟩

theorem Laid.lt {w : World} (h : Laid w) : 0 < w.heap.size := World.block_lt_of_cell? w _ h
theorem Laid.below {w w1 : World} (h : Laid w) (hb : Below w.heap.size w w1) : Laid w1 := (hb.cell (p := ⟨0, 0, none⟩) h.lt).trans h

/-- An error that is nil, or a number: its number. -/
def errV : Option Int → Value
  | none => .nilIface
  | some n => .iface 47 (.int .i64 n)

set_option maxHeartbeats 4000000 in
theorem Code_any (e : Option Int) (w : World) (hL : Laid w) :
    Calls Tryd.prog 10 #[errV e] w fun ev w' => ev = .returned (.int .i64 (e.getD 0)) ∧ Below w.heap.size w w' := by
  cases e with
  | none =>
    go_enter Tryd.func10, Tryd.ntmps10
    simp only [errV]
    go_wp2
    go_ret
    exact ⟨rfl, (Below.refl _ _).alloc (Nat.le_refl _) _⟩
  | some n =>
    have HL := Hd.mk hL
    have hw := Hd.mk (hL.below ((Below.refl _ _).alloc (Nat.le_refl _) (.cells #[.int .i64 0] 47)))
    clear hL
    go_enter Tryd.func10, Tryd.ntmps10
    simp only [errV]
    have hB : Below w.heap.size w (asWorld (w.alloc (.cells #[.int .i64 0] 47)) ⟨w.heap.size, 0, none⟩ n) := by
      unfold asWorld
      have h1 := (Below.refl w.heap.size w).alloc (Nat.le_refl _) (.cells #[.int .i64 0] 47)
      refine Below.setCell ((((h1.alloc (by simp) _).alloc (by simp; omega) _).alloc (by simp; omega) _).alloc (by simp; omega) _) (Nat.le_refl _) _
    have hC : (asWorld (w.alloc (.cells #[.int .i64 0] 47)) ⟨w.heap.size, 0, none⟩ n).cell? ⟨w.heap.size, 0, none⟩ = some (.int .i64 n) := by
      unfold asWorld
      refine World.cell?_setCell_same (u := .int .i64 0) _ _ _ ?_
      rw [World.cell?_alloc_lt _ _ ⟨w.heap.size, 0, none⟩ (by simp; omega), World.cell?_alloc_lt _ _ ⟨w.heap.size, 0, none⟩ (by simp; omega), World.cell?_alloc_lt _ _ ⟨w.heap.size, 0, none⟩ (by simp; omega), World.cell?_alloc_lt _ _ ⟨w.heap.size, 0, none⟩ (by simp)]
      simp
    go_wp2_with (first
      | (go_at_call 24; refine (as_hit n ⟨w.heap.size, 0, none⟩ (.int .i64 0) _ hw.out (by simp) (by simp)).mono ?_; rintro ev w' ⟨rfl, rfl⟩))
    go_ret
    exact ⟨rfl, hB⟩
end Go.Proofs.YtommgcebjhkneaaDoor

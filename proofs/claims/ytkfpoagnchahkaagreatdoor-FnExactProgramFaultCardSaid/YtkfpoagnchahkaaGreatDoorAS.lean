/- Of this session: errors.As at this program's two uses, by contract: a nil error (false, nothing turns), an error whose own dynamic type (a struct's) is the target's element type (true, the target is set; four new blocks). -/
import Derived.Test.YtkfpoagnchahkaaGreatDoorProg
import Derived.WalkKit
import Derived.LaidEql
import Derived.Stop.Asserts
import Derived.RowKitTokens
namespace Go.Proofs.YtkfpoagnchahkaaGreatDoor
open Go.RowKit Go.Extern.Stop Go.Stop Go.Extern
set_option linter.unusedVariables false
set_option linter.unusedSimpArgs false
theorem as_nil (t : Value) (w : World) :
    Calls Tryz.prog 22 #[.nilIface, t] w fun e w' => e = .returned (.bool false) ∧ w' = w := by
  go_enter Tryz.func22, Tryz.ntmps22
  go_wp2
  go_ret
  exact ⟨rfl, rfl⟩
theorem vOf62 (t : Addr) (w : World) : (ReflectliteValue.unpack (.iface 62 (.pointer (some t)))).run Tryz.prog w
    = .ok (.agg #[.pointer (some ⟨1, 62, none⟩), .pointer (some ⟨w.heap.size, 0, none⟩), .int .u64 150]) (w.alloc (.cells #[.pointer (some t)] 62)) := by kernel_rfl
theorem ty62 (a : Addr) (w : World) : (ReflectliteValue.methodAny (ReflectliteValue.valueError "reflectlite.Value.Type" 0) (fun t _ _ _ => ReflectliteType.toType t) #[.agg #[.pointer (some ⟨1, 62, none⟩), .pointer (some a), .int .u64 150]]).run Tryz.prog w
    = .ok (.iface 115 (.agg #[.pointer (some ⟨1, 62, none⟩)])) w := by kernel_rfl
theorem mKind (h : Value) (w : World) : (Go.method 281 115 (.agg #[h]) "Kind").run Tryz.prog w = .ok (113, h) w := by kernel_rfl
theorem kd62 (w : World) : ((ReflectliteType.abiMethod fun t => (fun a : Nat => Value.int IntKind.u8 (a : Int)) <$> Rtype.kind t) #[.pointer (some ⟨1, 62, none⟩)]).run Tryz.prog w = .ok (.int .u8 22) w := by kernel_rfl
theorem kd57 (w : World) : ((ReflectliteType.abiMethod fun t => (fun a : Nat => Value.int IntKind.u8 (a : Int)) <$> Rtype.kind t) #[.pointer (some ⟨1, 57, none⟩)]).run Tryz.prog w = .ok (.int .u8 25) w := by kernel_rfl
theorem rlm (z : Sem Value) (f : TypeId → Addr → Nat → Nat → Sem Value) (v : Value) :
    ReflectliteValue.method z f #[v] = (do match ← ReflectliteValue.parts v with | none => z | some (t, a, fl) => f t a fl (fl % 32)) := rfl
theorem pt62 (a : Addr) (w : World) : (ReflectliteValue.parts (.agg #[.pointer (some ⟨1, 62, none⟩), .pointer (some a), .int .u64 150])).run Tryz.prog w = .ok (some (62, a, 150)) w := by kernel_rfl
theorem un62 : Tryz.prog.underlying 62 = some (.pointer 57) := by kernel_rfl
theorem isNil62 (a p : Addr) (W : World) (ha : W.cell? a = some (.pointer (some p))) :
    (ReflectliteValue.method (ReflectliteValue.valueError "reflectlite.Value.IsNil" 0) ReflectliteValue.isNil #[.agg #[.pointer (some ⟨1, 62, none⟩), .pointer (some a), .int .u64 150]]).run Tryz.prog W = .ok (.bool false) W := by
  rw [rlm]
  simp only [Sem.run_bind, pt62, Result.andThen]
  simp [ReflectliteValue.isNil, loadVar, isAgg, underlying, un62, ha, Result.andThen]
theorem mElem (h : Value) (w : World) : (Go.method 281 115 (.agg #[h]) "Elem").run Tryz.prog w = .ok (124, .agg #[h]) w := by kernel_rfl
theorem mImplements (h : Value) (w : World) : (Go.method 281 115 (.agg #[h]) "Implements").run Tryz.prog w = .ok (125, .agg #[h]) w := by kernel_rfl
theorem mAssignableTo (h : Value) (w : World) : (Go.method 281 115 (.agg #[h]) "AssignableTo").run Tryz.prog w = .ok (122, .agg #[h]) w := by kernel_rfl
theorem el62 (w : World) : (ReflectliteType.method ReflectliteType.elem #[.agg #[.pointer (some ⟨1, 62, none⟩)]]).run Tryz.prog w = .ok (.iface 115 (.agg #[.pointer (some ⟨1, 57, none⟩)])) w := by kernel_rfl
theorem im57 (w : World) : (ReflectliteType.relation "Implements" ReflectliteType.implements_ #[.agg #[.pointer (some ⟨1, 57, none⟩)], .iface 115 (.agg #[.pointer (some ⟨1, 60, none⟩)])]).run Tryz.prog w = .ok (.bool true) w := by kernel_rfl
theorem tOf57 (v : Value) (w : World) : (ReflectliteType.typeOf #[.iface 57 v]).run Tryz.prog w = .ok (.iface 115 (.agg #[.pointer (some ⟨1, 57, none⟩)])) w := by kernel_rfl
theorem asg57 (w : World) : (ReflectliteType.relation "AssignableTo" ReflectliteType.assignableTo #[.agg #[.pointer (some ⟨1, 57, none⟩)], .iface 115 (.agg #[.pointer (some ⟨1, 57, none⟩)])]).run Tryz.prog w = .ok (.bool true) w := by kernel_rfl
theorem vOf57 (c : Int) (w : World) : (ReflectliteValue.unpack (.iface 57 (.agg #[.int .i64 c]))).run Tryz.prog w
    = .ok (.agg #[.pointer (some ⟨1, 57, none⟩), .pointer (some ⟨w.heap.size, 0, none⟩), .int .u64 153]) (w.alloc (.cells #[.int .i64 c] 57)) := by kernel_rfl
theorem elOf62 (w : World) : (Rtype.elem? 62).run Tryz.prog w = .ok (some 57) w := by kernel_rfl
theorem mk57 (p : Addr) (w : World) : (ReflectliteValue.mk 57 p ReflectliteValue.flagAddr).run Tryz.prog w = .ok (.agg #[.pointer (some ⟨1, 57, none⟩), .pointer (some p), .int .u64 409]) w := by kernel_rfl
theorem elemV62 (a p : Addr) (W : World) (ha : W.cell? a = some (.pointer (some p))) :
    (ReflectliteValue.method (ReflectliteValue.valueError "reflectlite.Value.Elem" 0) ReflectliteValue.elem #[.agg #[.pointer (some ⟨1, 62, none⟩), .pointer (some a), .int .u64 150]]).run Tryz.prog W
      = .ok (.agg #[.pointer (some ⟨1, 57, none⟩), .pointer (some p), .int .u64 409]) W := by
  rw [rlm]
  simp only [Sem.run_bind, pt62, Result.andThen]
  simp [ReflectliteValue.elem, loadVar, isAgg, underlying, un62, ha, Result.andThen, elOf62, mk57]
theorem rls (v x : Value) : ReflectliteValue.set #[v, x] = (do
    let (some (dst, a, fl), some (src, b, _)) := (← ReflectliteValue.parts v, ← ReflectliteValue.parts x)
      | unsupported (.noEntry "extern/(internal/reflectlite.Value).Set.zeroValue")
    if fl / ReflectliteValue.flagAddr % 2 == 0 then unsupported (.noEntry "extern/(internal/reflectlite.Value).Set.unaddressable")
    let val ← loadVar src b
    if ← Rtype.directlyAssignable dst src then storeVar dst a val
    else if ← Rtype.implements dst src then
      if (← Rtype.kind src) == 20 then
        match val with
        | .nilIface => unsupported (.noEntry "extern/reflectlite: a nil value of one interface type handed on as a value of another")
        | _ => storeVar dst a val
      else storeVar dst a (.iface src val)
    else panicString ("reflectlite.Set: value of type " ++ (← Rtype.spelt src) ++ " is not assignable to type " ++ (← Rtype.spelt dst))
    pure (.tuple #[])) := rfl
theorem pt57a (a : Addr) (w : World) : (ReflectliteValue.parts (.agg #[.pointer (some ⟨1, 57, none⟩), .pointer (some a), .int .u64 409])).run Tryz.prog w = .ok (some (57, a, 409)) w := by kernel_rfl
theorem pt57 (a : Addr) (w : World) : (ReflectliteValue.parts (.agg #[.pointer (some ⟨1, 57, none⟩), .pointer (some a), .int .u64 153])).run Tryz.prog w = .ok (some (57, a, 153)) w := by kernel_rfl
theorem dir57 (w : World) : (Rtype.directlyAssignable 57 57).run Tryz.prog w = .ok true w := by kernel_rfl
theorem isAgg57 (w : World) : (isAgg 57).run Tryz.prog w = .ok true w := by kernel_rfl
theorem size57 (w : World) : (sizeOf 57).run Tryz.prog w = .ok 1 w := by kernel_rfl
theorem set57 (ta b : Addr) (c : Int) (old : Value) (W : World) (hb : W.cell? b = some (.int .i64 c)) (ht : W.cell? ta = some old) (hf : W.frozen? ta = false) :
    (ReflectliteValue.set #[.agg #[.pointer (some ⟨1, 57, none⟩), .pointer (some ta), .int .u64 409], .agg #[.pointer (some ⟨1, 57, none⟩), .pointer (some b), .int .u64 153]]).run Tryz.prog W
      = .ok (.tuple #[]) (W.setCell ta (.int .i64 c)) := by
  rw [rls]
  simp only [Sem.run_bind, pt57a, pt57, Result.andThen]
  simp [ReflectliteValue.flagAddr, loadVar, isAgg57, underlying, hb, Result.andThen, dir57, storeVar, Value.cells, storeCells, Addr.add, size57]
  have hl : (loadCells b 1).run Tryz.prog W = .ok #[.int .i64 c] W := by
    simp [loadCells, loadCellsFrom, hb, Result.andThen, Addr.add]
  rw [hl]
  simp [storeCells, Addr.add]
  rw [run_store Tryz.prog W ta _ _ (by rfl)]
  simp [ht, hf]
set_option maxHeartbeats 4000000 in
theorem as_hit (c : Int) (t : Addr) (old : Value) (w : World) (hg : w.cell? ⟨0, 0, none⟩ = some (.iface 115 (.agg #[.pointer (some ⟨1, 60, none⟩)]))) (ht0 : w.cell? t = some old) (hf0 : w.frozen? t = false) :
    Calls Tryz.prog 22 #[.iface 57 (.agg #[.int .i64 c]), .iface 62 (.pointer (some t))] w fun ev w' => ev = .returned (.bool true) ∧ w' = ((((w.alloc (.cells #[.pointer (some t)] 62)).alloc (.cells #[.pointer (some ⟨1, 62, none⟩), .pointer (some ⟨w.heap.size, 0, none⟩), .int .u64 150] 94)).alloc (.cells #[.pointer (some ⟨1, 62, none⟩), .pointer (some ⟨w.heap.size, 0, none⟩), .int .u64 150] 94)).alloc (.cells #[.int .i64 c] 57)).setCell t (.int .i64 c) := by
  have h6 := @run_callFunc_extern Tryz.prog 40 _ (fun args => ReflectliteValue.unpack (args.getD 0 (.tuple #[]))) Tryz.func40 (by kernel_rfl) (by kernel_rfl) (by kernel_rfl) (by kernel_rfl)
  have h7 := @run_callFunc_extern Tryz.prog 41 _ (ReflectliteValue.methodAny (ReflectliteValue.valueError "reflectlite.Value.Type" 0) (fun t _ _ _ => ReflectliteType.toType t)) Tryz.func41 (by kernel_rfl) (by kernel_rfl) (by kernel_rfl) (by kernel_rfl)
  have h8 := @run_callFunc_extern Tryz.prog 42 _ (ReflectliteValue.method (ReflectliteValue.valueError "reflectlite.Value.IsNil" 0) ReflectliteValue.isNil) Tryz.func42 (by kernel_rfl) (by kernel_rfl) (by kernel_rfl) (by kernel_rfl)
  have h27 := @run_callFunc_extern Tryz.prog 113 _ (ReflectliteType.abiMethod fun t => do pure (.int .u8 (← Rtype.kind t))) Tryz.func113 (by kernel_rfl) (by kernel_rfl) (by kernel_rfl) (by kernel_rfl)
  have h37 := @run_callFunc_extern Tryz.prog 124 _ (ReflectliteType.method ReflectliteType.elem) Tryz.func124 (by kernel_rfl) (by kernel_rfl) (by kernel_rfl) (by kernel_rfl)
  have h38 := @run_callFunc_extern Tryz.prog 125 _ (ReflectliteType.relation "Implements" ReflectliteType.implements_) Tryz.func125 (by kernel_rfl) (by kernel_rfl) (by kernel_rfl) (by kernel_rfl)
  have h10 := @run_callFunc_extern Tryz.prog 56 _ ReflectliteType.typeOf Tryz.func56 (by kernel_rfl) (by kernel_rfl) (by kernel_rfl) (by kernel_rfl)
  have h35 := @run_callFunc_extern Tryz.prog 122 _ (ReflectliteType.relation "AssignableTo" ReflectliteType.assignableTo) Tryz.func122 (by kernel_rfl) (by kernel_rfl) (by kernel_rfl) (by kernel_rfl)
  have h11 := @run_callFunc_extern Tryz.prog 57 _ (ReflectliteValue.method (ReflectliteValue.valueError "reflectlite.Value.Elem" 0) ReflectliteValue.elem) Tryz.func57 (by kernel_rfl) (by kernel_rfl) (by kernel_rfl) (by kernel_rfl)
  have h12 := @run_callFunc_extern Tryz.prog 58 _ ReflectliteValue.set Tryz.func58 (by kernel_rfl) (by kernel_rfl) (by kernel_rfl) (by kernel_rfl)
  have tO := tOf57
  have mA := mAssignableTo
  have a25 := asg57
  have v25 := vOf57
  have f6 := vOf62
  have f7 := ty62
  have mK := mKind
  have mE := mElem
  have mI := mImplements
  have k27 := kd62
  have k25 := kd57
  have e27 := el62
  have i25 := im57
  have n8 := isNil62 ⟨w.heap.size, 0, none⟩ t ((w.alloc (.cells #[.pointer (some t)] 62)).alloc (.cells #[.pointer (some ⟨1, 62, none⟩), .pointer (some ⟨w.heap.size, 0, none⟩), .int .u64 150] 94)) (by simp)
  have hlt : 0 < w.heap.size := by
    rcases Nat.eq_zero_or_pos w.heap.size with h0 | h
    · simp [World.cell?, h0] at hg
    · exact h
  have hg2 : ((w.alloc (.cells #[.pointer (some t)] 62)).alloc (.cells #[.pointer (some ⟨1, 62, none⟩), .pointer (some ⟨w.heap.size, 0, none⟩), .int .u64 150] 94)).cell? ⟨0, 0, none⟩ = some (.iface 115 (.agg #[.pointer (some ⟨1, 60, none⟩)])) := by
    rw [World.cell?_alloc_lt _ _ ⟨0, 0, none⟩ (by simp), World.cell?_alloc_lt _ _ ⟨0, 0, none⟩ hlt]; exact hg
  have htl : t.block < w.heap.size := by
    rcases Nat.lt_or_ge t.block w.heap.size with h | h
    · exact h
    · simp [World.cell?, Array.getElem?_eq_none h] at ht0
  have el := elemV62 ⟨w.heap.size, 0, none⟩ t (((w.alloc (.cells #[.pointer (some t)] 62)).alloc (.cells #[.pointer (some ⟨1, 62, none⟩), .pointer (some ⟨w.heap.size, 0, none⟩), .int .u64 150] 94)).alloc (.cells #[.pointer (some ⟨1, 62, none⟩), .pointer (some ⟨w.heap.size, 0, none⟩), .int .u64 150] 94)) (by rw [World.cell?_alloc_lt _ _ ⟨w.heap.size, 0, none⟩ (by simp; omega)]; simp)
  have st := set57 t ⟨w.heap.size + 1 + 1 + 1, 0, none⟩ c old ((((w.alloc (.cells #[.pointer (some t)] 62)).alloc (.cells #[.pointer (some ⟨1, 62, none⟩), .pointer (some ⟨w.heap.size, 0, none⟩), .int .u64 150] 94)).alloc (.cells #[.pointer (some ⟨1, 62, none⟩), .pointer (some ⟨w.heap.size, 0, none⟩), .int .u64 150] 94)).alloc (.cells #[.int .i64 c] 57))
    (by rw [World.cell?_alloc_at _ _ _ _ (by simp)]; rfl)
    (by rw [World.cell?_alloc_lt _ _ t (by simp; omega), World.cell?_alloc_lt _ _ t (by simp; omega), World.cell?_alloc_lt _ _ t (by simp; omega), World.cell?_alloc_lt _ _ t htl]; exact ht0)
    (by rw [World.frozen?_alloc_old _ _ t (by simp; omega), World.frozen?_alloc_old _ _ t (by simp; omega), World.frozen?_alloc_old _ _ t (by simp; omega), World.frozen?_alloc_old _ _ t (Nat.ne_of_lt htl)]; exact hf0)
  go_enter Tryz.func22, Tryz.ntmps22
  go_wp2
  refine wp_loop_rounds 1 ?_
  rw [rounds_succ]
  go_wp2
  go_ret
  exact ⟨rfl, rfl⟩
end Go.Proofs.YtkfpoagnchahkaaGreatDoor

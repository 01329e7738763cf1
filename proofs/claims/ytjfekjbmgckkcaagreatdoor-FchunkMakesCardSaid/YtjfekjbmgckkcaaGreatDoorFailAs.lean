/- errors.As at a target of type **fail.Error: nil; an *fail.Error; an errors.errorString. After the kit's worked text Toyas. -/
import Derived.Test.YtjfekjbmgckkcaaGreatDoorBase
import Derived.Test.YtjfekjbmgckkcaaGreatDoorProg
import Derived.WalkKit
import Derived.LaidEql
import Derived.Stop.Asserts
import Derived.RowKitTokens
namespace Go.Proofs.YtjfekjbmgckkcaaGreatDoor.FailAs
open Go.RowKit Go.Extern.Stop Go.Stop Go.Extern Go.Proofs.YtjfekjbmgckkcaaGreatDoorW.PrintWords
open Go.Proofs.YtjfekjbmgckkcaaGreatDoor.Base

abbrev tE : Nat := 182
/-- errors.As(nil, target). -/
theorem as_nil (t : Value) (w : World) :
    Calls Tryz.prog 123 #[.nilIface, t] w fun e w' => e = .returned (.bool false) ∧ w = w' := by
  go_enter Tryz.func123, Tryz.ntmps123
  go_wp2
  go_ret
  exact ⟨rfl, rfl⟩

/-! ### closed facts -/
theorem valueOfPP (t : Addr) (w : World) : (ReflectliteValue.unpack (.iface 184 (.pointer (some t)))).run Tryz.prog w
    = .ok (.agg #[.pointer (some ⟨3, 184, none⟩), .pointer (some ⟨w.heap.size, 0, none⟩), .int .u64 150]) (w.alloc (.cells #[.pointer (some t)] 184)) := by kernel_rfl
theorem typePP (a : Addr) (w : World) : (ReflectliteValue.methodAny (ReflectliteValue.valueError "reflectlite.Value.Type" 0) (fun t _ _ _ => ReflectliteType.toType t) #[.agg #[.pointer (some ⟨3, 184, none⟩), .pointer (some a), .int .u64 150]]).run Tryz.prog w
    = .ok (.iface 290 (.agg #[.pointer (some ⟨3, 184, none⟩)])) w := by kernel_rfl
theorem methodKind (h : Value) (w : World) : (Go.method 473 290 (.agg #[h]) "Kind").run Tryz.prog w = .ok (266, h) w := by kernel_rfl
theorem kindPP (w : World) : ((ReflectliteType.abiMethod fun t => (fun a : Nat => Value.int IntKind.u8 (a : Int)) <$> Rtype.kind t) #[.pointer (some ⟨3, 184, none⟩)]).run Tryz.prog w = .ok (.int .u8 22) w := by kernel_rfl
theorem kindP (w : World) : ((ReflectliteType.abiMethod fun t => (fun a : Nat => Value.int IntKind.u8 (a : Int)) <$> Rtype.kind t) #[.pointer (some ⟨3, 182, none⟩)]).run Tryz.prog w = .ok (.int .u8 22) w := by kernel_rfl
theorem rlm (z : Sem Value) (f : TypeId → Addr → Nat → Nat → Sem Value) (v : Value) :
    ReflectliteValue.method z f #[v] = (do match ← ReflectliteValue.parts v with | none => z | some (t, a, fl) => f t a fl (fl % 32)) := rfl
theorem partsPP (a : Addr) (w : World) : (ReflectliteValue.parts (.agg #[.pointer (some ⟨3, 184, none⟩), .pointer (some a), .int .u64 150])).run Tryz.prog w = .ok (some (184, a, 150)) w := by kernel_rfl
theorem isNilPP (a p : Addr) (W : World) (ha : W.cell? a = some (.pointer (some p))) :
    (ReflectliteValue.method (ReflectliteValue.valueError "reflectlite.Value.IsNil" 0) ReflectliteValue.isNil #[.agg #[.pointer (some ⟨3, 184, none⟩), .pointer (some a), .int .u64 150]]).run Tryz.prog W = .ok (.bool false) W := by
  rw [rlm]
  simp only [Sem.run_bind, partsPP, Result.andThen]
  simp [ReflectliteValue.isNil, loadVar, isAgg, underlying, Tryz.underlying184, ha, Result.andThen]
theorem methodElem (h : Value) (w : World) : (Go.method 473 290 (.agg #[h]) "Elem").run Tryz.prog w = .ok (281, .agg #[h]) w := by kernel_rfl
theorem methodImplements (h : Value) (w : World) : (Go.method 473 290 (.agg #[h]) "Implements").run Tryz.prog w = .ok (282, .agg #[h]) w := by kernel_rfl
theorem methodAssignableTo (h : Value) (w : World) : (Go.method 473 290 (.agg #[h]) "AssignableTo").run Tryz.prog w = .ok (279, .agg #[h]) w := by kernel_rfl
theorem elemPP (w : World) : (ReflectliteType.method ReflectliteType.elem #[.agg #[.pointer (some ⟨3, 184, none⟩)]]).run Tryz.prog w = .ok (.iface 290 (.agg #[.pointer (some ⟨3, 182, none⟩)])) w := by kernel_rfl
theorem implementsP (w : World) : (ReflectliteType.relation "Implements" ReflectliteType.implements_ #[.agg #[.pointer (some ⟨3, 182, none⟩)], .iface 290 (.agg #[.pointer (some ⟨3, 34, none⟩)])]).run Tryz.prog w = .ok (.bool true) w := by kernel_rfl
theorem typeOfP (v : Value) (w : World) : (ReflectliteType.typeOf #[.iface 182 v]).run Tryz.prog w = .ok (.iface 290 (.agg #[.pointer (some ⟨3, 182, none⟩)])) w := by kernel_rfl
theorem assignableP (w : World) : (ReflectliteType.relation "AssignableTo" ReflectliteType.assignableTo #[.agg #[.pointer (some ⟨3, 182, none⟩)], .iface 290 (.agg #[.pointer (some ⟨3, 182, none⟩)])]).run Tryz.prog w = .ok (.bool true) w := by kernel_rfl
theorem valueOfP (e : Addr) (w : World) : (ReflectliteValue.unpack (.iface 182 (.pointer (some e)))).run Tryz.prog w
    = .ok (.agg #[.pointer (some ⟨3, 182, none⟩), .pointer (some ⟨w.heap.size, 0, none⟩), .int .u64 150]) (w.alloc (.cells #[.pointer (some e)] 182)) := by kernel_rfl
theorem elemOfPP (w : World) : (Rtype.elem? 184).run Tryz.prog w = .ok (some 182) w := by kernel_rfl
theorem mkP (p : Addr) (w : World) : (ReflectliteValue.mk 182 p ReflectliteValue.flagAddr).run Tryz.prog w = .ok (.agg #[.pointer (some ⟨3, 182, none⟩), .pointer (some p), .int .u64 406]) w := by kernel_rfl
theorem elemVPP (a p : Addr) (W : World) (ha : W.cell? a = some (.pointer (some p))) :
    (ReflectliteValue.method (ReflectliteValue.valueError "reflectlite.Value.Elem" 0) ReflectliteValue.elem #[.agg #[.pointer (some ⟨3, 184, none⟩), .pointer (some a), .int .u64 150]]).run Tryz.prog W
      = .ok (.agg #[.pointer (some ⟨3, 182, none⟩), .pointer (some p), .int .u64 406]) W := by
  rw [rlm]
  simp only [Sem.run_bind, partsPP, Result.andThen]
  simp [ReflectliteValue.elem, loadVar, isAgg, underlying, Tryz.underlying184, ha, Result.andThen, elemOfPP, mkP]
theorem rls (v x : Value) : ReflectliteValue.set #[v, x] = (do
    let (some (dst, a, fl), some (src, b, _)) := (← ReflectliteValue.parts v, ← ReflectliteValue.parts x)
      | unsupported (.noEntry "extern/(internal/reflectlite.Value).Set.zeroValue")
    if fl / ReflectliteValue.flagAddr % 2 == 0 then unsupported (.noEntry "extern/(internal/reflectlite.Value).Set.unaddressable")
    let val ← loadVar src b
    if ← Rtype.directlyAssignable dst src then storeVar dst a val
    else if ← Rtype.implements dst src then
      if (← Rtype.kind src) == 20 then
        match val with
        | .nilIface => unsupported (.noEntry "extern/reflectlite: a nil value of one interface type handed on as a value of another")
        | _ => storeVar dst a val
      else storeVar dst a (.iface src val)
    else panicString ("reflectlite.Set: value of type " ++ (← Rtype.spelt src) ++ " is not assignable to type " ++ (← Rtype.spelt dst))
    pure (.tuple #[])) := rfl
theorem partsPa (a : Addr) (w : World) : (ReflectliteValue.parts (.agg #[.pointer (some ⟨3, 182, none⟩), .pointer (some a), .int .u64 406])).run Tryz.prog w = .ok (some (182, a, 406)) w := by kernel_rfl
theorem partsP (a : Addr) (w : World) : (ReflectliteValue.parts (.agg #[.pointer (some ⟨3, 182, none⟩), .pointer (some a), .int .u64 150])).run Tryz.prog w = .ok (some (182, a, 150)) w := by kernel_rfl
theorem directP (w : World) : (Rtype.directlyAssignable 182 182).run Tryz.prog w = .ok true w := by kernel_rfl
theorem setP (ta b e : Addr) (old : Value) (W : World) (hb : W.cell? b = some (.pointer (some e))) (ht : W.cell? ta = some old) (hf : W.frozen? ta = false) :
    (ReflectliteValue.set #[.agg #[.pointer (some ⟨3, 182, none⟩), .pointer (some ta), .int .u64 406], .agg #[.pointer (some ⟨3, 182, none⟩), .pointer (some b), .int .u64 150]]).run Tryz.prog W
      = .ok (.tuple #[]) (W.setCell ta (.pointer (some e))) := by
  rw [rls]
  simp only [Sem.run_bind, partsPa, partsP, Result.andThen]
  simp [ReflectliteValue.flagAddr, loadVar, isAgg, underlying, Tryz.underlying182, hb, Result.andThen, directP, storeVar, Value.cells, storeCells, Addr.add]
  rw [run_store Tryz.prog W ta _ _ (by rfl)]
  simp [ht, hf]
/-- what errors.As leaves: nothing of old has turned, but the target. -/
structure Hit (t : Addr) (x : Value) (w w' : World) : Prop where
  ch : Ch (fun k => k = t.block) w w'
  at_ : w'.cell? t = some x
  fr : w'.frozen? t = false
/-- the type's handle that errors.As asks for. -/
def GlE (w : World) : Prop := w.cell? ⟨0, 0, none⟩ = some (.iface 290 (.agg #[.pointer (some ⟨3, 34, none⟩)]))
theorem cell_lt {w : World} {t : Addr} {u : Value} (h : w.cell? t = some u) : t.block < w.heap.size := World.block_lt_of_cell? w t h

set_option maxHeartbeats 4000000 in
theorem as_hit (e t : Addr) (old : Value) (w : World) (hg : GlE w) (ht0 : w.cell? t = some old) (hf0 : w.frozen? t = false) :
    Calls Tryz.prog 123 #[.iface 182 (.pointer (some e)), .iface 184 (.pointer (some t))] w fun ev w' => ev = .returned (.bool true) ∧ Hit t (.pointer (some e)) w w' := by
  unfold GlE at hg
  have h6 := @run_callFunc_extern Tryz.prog 184 _ (fun args => ReflectliteValue.unpack (args.getD 0 (.tuple #[]))) Tryz.func184 (by kernel_rfl) (by kernel_rfl) (by kernel_rfl) (by kernel_rfl)
  have h7 := @run_callFunc_extern Tryz.prog 185 _ (ReflectliteValue.methodAny (ReflectliteValue.valueError "reflectlite.Value.Type" 0) (fun t _ _ _ => ReflectliteType.toType t)) Tryz.func185 (by kernel_rfl) (by kernel_rfl) (by kernel_rfl) (by kernel_rfl)
  have h8 := @run_callFunc_extern Tryz.prog 186 _ (ReflectliteValue.method (ReflectliteValue.valueError "reflectlite.Value.IsNil" 0) ReflectliteValue.isNil) Tryz.func186 (by kernel_rfl) (by kernel_rfl) (by kernel_rfl) (by kernel_rfl)
  have h27 := @run_callFunc_extern Tryz.prog 266 _ (ReflectliteType.abiMethod fun t => do pure (.int .u8 (← Rtype.kind t))) Tryz.func266 (by kernel_rfl) (by kernel_rfl) (by kernel_rfl) (by kernel_rfl)
  have h37 := @run_callFunc_extern Tryz.prog 281 _ (ReflectliteType.method ReflectliteType.elem) Tryz.func281 (by kernel_rfl) (by kernel_rfl) (by kernel_rfl) (by kernel_rfl)
  have h38 := @run_callFunc_extern Tryz.prog 282 _ (ReflectliteType.relation "Implements" ReflectliteType.implements_) Tryz.func282 (by kernel_rfl) (by kernel_rfl) (by kernel_rfl) (by kernel_rfl)
  have h10 := @run_callFunc_extern Tryz.prog 220 _ ReflectliteType.typeOf Tryz.func220 (by kernel_rfl) (by kernel_rfl) (by kernel_rfl) (by kernel_rfl)
  have h35 := @run_callFunc_extern Tryz.prog 279 _ (ReflectliteType.relation "AssignableTo" ReflectliteType.assignableTo) Tryz.func279 (by kernel_rfl) (by kernel_rfl) (by kernel_rfl) (by kernel_rfl)
  have h11 := @run_callFunc_extern Tryz.prog 221 _ (ReflectliteValue.method (ReflectliteValue.valueError "reflectlite.Value.Elem" 0) ReflectliteValue.elem) Tryz.func221 (by kernel_rfl) (by kernel_rfl) (by kernel_rfl) (by kernel_rfl)
  have h12 := @run_callFunc_extern Tryz.prog 222 _ ReflectliteValue.set Tryz.func222 (by kernel_rfl) (by kernel_rfl) (by kernel_rfl) (by kernel_rfl)
  have tO := typeOfP
  have mA := methodAssignableTo
  have a25 := assignableP
  have v25 := valueOfP
  have f6 := valueOfPP
  have f7 := typePP
  have mK := methodKind
  have mE := methodElem
  have mI := methodImplements
  have k27 := kindPP
  have k25 := kindP
  have e27 := elemPP
  have i25 := implementsP
  have n8 := isNilPP ⟨w.heap.size, 0, none⟩ t ((w.alloc (.cells #[.pointer (some t)] 184)).alloc (.cells #[.pointer (some ⟨3, 184, none⟩), .pointer (some ⟨w.heap.size, 0, none⟩), .int .u64 150] 250)) (by simp)
  have hlt : 0 < w.heap.size := cell_lt hg
  have hg2 : ((w.alloc (.cells #[.pointer (some t)] 184)).alloc (.cells #[.pointer (some ⟨3, 184, none⟩), .pointer (some ⟨w.heap.size, 0, none⟩), .int .u64 150] 250)).cell? ⟨0, 0, none⟩ = some (.iface 290 (.agg #[.pointer (some ⟨3, 34, none⟩)])) := by
    rw [World.cell?_alloc_lt _ _ ⟨0, 0, none⟩ (by simp <;> omega), World.cell?_alloc_lt _ _ ⟨0, 0, none⟩ hlt]; exact hg
  have htl : t.block < w.heap.size := cell_lt ht0
  have el := elemVPP ⟨w.heap.size, 0, none⟩ t (((w.alloc (.cells #[.pointer (some t)] 184)).alloc (.cells #[.pointer (some ⟨3, 184, none⟩), .pointer (some ⟨w.heap.size, 0, none⟩), .int .u64 150] 250)).alloc (.cells #[.pointer (some ⟨3, 184, none⟩), .pointer (some ⟨w.heap.size, 0, none⟩), .int .u64 150] 250)) (by rw [World.cell?_alloc_lt _ _ ⟨w.heap.size, 0, none⟩ (by simp; omega)]; simp)
  have ht4 : ((((w.alloc (.cells #[.pointer (some t)] 184)).alloc (.cells #[.pointer (some ⟨3, 184, none⟩), .pointer (some ⟨w.heap.size, 0, none⟩), .int .u64 150] 250)).alloc (.cells #[.pointer (some ⟨3, 184, none⟩), .pointer (some ⟨w.heap.size, 0, none⟩), .int .u64 150] 250)).alloc (.cells #[.pointer (some e)] 182)).cell? t = some old := by
    rw [World.cell?_alloc_lt _ _ t (by simp; omega), World.cell?_alloc_lt _ _ t (by simp; omega), World.cell?_alloc_lt _ _ t (by simp; omega), World.cell?_alloc_lt _ _ t htl]; exact ht0
  have hf4 : ((((w.alloc (.cells #[.pointer (some t)] 184)).alloc (.cells #[.pointer (some ⟨3, 184, none⟩), .pointer (some ⟨w.heap.size, 0, none⟩), .int .u64 150] 250)).alloc (.cells #[.pointer (some ⟨3, 184, none⟩), .pointer (some ⟨w.heap.size, 0, none⟩), .int .u64 150] 250)).alloc (.cells #[.pointer (some e)] 182)).frozen? t = false := by
    rw [World.frozen?_alloc_old _ _ t (by simp; omega), World.frozen?_alloc_old _ _ t (by simp; omega), World.frozen?_alloc_old _ _ t (by simp; omega), World.frozen?_alloc_old _ _ t (Nat.ne_of_lt htl)]; exact hf0
  have st := setP t ⟨w.heap.size + 1 + 1 + 1, 0, none⟩ e old ((((w.alloc (.cells #[.pointer (some t)] 184)).alloc (.cells #[.pointer (some ⟨3, 184, none⟩), .pointer (some ⟨w.heap.size, 0, none⟩), .int .u64 150] 250)).alloc (.cells #[.pointer (some ⟨3, 184, none⟩), .pointer (some ⟨w.heap.size, 0, none⟩), .int .u64 150] 250)).alloc (.cells #[.pointer (some e)] 182))
    (by rw [World.cell?_alloc_at _ _ _ _ (by simp)]; rfl) ht4 hf4
  have hfin : Hit t (.pointer (some e)) w (((((w.alloc (.cells #[.pointer (some t)] 184)).alloc (.cells #[.pointer (some ⟨3, 184, none⟩), .pointer (some ⟨w.heap.size, 0, none⟩), .int .u64 150] 250)).alloc (.cells #[.pointer (some ⟨3, 184, none⟩), .pointer (some ⟨w.heap.size, 0, none⟩), .int .u64 150] 250)).alloc (.cells #[.pointer (some e)] 182)).setCell t (.pointer (some e))) := by
    refine ⟨(((((Ch.refl (fun k => k = t.block) w).alloc _).alloc _).alloc _).alloc _).setCell (p := t) (.inl rfl) _, ?_, ?_⟩
    · exact World.cell?_setCell_same' _ _ _ (by rw [ht4]; rfl)
    · rw [World.frozen?_setCell]; exact hf4
  have HFIN := Lib.hid hfin
  clear hfin
  go_enter Tryz.func123, Tryz.ntmps123
  go_wp2
  refine wp_loop_rounds 1 ?_
  rw [rounds_succ]
  go_wp2
  go_ret
  exact ⟨rfl, HFIN.out⟩
end Go.Proofs.YtjfekjbmgckkcaaGreatDoor.FailAs

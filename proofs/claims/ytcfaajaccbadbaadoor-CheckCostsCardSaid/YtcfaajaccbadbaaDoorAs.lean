/- dev: errors.As at a sentinel: false. After the kit's ToyasAs. -/
import Derived.Test.YtcfaajaccbadbaaDoorProg
import Derived.WalkKit
import Derived.LaidEql
import Derived.Stop.Asserts
import Derived.RowKitTokens
namespace Go.Proofs.YtcfaajaccbadbaaDoor
open Go.RowKit Go.Extern.Stop Go.Stop Go.Extern

theorem As.size : Tryd.prog.types.size = 187 := by kernel_rfl
theorem As.valueOf (t : Addr) (w : World) : (ReflectliteValue.unpack (.iface 106 (.pointer (some t)))).run Tryd.prog w
    = .ok (.agg #[.pointer (some ⟨22, 106, none⟩), .pointer (some ⟨w.heap.size, 0, none⟩), .int .u64 150]) (w.alloc (.cells #[.pointer (some t)] 106)) := by kernel_rfl
theorem As.type (a : Addr) (w : World) : (ReflectliteValue.methodAny (ReflectliteValue.valueError "reflectlite.Value.Type" 0) (fun t _ _ _ => ReflectliteType.toType t) #[.agg #[.pointer (some ⟨22, 106, none⟩), .pointer (some a), .int .u64 150]]).run Tryd.prog w
    = .ok (.iface 142 (.agg #[.pointer (some ⟨22, 106, none⟩)])) w := by kernel_rfl
theorem As.methodKind (h : Value) (w : World) : (Go.method 287 142 (.agg #[h]) "Kind").run Tryd.prog w = .ok (104, h) w := by kernel_rfl
theorem As.kind106 (w : World) : ((ReflectliteType.abiMethod fun t => (fun a : Nat => Value.int IntKind.u8 (a : Int)) <$> Rtype.kind t) #[.pointer (some ⟨22, 106, none⟩)]).run Tryd.prog w = .ok (.int .u8 22) w := by kernel_rfl
theorem As.kind91 (w : World) : ((ReflectliteType.abiMethod fun t => (fun a : Nat => Value.int IntKind.u8 (a : Int)) <$> Rtype.kind t) #[.pointer (some ⟨22, 91, none⟩)]).run Tryd.prog w = .ok (.int .u8 22) w := by kernel_rfl
theorem As.rlm (z : Sem Value) (f : TypeId → Addr → Nat → Nat → Sem Value) (v : Value) :
    ReflectliteValue.method z f #[v] = (do match ← ReflectliteValue.parts v with | none => z | some (t, a, fl) => f t a fl (fl % 32)) := rfl
theorem As.parts (a : Addr) (w : World) : (ReflectliteValue.parts (.agg #[.pointer (some ⟨22, 106, none⟩), .pointer (some a), .int .u64 150])).run Tryd.prog w = .ok (some (106, a, 150)) w := by kernel_rfl
theorem As.isNil (a p : Addr) (W : World) (ha : W.cell? a = some (.pointer (some p))) :
    (ReflectliteValue.method (ReflectliteValue.valueError "reflectlite.Value.IsNil" 0) ReflectliteValue.isNil #[.agg #[.pointer (some ⟨22, 106, none⟩), .pointer (some a), .int .u64 150]]).run Tryd.prog W = .ok (.bool false) W := by
  rw [As.rlm]
  simp only [Sem.run_bind, As.parts, Result.andThen]
  simp [ReflectliteValue.isNil, loadVar, isAgg, underlying, Tryd.underlying106, ha, Result.andThen]
theorem As.methodElem (h : Value) (w : World) : (Go.method 287 142 (.agg #[h]) "Elem").run Tryd.prog w = .ok (115, .agg #[h]) w := by kernel_rfl
theorem As.methodImplements (h : Value) (w : World) : (Go.method 287 142 (.agg #[h]) "Implements").run Tryd.prog w = .ok (116, .agg #[h]) w := by kernel_rfl
theorem As.methodAssignableTo (h : Value) (w : World) : (Go.method 287 142 (.agg #[h]) "AssignableTo").run Tryd.prog w = .ok (113, .agg #[h]) w := by kernel_rfl
theorem As.elem (w : World) : (ReflectliteType.method ReflectliteType.elem #[.agg #[.pointer (some ⟨22, 106, none⟩)]]).run Tryd.prog w = .ok (.iface 142 (.agg #[.pointer (some ⟨22, 91, none⟩)])) w := by kernel_rfl
theorem As.implements (w : World) : (ReflectliteType.relation "Implements" ReflectliteType.implements_ #[.agg #[.pointer (some ⟨22, 91, none⟩)], .iface 142 (.agg #[.pointer (some ⟨22, 38, none⟩)])]).run Tryd.prog w = .ok (.bool true) w := by kernel_rfl
theorem As.typeOf (v : Value) (w : World) : (ReflectliteType.typeOf #[.iface 153 v]).run Tryd.prog w = .ok (.iface 142 (.agg #[.pointer (some ⟨22, 153, none⟩)])) w := by kernel_rfl
theorem As.assignable (w : World) : (ReflectliteType.relation "AssignableTo" ReflectliteType.assignableTo #[.agg #[.pointer (some ⟨22, 153, none⟩)], .iface 142 (.agg #[.pointer (some ⟨22, 91, none⟩)])]).run Tryd.prog w = .ok (.bool false) w := by kernel_rfl

theorem As.ta147 (v : Value) (xT : TypeId) (w : World) : (Instr.typeAssert (.iface 153 v) xT 147 true).run Tryd.prog w = .ok (.tuple #[.nilIface, .bool false]) w := run_typeAssert_lacksB Tryd.underlying147 (by kernel_rfl) (by kernel_rfl) v xT w
theorem As.ta150 (v : Value) (xT : TypeId) (w : World) : (Instr.typeAssert (.iface 153 v) xT 150 true).run Tryd.prog w = .ok (.tuple #[.nilIface, .bool false]) w := run_typeAssert_lacksB Tryd.underlying150 (by kernel_rfl) (by kernel_rfl) v xT w
theorem As.ta152 (v : Value) (xT : TypeId) (w : World) : (Instr.typeAssert (.iface 153 v) xT 152 true).run Tryd.prog w = .ok (.tuple #[.nilIface, .bool false]) w := run_typeAssert_lacksB Tryd.underlying152 (by kernel_rfl) (by kernel_rfl) v xT w

set_option maxHeartbeats 8000000 in
set_option maxRecDepth 100000 in
theorem as_miss (e t : Addr) (w : World) (hg : w.cell? ⟨7, 0, none⟩ = some (.iface 142 (.agg #[.pointer (some ⟨22, 38, none⟩)]))) :
    Calls Tryd.prog 53 #[.iface 153 (.pointer (some e)), .iface 106 (.pointer (some t))] w fun ev w' => ev = .returned (.bool false) ∧ w' = (((w.alloc (.cells #[.pointer (some t)] 106)).alloc (.cells #[.pointer (some ⟨22, 106, none⟩), .pointer (some ⟨w.heap.size, 0, none⟩), .int .u64 150] 126)).alloc (.cells #[.pointer (some ⟨22, 106, none⟩), .pointer (some ⟨w.heap.size, 0, none⟩), .int .u64 150] 126)) := by
  have h74 := @run_callFunc_extern Tryd.prog 74 _ (fun args => ReflectliteValue.unpack (args.getD 0 (.tuple #[]))) Tryd.func74 (by kernel_rfl) (by kernel_rfl) (by kernel_rfl) (by kernel_rfl)
  have h75 := @run_callFunc_extern Tryd.prog 75 _ (ReflectliteValue.methodAny (ReflectliteValue.valueError "reflectlite.Value.Type" 0) (fun t _ _ _ => ReflectliteType.toType t)) Tryd.func75 (by kernel_rfl) (by kernel_rfl) (by kernel_rfl) (by kernel_rfl)
  have h76 := @run_callFunc_extern Tryd.prog 76 _ (ReflectliteValue.method (ReflectliteValue.valueError "reflectlite.Value.IsNil" 0) ReflectliteValue.isNil) Tryd.func76 (by kernel_rfl) (by kernel_rfl) (by kernel_rfl) (by kernel_rfl)
  have h104 := @run_callFunc_extern Tryd.prog 104 _ (ReflectliteType.abiMethod fun t => do pure (.int .u8 (← Rtype.kind t))) Tryd.func104 (by kernel_rfl) (by kernel_rfl) (by kernel_rfl) (by kernel_rfl)
  have h115 := @run_callFunc_extern Tryd.prog 115 _ (ReflectliteType.method ReflectliteType.elem) Tryd.func115 (by kernel_rfl) (by kernel_rfl) (by kernel_rfl) (by kernel_rfl)
  have h116 := @run_callFunc_extern Tryd.prog 116 _ (ReflectliteType.relation "Implements" ReflectliteType.implements_) Tryd.func116 (by kernel_rfl) (by kernel_rfl) (by kernel_rfl) (by kernel_rfl)
  have h87 := @run_callFunc_extern Tryd.prog 87 _ ReflectliteType.typeOf Tryd.func87 (by kernel_rfl) (by kernel_rfl) (by kernel_rfl) (by kernel_rfl)
  have h113 := @run_callFunc_extern Tryd.prog 113 _ (ReflectliteType.relation "AssignableTo" ReflectliteType.assignableTo) Tryd.func113 (by kernel_rfl) (by kernel_rfl) (by kernel_rfl) (by kernel_rfl)
  have tO := As.typeOf
  have ta1 := As.ta147
  have ta2 := As.ta150
  have ta3 := As.ta152
  have mA := As.methodAssignableTo
  have aN := As.assignable
  have f6 := As.valueOf
  have f7 := As.type
  have mK := As.methodKind
  have mE := As.methodElem
  have mI := As.methodImplements
  have k106 := As.kind106
  have k91 := As.kind91
  have e106 := As.elem
  have i91 := As.implements
  have n8 := As.isNil ⟨w.heap.size, 0, none⟩ t ((w.alloc (.cells #[.pointer (some t)] 106)).alloc (.cells #[.pointer (some ⟨22, 106, none⟩), .pointer (some ⟨w.heap.size, 0, none⟩), .int .u64 150] 126)) (by simp)
  have hlt : 7 < w.heap.size := by
    refine Nat.lt_of_not_le fun h0 => ?_
    simp [World.cell?, Array.getElem?_eq_none h0] at hg
  have hg2 : ((w.alloc (.cells #[.pointer (some t)] 106)).alloc (.cells #[.pointer (some ⟨22, 106, none⟩), .pointer (some ⟨w.heap.size, 0, none⟩), .int .u64 150] 126)).cell? ⟨7, 0, none⟩ = some (.iface 142 (.agg #[.pointer (some ⟨22, 38, none⟩)])) := by
    rw [World.cell?_alloc_lt _ _ ⟨7, 0, none⟩ (by simp; omega), World.cell?_alloc_lt _ _ ⟨7, 0, none⟩ hlt]; exact hg
  go_enter Tryd.func53, Tryd.ntmps53
  go_wp2
  refine wp_loop_rounds 1 ?_
  rw [rounds_succ]
  go_wp2
  go_ret
  exact ⟨rfl, rfl⟩

/-- what errors.As leaves behind -/
def asLeft (t : Addr) (w : World) : World := (((w.alloc (.cells #[.pointer (some t)] 106)).alloc (.cells #[.pointer (some ⟨22, 106, none⟩), .pointer (some ⟨w.heap.size, 0, none⟩), .int .u64 150] 126)).alloc (.cells #[.pointer (some ⟨22, 106, none⟩), .pointer (some ⟨w.heap.size, 0, none⟩), .int .u64 150] 126))

set_option maxHeartbeats 8000000 in
set_option maxRecDepth 100000 in
theorem around_miss (p : Int) (a : Addr) (w : World) (hg : w.cell? ⟨7, 0, none⟩ = some (.iface 142 (.agg #[.pointer (some ⟨22, 38, none⟩)]))) :
    Calls Tryd.prog 36 #[.int .i64 p, .iface 153 (.pointer (some a))] w fun ev w' => ev = .returned (.iface 91 (.pointer (some ⟨(asLeft ⟨w.heap.size, 0, none⟩ (w.alloc (.cells #[.pointer none] 91))).heap.size, 0, none⟩))) ∧
      w' = (asLeft ⟨w.heap.size, 0, none⟩ (w.alloc (.cells #[.pointer none] 91))).alloc (.cells #[.int .i64 p, .iface 153 (.pointer (some a))] 93) := by
  have hlt : 7 < w.heap.size := by
    refine Nat.lt_of_not_le fun h0 => ?_
    simp [World.cell?, Array.getElem?_eq_none h0] at hg
  have hgA : (w.alloc (.cells #[.pointer none] 91)).cell? ⟨7, 0, none⟩ = some (.iface 142 (.agg #[.pointer (some ⟨22, 38, none⟩)])) := by
    rw [World.cell?_alloc_lt _ _ ⟨7, 0, none⟩ hlt]; exact hg
  have hmiss : Calls Tryd.prog 53 #[.iface 153 (.pointer (some a)), .iface 106 (.pointer (some ⟨w.heap.size, 0, none⟩))] (w.alloc (.cells #[.pointer none] 91)) fun ev w' => ev = .returned (.bool false) ∧ w' = asLeft ⟨w.heap.size, 0, none⟩ (w.alloc (.cells #[.pointer none] 91)) := as_miss a ⟨w.heap.size, 0, none⟩ _ hgA
  generalize asLeft ⟨w.heap.size, 0, none⟩ (w.alloc (.cells #[.pointer none] 91)) = wl at hmiss ⊢
  go_enter Tryd.func36, Tryd.ntmps36
  go_wp2_with (go_at_call 53; refine hmiss.mono ?_; rintro e w' ⟨rfl, rfl⟩)
  go_ret
  exact ⟨rfl, rfl⟩
end Go.Proofs.YtcfaajaccbadbaaDoor

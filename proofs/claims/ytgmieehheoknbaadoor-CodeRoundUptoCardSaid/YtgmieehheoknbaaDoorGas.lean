import Derived.Test.YtgmieehheoknbaaDoorGb
import Derived.LaidEql
import Derived.Stop.Asserts
import Derived.RowKitTokens
/-
  errors.As at this program's errors: a fault around a kind; what the target then holds.
-/
namespace Go.Tx
open Go Go.RowKit Go.Extern
theorem rlm (z : Sem Value) (f : TypeId → Addr → Nat → Nat → Sem Value) (v : Value) :
    ReflectliteValue.method z f #[v] = (do match ← ReflectliteValue.parts v with | none => z | some (t, a, fl) => f t a fl (fl % 32)) := rfl
theorem rls (v x : Value) : ReflectliteValue.set #[v, x] = (do
    let (some (dst, a, fl), some (src, b, _)) := (← ReflectliteValue.parts v, ← ReflectliteValue.parts x)
      | unsupported (.noEntry "extern/(internal/reflectlite.Value).Set.zeroValue")
    if fl / ReflectliteValue.flagAddr % 2 == 0 then unsupported (.noEntry "extern/(internal/reflectlite.Value).Set.unaddressable")
    let val ← loadVar src b
    if ← Rtype.directlyAssignable dst src then storeVar dst a val
    else if ← Rtype.implements dst src then
      if (← Rtype.kind src) == 20 then
        match val with
        | .nilIface => unsupported (.noEntry "extern/reflectlite: a nil value of one interface type handed on as a value of another")
        | _ => storeVar dst a val
      else storeVar dst a (.iface src val)
    else panicString ("reflectlite.Set: value of type " ++ (← Rtype.spelt src) ++ " is not assignable to type " ++ (← Rtype.spelt dst))
    pure (.tuple #[])) := rfl
/-- the type of errors, as reflectlite holds it -/
def ErrorType (w : World) : Prop := w.cell? ⟨0, 0, none⟩ = some (.iface 109 (.agg #[.pointer (some ⟨1, 28, none⟩)]))
/-- how long a chain is -/
noncomputable def chainLen (w : World) (v : Value) : Nat := open Classical in if h : ∃ (l : List (ByteArray × Int)) (k : Int), IsErr w (fun _ => True) v l k then (Classical.choose h).length else 0
theorem Blk.same {w : World} {b : Nat} {T : TypeId} {xs ys : List Value} (h : Blk w b T xs) (h2 : Blk w b T ys) : xs = ys := by
  have e := h.symm.trans h2
  simpa using e
theorem IsErr.once {w : World} {E E2 : Nat → Prop} : ∀ {l l2 : List (ByteArray × Int)} {v : Value} {k k2 : Int}, IsErr w E v l k → IsErr w E2 v l2 k2 → l = l2 ∧ k = k2
  | [], [], v, k, k2, h, h2 => by
    have e : v = _ := h
    subst e
    cases h2
    exact ⟨rfl, rfl⟩
  | [], _ :: _, v, k, k2, h, h2 => by
    have e : v = _ := h
    subst e
    obtain ⟨b, u, e, _⟩ := h2
    cases e
  | _ :: _, [], v, k, k2, h, h2 => by
    have e : v = _ := h2
    subst e
    obtain ⟨b, u, e, _⟩ := h
    cases e
  | (o, n) :: l, (o2, n2) :: l2, v, k, k2, h, h2 => by
    obtain ⟨b, u, rfl, hb, _, h4⟩ := h
    obtain ⟨b2, u2, e, hb2, _, h42⟩ := h2
    cases e
    have hs := Blk.same hb hb2
    simp only [List.cons.injEq, Value.string.injEq, Value.int.injEq, true_and, and_true] at hs
    obtain ⟨rfl, rfl, rfl⟩ := hs
    obtain ⟨rfl, rfl⟩ := IsErr.once h4 h42
    exact ⟨rfl, rfl⟩
theorem chainLen_eq {w : World} {E : Nat → Prop} {v : Value} {l : List (ByteArray × Int)} {k : Int} (h : IsErr w E v l k) : chainLen w v = l.length := by
  have hx : ∃ (l : List (ByteArray × Int)) (k : Int), IsErr w (fun _ => True) v l k := ⟨l, k, h.mono fun _ _ => trivial⟩
  unfold chainLen
  rw [dif_pos hx]
  obtain ⟨k2, h2⟩ := Classical.choose_spec hx
  rw [(h2.once h).1]
end Go.Tx
namespace Go.Proofs.YtgmieehheoknbaaDoor
open Go.RowKit Go.Tx Go.Extern

theorem rl_valueOfPF (t : Addr) (w : World) : (ReflectliteValue.unpack (.iface 67 (.pointer (some t)))).run Tryd.prog w
    = .ok (.agg #[.pointer (some ⟨1, 67, none⟩), .pointer (some ⟨w.heap.size, 0, none⟩), .int .u64 150]) (w.alloc (.cells #[.pointer (some t)] 67)) := by kernel_rfl
theorem rl_typePF (a : Addr) (w : World) : (ReflectliteValue.methodAny (ReflectliteValue.valueError "reflectlite.Value.Type" 0) (fun t _ _ _ => ReflectliteType.toType t) #[.agg #[.pointer (some ⟨1, 67, none⟩), .pointer (some a), .int .u64 150]]).run Tryd.prog w
    = .ok (.iface 109 (.agg #[.pointer (some ⟨1, 67, none⟩)])) w := by kernel_rfl
theorem rl_kindPF (w : World) : ((ReflectliteType.abiMethod fun t => (fun a : Nat => Value.int IntKind.u8 (a : Int)) <$> Rtype.kind t) #[.pointer (some ⟨1, 67, none⟩)]).run Tryd.prog w = .ok (.int .u8 22) w := by kernel_rfl
theorem rl_kindF (w : World) : ((ReflectliteType.abiMethod fun t => (fun a : Nat => Value.int IntKind.u8 (a : Int)) <$> Rtype.kind t) #[.pointer (some ⟨1, 40, none⟩)]).run Tryd.prog w = .ok (.int .u8 22) w := by kernel_rfl
theorem rl_partsPF (a : Addr) (w : World) : (ReflectliteValue.parts (.agg #[.pointer (some ⟨1, 67, none⟩), .pointer (some a), .int .u64 150])).run Tryd.prog w = .ok (some (67, a, 150)) w := by kernel_rfl
theorem rl_isNilPF (a p : Addr) (W : World) (ha : W.cell? a = some (.pointer (some p))) :
    (ReflectliteValue.method (ReflectliteValue.valueError "reflectlite.Value.IsNil" 0) ReflectliteValue.isNil #[.agg #[.pointer (some ⟨1, 67, none⟩), .pointer (some a), .int .u64 150]]).run Tryd.prog W = .ok (.bool false) W := by
  rw [rlm]
  simp only [Sem.run_bind, rl_partsPF, Result.andThen]
  simp [ReflectliteValue.isNil, loadVar, isAgg, underlying, Tryd.underlying67, ha, Result.andThen]
theorem rl_elemPF (w : World) : (ReflectliteType.method ReflectliteType.elem #[.agg #[.pointer (some ⟨1, 67, none⟩)]]).run Tryd.prog w = .ok (.iface 109 (.agg #[.pointer (some ⟨1, 40, none⟩)])) w := by kernel_rfl
theorem rl_implementsF (w : World) : (ReflectliteType.relation "Implements" ReflectliteType.implements_ #[.agg #[.pointer (some ⟨1, 40, none⟩)], .iface 109 (.agg #[.pointer (some ⟨1, 28, none⟩)])]).run Tryd.prog w = .ok (.bool true) w := by kernel_rfl
theorem rl_typeOfF (v : Value) (w : World) : (ReflectliteType.typeOf #[.iface 40 v]).run Tryd.prog w = .ok (.iface 109 (.agg #[.pointer (some ⟨1, 40, none⟩)])) w := by kernel_rfl
theorem rl_assignableF (w : World) : (ReflectliteType.relation "AssignableTo" ReflectliteType.assignableTo #[.agg #[.pointer (some ⟨1, 40, none⟩)], .iface 109 (.agg #[.pointer (some ⟨1, 40, none⟩)])]).run Tryd.prog w = .ok (.bool true) w := by kernel_rfl
theorem rl_valueOfF (e : Addr) (w : World) : (ReflectliteValue.unpack (.iface 40 (.pointer (some e)))).run Tryd.prog w
    = .ok (.agg #[.pointer (some ⟨1, 40, none⟩), .pointer (some ⟨w.heap.size, 0, none⟩), .int .u64 150]) (w.alloc (.cells #[.pointer (some e)] 40)) := by kernel_rfl
theorem rl_elemOfPF (w : World) : (Rtype.elem? 67).run Tryd.prog w = .ok (some 40) w := by kernel_rfl
theorem rl_mkF (p : Addr) (w : World) : (ReflectliteValue.mk 40 p ReflectliteValue.flagAddr).run Tryd.prog w = .ok (.agg #[.pointer (some ⟨1, 40, none⟩), .pointer (some p), .int .u64 406]) w := by kernel_rfl
theorem rl_elemVPF (a p : Addr) (W : World) (ha : W.cell? a = some (.pointer (some p))) :
    (ReflectliteValue.method (ReflectliteValue.valueError "reflectlite.Value.Elem" 0) ReflectliteValue.elem #[.agg #[.pointer (some ⟨1, 67, none⟩), .pointer (some a), .int .u64 150]]).run Tryd.prog W
      = .ok (.agg #[.pointer (some ⟨1, 40, none⟩), .pointer (some p), .int .u64 406]) W := by
  rw [rlm]
  simp only [Sem.run_bind, rl_partsPF, Result.andThen]
  simp [ReflectliteValue.elem, loadVar, isAgg, underlying, Tryd.underlying67, ha, Result.andThen, rl_elemOfPF, rl_mkF]
theorem rl_partsFa (a : Addr) (w : World) : (ReflectliteValue.parts (.agg #[.pointer (some ⟨1, 40, none⟩), .pointer (some a), .int .u64 406])).run Tryd.prog w = .ok (some (40, a, 406)) w := by kernel_rfl
theorem rl_partsF (a : Addr) (w : World) : (ReflectliteValue.parts (.agg #[.pointer (some ⟨1, 40, none⟩), .pointer (some a), .int .u64 150])).run Tryd.prog w = .ok (some (40, a, 150)) w := by kernel_rfl
theorem rl_directF (w : World) : (Rtype.directlyAssignable 40 40).run Tryd.prog w = .ok true w := by kernel_rfl
theorem rl_setF (ta b : Addr) (e : Addr) (old : Value) (W : World) (hb : W.cell? b = some (.pointer (some e))) (ht : W.cell? ta = some old) (hf : W.frozen? ta = false) :
    (ReflectliteValue.set #[.agg #[.pointer (some ⟨1, 40, none⟩), .pointer (some ta), .int .u64 406], .agg #[.pointer (some ⟨1, 40, none⟩), .pointer (some b), .int .u64 150]]).run Tryd.prog W
      = .ok (.tuple #[]) (W.setCell ta (.pointer (some e))) := by
  rw [rls]
  simp only [Sem.run_bind, rl_partsFa, rl_partsF, Result.andThen]
  simp [ReflectliteValue.flagAddr, loadVar, isAgg, underlying, Tryd.underlying40, hb, Result.andThen, rl_directF, storeVar, Value.cells, storeCells, Addr.add]
  rw [run_store Tryd.prog W ta _ _ (by rfl)]
  simp [ht, hf]
theorem rl_noAsF (v : Value) (xT : TypeId) (w : World) : (Instr.typeAssert (.iface 40 v) xT 114 true).run Tryd.prog w = .ok (.tuple #[.nilIface, .bool false]) w := run_typeAssert_lacksB Tryd.underlying114 (by kernel_rfl) (by kernel_rfl) v xT w
theorem rl_notKF (w : World) : (ReflectliteType.relation "AssignableTo" ReflectliteType.assignableTo #[.agg #[.pointer (some ⟨1, 41, none⟩)], .iface 109 (.agg #[.pointer (some ⟨1, 40, none⟩)])]).run Tryd.prog w = .ok (.bool false) w := by kernel_rfl
theorem rl_notFK (w : World) : (ReflectliteType.relation "AssignableTo" ReflectliteType.assignableTo #[.agg #[.pointer (some ⟨1, 40, none⟩)], .iface 109 (.agg #[.pointer (some ⟨1, 41, none⟩)])]).run Tryd.prog w = .ok (.bool false) w := by kernel_rfl
theorem rl_methodKind (h : Value) (w : World) : (Go.method 261 109 (.agg #[h]) "Kind").run Tryd.prog w = .ok (72, h) w := by kernel_rfl
theorem rl_methodElem (h : Value) (w : World) : (Go.method 261 109 (.agg #[h]) "Elem").run Tryd.prog w = .ok (84, .agg #[h]) w := by kernel_rfl
theorem rl_methodImplements (h : Value) (w : World) : (Go.method 261 109 (.agg #[h]) "Implements").run Tryd.prog w = .ok (85, .agg #[h]) w := by kernel_rfl
theorem rl_methodAssignableTo (h : Value) (w : World) : (Go.method 261 109 (.agg #[h]) "AssignableTo").run Tryd.prog w = .ok (82, .agg #[h]) w := by kernel_rfl
theorem rl_methodUnwrap (v : Value) (w : World) : (Go.method 261 40 v "Unwrap").run Tryd.prog w = .ok (76, v) w := by kernel_rfl
theorem rl_methodErrorF (v : Value) (w : World) : (Go.method 261 40 v "Error").run Tryd.prog w = .ok (75, v) w := by kernel_rfl
theorem rl_methodErrorK (v : Value) (w : World) : (Go.method 261 41 v "Error").run Tryd.prog w = .ok (77, v) w := by kernel_rfl
theorem rl_hasUnwrap (v : Value) (xT : TypeId) (w : World) : (Instr.typeAssert (.iface 40 v) xT 117 true).run Tryd.prog w = .ok (.tuple #[.iface 40 v, .bool true]) w := run_typeAssert_hasB Tryd.underlying117 (by kernel_rfl) v xT w
theorem rl_noUnwrap (v : Value) (xT : TypeId) (w : World) : (Instr.typeAssert (.iface 41 v) xT 117 true).run Tryd.prog w = .ok (.tuple #[.nilIface, .bool false]) w := run_typeAssert_lacksB Tryd.underlying117 (by kernel_rfl) (by kernel_rfl) v xT w
theorem rl_noUnwraps (v : Value) (xT : TypeId) (w : World) : (Instr.typeAssert (.iface 41 v) xT 119 true).run Tryd.prog w = .ok (.tuple #[.nilIface, .bool false]) w := run_typeAssert_lacksB Tryd.underlying119 (by kernel_rfl) (by kernel_rfl) v xT w
end Go.Proofs.YtgmieehheoknbaaDoor

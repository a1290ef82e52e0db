/-
  errors.As at this program's errors: its own walk.
-/
import Derived.Test.YtnmhodejffpblaaDoorAx
namespace Go.Tx
open Go Go.RowKit
theorem IsErr.iface {w : World} {E : Nat → Prop} {v : Value} {c : List (ByteArray × Int)} {k : Int} (h : IsErr w E v c k) : ∃ t u, v = .iface t u := by
  cases c with
  | nil => exact ⟨_, _, h⟩
  | cons p c => obtain ⟨b, u, h1, _⟩ := h; exact ⟨_, _, h1⟩
end Go.Tx
namespace Go.Proofs.YtnmhodejffpblaaDoor
open Go.RowKit Go.Tx Go.Extern
set_option maxRecDepth 100000 in
set_option maxHeartbeats 1600000 in
/-- errors.As: a fault -/
theorem asF (e : Addr) (t : Addr) (old : Value) (w : World)  (hg : ErrorType w) (ht0 : w.cell? t = some old) (hf0 : w.frozen? t = false) :
    Calls Tryd.prog 17 #[(.iface 44 (.pointer (some e))), .iface 66 (.pointer (some t))] w fun ev w' => ev = .returned (.bool true) ∧ ∃ w0, Keeps (fun _ => False) w w0 ∧ w' = w0.setCell t (.pointer (some e)) := by
  have qValueOf := @run_callFunc_extern Tryd.prog 22 _ (fun args => ReflectliteValue.unpack (args.getD 0 (.tuple #[]))) Tryd.func22 (by kernel_rfl) (by kernel_rfl) (by kernel_rfl) (by kernel_rfl)
  have qType := @run_callFunc_extern Tryd.prog 23 _ (ReflectliteValue.methodAny (ReflectliteValue.valueError "reflectlite.Value.Type" 0) (fun t _ _ _ => ReflectliteType.toType t)) Tryd.func23 (by kernel_rfl) (by kernel_rfl) (by kernel_rfl) (by kernel_rfl)
  have qIsNil := @run_callFunc_extern Tryd.prog 24 _ (ReflectliteValue.method (ReflectliteValue.valueError "reflectlite.Value.IsNil" 0) ReflectliteValue.isNil) Tryd.func24 (by kernel_rfl) (by kernel_rfl) (by kernel_rfl) (by kernel_rfl)
  have qKind := @run_callFunc_extern Tryd.prog 42 _ (ReflectliteType.abiMethod fun t => do pure (.int .u8 (← Rtype.kind t))) Tryd.func42 (by kernel_rfl) (by kernel_rfl) (by kernel_rfl) (by kernel_rfl)
  have qElemT := @run_callFunc_extern Tryd.prog 54 _ (ReflectliteType.method ReflectliteType.elem) Tryd.func54 (by kernel_rfl) (by kernel_rfl) (by kernel_rfl) (by kernel_rfl)
  have qImplements := @run_callFunc_extern Tryd.prog 55 _ (ReflectliteType.relation "Implements" ReflectliteType.implements_) Tryd.func55 (by kernel_rfl) (by kernel_rfl) (by kernel_rfl) (by kernel_rfl)
  have qTypeOf := @run_callFunc_extern Tryd.prog 20 _ ReflectliteType.typeOf Tryd.func20 (by kernel_rfl) (by kernel_rfl) (by kernel_rfl) (by kernel_rfl)
  have qAssignableTo := @run_callFunc_extern Tryd.prog 52 _ (ReflectliteType.relation "AssignableTo" ReflectliteType.assignableTo) Tryd.func52 (by kernel_rfl) (by kernel_rfl) (by kernel_rfl) (by kernel_rfl)
  have qElemV := @run_callFunc_extern Tryd.prog 26 _ (ReflectliteValue.method (ReflectliteValue.valueError "reflectlite.Value.Elem" 0) ReflectliteValue.elem) Tryd.func26 (by kernel_rfl) (by kernel_rfl) (by kernel_rfl) (by kernel_rfl)
  have qSet := @run_callFunc_extern Tryd.prog 27 _ ReflectliteValue.set Tryd.func27 (by kernel_rfl) (by kernel_rfl) (by kernel_rfl) (by kernel_rfl)
  have fm1 := rl_methodKind
  have fm2 := rl_methodElem
  have fm3 := rl_methodImplements
  have fm4 := rl_methodAssignableTo
  have fm5 := rl_methodUnwrap
  have fu1 := rl_hasUnwrap
  have fu2 := rl_noUnwrap
  have fu3 := rl_noUnwraps
  have fn1 := rl_notKF
  have fn2 := rl_notFK
  have fF0 := rl_kindF
  have fF1 := rl_implementsF
  have fF2 := rl_typeOfF
  have fF3 := rl_assignableF
  have fF4 := rl_valueOfF
  have fF5 := rl_noAsF
  have fFP0 := rl_valueOfPF
  have fFP1 := rl_typePF
  have fFP2 := rl_kindPF
  have fFP3 := rl_elemPF
  have htl : t.block < w.heap.size := World.block_lt_of_cell? w t ht0
  have hgl : 0 < w.heap.size := World.block_lt_of_cell? w _ hg
  have hg2 : ((w.alloc (.cells #[.pointer (some t)] 66)).alloc (.cells #[.pointer (some ⟨1, 66, none⟩), .pointer (some ⟨w.heap.size, 0, none⟩), .int .u64 150] 59)).cell? ⟨0, 0, none⟩ = some (.iface 71 (.agg #[.pointer (some ⟨1, 29, none⟩)])) := by
    rw [World.cell?_alloc_lt _ _ ⟨0, 0, none⟩ (by simp), World.cell?_alloc_lt _ _ ⟨0, 0, none⟩ hgl]; exact hg
  have n8 := rl_isNilPF ⟨w.heap.size, 0, none⟩ t ((w.alloc (.cells #[.pointer (some t)] 66)).alloc (.cells #[.pointer (some ⟨1, 66, none⟩), .pointer (some ⟨w.heap.size, 0, none⟩), .int .u64 150] 59)) (by simp)
  have HA : Hid (((w.alloc (.cells #[.pointer (some t)] 66)).alloc (.cells #[.pointer (some ⟨1, 66, none⟩), .pointer (some ⟨w.heap.size, 0, none⟩), .int .u64 150] 59)).cell? ⟨w.heap.size, 0, none⟩ = some (.pointer (some t))) := Lib.hid (by rw [World.cell?_alloc_lt _ _ ⟨w.heap.size, 0, none⟩ (by simp)]; simp)
  have HT0 : Hid (((w.alloc (.cells #[.pointer (some t)] 66)).alloc (.cells #[.pointer (some ⟨1, 66, none⟩), .pointer (some ⟨w.heap.size, 0, none⟩), .int .u64 150] 59)).cell? t = some old) := Lib.hid (by rw [World.cell?_alloc_lt _ _ t (by simp; omega), World.cell?_alloc_lt _ _ t htl]; exact ht0)
  have HF0 : Hid (((w.alloc (.cells #[.pointer (some t)] 66)).alloc (.cells #[.pointer (some ⟨1, 66, none⟩), .pointer (some ⟨w.heap.size, 0, none⟩), .int .u64 150] 59)).frozen? t = false) := Lib.hid (by rw [World.frozen?_alloc_old _ _ t (by simp; omega), World.frozen?_alloc_old _ _ t (Nat.ne_of_lt htl)]; exact hf0)
  have HKw : Hid (Keeps (fun _ => False) w ((w.alloc (.cells #[.pointer (some t)] 66)).alloc (.cells #[.pointer (some ⟨1, 66, none⟩), .pointer (some ⟨w.heap.size, 0, none⟩), .int .u64 150] 59))) := Lib.hid (((Keeps.refl _ w).alloc _).alloc _)

  go_enter Tryd.func17, Tryd.ntmps17
  go_wp2_with (go_at_call 25; refine Stop.out ?_)
  refine ⟨(as_ownF e t _ old _ HA.out HT0.out HF0.out).mono ?_⟩

  rintro ev w3 ⟨rfl, w0, h2, rfl⟩
  have H2 := Lib.hid h2
  clear h2
  go_wp2
  go_ret
  exact ⟨rfl, w0, HKw.out.trans H2.out fun _ _ h => h, rfl⟩
set_option maxRecDepth 100000 in
set_option maxHeartbeats 1600000 in
/-- errors.As: a kind is no fault -/
theorem asNF (k : Int) (t : Addr) (old : Value) (w : World)  (hg : ErrorType w) (ht0 : w.cell? t = some old) (hf0 : w.frozen? t = false) :
    Calls Tryd.prog 17 #[(.iface 23 (.int .i64 k)), .iface 66 (.pointer (some t))] w fun ev w' => ev = .returned (.bool false) ∧ Keeps (fun _ => False) w w' := by
  have qValueOf := @run_callFunc_extern Tryd.prog 22 _ (fun args => ReflectliteValue.unpack (args.getD 0 (.tuple #[]))) Tryd.func22 (by kernel_rfl) (by kernel_rfl) (by kernel_rfl) (by kernel_rfl)
  have qType := @run_callFunc_extern Tryd.prog 23 _ (ReflectliteValue.methodAny (ReflectliteValue.valueError "reflectlite.Value.Type" 0) (fun t _ _ _ => ReflectliteType.toType t)) Tryd.func23 (by kernel_rfl) (by kernel_rfl) (by kernel_rfl) (by kernel_rfl)
  have qIsNil := @run_callFunc_extern Tryd.prog 24 _ (ReflectliteValue.method (ReflectliteValue.valueError "reflectlite.Value.IsNil" 0) ReflectliteValue.isNil) Tryd.func24 (by kernel_rfl) (by kernel_rfl) (by kernel_rfl) (by kernel_rfl)
  have qKind := @run_callFunc_extern Tryd.prog 42 _ (ReflectliteType.abiMethod fun t => do pure (.int .u8 (← Rtype.kind t))) Tryd.func42 (by kernel_rfl) (by kernel_rfl) (by kernel_rfl) (by kernel_rfl)
  have qElemT := @run_callFunc_extern Tryd.prog 54 _ (ReflectliteType.method ReflectliteType.elem) Tryd.func54 (by kernel_rfl) (by kernel_rfl) (by kernel_rfl) (by kernel_rfl)
  have qImplements := @run_callFunc_extern Tryd.prog 55 _ (ReflectliteType.relation "Implements" ReflectliteType.implements_) Tryd.func55 (by kernel_rfl) (by kernel_rfl) (by kernel_rfl) (by kernel_rfl)
  have qTypeOf := @run_callFunc_extern Tryd.prog 20 _ ReflectliteType.typeOf Tryd.func20 (by kernel_rfl) (by kernel_rfl) (by kernel_rfl) (by kernel_rfl)
  have qAssignableTo := @run_callFunc_extern Tryd.prog 52 _ (ReflectliteType.relation "AssignableTo" ReflectliteType.assignableTo) Tryd.func52 (by kernel_rfl) (by kernel_rfl) (by kernel_rfl) (by kernel_rfl)
  have qElemV := @run_callFunc_extern Tryd.prog 26 _ (ReflectliteValue.method (ReflectliteValue.valueError "reflectlite.Value.Elem" 0) ReflectliteValue.elem) Tryd.func26 (by kernel_rfl) (by kernel_rfl) (by kernel_rfl) (by kernel_rfl)
  have qSet := @run_callFunc_extern Tryd.prog 27 _ ReflectliteValue.set Tryd.func27 (by kernel_rfl) (by kernel_rfl) (by kernel_rfl) (by kernel_rfl)
  have fm1 := rl_methodKind
  have fm2 := rl_methodElem
  have fm3 := rl_methodImplements
  have fm4 := rl_methodAssignableTo
  have fm5 := rl_methodUnwrap
  have fu1 := rl_hasUnwrap
  have fu2 := rl_noUnwrap
  have fu3 := rl_noUnwraps
  have fn1 := rl_notKF
  have fn2 := rl_notFK
  have fF0 := rl_kindF
  have fF1 := rl_implementsF
  have fF2 := rl_typeOfF
  have fF3 := rl_assignableF
  have fF4 := rl_valueOfF
  have fF5 := rl_noAsF
  have fFP0 := rl_valueOfPF
  have fFP1 := rl_typePF
  have fFP2 := rl_kindPF
  have fFP3 := rl_elemPF
  have htl : t.block < w.heap.size := World.block_lt_of_cell? w t ht0
  have hgl : 0 < w.heap.size := World.block_lt_of_cell? w _ hg
  have hg2 : ((w.alloc (.cells #[.pointer (some t)] 66)).alloc (.cells #[.pointer (some ⟨1, 66, none⟩), .pointer (some ⟨w.heap.size, 0, none⟩), .int .u64 150] 59)).cell? ⟨0, 0, none⟩ = some (.iface 71 (.agg #[.pointer (some ⟨1, 29, none⟩)])) := by
    rw [World.cell?_alloc_lt _ _ ⟨0, 0, none⟩ (by simp), World.cell?_alloc_lt _ _ ⟨0, 0, none⟩ hgl]; exact hg
  have n8 := rl_isNilPF ⟨w.heap.size, 0, none⟩ t ((w.alloc (.cells #[.pointer (some t)] 66)).alloc (.cells #[.pointer (some ⟨1, 66, none⟩), .pointer (some ⟨w.heap.size, 0, none⟩), .int .u64 150] 59)) (by simp)
  have HA : Hid (((w.alloc (.cells #[.pointer (some t)] 66)).alloc (.cells #[.pointer (some ⟨1, 66, none⟩), .pointer (some ⟨w.heap.size, 0, none⟩), .int .u64 150] 59)).cell? ⟨w.heap.size, 0, none⟩ = some (.pointer (some t))) := Lib.hid (by rw [World.cell?_alloc_lt _ _ ⟨w.heap.size, 0, none⟩ (by simp)]; simp)
  have HT0 : Hid (((w.alloc (.cells #[.pointer (some t)] 66)).alloc (.cells #[.pointer (some ⟨1, 66, none⟩), .pointer (some ⟨w.heap.size, 0, none⟩), .int .u64 150] 59)).cell? t = some old) := Lib.hid (by rw [World.cell?_alloc_lt _ _ t (by simp; omega), World.cell?_alloc_lt _ _ t htl]; exact ht0)
  have HF0 : Hid (((w.alloc (.cells #[.pointer (some t)] 66)).alloc (.cells #[.pointer (some ⟨1, 66, none⟩), .pointer (some ⟨w.heap.size, 0, none⟩), .int .u64 150] 59)).frozen? t = false) := Lib.hid (by rw [World.frozen?_alloc_old _ _ t (by simp; omega), World.frozen?_alloc_old _ _ t (Nat.ne_of_lt htl)]; exact hf0)
  have HKw : Hid (Keeps (fun _ => False) w ((w.alloc (.cells #[.pointer (some t)] 66)).alloc (.cells #[.pointer (some ⟨1, 66, none⟩), .pointer (some ⟨w.heap.size, 0, none⟩), .int .u64 150] 59))) := Lib.hid (((Keeps.refl _ w).alloc _).alloc _)

  go_enter Tryd.func17, Tryd.ntmps17
  go_wp2_with (go_at_call 25; refine Stop.out ?_)
  refine ⟨(as_notF k t _ _).mono ?_⟩

  rintro ev w3 ⟨rfl, h2⟩
  have H2 := Lib.hid h2
  clear h2
  go_wp2
  go_ret
  exact ⟨rfl, HKw.out.trans H2.out fun _ _ h => h⟩
set_option maxRecDepth 100000 in
set_option maxHeartbeats 1600000 in
/-- errors.As: the kind of a chain -/
theorem asK {l : List (ByteArray × Int)} {k : Int} {v : Value} {E : Nat → Prop} (t : Addr) (old : Value) (w : World) (h : IsErr w E v l k) (hg : ErrorType w) (ht0 : w.cell? t = some old) (hf0 : w.frozen? t = false) :
    Calls Tryd.prog 17 #[v, .iface 48 (.pointer (some t))] w fun ev w' => ev = .returned (.bool true) ∧ ∃ w0, Keeps (fun _ => False) w w0 ∧ w' = w0.setCell t (.int .i64 k) := by
  have qValueOf := @run_callFunc_extern Tryd.prog 22 _ (fun args => ReflectliteValue.unpack (args.getD 0 (.tuple #[]))) Tryd.func22 (by kernel_rfl) (by kernel_rfl) (by kernel_rfl) (by kernel_rfl)
  have qType := @run_callFunc_extern Tryd.prog 23 _ (ReflectliteValue.methodAny (ReflectliteValue.valueError "reflectlite.Value.Type" 0) (fun t _ _ _ => ReflectliteType.toType t)) Tryd.func23 (by kernel_rfl) (by kernel_rfl) (by kernel_rfl) (by kernel_rfl)
  have qIsNil := @run_callFunc_extern Tryd.prog 24 _ (ReflectliteValue.method (ReflectliteValue.valueError "reflectlite.Value.IsNil" 0) ReflectliteValue.isNil) Tryd.func24 (by kernel_rfl) (by kernel_rfl) (by kernel_rfl) (by kernel_rfl)
  have qKind := @run_callFunc_extern Tryd.prog 42 _ (ReflectliteType.abiMethod fun t => do pure (.int .u8 (← Rtype.kind t))) Tryd.func42 (by kernel_rfl) (by kernel_rfl) (by kernel_rfl) (by kernel_rfl)
  have qElemT := @run_callFunc_extern Tryd.prog 54 _ (ReflectliteType.method ReflectliteType.elem) Tryd.func54 (by kernel_rfl) (by kernel_rfl) (by kernel_rfl) (by kernel_rfl)
  have qImplements := @run_callFunc_extern Tryd.prog 55 _ (ReflectliteType.relation "Implements" ReflectliteType.implements_) Tryd.func55 (by kernel_rfl) (by kernel_rfl) (by kernel_rfl) (by kernel_rfl)
  have qTypeOf := @run_callFunc_extern Tryd.prog 20 _ ReflectliteType.typeOf Tryd.func20 (by kernel_rfl) (by kernel_rfl) (by kernel_rfl) (by kernel_rfl)
  have qAssignableTo := @run_callFunc_extern Tryd.prog 52 _ (ReflectliteType.relation "AssignableTo" ReflectliteType.assignableTo) Tryd.func52 (by kernel_rfl) (by kernel_rfl) (by kernel_rfl) (by kernel_rfl)
  have qElemV := @run_callFunc_extern Tryd.prog 26 _ (ReflectliteValue.method (ReflectliteValue.valueError "reflectlite.Value.Elem" 0) ReflectliteValue.elem) Tryd.func26 (by kernel_rfl) (by kernel_rfl) (by kernel_rfl) (by kernel_rfl)
  have qSet := @run_callFunc_extern Tryd.prog 27 _ ReflectliteValue.set Tryd.func27 (by kernel_rfl) (by kernel_rfl) (by kernel_rfl) (by kernel_rfl)
  have fm1 := rl_methodKind
  have fm2 := rl_methodElem
  have fm3 := rl_methodImplements
  have fm4 := rl_methodAssignableTo
  have fm5 := rl_methodUnwrap
  have fu1 := rl_hasUnwrap
  have fu2 := rl_noUnwrap
  have fu3 := rl_noUnwraps
  have fn1 := rl_notKF
  have fn2 := rl_notFK
  have fK0 := rl_kindK
  have fK1 := rl_implementsK
  have fK2 := rl_typeOfK
  have fK3 := rl_assignableK
  have fK4 := rl_valueOfK
  have fK5 := rl_noAsK
  have fKP0 := rl_valueOfPK
  have fKP1 := rl_typePK
  have fKP2 := rl_kindPK
  have fKP3 := rl_elemPK
  have htl : t.block < w.heap.size := World.block_lt_of_cell? w t ht0
  have hgl : 0 < w.heap.size := World.block_lt_of_cell? w _ hg
  have hg2 : ((w.alloc (.cells #[.pointer (some t)] 48)).alloc (.cells #[.pointer (some ⟨1, 48, none⟩), .pointer (some ⟨w.heap.size, 0, none⟩), .int .u64 150] 59)).cell? ⟨0, 0, none⟩ = some (.iface 71 (.agg #[.pointer (some ⟨1, 29, none⟩)])) := by
    rw [World.cell?_alloc_lt _ _ ⟨0, 0, none⟩ (by simp), World.cell?_alloc_lt _ _ ⟨0, 0, none⟩ hgl]; exact hg
  have n8 := rl_isNilPK ⟨w.heap.size, 0, none⟩ t ((w.alloc (.cells #[.pointer (some t)] 48)).alloc (.cells #[.pointer (some ⟨1, 48, none⟩), .pointer (some ⟨w.heap.size, 0, none⟩), .int .u64 150] 59)) (by simp)
  have HA : Hid (((w.alloc (.cells #[.pointer (some t)] 48)).alloc (.cells #[.pointer (some ⟨1, 48, none⟩), .pointer (some ⟨w.heap.size, 0, none⟩), .int .u64 150] 59)).cell? ⟨w.heap.size, 0, none⟩ = some (.pointer (some t))) := Lib.hid (by rw [World.cell?_alloc_lt _ _ ⟨w.heap.size, 0, none⟩ (by simp)]; simp)
  have HT0 : Hid (((w.alloc (.cells #[.pointer (some t)] 48)).alloc (.cells #[.pointer (some ⟨1, 48, none⟩), .pointer (some ⟨w.heap.size, 0, none⟩), .int .u64 150] 59)).cell? t = some old) := Lib.hid (by rw [World.cell?_alloc_lt _ _ t (by simp; omega), World.cell?_alloc_lt _ _ t htl]; exact ht0)
  have HF0 : Hid (((w.alloc (.cells #[.pointer (some t)] 48)).alloc (.cells #[.pointer (some ⟨1, 48, none⟩), .pointer (some ⟨w.heap.size, 0, none⟩), .int .u64 150] 59)).frozen? t = false) := Lib.hid (by rw [World.frozen?_alloc_old _ _ t (by simp; omega), World.frozen?_alloc_old _ _ t (Nat.ne_of_lt htl)]; exact hf0)
  have HKw : Hid (Keeps (fun _ => False) w ((w.alloc (.cells #[.pointer (some t)] 48)).alloc (.cells #[.pointer (some ⟨1, 48, none⟩), .pointer (some ⟨w.heap.size, 0, none⟩), .int .u64 150] 59))) := Lib.hid (((Keeps.refl _ w).alloc _).alloc _)
  have HE := Lib.hid (h.keeps HKw.out fun _ _ h => h)
  obtain ⟨tt, tv, rfl⟩ := h.iface
  clear h
  go_enter Tryd.func17, Tryd.ntmps17
  go_wp2_with (go_at_call 25; refine Stop.out ?_)
  refine ⟨(as_chain t _ old _ HE.out HA.out HT0.out HF0.out).mono ?_⟩

  rintro ev w3 ⟨rfl, w0, h2, rfl⟩
  have H2 := Lib.hid h2
  clear h2
  go_wp2
  go_ret
  exact ⟨rfl, w0, HKw.out.trans H2.out fun _ _ h => h, rfl⟩
end Go.Proofs.YtnmhodejffpblaaDoor

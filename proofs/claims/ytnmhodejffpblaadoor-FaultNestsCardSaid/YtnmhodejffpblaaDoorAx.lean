/-
  errors.As at this program's errors: the walks.
-/
import Derived.Test.YtnmhodejffpblaaDoorAs
namespace Go.Proofs.YtnmhodejffpblaaDoor
open Go.RowKit Go.Tx Go.Extern
set_option maxRecDepth 100000 in
set_option maxHeartbeats 1600000 in
/-- the error is of the target's own type -/
theorem as_ownF (e : Addr) (t a : Addr) (old : Value) (w : World) (ha : w.cell? a = some (.pointer (some t))) (ht0 : w.cell? t = some old) (hf0 : w.frozen? t = false) :
    Calls Tryd.prog 25 #[.iface 44 (.pointer (some e)), .iface 66 (.pointer (some t)), .agg #[.pointer (some ⟨1, 66, none⟩), .pointer (some a), .int .u64 150], .iface 71 (.agg #[.pointer (some ⟨1, 44, none⟩)])] w fun ev w' =>
      ev = .returned (.bool true) ∧ ∃ w0, Keeps (fun _ => False) w w0 ∧ w' = w0.setCell t (.pointer (some e)) := by
  have qValueOf := @run_callFunc_extern Tryd.prog 22 _ (fun args => ReflectliteValue.unpack (args.getD 0 (.tuple #[]))) Tryd.func22 (by kernel_rfl) (by kernel_rfl) (by kernel_rfl) (by kernel_rfl)
  have qType := @run_callFunc_extern Tryd.prog 23 _ (ReflectliteValue.methodAny (ReflectliteValue.valueError "reflectlite.Value.Type" 0) (fun t _ _ _ => ReflectliteType.toType t)) Tryd.func23 (by kernel_rfl) (by kernel_rfl) (by kernel_rfl) (by kernel_rfl)
  have qIsNil := @run_callFunc_extern Tryd.prog 24 _ (ReflectliteValue.method (ReflectliteValue.valueError "reflectlite.Value.IsNil" 0) ReflectliteValue.isNil) Tryd.func24 (by kernel_rfl) (by kernel_rfl) (by kernel_rfl) (by kernel_rfl)
  have qKind := @run_callFunc_extern Tryd.prog 42 _ (ReflectliteType.abiMethod fun t => do pure (.int .u8 (← Rtype.kind t))) Tryd.func42 (by kernel_rfl) (by kernel_rfl) (by kernel_rfl) (by kernel_rfl)
  have qElemT := @run_callFunc_extern Tryd.prog 54 _ (ReflectliteType.method ReflectliteType.elem) Tryd.func54 (by kernel_rfl) (by kernel_rfl) (by kernel_rfl) (by kernel_rfl)
  have qImplements := @run_callFunc_extern Tryd.prog 55 _ (ReflectliteType.relation "Implements" ReflectliteType.implements_) Tryd.func55 (by kernel_rfl) (by kernel_rfl) (by kernel_rfl) (by kernel_rfl)
  have qTypeOf := @run_callFunc_extern Tryd.prog 20 _ ReflectliteType.typeOf Tryd.func20 (by kernel_rfl) (by kernel_rfl) (by kernel_rfl) (by kernel_rfl)
  have qAssignableTo := @run_callFunc_extern Tryd.prog 52 _ (ReflectliteType.relation "AssignableTo" ReflectliteType.assignableTo) Tryd.func52 (by kernel_rfl) (by kernel_rfl) (by kernel_rfl) (by kernel_rfl)
  have qElemV := @run_callFunc_extern Tryd.prog 26 _ (ReflectliteValue.method (ReflectliteValue.valueError "reflectlite.Value.Elem" 0) ReflectliteValue.elem) Tryd.func26 (by kernel_rfl) (by kernel_rfl) (by kernel_rfl) (by kernel_rfl)
  have qSet := @run_callFunc_extern Tryd.prog 27 _ ReflectliteValue.set Tryd.func27 (by kernel_rfl) (by kernel_rfl) (by kernel_rfl) (by kernel_rfl)
  have fm1 := rl_methodKind
  have fm2 := rl_methodElem
  have fm3 := rl_methodImplements
  have fm4 := rl_methodAssignableTo
  have fm5 := rl_methodUnwrap
  have fu1 := rl_hasUnwrap
  have fu2 := rl_noUnwrap
  have fu3 := rl_noUnwraps
  have fn1 := rl_notKF
  have fn2 := rl_notFK
  have fF0 := rl_kindF
  have fF1 := rl_implementsF
  have fF2 := rl_typeOfF
  have fF3 := rl_assignableF
  have fF4 := rl_valueOfF
  have fF5 := rl_noAsF
  have fFP0 := rl_valueOfPF
  have fFP1 := rl_typePF
  have fFP2 := rl_kindPF
  have fFP3 := rl_elemPF
  have hal : a.block < w.heap.size := World.block_lt_of_cell? w a ha
  have htl : t.block < w.heap.size := World.block_lt_of_cell? w t ht0
  have ta : ((w.alloc (.cells #[.pointer (some ⟨1, 66, none⟩), .pointer (some a), .int .u64 150] 59)).alloc (.cells #[.pointer (some e)] 44)).cell? t = some old := by
    rw [World.cell?_alloc_lt _ _ t (by simp; omega), World.cell?_alloc_lt _ _ t htl]; exact ht0
  have el := rl_elemVPF a t (w.alloc (.cells #[.pointer (some ⟨1, 66, none⟩), .pointer (some a), .int .u64 150] 59)) (by rw [World.cell?_alloc_lt _ _ a hal]; exact ha)
  have st := rl_setF t ⟨w.heap.size + 1, 0, none⟩ e old ((w.alloc (.cells #[.pointer (some ⟨1, 66, none⟩), .pointer (some a), .int .u64 150] 59)).alloc (.cells #[.pointer (some e)] 44))
    (by rw [World.cell?_alloc_at _ _ _ _ (by simp)]; rfl) ta
    (by rw [World.frozen?_alloc_old _ _ t (by simp; omega), World.frozen?_alloc_old _ _ t (Nat.ne_of_lt htl)]; exact hf0)
  have TA := Lib.hid ta
  clear ta
  go_enter Tryd.func25, Tryd.ntmps25
  go_wp2
  refine wp_loop_rounds 1 ?_
  rw [rounds_succ]
  go_wp2
  go_ret
  exact ⟨rfl, _, ((Keeps.refl _ w).alloc _).alloc _, rfl⟩
set_option maxRecDepth 100000 in
set_option maxHeartbeats 1600000 in
/-- the error is of the target's own type -/
theorem as_ownK (e : Int) (t a : Addr) (old : Value) (w : World) (ha : w.cell? a = some (.pointer (some t))) (ht0 : w.cell? t = some old) (hf0 : w.frozen? t = false) :
    Calls Tryd.prog 25 #[.iface 23 (.int .i64 e), .iface 48 (.pointer (some t)), .agg #[.pointer (some ⟨1, 48, none⟩), .pointer (some a), .int .u64 150], .iface 71 (.agg #[.pointer (some ⟨1, 23, none⟩)])] w fun ev w' =>
      ev = .returned (.bool true) ∧ ∃ w0, Keeps (fun _ => False) w w0 ∧ w' = w0.setCell t (.int .i64 e) := by
  have qValueOf := @run_callFunc_extern Tryd.prog 22 _ (fun args => ReflectliteValue.unpack (args.getD 0 (.tuple #[]))) Tryd.func22 (by kernel_rfl) (by kernel_rfl) (by kernel_rfl) (by kernel_rfl)
  have qType := @run_callFunc_extern Tryd.prog 23 _ (ReflectliteValue.methodAny (ReflectliteValue.valueError "reflectlite.Value.Type" 0) (fun t _ _ _ => ReflectliteType.toType t)) Tryd.func23 (by kernel_rfl) (by kernel_rfl) (by kernel_rfl) (by kernel_rfl)
  have qIsNil := @run_callFunc_extern Tryd.prog 24 _ (ReflectliteValue.method (ReflectliteValue.valueError "reflectlite.Value.IsNil" 0) ReflectliteValue.isNil) Tryd.func24 (by kernel_rfl) (by kernel_rfl) (by kernel_rfl) (by kernel_rfl)
  have qKind := @run_callFunc_extern Tryd.prog 42 _ (ReflectliteType.abiMethod fun t => do pure (.int .u8 (← Rtype.kind t))) Tryd.func42 (by kernel_rfl) (by kernel_rfl) (by kernel_rfl) (by kernel_rfl)
  have qElemT := @run_callFunc_extern Tryd.prog 54 _ (ReflectliteType.method ReflectliteType.elem) Tryd.func54 (by kernel_rfl) (by kernel_rfl) (by kernel_rfl) (by kernel_rfl)
  have qImplements := @run_callFunc_extern Tryd.prog 55 _ (ReflectliteType.relation "Implements" ReflectliteType.implements_) Tryd.func55 (by kernel_rfl) (by kernel_rfl) (by kernel_rfl) (by kernel_rfl)
  have qTypeOf := @run_callFunc_extern Tryd.prog 20 _ ReflectliteType.typeOf Tryd.func20 (by kernel_rfl) (by kernel_rfl) (by kernel_rfl) (by kernel_rfl)
  have qAssignableTo := @run_callFunc_extern Tryd.prog 52 _ (ReflectliteType.relation "AssignableTo" ReflectliteType.assignableTo) Tryd.func52 (by kernel_rfl) (by kernel_rfl) (by kernel_rfl) (by kernel_rfl)
  have qElemV := @run_callFunc_extern Tryd.prog 26 _ (ReflectliteValue.method (ReflectliteValue.valueError "reflectlite.Value.Elem" 0) ReflectliteValue.elem) Tryd.func26 (by kernel_rfl) (by kernel_rfl) (by kernel_rfl) (by kernel_rfl)
  have qSet := @run_callFunc_extern Tryd.prog 27 _ ReflectliteValue.set Tryd.func27 (by kernel_rfl) (by kernel_rfl) (by kernel_rfl) (by kernel_rfl)
  have fm1 := rl_methodKind
  have fm2 := rl_methodElem
  have fm3 := rl_methodImplements
  have fm4 := rl_methodAssignableTo
  have fm5 := rl_methodUnwrap
  have fu1 := rl_hasUnwrap
  have fu2 := rl_noUnwrap
  have fu3 := rl_noUnwraps
  have fn1 := rl_notKF
  have fn2 := rl_notFK
  have fK0 := rl_kindK
  have fK1 := rl_implementsK
  have fK2 := rl_typeOfK
  have fK3 := rl_assignableK
  have fK4 := rl_valueOfK
  have fK5 := rl_noAsK
  have fKP0 := rl_valueOfPK
  have fKP1 := rl_typePK
  have fKP2 := rl_kindPK
  have fKP3 := rl_elemPK
  have hal : a.block < w.heap.size := World.block_lt_of_cell? w a ha
  have htl : t.block < w.heap.size := World.block_lt_of_cell? w t ht0
  have ta : ((w.alloc (.cells #[.pointer (some ⟨1, 48, none⟩), .pointer (some a), .int .u64 150] 59)).alloc (.cells #[.int .i64 e] 23)).cell? t = some old := by
    rw [World.cell?_alloc_lt _ _ t (by simp; omega), World.cell?_alloc_lt _ _ t htl]; exact ht0
  have el := rl_elemVPK a t (w.alloc (.cells #[.pointer (some ⟨1, 48, none⟩), .pointer (some a), .int .u64 150] 59)) (by rw [World.cell?_alloc_lt _ _ a hal]; exact ha)
  have st := rl_setK t ⟨w.heap.size + 1, 0, none⟩ e old ((w.alloc (.cells #[.pointer (some ⟨1, 48, none⟩), .pointer (some a), .int .u64 150] 59)).alloc (.cells #[.int .i64 e] 23))
    (by rw [World.cell?_alloc_at _ _ _ _ (by simp)]; rfl) ta
    (by rw [World.frozen?_alloc_old _ _ t (by simp; omega), World.frozen?_alloc_old _ _ t (Nat.ne_of_lt htl)]; exact hf0)
  have TA := Lib.hid ta
  clear ta
  go_enter Tryd.func25, Tryd.ntmps25
  go_wp2
  refine wp_loop_rounds 1 ?_
  rw [rounds_succ]
  go_wp2
  go_ret
  exact ⟨rfl, _, ((Keeps.refl _ w).alloc _).alloc _, rfl⟩
set_option maxRecDepth 100000 in
set_option maxHeartbeats 1600000 in
/-- a kind is no fault -/
theorem as_notF (k : Int) (t a : Addr) (w : World) :
    Calls Tryd.prog 25 #[.iface 23 (.int .i64 k), .iface 66 (.pointer (some t)), .agg #[.pointer (some ⟨1, 66, none⟩), .pointer (some a), .int .u64 150], .iface 71 (.agg #[.pointer (some ⟨1, 44, none⟩)])] w fun ev w' =>
      ev = .returned (.bool false) ∧ Keeps (fun _ => False) w w' := by
  have qValueOf := @run_callFunc_extern Tryd.prog 22 _ (fun args => ReflectliteValue.unpack (args.getD 0 (.tuple #[]))) Tryd.func22 (by kernel_rfl) (by kernel_rfl) (by kernel_rfl) (by kernel_rfl)
  have qType := @run_callFunc_extern Tryd.prog 23 _ (ReflectliteValue.methodAny (ReflectliteValue.valueError "reflectlite.Value.Type" 0) (fun t _ _ _ => ReflectliteType.toType t)) Tryd.func23 (by kernel_rfl) (by kernel_rfl) (by kernel_rfl) (by kernel_rfl)
  have qIsNil := @run_callFunc_extern Tryd.prog 24 _ (ReflectliteValue.method (ReflectliteValue.valueError "reflectlite.Value.IsNil" 0) ReflectliteValue.isNil) Tryd.func24 (by kernel_rfl) (by kernel_rfl) (by kernel_rfl) (by kernel_rfl)
  have qKind := @run_callFunc_extern Tryd.prog 42 _ (ReflectliteType.abiMethod fun t => do pure (.int .u8 (← Rtype.kind t))) Tryd.func42 (by kernel_rfl) (by kernel_rfl) (by kernel_rfl) (by kernel_rfl)
  have qElemT := @run_callFunc_extern Tryd.prog 54 _ (ReflectliteType.method ReflectliteType.elem) Tryd.func54 (by kernel_rfl) (by kernel_rfl) (by kernel_rfl) (by kernel_rfl)
  have qImplements := @run_callFunc_extern Tryd.prog 55 _ (ReflectliteType.relation "Implements" ReflectliteType.implements_) Tryd.func55 (by kernel_rfl) (by kernel_rfl) (by kernel_rfl) (by kernel_rfl)
  have qTypeOf := @run_callFunc_extern Tryd.prog 20 _ ReflectliteType.typeOf Tryd.func20 (by kernel_rfl) (by kernel_rfl) (by kernel_rfl) (by kernel_rfl)
  have qAssignableTo := @run_callFunc_extern Tryd.prog 52 _ (ReflectliteType.relation "AssignableTo" ReflectliteType.assignableTo) Tryd.func52 (by kernel_rfl) (by kernel_rfl) (by kernel_rfl) (by kernel_rfl)
  have qElemV := @run_callFunc_extern Tryd.prog 26 _ (ReflectliteValue.method (ReflectliteValue.valueError "reflectlite.Value.Elem" 0) ReflectliteValue.elem) Tryd.func26 (by kernel_rfl) (by kernel_rfl) (by kernel_rfl) (by kernel_rfl)
  have qSet := @run_callFunc_extern Tryd.prog 27 _ ReflectliteValue.set Tryd.func27 (by kernel_rfl) (by kernel_rfl) (by kernel_rfl) (by kernel_rfl)
  have fm1 := rl_methodKind
  have fm2 := rl_methodElem
  have fm3 := rl_methodImplements
  have fm4 := rl_methodAssignableTo
  have fm5 := rl_methodUnwrap
  have fu1 := rl_hasUnwrap
  have fu2 := rl_noUnwrap
  have fu3 := rl_noUnwraps
  have fn1 := rl_notKF
  have fn2 := rl_notFK
  have fF0 := rl_kindF
  have fF1 := rl_implementsF
  have fF2 := rl_typeOfF
  have fF3 := rl_assignableF
  have fF4 := rl_valueOfF
  have fF5 := rl_noAsF
  have fFP0 := rl_valueOfPF
  have fFP1 := rl_typePF
  have fFP2 := rl_kindPF
  have fFP3 := rl_elemPF
  have fK0 := rl_kindK
  have fK1 := rl_implementsK
  have fK2 := rl_typeOfK
  have fK3 := rl_assignableK
  have fK4 := rl_valueOfK
  have fK5 := rl_noAsK
  have fKP0 := rl_valueOfPK
  have fKP1 := rl_typePK
  have fKP2 := rl_kindPK
  have fKP3 := rl_elemPK
  go_enter Tryd.func25, Tryd.ntmps25
  go_wp2
  refine wp_loop_rounds 1 ?_
  rw [rounds_succ]
  go_wp2
  go_ret
  exact ⟨rfl, (Keeps.refl _ w).alloc _⟩
set_option maxRecDepth 100000 in
set_option maxHeartbeats 1600000 in
/-- the kind of a chain -/
theorem as_chain {l : List (ByteArray × Int)} {k : Int} {v : Value} {E : Nat → Prop} (t a : Addr) (old : Value) (w : World) (h : IsErr w E v l k) (ha : w.cell? a = some (.pointer (some t))) (ht0 : w.cell? t = some old) (hf0 : w.frozen? t = false) :
    Calls Tryd.prog 25 #[v, .iface 48 (.pointer (some t)), .agg #[.pointer (some ⟨1, 48, none⟩), .pointer (some a), .int .u64 150], .iface 71 (.agg #[.pointer (some ⟨1, 23, none⟩)])] w fun ev w' =>
      ev = .returned (.bool true) ∧ ∃ w0, Keeps (fun _ => False) w w0 ∧ w' = w0.setCell t (.int .i64 k) := by
  have qValueOf := @run_callFunc_extern Tryd.prog 22 _ (fun args => ReflectliteValue.unpack (args.getD 0 (.tuple #[]))) Tryd.func22 (by kernel_rfl) (by kernel_rfl) (by kernel_rfl) (by kernel_rfl)
  have qType := @run_callFunc_extern Tryd.prog 23 _ (ReflectliteValue.methodAny (ReflectliteValue.valueError "reflectlite.Value.Type" 0) (fun t _ _ _ => ReflectliteType.toType t)) Tryd.func23 (by kernel_rfl) (by kernel_rfl) (by kernel_rfl) (by kernel_rfl)
  have qIsNil := @run_callFunc_extern Tryd.prog 24 _ (ReflectliteValue.method (ReflectliteValue.valueError "reflectlite.Value.IsNil" 0) ReflectliteValue.isNil) Tryd.func24 (by kernel_rfl) (by kernel_rfl) (by kernel_rfl) (by kernel_rfl)
  have qKind := @run_callFunc_extern Tryd.prog 42 _ (ReflectliteType.abiMethod fun t => do pure (.int .u8 (← Rtype.kind t))) Tryd.func42 (by kernel_rfl) (by kernel_rfl) (by kernel_rfl) (by kernel_rfl)
  have qElemT := @run_callFunc_extern Tryd.prog 54 _ (ReflectliteType.method ReflectliteType.elem) Tryd.func54 (by kernel_rfl) (by kernel_rfl) (by kernel_rfl) (by kernel_rfl)
  have qImplements := @run_callFunc_extern Tryd.prog 55 _ (ReflectliteType.relation "Implements" ReflectliteType.implements_) Tryd.func55 (by kernel_rfl) (by kernel_rfl) (by kernel_rfl) (by kernel_rfl)
  have qTypeOf := @run_callFunc_extern Tryd.prog 20 _ ReflectliteType.typeOf Tryd.func20 (by kernel_rfl) (by kernel_rfl) (by kernel_rfl) (by kernel_rfl)
  have qAssignableTo := @run_callFunc_extern Tryd.prog 52 _ (ReflectliteType.relation "AssignableTo" ReflectliteType.assignableTo) Tryd.func52 (by kernel_rfl) (by kernel_rfl) (by kernel_rfl) (by kernel_rfl)
  have qElemV := @run_callFunc_extern Tryd.prog 26 _ (ReflectliteValue.method (ReflectliteValue.valueError "reflectlite.Value.Elem" 0) ReflectliteValue.elem) Tryd.func26 (by kernel_rfl) (by kernel_rfl) (by kernel_rfl) (by kernel_rfl)
  have qSet := @run_callFunc_extern Tryd.prog 27 _ ReflectliteValue.set Tryd.func27 (by kernel_rfl) (by kernel_rfl) (by kernel_rfl) (by kernel_rfl)
  have fm1 := rl_methodKind
  have fm2 := rl_methodElem
  have fm3 := rl_methodImplements
  have fm4 := rl_methodAssignableTo
  have fm5 := rl_methodUnwrap
  have fu1 := rl_hasUnwrap
  have fu2 := rl_noUnwrap
  have fu3 := rl_noUnwraps
  have fn1 := rl_notKF
  have fn2 := rl_notFK
  have fF0 := rl_kindF
  have fF1 := rl_implementsF
  have fF2 := rl_typeOfF
  have fF3 := rl_assignableF
  have fF4 := rl_valueOfF
  have fF5 := rl_noAsF
  have fFP0 := rl_valueOfPF
  have fFP1 := rl_typePF
  have fFP2 := rl_kindPF
  have fFP3 := rl_elemPF
  have fK0 := rl_kindK
  have fK1 := rl_implementsK
  have fK2 := rl_typeOfK
  have fK3 := rl_assignableK
  have fK4 := rl_valueOfK
  have fK5 := rl_noAsK
  have fKP0 := rl_valueOfPK
  have fKP1 := rl_typePK
  have fKP2 := rl_kindPK
  have fKP3 := rl_elemPK
  have hal : a.block < w.heap.size := World.block_lt_of_cell? w a ha
  have htl : t.block < w.heap.size := World.block_lt_of_cell? w t ht0
  have ta : ((w.alloc (.cells #[.pointer (some ⟨1, 48, none⟩), .pointer (some a), .int .u64 150] 59)).alloc (.cells #[.int .i64 k] 23)).cell? t = some old := by
    rw [World.cell?_alloc_lt _ _ t (by simp; omega), World.cell?_alloc_lt _ _ t htl]; exact ht0
  have el := rl_elemVPK a t (w.alloc (.cells #[.pointer (some ⟨1, 48, none⟩), .pointer (some a), .int .u64 150] 59)) (by rw [World.cell?_alloc_lt _ _ a hal]; exact ha)
  have st := rl_setK t ⟨w.heap.size + 1, 0, none⟩ k old ((w.alloc (.cells #[.pointer (some ⟨1, 48, none⟩), .pointer (some a), .int .u64 150] 59)).alloc (.cells #[.int .i64 k] 23))
    (by rw [World.cell?_alloc_at _ _ _ _ (by simp)]; rfl) ta
    (by rw [World.frozen?_alloc_old _ _ t (by simp; omega), World.frozen?_alloc_old _ _ t (Nat.ne_of_lt htl)]; exact hf0)
  have TA := Lib.hid ta
  have HE := Lib.hid h
  obtain ⟨tt, tv, rfl⟩ : ∃ tt tv, v = .iface tt tv := by
    cases l with
    | nil => exact ⟨_, _, h⟩
    | cons c l => obtain ⟨b, u, e, _⟩ := h; exact ⟨_, _, e⟩
  obtain ⟨w1, hw1⟩ : ∃ w1, w1 = w.alloc (.cells #[.pointer (some ⟨1, 48, none⟩), .pointer (some a), .int .u64 150] 59) := ⟨_, rfl⟩
  have HBK : Hid (∀ b T xs, Blk w b T xs → Blk w1 b T xs) := Lib.hid (by subst hw1; exact fun b T xs h => h.keeps ((Keeps.refl (fun _ => False) w).alloc _) fun h => h)
  clear ta h
  go_enter Tryd.func25, Tryd.ntmps25
  go_wp2
  rw [← hw1]
  have HW := Lib.hid hw1
  clear hw1
  go_loopw [0] (fun v wr => wr = w1 ∧ ∃ l2, IsErr w E v l2 k) (fun v _ => chainLen w v)
  case atStart => exact ⟨rfl, l, HE.out⟩
  case round =>
    obtain ⟨rfl, l2, he⟩ := hrel
    cases l2 with
    | nil =>
      obtain rfl : u0 = _ := he
      have hw1 := HW.out
      subst hw1
      go_wp2
      go_ret
      exact ⟨rfl, _, ((Keeps.refl _ w).alloc _).alloc _, rfl⟩
    | cons c l3 =>
      obtain ⟨op, n⟩ := c
      have HE2 := Lib.hid he
      obtain ⟨b, u, rfl, hb, hE, he3⟩ := he
      have HE3 := Lib.hid he3
      have c2 : wr.cell? ⟨b, 2, none⟩ = some u := (HBK.out _ _ _ hb).cell (i := 2) rfl
      obtain ⟨tu, vu, rfl⟩ : ∃ tt tv, u = .iface tt tv := by
        cases l3 with
        | nil => exact ⟨_, _, he3⟩
        | cons c l => obtain ⟨b, u, e, _⟩ := he3; exact ⟨_, _, e⟩
      clear he3 hb
      go_wp2
      go_roundw
      case rel => exact ⟨by first | rfl | trivial, l3, HE3.out⟩
      case measure =>
        rw [chainLen_eq HE2.out]
        show chainLen w (.iface tu vu) < _
        rw [chainLen_eq HE3.out]
        exact Nat.lt_succ_self _
end Go.Proofs.YtnmhodejffpblaaDoor

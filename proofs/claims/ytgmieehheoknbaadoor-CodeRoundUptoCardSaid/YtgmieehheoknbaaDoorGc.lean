import Derived.Test.YtgmieehheoknbaaDoorGas
import Derived.Test.YtgmieehheoknbaaDoorGb
import Derived.JoinedOf
import Derived.LaidLaws
import Derived.LaidHandle
import Derived.Stop.Joined
import Derived.ChangeVars
import Derived.Test.YtgmieehheoknbaaDoorTie
import Derived.Test.YtgmieehheoknbaaDoorCards
import Derived.SevenTiedAt
section
/-
  errors.As at this program's errors: the walks.
-/
namespace Go.Proofs.YtgmieehheoknbaaDoor
open Go.RowKit Go.Tx Go.Extern
set_option maxRecDepth 100000 in
set_option maxHeartbeats 1600000 in
/-- the error is of the target's own type -/
theorem as_ownF (e : Addr) (t a : Addr) (old : Value) (w : World) (ha : w.cell? a = some (.pointer (some t))) (ht0 : w.cell? t = some old) (hf0 : w.frozen? t = false) :
    Calls Tryd.prog 36 #[.iface 40 (.pointer (some e)), .iface 67 (.pointer (some t)), .agg #[.pointer (some ⟨1, 67, none⟩), .pointer (some a), .int .u64 150], .iface 109 (.agg #[.pointer (some ⟨1, 40, none⟩)])] w fun ev w' =>
      ev = .returned (.bool true) ∧ ∃ w0, Keeps (fun _ => False) w w0 ∧ w' = w0.setCell t (.pointer (some e)) := by
  have qValueOf := @run_callFunc_extern Tryd.prog 33 _ (fun args => ReflectliteValue.unpack (args.getD 0 (.tuple #[]))) Tryd.func33 (by kernel_rfl) (by kernel_rfl) (by kernel_rfl) (by kernel_rfl)
  have qType := @run_callFunc_extern Tryd.prog 34 _ (ReflectliteValue.methodAny (ReflectliteValue.valueError "reflectlite.Value.Type" 0) (fun t _ _ _ => ReflectliteType.toType t)) Tryd.func34 (by kernel_rfl) (by kernel_rfl) (by kernel_rfl) (by kernel_rfl)
  have qIsNil := @run_callFunc_extern Tryd.prog 35 _ (ReflectliteValue.method (ReflectliteValue.valueError "reflectlite.Value.IsNil" 0) ReflectliteValue.isNil) Tryd.func35 (by kernel_rfl) (by kernel_rfl) (by kernel_rfl) (by kernel_rfl)
  have qKind := @run_callFunc_extern Tryd.prog 72 _ (ReflectliteType.abiMethod fun t => do pure (.int .u8 (← Rtype.kind t))) Tryd.func72 (by kernel_rfl) (by kernel_rfl) (by kernel_rfl) (by kernel_rfl)
  have qElemT := @run_callFunc_extern Tryd.prog 84 _ (ReflectliteType.method ReflectliteType.elem) Tryd.func84 (by kernel_rfl) (by kernel_rfl) (by kernel_rfl) (by kernel_rfl)
  have qImplements := @run_callFunc_extern Tryd.prog 85 _ (ReflectliteType.relation "Implements" ReflectliteType.implements_) Tryd.func85 (by kernel_rfl) (by kernel_rfl) (by kernel_rfl) (by kernel_rfl)
  have qTypeOf := @run_callFunc_extern Tryd.prog 47 _ ReflectliteType.typeOf Tryd.func47 (by kernel_rfl) (by kernel_rfl) (by kernel_rfl) (by kernel_rfl)
  have qAssignableTo := @run_callFunc_extern Tryd.prog 82 _ (ReflectliteType.relation "AssignableTo" ReflectliteType.assignableTo) Tryd.func82 (by kernel_rfl) (by kernel_rfl) (by kernel_rfl) (by kernel_rfl)
  have qElemV := @run_callFunc_extern Tryd.prog 48 _ (ReflectliteValue.method (ReflectliteValue.valueError "reflectlite.Value.Elem" 0) ReflectliteValue.elem) Tryd.func48 (by kernel_rfl) (by kernel_rfl) (by kernel_rfl) (by kernel_rfl)
  have qSet := @run_callFunc_extern Tryd.prog 49 _ ReflectliteValue.set Tryd.func49 (by kernel_rfl) (by kernel_rfl) (by kernel_rfl) (by kernel_rfl)
  have fm1 := rl_methodKind
  have fm2 := rl_methodElem
  have fm3 := rl_methodImplements
  have fm4 := rl_methodAssignableTo
  have fm5 := rl_methodUnwrap
  have fu1 := rl_hasUnwrap
  have fu2 := rl_noUnwrap
  have fu3 := rl_noUnwraps
  have fn1 := rl_notKF
  have fn2 := rl_notFK
  have fF0 := rl_kindF
  have fF1 := rl_implementsF
  have fF2 := rl_typeOfF
  have fF3 := rl_assignableF
  have fF4 := rl_valueOfF
  have fF5 := rl_noAsF
  have fFP0 := rl_valueOfPF
  have fFP1 := rl_typePF
  have fFP2 := rl_kindPF
  have fFP3 := rl_elemPF
  have hal : a.block < w.heap.size := World.block_lt_of_cell? w a ha
  have htl : t.block < w.heap.size := World.block_lt_of_cell? w t ht0
  have ta : ((w.alloc (.cells #[.pointer (some ⟨1, 67, none⟩), .pointer (some a), .int .u64 150] 86)).alloc (.cells #[.pointer (some e)] 40)).cell? t = some old := by
    rw [World.cell?_alloc_lt _ _ t (by simp; omega), World.cell?_alloc_lt _ _ t htl]; exact ht0
  have el := rl_elemVPF a t (w.alloc (.cells #[.pointer (some ⟨1, 67, none⟩), .pointer (some a), .int .u64 150] 86)) (by rw [World.cell?_alloc_lt _ _ a hal]; exact ha)
  have st := rl_setF t ⟨w.heap.size + 1, 0, none⟩ e old ((w.alloc (.cells #[.pointer (some ⟨1, 67, none⟩), .pointer (some a), .int .u64 150] 86)).alloc (.cells #[.pointer (some e)] 40))
    (by rw [World.cell?_alloc_at _ _ _ _ (by simp)]; rfl) ta
    (by rw [World.frozen?_alloc_old _ _ t (by simp; omega), World.frozen?_alloc_old _ _ t (Nat.ne_of_lt htl)]; exact hf0)
  have TA := Lib.hid ta
  clear ta
  go_enter Tryd.func36, Tryd.ntmps36
  go_wp2
  refine wp_loop_rounds 1 ?_
  rw [rounds_succ]
  go_wp2
  go_ret
  exact ⟨rfl, _, ((Keeps.refl _ w).alloc _).alloc _, rfl⟩
end Go.Proofs.YtgmieehheoknbaaDoor
end
section
/-
  errors.As at this program's errors: its own walk.
-/
namespace Go.Tx
open Go Go.RowKit
theorem IsErr.iface {w : World} {E : Nat → Prop} {v : Value} {c : List (ByteArray × Int)} {k : Int} (h : IsErr w E v c k) : ∃ t u, v = .iface t u := by
  cases c with
  | nil => exact ⟨_, _, h⟩
  | cons p c => obtain ⟨b, u, h1, _⟩ := h; exact ⟨_, _, h1⟩
end Go.Tx
namespace Go.Proofs.YtgmieehheoknbaaDoor
open Go.RowKit Go.Tx Go.Extern
set_option maxRecDepth 100000 in
set_option maxHeartbeats 1600000 in
/-- errors.As: a fault -/
theorem asF (e : Addr) (t : Addr) (old : Value) (w : World)  (hg : ErrorType w) (ht0 : w.cell? t = some old) (hf0 : w.frozen? t = false) :
    Calls Tryd.prog 25 #[(.iface 40 (.pointer (some e))), .iface 67 (.pointer (some t))] w fun ev w' => ev = .returned (.bool true) ∧ ∃ w0, Keeps (fun _ => False) w w0 ∧ w' = w0.setCell t (.pointer (some e)) := by
  have qValueOf := @run_callFunc_extern Tryd.prog 33 _ (fun args => ReflectliteValue.unpack (args.getD 0 (.tuple #[]))) Tryd.func33 (by kernel_rfl) (by kernel_rfl) (by kernel_rfl) (by kernel_rfl)
  have qType := @run_callFunc_extern Tryd.prog 34 _ (ReflectliteValue.methodAny (ReflectliteValue.valueError "reflectlite.Value.Type" 0) (fun t _ _ _ => ReflectliteType.toType t)) Tryd.func34 (by kernel_rfl) (by kernel_rfl) (by kernel_rfl) (by kernel_rfl)
  have qIsNil := @run_callFunc_extern Tryd.prog 35 _ (ReflectliteValue.method (ReflectliteValue.valueError "reflectlite.Value.IsNil" 0) ReflectliteValue.isNil) Tryd.func35 (by kernel_rfl) (by kernel_rfl) (by kernel_rfl) (by kernel_rfl)
  have qKind := @run_callFunc_extern Tryd.prog 72 _ (ReflectliteType.abiMethod fun t => do pure (.int .u8 (← Rtype.kind t))) Tryd.func72 (by kernel_rfl) (by kernel_rfl) (by kernel_rfl) (by kernel_rfl)
  have qElemT := @run_callFunc_extern Tryd.prog 84 _ (ReflectliteType.method ReflectliteType.elem) Tryd.func84 (by kernel_rfl) (by kernel_rfl) (by kernel_rfl) (by kernel_rfl)
  have qImplements := @run_callFunc_extern Tryd.prog 85 _ (ReflectliteType.relation "Implements" ReflectliteType.implements_) Tryd.func85 (by kernel_rfl) (by kernel_rfl) (by kernel_rfl) (by kernel_rfl)
  have qTypeOf := @run_callFunc_extern Tryd.prog 47 _ ReflectliteType.typeOf Tryd.func47 (by kernel_rfl) (by kernel_rfl) (by kernel_rfl) (by kernel_rfl)
  have qAssignableTo := @run_callFunc_extern Tryd.prog 82 _ (ReflectliteType.relation "AssignableTo" ReflectliteType.assignableTo) Tryd.func82 (by kernel_rfl) (by kernel_rfl) (by kernel_rfl) (by kernel_rfl)
  have qElemV := @run_callFunc_extern Tryd.prog 48 _ (ReflectliteValue.method (ReflectliteValue.valueError "reflectlite.Value.Elem" 0) ReflectliteValue.elem) Tryd.func48 (by kernel_rfl) (by kernel_rfl) (by kernel_rfl) (by kernel_rfl)
  have qSet := @run_callFunc_extern Tryd.prog 49 _ ReflectliteValue.set Tryd.func49 (by kernel_rfl) (by kernel_rfl) (by kernel_rfl) (by kernel_rfl)
  have fm1 := rl_methodKind
  have fm2 := rl_methodElem
  have fm3 := rl_methodImplements
  have fm4 := rl_methodAssignableTo
  have fm5 := rl_methodUnwrap
  have fu1 := rl_hasUnwrap
  have fu2 := rl_noUnwrap
  have fu3 := rl_noUnwraps
  have fn1 := rl_notKF
  have fn2 := rl_notFK
  have fF0 := rl_kindF
  have fF1 := rl_implementsF
  have fF2 := rl_typeOfF
  have fF3 := rl_assignableF
  have fF4 := rl_valueOfF
  have fF5 := rl_noAsF
  have fFP0 := rl_valueOfPF
  have fFP1 := rl_typePF
  have fFP2 := rl_kindPF
  have fFP3 := rl_elemPF
  have htl : t.block < w.heap.size := World.block_lt_of_cell? w t ht0
  have hgl : 0 < w.heap.size := World.block_lt_of_cell? w _ hg
  have hg2 : ((w.alloc (.cells #[.pointer (some t)] 67)).alloc (.cells #[.pointer (some ⟨1, 67, none⟩), .pointer (some ⟨w.heap.size, 0, none⟩), .int .u64 150] 86)).cell? ⟨0, 0, none⟩ = some (.iface 109 (.agg #[.pointer (some ⟨1, 28, none⟩)])) := by
    rw [World.cell?_alloc_lt _ _ ⟨0, 0, none⟩ (by simp), World.cell?_alloc_lt _ _ ⟨0, 0, none⟩ hgl]; exact hg
  have n8 := rl_isNilPF ⟨w.heap.size, 0, none⟩ t ((w.alloc (.cells #[.pointer (some t)] 67)).alloc (.cells #[.pointer (some ⟨1, 67, none⟩), .pointer (some ⟨w.heap.size, 0, none⟩), .int .u64 150] 86)) (by simp)
  have HA : Hid (((w.alloc (.cells #[.pointer (some t)] 67)).alloc (.cells #[.pointer (some ⟨1, 67, none⟩), .pointer (some ⟨w.heap.size, 0, none⟩), .int .u64 150] 86)).cell? ⟨w.heap.size, 0, none⟩ = some (.pointer (some t))) := Lib.hid (by rw [World.cell?_alloc_lt _ _ ⟨w.heap.size, 0, none⟩ (by simp)]; simp)
  have HT0 : Hid (((w.alloc (.cells #[.pointer (some t)] 67)).alloc (.cells #[.pointer (some ⟨1, 67, none⟩), .pointer (some ⟨w.heap.size, 0, none⟩), .int .u64 150] 86)).cell? t = some old) := Lib.hid (by rw [World.cell?_alloc_lt _ _ t (by simp; omega), World.cell?_alloc_lt _ _ t htl]; exact ht0)
  have HF0 : Hid (((w.alloc (.cells #[.pointer (some t)] 67)).alloc (.cells #[.pointer (some ⟨1, 67, none⟩), .pointer (some ⟨w.heap.size, 0, none⟩), .int .u64 150] 86)).frozen? t = false) := Lib.hid (by rw [World.frozen?_alloc_old _ _ t (by simp; omega), World.frozen?_alloc_old _ _ t (Nat.ne_of_lt htl)]; exact hf0)
  have HKw : Hid (Keeps (fun _ => False) w ((w.alloc (.cells #[.pointer (some t)] 67)).alloc (.cells #[.pointer (some ⟨1, 67, none⟩), .pointer (some ⟨w.heap.size, 0, none⟩), .int .u64 150] 86))) := Lib.hid (((Keeps.refl _ w).alloc _).alloc _)

  go_enter Tryd.func25, Tryd.ntmps25
  go_wp2_with (go_at_call 36; refine Stop.out ?_)
  refine ⟨(as_ownF e t _ old _ HA.out HT0.out HF0.out).mono ?_⟩

  rintro ev w3 ⟨rfl, w0, h2, rfl⟩
  have H2 := Lib.hid h2
  clear h2
  go_wp2
  go_ret
  exact ⟨rfl, w0, HKw.out.trans H2.out fun _ _ h => h, rfl⟩
end Go.Proofs.YtgmieehheoknbaaDoor
end
section
/-
  What the rows of the laws on faults have in common: the variable's cell, and a world that holds it.
-/
namespace Go.Proofs.YtgmieehheoknbaaDoor
open Go.ChangeShapes Go.WideShapes Go.ChangeAt Go.RowKit Go.Tx

theorem Tryd.et : Tryd.prog.globalNamed "errors.errorType" = some 0 := by kernel_rfl
theorem Tryd.rt : (Tryd.prog.cutTypes.find? (·.1 == "internal/reflectlite.rtype")).map (·.2) = some 109 := by kernel_rfl
theorem Tryd.oneRow : ((List.range Tryd.prog.types.size).filter fun t => Tryd.prog.rowNamed t [101, 114, 114, 111, 114]) = [28] := by kernel_rfl
theorem handleOf : typeHandle Tryd.prog 28 = .pointer (some ⟨1, 28, none⟩) := by kernel_rfl

/-- what the condition gives: the variable's one cell -/
theorem errorType_of_laid {W : World} {l : List (String × DataW Unit)} (hl : l = [("errors.errorType", Rows.laid_errors_errorType)]) (h : laidMetH Tryd.prog l W) : ErrorType W := by
  subst hl
  have h' : laidMet Tryd.prog [] W ∧ handlesMet Tryd.prog [("errors.errorType", Rows.laid_errors_errorType)] W := h
  obtain ⟨name, u, ty, e1, e2, e3, e4, e5⟩ := h'.2 _ (List.mem_singleton.2 rfl)
  have en : name = [101, 114, 114, 111, 114] := (Option.some.inj e1).symm
  subst en
  obtain rfl := Option.some.inj (Tryd.rt.symm.trans e2)
  have hm : ty ∈ (List.range Tryd.prog.types.size).filter fun t => Tryd.prog.rowNamed t [101, 114, 114, 111, 114] := List.mem_filter.2 ⟨List.mem_range.2 e3, e4⟩
  rw [Tryd.oneRow] at hm
  obtain rfl := List.mem_singleton.1 hm
  rw [handleOf] at e5
  simpa [ErrorType] using World.var?_cell Tryd.et e5 0

/-- a world that meets the condition: the settled one, the variable's cell laid -/
noncomputable def laidWorld (os : Os) : World :=
  let w0 := World.holding Tryd.prog os ⟨#[], #[], []⟩
  { w0 with heap := w0.heap.modify 0 fun
      | .cells _ t frozen => .cells #[.iface 109 (.agg #[.pointer (some ⟨1, 28, none⟩)])] t frozen
      | o => o }
theorem laidWorld_met (os : Os) (args : Array Value) : laidMetH Tryd.prog [("errors.errorType", Rows.laid_errors_errorType)] ((laidWorld os).forCall (fun _ _ => 0) ⟨#[], args, []⟩).memory :=
  laidMetH_of_parts (laidMet_nil _ _) (by kernel_rfl)

end Go.Proofs.YtgmieehheoknbaaDoor
end

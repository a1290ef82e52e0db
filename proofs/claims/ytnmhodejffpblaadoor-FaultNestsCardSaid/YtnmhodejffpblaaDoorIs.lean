/-
  errors.Is at this program's errors: whether a chain ends in a kind.
-/
import Derived.Test.YtnmhodejffpblaaDoorAy
namespace Go.Proofs.YtnmhodejffpblaaDoor
open Go.RowKit Go.Tx Go.Extern
theorem rl_comparable (w : World) : ((ReflectliteType.method fun t => do Rtype.noPackHeld "Comparable" t; (fun a => Value.bool a.comparable) <$> typeInfo t) #[.agg #[.pointer (some ⟨1, 23, none⟩)]]).run Tryd.prog w = .ok (.bool true) w := by kernel_rfl
theorem rl_methodComparable (h : Value) (w : World) : (Go.method 213 71 (.agg #[h]) "Comparable").run Tryd.prog w = .ok (53, .agg #[h]) w := by kernel_rfl
theorem rl_noIsF (v : Value) (xT : TypeId) (w : World) : (Instr.typeAssert (.iface 44 v) xT 73 true).run Tryd.prog w = .ok (.tuple #[.nilIface, .bool false]) w := run_typeAssert_lacksB Tryd.underlying73 (by kernel_rfl) (by kernel_rfl) v xT w
theorem rl_noIsK (v : Value) (xT : TypeId) (w : World) : (Instr.typeAssert (.iface 23 v) xT 73 true).run Tryd.prog w = .ok (.tuple #[.nilIface, .bool false]) w := run_typeAssert_lacksB Tryd.underlying73 (by kernel_rfl) (by kernel_rfl) v xT w
theorem eql_FK (a b : Value) (w : World) : (Go.binOp .eql 29 (.iface 44 a) (.iface 23 b)).run Tryd.prog w = .ok (.bool false) w := run_eql_iface_types 44 23 a b Tryd.underlying29 (by decide) w
theorem eql_KK (a b : Int) (w : World) : (Go.binOp .eql 29 (.iface 23 (.int .i64 a)) (.iface 23 (.int .i64 b))).run Tryd.prog w = .ok (.bool (a == b)) w := by kernel_rfl
set_option maxRecDepth 100000 in
set_option maxHeartbeats 1600000 in
theorem is_loop {w : World} {E : Nat → Prop} {v : Value} {c : List (ByteArray × Int)} {k : Int} (h : IsErr w E v c k) (k2 : Int) :
    Calls Tryd.prog 21 #[v, .iface 23 (.int .i64 k2), .bool true] w fun e w' => e = .returned (.bool (k == k2)) ∧ w' = w := by
  have f1 := rl_noIsF
  have f2 := rl_noIsK
  have f3 := eql_FK
  have f4 := eql_KK
  have fm5 := rl_methodUnwrap
  have fu1 := rl_hasUnwrap
  have fu2 := rl_noUnwrap
  have fu3 := rl_noUnwraps
  have HE := Lib.hid h
  obtain ⟨tt, tv, rfl⟩ := h.iface
  clear h
  go_enter Tryd.func21, Tryd.ntmps21
  go_wp2
  go_loopw [0] (fun v wr => wr = w ∧ ∃ l2, IsErr w E v l2 k) (fun v _ => chainLen w v)
  case atStart => exact ⟨rfl, c, HE.out⟩
  case round =>
    obtain ⟨rfl, l2, he⟩ := hrel
    cases l2 with
    | nil =>
      obtain rfl : u0 = _ := he
      cases hk : (k == k2) with
      | true =>
        go_wp2
        go_ret
        rw [hk]
        exact ⟨rfl, rfl⟩
      | false =>
        go_wp2
        go_ret
        rw [hk]
        exact ⟨rfl, rfl⟩
    | cons c l3 =>
      obtain ⟨op, n⟩ := c
      have HE2 := Lib.hid he
      obtain ⟨b, u, rfl, hb, hE, he3⟩ := he
      have HE3 := Lib.hid he3
      have c2 : wr.cell? ⟨b, 2, none⟩ = some u := hb.cell (i := 2) rfl
      obtain ⟨tu, vu, rfl⟩ := he3.iface
      clear he3 hb
      go_wp2
      go_roundw
      case rel => exact ⟨by first | rfl | trivial, l3, HE3.out⟩
      case measure =>
        rw [chainLen_eq HE2.out]
        show chainLen wr (.iface tu vu) < _
        rw [chainLen_eq HE3.out]
        exact Nat.lt_succ_self _
set_option maxRecDepth 100000 in
set_option maxHeartbeats 800000 in
theorem is_any {w : World} {E : Nat → Prop} {v : Value} {c : List (ByteArray × Int)} {k : Int} (h : IsErr w E v c k) (k2 : Int) :
    Calls Tryd.prog 16 #[v, .iface 23 (.int .i64 k2)] w fun e w' => e = .returned (.bool (k == k2)) ∧ w' = w := by
  have q1 := @run_callFunc_extern Tryd.prog 20 _ ReflectliteType.typeOf Tryd.func20 (by kernel_rfl) (by kernel_rfl) (by kernel_rfl) (by kernel_rfl)
  have q2 := @run_callFunc_extern Tryd.prog 53 _ (ReflectliteType.method fun t => do Rtype.noPackHeld "Comparable" t; pure (.bool (← typeInfo t).comparable)) Tryd.func53 (by kernel_rfl) (by kernel_rfl) (by kernel_rfl) (by kernel_rfl)
  have f1 := rl_typeOfK
  have f2 := rl_comparable
  have f3 := rl_methodComparable
  have HE := Lib.hid h
  obtain ⟨tt, tv, rfl⟩ := h.iface
  clear h
  go_enter Tryd.func16, Tryd.ntmps16
  go_wp2_with (first | (go_at_call 21; refine (is_loop HE.out k2).mono ?_; rintro e w2 ⟨rfl, rfl⟩))
  go_ret
  exact ⟨rfl, rfl⟩
end Go.Proofs.YtnmhodejffpblaaDoor

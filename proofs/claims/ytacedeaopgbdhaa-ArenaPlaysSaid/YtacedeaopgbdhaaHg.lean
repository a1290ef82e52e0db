/-
  Walking a region with held loads: operations under a guard.
-/
import Derived.Test.YtacedeaopgbdhaaHeld
namespace Go.Tx
open Go
section
variable {P : Program} {ops : Array Oper} {Q : Exit → Act → World → Prop} {H : World → Prop} {hl : List Nat}
/-- an operation, by a walk of its own; it may be guarded -/
theorem wpH_walkG {k : Nat} {o : Oper} {l : List Oper} {a : Act} {w : World} (hk : hl.contains k = false) (h : wpList P ops (heldQ H (wpListH H hl P ops Q l (k + 1))) [o] a w) : wpListH H hl P ops Q (o :: l) k a w := by
  have hR : ∀ e a w, e ≠ Exit.normal → ¬ heldQ H (wpListH H hl P ops Q l (k + 1)) e a w := fun e a w he => by
    cases e <;> first | exact fun h => h.elim | exact (he rfl).elim
  refine wpH_step hk fun K hK => ?_
  unfold wpList at h
  by_cases hw : Region.wanted o (yielded ops a.tmps) = true
  · rw [if_pos hw] at h ⊢
    rcases h with h | ⟨_, a0, w0, h0⟩
    · exact wp_to hR (fun a w hk => hK a w hk) h
    · exact (hR _ _ _ (by simp) h0).elim
  · rw [if_neg hw] at h ⊢
    exact h.2
/-- a load of one cell that is held, under a guard that lets it -/
theorem wpH_loadG {k : Nat} {o : Oper} {l : List Oper} {a : Act} {w : World} (t : TypeId) (x : Operand) (ho : o.op = .load t x) (d : TypeDesc) (ht : P.underlying t = some d)
    (hagg : (match d with | .struct _ | .array _ _ => false | _ => true) = true) (p : Addr) (v : Value) (hw : Region.wanted o (yielded ops a.tmps) = true) (hx : a.eval x = .pointer (some p)) (hc : ∀ w, H w → w.cell? p = some v) (hH : H w)
    (h : wpListH H hl P ops Q l (k + 1) (a.put o.dst v) w) : wpListH H hl P ops Q (o :: l) k a w := by
  have hr : ∀ w, H w → (execOp a.eval o).run P w = .ok (.value v) w := by
    intro w hHw
    have hag : (isAgg t).run P w = .ok false w := by
      unfold isAgg
      rw [Sem.run_bind, run_underlying ht]
      cases d <;> first | rfl | cases hagg
    unfold execOp
    simp only [ho, Instr.loadAt, Sem.run_bind, hx, Instr.sureAddr, Sem.run_pure, Result.andThen_ok, loadVar, hag]
    simp [hc w hHw]
  refine ⟨?_, fun _ => ⟨v, fun w hHw => .inl ⟨hw, hr w hHw⟩⟩⟩
  rw [if_pos hw]
  unfold Oper.wp
  rw [hr w hH]
  exact ⟨hH, h⟩
end
end Go.Tx

/-
  Walking the operations of a region beside which some loads are held: each by a walk of its own.
-/
import Derived.Test.YtacedeaopgbdhaaRegB
namespace Go.Tx
open Go
section
variable {P : Program} {ops : Array Oper} {Q : Exit → Act → World → Prop} {H : World → Prop} {hl : List Nat}

theorem wp_to {o : Oper} {a : Act} {w : World} {K K' : Act → World → Prop} {R : Exit → Act → World → Prop} (hR : ∀ e a w, e ≠ .normal → ¬ R e a w) (h : ∀ a w, K a w → K' a w) (hh : o.wp P a w K R) : o.wp P a w K' Q := by
  have hl : ¬ LetsOut R := fun ⟨a0, w0, h0⟩ => hR _ _ _ (by simp) h0
  unfold Oper.wp at *
  generalize (execOp a.eval o).run P w = r at *
  cases r with
  | ok n w' =>
    cases n <;> simp only [Oper.upon] at hh ⊢ <;>
      first
        | exact h _ _ hh
        | exact Calls.mono hh (fun e w'' he => by cases e <;> first | exact h _ _ he | exact (hR _ _ _ (by simp) he).elim | exact (hl he).elim)
        | exact Rows.mono hh (fun _ _ he => h _ _ he)
  | halt x w' => cases x <;> simp only [Oper.upon] at hh ⊢ <;> first | exact hh | exact (hR _ _ _ (by simp) hh).elim | exact (hl hh).elim

/-- what stands behind one operation of such a walk -/
def heldQ (H : World → Prop) (R : Act → World → Prop) : Exit → Act → World → Prop
  | .normal, a, w => H w ∧ R a w
  | _, _, _ => False
theorem held_fin {R : Act → World → Prop} {a : Act} {w : World} (h1 : H w) (h2 : R a w) : heldQ H R .normal a w := ⟨h1, h2⟩
theorem wpH_walk {k : Nat} {o : Oper} {l : List Oper} {a : Act} {w : World} (hg : o.guard = none) (hk : hl.contains k = false) (h : wpList P ops (heldQ H (wpListH H hl P ops Q l (k + 1))) [o] a w) : wpListH H hl P ops Q (o :: l) k a w := by
  have hR : ∀ e a w, e ≠ Exit.normal → ¬ heldQ H (wpListH H hl P ops Q l (k + 1)) e a w := fun e a w he => by
    cases e <;> first | exact fun h => h.elim | exact (he rfl).elim
  refine wpH_plain hg hk fun K hK => ?_
  unfold wpList at h
  simp only [Region.wanted, hg, if_true] at h
  rcases h with h | ⟨_, a0, w0, h0⟩
  · exact wp_to hR (fun a w hk => hK a w hk) h
  · exact (hR _ _ _ (by simp) h0).elim
end
end Go.Tx

/-
  Whether a term has just the fields that its kind has, all kinds: what tree.fields does.
-/
import Derived.Test.YtnmhodejffpblaaTga
namespace Go.Proofs.Ytnmhodejffpblaa
open Go.RowKit Go.Tx
theorem fields_core (w : World) (k n : Int) (s : ByteArray) (ai ar ab : Option Addr) (il rl bl ci cr cb : Nat) (rk : Int)
    (hil : il ≤ 140737488355328) (hrl : rl ≤ 140737488355328) (hbl : bl ≤ 140737488355328)
    (hr : rl = 1 → ∃ b o, ar = some ⟨b, o, none⟩ ∧ b < w.heap.size ∧ w.cell? ⟨b, o, none⟩ = some (.int .i64 rk)) :
    Calls Try.prog 56 #[.agg #[.int .i64 k, .int .i64 n, .string s, .slice ai il ci, .slice ar rl cr, .slice ab bl cb]] w fun e w' => e = .returned (.bool (okF k n s.size il rl bl rk)) ∧ Keeps (fun _ => False) w w' := by
  by_cases hk : k = 1 ∨ k = 2 ∨ k = 3 ∨ k = 4 ∨ k = 5 ∨ k = 6 ∨ k = 7 ∨ k = 8
  · rcases hk with rfl | rfl | rfl | rfl | rfl | rfl | rfl | rfl
    · exact fields_1 w n s ai ar ab il rl bl ci cr cb rk hil hrl hbl
    · exact fields_2 w n s ai ar ab il rl bl ci cr cb rk hil hrl hbl
    · exact fields_3 w n s ai ar ab il rl bl ci cr cb rk hil hrl hbl
    · exact fields_4 w n s ai ar ab il rl bl ci cr cb rk hil hrl hbl
    · exact fields_5 w n s ai ar ab il rl bl ci cr cb rk hil hrl hbl
    · exact fields_6 w n s ai ar ab il rl bl ci cr cb rk hil hrl hbl
    · exact fields_7 w n s ai ar ab il rl bl ci cr cb rk hil hrl hbl hr
    · exact fields_8 w n s ai ar ab il rl bl ci cr cb rk hil hrl hbl
  · exact fields_other w k n s ai ar ab il rl bl ci cr cb rk hk
theorem fields_any {w : World} {S : Nat → Prop} {d : Nat} {t : Tm} {vi vr vb : Value} (h : TmD w S d (t.val vi vr vb) t) :
    Calls Try.prog 56 #[t.val vi vr vb] w fun e w' => e = .returned (.bool t.okB) ∧ Keeps (fun _ => False) w w' := by
  cases d with
  | zero => exact h.elim
  | succ d =>
    obtain ⟨vi', vr', vb', he, hf, hs, ⟨hil, ai, ci, rfl, _⟩, ⟨hrl, ar, cr, rfl, _, _, hr⟩, ⟨hbl, ab, cb, rfl, _⟩⟩ := h
    obtain ⟨rfl, rfl, rfl⟩ : vi = .slice ai t.items.length ci ∧ vr = .slice ar t.rest.length cr ∧ vb = .slice ab t.bytes.size cb := by
      simp [Tm.val] at he; exact ⟨he.1, he.2.1, he.2.2⟩
    refine fields_core w t.kind t.n t.name ai ar ab _ _ _ ci cr cb (headKind t.rest) hil hrl hbl fun h1 => ?_
    match hrs : t.rest, h1 with
    | [x], _ =>
      rw [hrs] at hr
      obtain ⟨b, o, _, _, _, e, _, ⟨c0, _⟩, _⟩ := hr 0 x rfl
      exact ⟨b, o, e, lt_cell c0, by simpa [headKind] using c0⟩
end Go.Proofs.Ytnmhodejffpblaa

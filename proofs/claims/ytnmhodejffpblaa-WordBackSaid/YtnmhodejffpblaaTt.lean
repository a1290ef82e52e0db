/-
  Whether a term is one that may be: what tree.Right does, at any term.
-/
import Derived.Test.YtnmhodejffpblaaTra
import Derived.Test.YtnmhodejffpblaaTrc
import Derived.Test.YtnmhodejffpblaaTrn
import Derived.Test.YtnmhodejffpblaaTrb
namespace Go.Tx
open Go Go.RowKit
/-- an answer: an error, or none; nothing that was there has turned -/
def ErrOPost (f : Value → Value) (o : ErrO) (w : World) (e : Ending) (w' : World) : Prop := ∃ E, e = .returned (f E) ∧ IsErrO w' (Fresh w w') E o ∧ Keeps (fun _ => False) w w'
theorem right_post {w w' : World} {r : Except (Int × Int) (Int × Int)} {g : Nat} {e : Ending} (w1 : World) (hk : Keeps (fun _ => False) w w1) (hg : w.heap.size ≤ g) (h : ChkPost g r w1 e w') : ErrOPost id (errTm r) w e w' := by
  obtain ⟨h1, h2⟩ := h
  have hk2 : Keeps (fun _ => False) w w' := hk.trans h1 fun b hb hx => by omega
  cases r with
  | ok st => exact ⟨_, h2.1, rfl, hk2⟩
  | error x =>
    obtain ⟨E, he, hE⟩ := h2
    exact ⟨E, he, ⟨hE.mono fun x hx => hx.mono hk.size (Nat.le_refl _), by simp⟩, hk2⟩
end Go.Tx
namespace Go.Proofs.Ytnmhodejffpblaa
open Go.RowKit Go.Tx
theorem term_step (d : Nat) (IH : TermSpec d) : TermSpec (d + 1) := by
  intro w S v t g p b dep h hgS hb hp hb0 hpb hd hd2
  obtain ⟨k, n, s, is, rs, bs⟩ := t
  by_cases hk8 : k = 8
  · by_cases hfl : p + 1 + (b + (Tm.mk k n s is rs bs).binSize) > 65536 ∨ dep > 200
    · exact term_b_full d IH w S v k n s is rs bs g p b dep h hgS hb hp hb0 hpb hd hd2 hk8 hfl
    · by_cases hok : (Tm.mk k n s is rs bs).okB = true
      · exact term_b_parts d IH w S v k n s is rs bs g p b dep h hgS hb hp hb0 hpb hd hd2 hk8 (by omega) hok
      · exact term_b_arg d IH w S v k n s is rs bs g p b dep h hgS hb hp hb0 hpb hd hd2 hk8 (by omega) (by simpa using hok)
  · by_cases hfl : p + 1 + (b + (Tm.mk k n s is rs bs).binSize) > 65536 ∨ dep > 200
    · exact term_n_full d IH w S v k n s is rs bs g p b dep h hgS hb hp hb0 hpb hd hd2 hk8 hfl
    · by_cases hok : (Tm.mk k n s is rs bs).okB = true
      · exact term_n_parts d IH w S v k n s is rs bs g p b dep h hgS hb hp hb0 hpb hd hd2 hk8 (by omega) hok
      · exact term_n_arg d IH w S v k n s is rs bs g p b dep h hgS hb hp hb0 hpb hd hd2 hk8 (by omega) (by simpa using hok)
theorem term_any : ∀ d, TermSpec d
  | 0 => fun _ _ _ _ _ _ _ _ h => h.elim
  | d + 1 => term_step d (term_any d)
set_option maxRecDepth 100000 in
set_option maxHeartbeats 400000 in
/-- tree.Right, at any term -/
theorem right_any {w : World} {S : Nat → Prop} {d : Nat} {v : Value} {t : Tm} (h : TmD w S d v t) (hS : ∀ x, S x → x < w.heap.size) : Calls Try.prog 34 #[v] w (ErrOPost id (rightTm t) w) := by
  have HT := Lib.hid h
  have HS := Lib.hid hS
  obtain ⟨k, n, s, ai, ar, ab, il, ci, rl, cr, bl, cb, rfl⟩ : ∃ k n s ai ar ab il ci rl cr bl cb, v = .agg #[.int .i64 k, .int .i64 n, .string s, .slice ai il ci, .slice ar rl cr, .slice ab bl cb] := by
    cases d with
    | zero => exact h.elim
    | succ d =>
      obtain ⟨vi, vr, vb, he, _⟩ := h
      subst he
      obtain ⟨a3, k3, a4, k4, a5, k5, rfl, rfl, rfl⟩ := HT.out.forms
      exact ⟨_, _, _, _, _, _, _, _, _, _, _, _, rfl⟩
  clear h hS
  go_enter Try.func34, Try.ntmps34
  go_wp2_with (go_at_call 52; refine Stop.out ?_)
  refine ⟨(term_any d _ S _ t (w.heap.size + 1) 0 0 1 (HT.out.keeps (T := fun _ => False) (by repeat (first | with_reducible exact Keeps.refl _ _ | with_reducible apply Keeps.drew | with_reducible apply Keeps.alloc)) (fun _ _ h => h)) (fun x hx => by have := HS.out x hx; omega)
    (by have := Blk.new (w.alloc (.cells #[.int .i64 k, .int .i64 n, .string s, .slice ai il ci, .slice ar rl cr, .slice ab bl cb] 26)) [.int .i64 0, .int .i64 0] 118; rwa [World.size_alloc] at this)
    (by omega) (by omega) (by omega) (by omega) (by omega)).mono ?_⟩
  intro e w2 hp
  obtain ⟨E, rfl, hE, hk⟩ := right_post (w := w) _ (by repeat (first | with_reducible exact Keeps.refl _ _ | with_reducible apply Keeps.drew | with_reducible apply Keeps.alloc)) (by omega) hp
  have HE := Lib.hid hE
  have HK := Lib.hid hk
  clear hE hk hp
  go_wp2
  go_ret
  exact ⟨_, rfl, HE.out, HK.out⟩
end Go.Proofs.Ytnmhodejffpblaa

/-
  Proved here: the law WordBack answers true for every input, and leaves its arguments as they were; no condition.
-/
import Derived.Test.YtnmhodejffpblaaWbL
import Derived.Test.YtnmhodejffpblaaTp
namespace Go.Proofs.Ytnmhodejffpblaa
open Go.ChangeShapes Go.WideShapes Go.ChangeAt Go.RowKit Go.Tx

set_option maxRecDepth 100000 in
theorem back_lifted (os : Os) (started : os.Started) (H : Type) (enc : TypeId × Value → H) :
    ReturnsInHanded {} Try.checked os 9 .any (Rows.wordBackSpec.pre6 enc Try.prog Try.f9 Rows.wordBackRow.domain false) (Rows.wordBackSpec.post enc Try.prog Try.f9 false true false false) := by
  refine returnsInHanded_of_change_sized (C := Try.checked) Try.own started (by kernel_rfl) Try.func9
    (ChangeSpec.witness6 (enc := enc) (C := Try.checked) false ⟨#[], #[.agg #[.int .i64 0, .int .i64 0, .string ⟨#[]⟩, .slice none 0 0, .slice none 0 0, .slice none 0 0], .agg #[.int .i64 0, .int .i64 0, .string ⟨#[]⟩, .slice none 0 0, .slice none 0 0, .slice none 0 0]], []⟩ 8 (by kernel_rfl) (by kernel_rfl) (by kernel_rfl) (by kernel_rfl)) ?_
  intro W base args ds gs before hval0 hW hcnd hsz _
  have hval : ∀ (j : Nat) t v, Try.f9.params[j]? = some t → args[j]? = some v → Value.okWide Try.prog W .any base t v := hval0
  have hW' := hW
  obtain ⟨p, q, hA0, hV, rfl, hfz, hnd⟩ := hW
  have hA : DataW.TrodAll enc Try.prog W 0 (fun _ => true) true Try.f9.params.toList args.toList ds p := hA0
  rw [Try.params9] at hA hval
  obtain ⟨v0, v1, d0, d1, p0, p1, rfl, rfl, rfl, h0, h1⟩ := trodAll_two hA
  obtain ⟨rfl, rfl⟩ := trodVars_none hV
  have hval0 := hval 0 26 v0 rfl rfl
  have hval1 := hval 1 26 v1 rfl rfl
  obtain ⟨fuel0, s, hs, hsl⟩ := term_arg hval0 h0 (weights_at (j := 0) (t := 26) (d := d0) hsz rfl rfl)
  obtain ⟨fuel, t, ht, htl⟩ := term_arg hval1 h1 (weights_at (j := 1) (t := 26) (d := d1) hsz rfl rfl)
  refine (back_any hs (slim_deep fuel0 hsl) ht (slim_deep fuel htl) (fun _ h => h) fun _ h => h).mono fun e W' ⟨he, hk⟩ => ?_
  exact ⟨_, he, law_post (tb := 4) Try.laidOut (by kernel_rfl) rfl (by kernel_rfl) Try.underlying4 hW' hk fun _ => ⟨rfl, rfl, rfl⟩⟩

theorem wordBack_holds : Rows.WordBackSaid :=
  OpenClaim.holds_of_wide 9 Try.f9 rfl rfl rfl rfl rfl rfl rfl ⟨rfl, rfl, rfl, rfl, rfl⟩ rfl rfl rfl rfl rfl (by kernel_rfl) Try.func9 (by kernel_rfl)
    (of_decide_eq_true (by kernel_rfl)) (by unfold Func.isWrapper; first | (rw [if_pos (by decide +kernel)]; kernel_rfl) | (rw [if_neg (by decide +kernel)]; exact ⟨rfl, rfl⟩))
    (fun os started H enc _ => back_lifted os started H enc)
end Go.Proofs.Ytnmhodejffpblaa

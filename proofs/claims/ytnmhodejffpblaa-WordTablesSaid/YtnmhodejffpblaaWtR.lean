/-
  Proved here: the law WordTables answers true for every input, and leaves its argument as it was; no condition.
-/
import Derived.Test.YtnmhodejffpblaaNm
import Derived.Test.YtnmhodejffpblaaWu
namespace Go.Proofs.Ytnmhodejffpblaa
open Go.ChangeShapes Go.WideShapes Go.ChangeAt Go.RowKit Go.Tx

set_option maxRecDepth 100000 in
theorem tables_lifted (os : Os) (started : os.Started) (H : Type) (enc : TypeId × Value → H) :
    ReturnsInHanded {} Try.checked os 7 .any (Rows.wordTablesSpec.pre6 enc Try.prog Try.f7 Rows.wordTablesRow.domain false) (Rows.wordTablesSpec.post enc Try.prog Try.f7 false true false false) := by
  refine returnsInHanded_of_change (C := Try.checked) Try.own started (by kernel_rfl) Try.func7
    (ChangeSpec.witness6 (enc := enc) (C := Try.checked) false ⟨#[], #[.slice none 0 0], []⟩ 8 (by kernel_rfl) (by kernel_rfl) (by kernel_rfl) (by kernel_rfl)) ?_
  intro W base args ds gs before hval0 hW hcnd _
  have hval : ∀ (j : Nat) t v, Try.f7.params[j]? = some t → args[j]? = some v → Value.okWide Try.prog W .any base t v := hval0
  have hlt := hW.lt
  have hW' := hW
  obtain ⟨p, q, hA0, hV, rfl, hfz, hnd⟩ := hW
  have hA : DataW.TrodAll enc Try.prog W 0 (fun _ => true) true Try.f7.params.toList args.toList ds p := hA0
  rw [Try.params7] at hA hval
  obtain ⟨v0, d0, rfl, rfl, h0⟩ := trodAll_one hA
  obtain ⟨rfl, rfl⟩ := trodVars_none hV
  obtain ⟨a0, len0, cap0, rfl⟩ := okWide_slice Try.underlying22 (hval 0 22 v0 rfl rfl)
  obtain ⟨names, hs⟩ := names_open Try.underlying22 Try.underlying9 Try.cellsString rfl h0
  have hc : len0 ≤ cap0 := by
    obtain ⟨fuel, hf⟩ := h0
    rcases Go.Deep.open_slice1 Try.underlying22 Try.cellsString hf with ⟨hcs, _⟩ | ⟨_, _, _, _, _, _, _, _, hcs, _, hl, _⟩
    · simp [Value.cells] at hcs
      omega
    · simp [Value.cells] at hcs
      omega
  obtain rfl : len0 = names.length := by
    obtain ⟨_, _, _, e, _⟩ := hs
    cases e
    rfl
  refine (tables_any hs hc).mono fun e W' ⟨he, hk⟩ => ?_
  exact ⟨_, he, law_post (tb := 4) Try.laidOut (by kernel_rfl) rfl (by kernel_rfl) Try.underlying4 hW' hk fun _ => ⟨rfl, rfl, rfl⟩⟩

theorem wordTables_holds : Rows.WordTablesSaid :=
  OpenClaim.holds_of_wide 7 Try.f7 rfl rfl rfl rfl rfl rfl rfl ⟨rfl, rfl, rfl, rfl, rfl⟩ rfl rfl rfl rfl rfl (by kernel_rfl) Try.func7 (by kernel_rfl)
    (of_decide_eq_true (by kernel_rfl)) (by unfold Func.isWrapper; first | (rw [if_pos (by decide +kernel)]; kernel_rfl) | (rw [if_neg (by decide +kernel)]; exact ⟨rfl, rfl⟩))
    (fun os started H enc _ => tables_lifted os started H enc)
end Go.Proofs.Ytnmhodejffpblaa

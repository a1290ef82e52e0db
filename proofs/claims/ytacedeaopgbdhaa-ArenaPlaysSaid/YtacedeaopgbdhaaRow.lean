/-
  The rows of laws: a call that answers true and leaves every block that was there as it was does what its row says.
-/
import Derived.Test.YtacedeaopgbdhaaRows
import Derived.Test.YtacedeaopgbdhaaMem
import Derived.ProofKit
namespace Go.Tx
open Go Go.RowKit Go.ChangeShapes Go.WideShapes Go.ChangeAt
section
variable {H : Type} {enc : TypeId × Value → H} {P : Program} {W W' : World}

theorem below_trodAll (hl : laidOutB P = true) (hb : Below W.heap.size W W') : ∀ {ts : List TypeId} {vs : List Value} {ds : List (DataW H)} {ps : List MemPlace},
    ts.all (fun t => P.readableRec t && decide (t < P.types.size)) = true → (∀ x ∈ ps, x.block < W.heap.size) → DataW.TrodAll enc P W 0 (fun _ => true) true ts vs ds ps → DataW.TrodAll enc P W' 0 (fun b => decide (b < W.heap.size)) true ts vs ds ps
  | [], [], [], _, _, _, h => h
  | t :: ts, v :: vs, d :: ds, ps, hr, hp, h => by
    obtain ⟨p, q, h1, h2, rfl⟩ := h
    simp only [List.all_cons, Bool.and_eq_true, decide_eq_true_eq] at hr
    exact ⟨p, q, Below.trod hl hr.1.1 hr.1.2 h1 hb fun x hx => hp x (List.mem_append_left _ hx), below_trodAll hl hb hr.2 (fun x hx => hp x (List.mem_append_right _ hx)) h2, rfl⟩
  | [], _ :: _, _, _, _, _, h => h.elim
  | [], [], _ :: _, _, _, _, h => h.elim
  | _ :: _, [], _, _, _, _, h => h.elim
  | _ :: _, _ :: _, [], _, _, _, h => h.elim

/-- a law's row, behind a call that answers true and turns nothing that was there -/
theorem law_post {f : Func} {s : ChangeSpec} {apart handsOn : Bool} {args : Array Value} {ds gs : List (DataW H)} {before : List MemPlace} {tb : TypeId} (hl : laidOutB P = true)
    (hr : f.params.toList.all (fun t => P.readableRec t && decide (t < P.types.size)) = true) (hv : s.vars = []) (hrt : f.resultTypes = #[tb]) (hb : P.underlying tb = some .bool)
    (hW : DataW.Whole enc P f.params.toList s.vars apart W args.toList ds gs before) (hk : Keeps (fun _ => False) W W')
    (hargs : ds.length = f.params.size → (s.fn H (ds ++ gs)).args = ds ∧ (s.fn H (ds ++ gs)).results = [.lit (.bool true)] ∧ (s.fn H (ds ++ gs)).vars = []) :
    s.post enc P f apart true handsOn false W args (.bool true) W' := by
  have hbl : Below W.heap.size W W' := hk.below (Nat.le_refl _) fun _ _ h => h.elim
  have hlt := hW.lt
  have hW' := hW
  obtain ⟨p, q, hA, hV, rfl, _, _⟩ := hW
  rw [hv] at hV
  obtain ⟨rfl, rfl⟩ := trodVars_none hV
  have hlen : ds.length = f.params.size := by
    have : ∀ {ts : List TypeId} {vs : List Value} {ds : List (DataW H)} {ps : List MemPlace}, DataW.TrodAll enc P W 0 (fun _ => true) true ts vs ds ps → ds.length = ts.length := by
      intro ts
      induction ts with
      | nil => intro vs ds ps h; cases vs <;> cases ds <;> first | rfl | exact h.elim
      | cons t ts ih => intro vs ds ps h; cases vs <;> cases ds <;> first | exact h.elim | (obtain ⟨_, _, _, h2, _⟩ := h; simp [ih h2])
    simpa using this hA
  obtain ⟨e1, e2, e3⟩ := hargs hlen
  have hres : DataW.TrodAll enc P W' W.heap.size (fun _ => false) handsOn f.resultTypes.toList ((Value.bool true).resultList f.resultTypes.size) [.lit (.bool true)] [] := by
    rw [hrt]
    refine ⟨[], [], ?_, rfl, rfl⟩
    exact ⟨1, by simp [DataW.trod, hb, Value.cells]⟩
  refine ⟨ds, [], p ++ [], [], p, [], hW', ?_, ?_, ?_, ?_, fun h => by cases h⟩
  · rw [e2]; exact hres
  · rw [e1]
    exact below_trodAll hl hbl hr (fun x hx => hlt x (List.mem_append_left _ hx)) hA
  · rw [e3, hv]; rfl
  · refine ⟨hbl.os, hbl.output, fun i hi => ?_⟩
    rw [hbl.block i hi]
    cases hc : W.heap[i]? with
    | none => simp
    | some o => cases o <;> simp
end
end Go.Tx

import Derived.Test.YtgmieehheoknbaaDoorGb
import Derived.Test.YtgmieehheoknbaaDoorGcr
import Derived.Test.YtgmieehheoknbaaDoorGc
import Derived.Test.YtgmieehheoknbaaDoorGtw
import Derived.Deep.DeepHandedRow
/-
  Proved here: the law CodeRound answers true for every input of bulk at most 1048576, its variable's cell as the text lays it; no other condition.
-/
namespace Go.Proofs.YtgmieehheoknbaaDoor
open Go.ChangeShapes Go.WideShapes Go.ChangeAt Go.RowKit Go.Tx

set_option maxRecDepth 100000 in
theorem codeRound_contract (H : Type) (enc : TypeId × Value → H) (W : World) (base : Nat) (args : Array Value) (ds gs : List (DataW H)) (before : List MemPlace)
    (hval0 : ∀ (j : Nat) t v, Tryd.f3.params[j]? = some t → args[j]? = some v → Value.okWide Tryd.prog W .any base t v)
    (hW : DataW.Whole enc Tryd.prog Tryd.f3.params.toList Rows.codeRoundSpec.vars false W args.toList ds gs before) (hk0 : Rows.uptoSmall H (ds ++ gs) = true)
    (hsz : (DataW.weightsEach Tryd.prog (Tryd.f3.params.toList ++ []) (ds ++ gs)).all (· ≤ reachBytes) = true) (hL : laidMetH Tryd.prog [("errors.errorType", Rows.laid_errors_errorType)] W) :
    Calls Tryd.prog 3 args W fun e W' => ∃ v, e = .returned v ∧ Rows.codeRoundSpec.post enc Tryd.prog Tryd.f3 false true false false W args v W' := by
  have hval : ∀ (j : Nat) t v, Tryd.f3.params[j]? = some t → args[j]? = some v → Value.okWide Tryd.prog W .any base t v := hval0
  have hW' := hW
  obtain ⟨p, q, hA0, hV, rfl, hfz, hnd⟩ := hW
  have hA : DataW.TrodAll enc Tryd.prog W 0 (fun _ => true) true Tryd.f3.params.toList args.toList ds p := hA0
  rw [Tryd.params3] at hA hval
  obtain ⟨v0, v1, d0, d1, p0, p1, rfl, rfl, rfl, h0, h1⟩ := trodAll_two hA
  obtain ⟨rfl, rfl⟩ := trodVars_none hV
  have hval1 := hval 0 25 v0 rfl rfl
  have hbulk : Rows.uptoBulk d0 + Rows.uptoBulk d1 ≤ 1048576 := by
    have h := of_decide_eq_true hk0
    simp only [List.append_nil, Rows.uptoBulkAll] at h
    omega
  obtain ⟨fuel, m, hm, hs⟩ := module_arg hval1 h0 (weights_at (j := 0) (t := 25) (d := d0) hsz rfl rfl) (by omega)
  have hl := tmsSize_len m.lits
  obtain ⟨s1, hb1, hz1⟩ := bytes_arg3 (hval 1 26 v1 rfl rfl) h1 (weights_at (j := 1) (t := 26) (d := d1) hsz rfl rfl)
  refine (round_any m hm (by omega) (fun x hx => slim_of_size (by have := tmsSize_mem hx; omega) fuel) (fun _ h => h) (encM_small hm hs) hb1 (by omega) (errorType_of_laid rfl hL)).mono fun e W' ⟨he, hk⟩ => ?_
  exact ⟨_, he, law_post (tb := 4) Tryd.laidOut (by kernel_rfl) rfl (by kernel_rfl) Tryd.underlying4 hW' hk fun _ => ⟨rfl, rfl, rfl⟩⟩

theorem codeRound_reads (os : Os) {H : Type} (enc : TypeId × Value → H) : ∃ places, DataW.whole enc Tryd.prog ((laidWorld os).forCall (fun _ _ => 0) ⟨#[], #[.agg #[.string ⟨#[]⟩, .slice none 0 0, .slice none 0 0], .slice none 0 0], []⟩).memory Tryd.f3.params.toList Rows.codeRoundSpec.vars false (#[.agg #[.string ⟨#[]⟩, .slice none 0 0, .slice none 0 0], .slice none 0 0] : Array Value).toList 8 = some ([.agg [.lit (.string []), .nil, .nil], .nil], [], places) :=
  ⟨[], by kernel_rfl⟩
set_option maxRecDepth 100000 in
theorem codeRound_lifted (os : Os) (started : os.Started) (H : Type) (enc : TypeId × Value → H) (F : Stop.Interp) :
    ReturnsInHanded {} Tryd.checked os 3 .any ((Rows.OpenSpec.upto Rows.codeRoundSpec).preRow enc Tryd.prog Tryd.f3 Rows.codeRoundUptoRow.domain false Rows.codeRoundUptoRow.laid) (((Rows.OpenSpec.upto Rows.codeRoundSpec).at F).post enc Tryd.prog Tryd.f3 false true false false) := by
  obtain ⟨places, hx⟩ := codeRound_reads os enc
  refine returnsInHanded_of_row (C := Tryd.checked) (s := Rows.OpenSpec.upto Rows.codeRoundSpec) Tryd.own started (by kernel_rfl) Tryd.func3
    (witness_row_at (enc := enc) (C := Tryd.checked) false (laidWorld os) #[.agg #[.string ⟨#[]⟩, .slice none 0 0, .slice none 0 0], .slice none 0 0] rfl (by kernel_rfl) (by kernel_rfl) (by kernel_rfl)
      (OpenSpec.preRow_of_cond 8 hx (by kernel_rfl) (fun k hk => by cases hk; kernel_rfl) (by kernel_rfl) (laidWorld_met os _))) ?_
  intro W base args ds gs before hval hW _ hk hsz hL _ _
  exact codeRound_contract H enc W base args ds gs before hval hW (hk _ rfl) hsz hL

theorem codeRoundUpto_row : Rows.CodeRoundUptoSaid :=
  OpenClaim.holds_of_cond 3 Tryd.f3 rfl rfl rfl rfl rfl rfl rfl ⟨rfl, rfl, rfl, rfl, rfl⟩ rfl rfl rfl rfl rfl (by kernel_rfl) Tryd.func3 (by kernel_rfl)
    (of_decide_eq_true (by kernel_rfl)) (by unfold Func.isWrapper; first | (rw [if_pos (by decide +kernel)]; kernel_rfl) | (rw [if_neg (by decide +kernel)]; exact ⟨rfl, rfl⟩))
    (fun os started H enc _ F => by rw [OpenClaim.pre_eq_preRow]; exact codeRound_lifted os started H enc F)

theorem codeRoundUptoCard_holds : Rows.CodeRoundUptoCardSaid :=
  Claim7.holds_tied_plain_at .later [] [.handle] true Rows.codeRoundUptoCard.stood.harness true
    codeRoundUpto_row (fun _ h => by cases h) (by kernel_rfl) (fun _ h => by cases h) codeRoundUpto_row_tie rfl ⟨rfl, rfl⟩ (by kernel_rfl) rfl
    (fun f fn hf hfn => by
      obtain rfl : f = 3 := Option.some.inj ((show Tryd.prog.funcNamed "troupe/troupelaw09.CodeRound" = some 3 by kernel_rfl).symm.trans hf) |>.symm
      obtain rfl : fn = Tryd.f3 := (Option.some.inj (Tryd.func3.symm.trans hfn)).symm
      exact ⟨by kernel_rfl, fun j t ht => by
        rw [Tryd.params3] at ht
        have h3 : t = 25 ∨ t = 3 ∨ t = 26 := by
          rcases j with _ | _ | j
          · exact .inl (by simpa using ht.symm)
          · exact .inr (.inr (by simpa using ht.symm))
          · simp at ht
        rcases h3 with rfl | rfl | rfl
        · exact (show Tryd.prog.wantsStandIn 25 = false by kernel_rfl)
        · exact (show Tryd.prog.wantsStandIn 3 = false by kernel_rfl)
        · exact (show Tryd.prog.wantsStandIn 26 = false by kernel_rfl)⟩)
    (by kernel_rfl)
end Go.Proofs.YtgmieehheoknbaaDoor

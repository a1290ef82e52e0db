/-
  Whether two errors are alike: what troupelaw00.Err does.
-/
import Derived.Test.YtnmhodejffpblaaLe
namespace Go.Proofs.Ytnmhodejffpblaa
open Go.RowKit Go.Tx

set_option maxHeartbeats 400000 in
theorem err_any {w : World} {E E' : Nat → Prop} {v u : Value} {o o' : ErrO} (h : IsErrO w E v o) (h' : IsErrO w E' u o') :
    Calls Try.prog 22 #[v, u] w fun e w' => e = .returned (.bool (fineO o && fineO o' && decide (o = o'))) ∧ Keeps (fun _ => False) w w' := by
  have HV := Lib.hid (links_o h)
  have HU := Lib.hid h'
  have hd : decide (linksO o = linksO o') = decide (o = o') := by rw [decide_eq_decide]; exact linksO_inj
  have HD := Lib.hid hd
  clear h h' hd
  generalize hf : fineO o = f at *
  generalize hf' : fineO o' = f' at *
  have HF := Lib.hid hf
  have HF' := Lib.hid hf'
  clear hf hf'
  go_enter Try.func22, Try.ntmps22
  go_wp2_with (go_at_call 40; refine Stop.out ?_)
  refine ⟨HV.out.mono ?_⟩
  rintro e w1 ⟨lv, rfl, hr1, hk1⟩
  rw [HF.out]
  have HR1 := Lib.hid hr1
  have HK1 := Lib.hid hk1
  clear hr1 hk1
  go_wp2_with (go_at_call 40; refine Stop.out ?_)
  refine ⟨(links_o (HU.out.keeps HK1.out (fun _ _ h => h))).mono ?_⟩
  rintro e w2 ⟨lv2, rfl, hr2, hk2⟩
  rw [HF'.out]
  have HR2 := Lib.hid hr2
  have HK2 := Lib.hid hk2
  clear hr2 hk2
  cases f
  · go_wp2
    go_ret
    exact ⟨rfl, HK1.out.trans HK2.out fun _ _ h => h⟩
  · cases f'
    · go_wp2
      go_ret
      exact ⟨rfl, HK1.out.trans HK2.out fun _ _ h => h⟩
    · go_wp2_with (go_at_call 41; refine (same_any (HR1.out.keeps HK2.out (fun _ _ h => h)) HR2.out rfl rfl).mono ?_; rintro e w3 ⟨rfl, hk3⟩; rw [HD.out]; have HK3 := Lib.hid hk3; clear hk3)
      go_ret
      exact ⟨by simp, (HK1.out.trans HK2.out fun _ _ h => h).trans HK3.out fun _ _ h => h⟩
end Go.Proofs.Ytnmhodejffpblaa

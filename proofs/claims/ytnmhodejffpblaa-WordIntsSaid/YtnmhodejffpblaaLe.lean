/-
  Whether two errors, or none, are alike: what the Go code does.
-/
import Derived.Test.YtnmhodejffpblaaLs
namespace Go.Tx
open Go Go.RowKit
abbrev ErrO := Option (List (ByteArray × Int) × Int)
/-- an error, or none -/
def IsErrO (w : World) (E : Nat → Prop) (v : Value) : ErrO → Prop
  | none => v = .nilIface
  | some (l, k) => IsErr w E v l k ∧ l.length ≤ 9000
def linksO : ErrO → List (ByteArray × Int × Int)
  | none => []
  | some (l, k) => linksOf l k
def fineO : ErrO → Bool
  | none => true
  | some (_, k) => k != 0
theorem linksO_inj {o o' : ErrO} : linksO o = linksO o' ↔ o = o' := by
  cases o with
  | none =>
    cases o' with
    | none => simp
    | some t => obtain ⟨l, k⟩ := t; simp [linksO, linksOf]
  | some t =>
    obtain ⟨l, k⟩ := t
    cases o' with
    | none => simp [linksO, linksOf]
    | some t' => obtain ⟨l', k'⟩ := t'; simp [linksO, linksOf_inj]
theorem IsErrO.keeps {w w' : World} {E T : Nat → Prop} {v : Value} {o : ErrO} (h : IsErrO w E v o) (hk : Keeps T w w') (hs : ∀ g, E g → ¬ T g) : IsErrO w' E v o := by
  cases o with
  | none => exact h
  | some t => exact ⟨h.1.keeps hk hs, h.2⟩
def LinksOPost (w : World) (o : ErrO) (e : Ending) (w' : World) : Prop :=
  ∃ lv, e = .returned (.tuple #[lv, .bool (fineO o)]) ∧ Row w' 127 3 lv (linksO o).length (lcells (linksO o)) ∧ Keeps (fun _ => False) w w'
end Go.Tx
namespace Go.Proofs.Ytnmhodejffpblaa
open Go.RowKit Go.Tx
theorem links_o {w : World} {E : Nat → Prop} {v : Value} {o : ErrO} (h : IsErrO w E v o) : Calls Try.prog 40 #[v] w (LinksOPost w o) := by
  cases o with
  | none =>
    obtain rfl : v = .nilIface := h
    exact (links_nil w).mono fun e w' ⟨he, hw⟩ => ⟨_, he, World.ownsRow_nil _ _ _ _, hw ▸ Keeps.refl _ _⟩
  | some t =>
    obtain ⟨l, k⟩ := t
    refine (links_any h.1 h.2).mono fun e w' ⟨lv, he, hr, hk⟩ => ⟨lv, he, ?_, hk⟩
    rw [lcells_of] at hr
    simp only [linksO, linksOf_length]
    exact hr

set_option maxHeartbeats 400000 in
theorem err_any {w : World} {E E' : Nat → Prop} {v u : Value} {o o' : ErrO} (h : IsErrO w E v o) (h' : IsErrO w E' u o') :
    Calls Try.prog 22 #[v, u] w fun e w' => e = .returned (.bool (fineO o && fineO o' && decide (o = o'))) ∧ Keeps (fun _ => False) w w' := by
  have HV := Lib.hid (links_o h)
  have HU := Lib.hid h'
  have hd : decide (linksO o = linksO o') = decide (o = o') := by rw [decide_eq_decide]; exact linksO_inj
  have HD := Lib.hid hd
  clear h h' hd
  generalize hf : fineO o = f at *
  generalize hf' : fineO o' = f' at *
  have HF := Lib.hid hf
  have HF' := Lib.hid hf'
  clear hf hf'
  go_enter Try.func22, Try.ntmps22
  go_wp2_with (go_at_call 40; refine Stop.out ?_)
  refine ⟨HV.out.mono ?_⟩
  rintro e w1 ⟨lv, rfl, hr1, hk1⟩
  rw [HF.out]
  have HR1 := Lib.hid hr1
  have HK1 := Lib.hid hk1
  clear hr1 hk1
  go_wp2_with (go_at_call 40; refine Stop.out ?_)
  refine ⟨(links_o (HU.out.keeps HK1.out (fun _ _ h => h))).mono ?_⟩
  rintro e w2 ⟨lv2, rfl, hr2, hk2⟩
  rw [HF'.out]
  have HR2 := Lib.hid hr2
  have HK2 := Lib.hid hk2
  clear hr2 hk2
  cases f
  · go_wp2
    go_ret
    exact ⟨rfl, HK1.out.trans HK2.out fun _ _ h => h⟩
  · cases f'
    · go_wp2
      go_ret
      exact ⟨rfl, HK1.out.trans HK2.out fun _ _ h => h⟩
    · go_wp2_with (go_at_call 41; refine (same_any (HR1.out.keeps HK2.out (fun _ _ h => h)) HR2.out rfl rfl).mono ?_; rintro e w3 ⟨rfl, hk3⟩; rw [HD.out]; have HK3 := Lib.hid hk3; clear hk3)
      go_ret
      exact ⟨by simp, (HK1.out.trans HK2.out fun _ _ h => h).trans HK3.out fun _ _ h => h⟩
end Go.Proofs.Ytnmhodejffpblaa

/-
  Whether two errors, or none, are alike: what the Go code does.
-/
import Derived.Test.YtacedeaopgbdhaaLs
namespace Go.Tx
open Go Go.RowKit
abbrev ErrO := Option (List (ByteArray × Int) × Int)
/-- an error, or none -/
def IsErrO (w : World) (E : Nat → Prop) (v : Value) : ErrO → Prop
  | none => v = .nilIface
  | some (l, k) => IsErr w E v l k ∧ l.length ≤ 9000
def linksO : ErrO → List (ByteArray × Int × Int)
  | none => []
  | some (l, k) => linksOf l k
def fineO : ErrO → Bool
  | none => true
  | some (_, k) => k != 0
theorem linksO_inj {o o' : ErrO} : linksO o = linksO o' ↔ o = o' := by
  cases o with
  | none =>
    cases o' with
    | none => simp
    | some t => obtain ⟨l, k⟩ := t; simp [linksO, linksOf]
  | some t =>
    obtain ⟨l, k⟩ := t
    cases o' with
    | none => simp [linksO, linksOf]
    | some t' => obtain ⟨l', k'⟩ := t'; simp [linksO, linksOf_inj]
theorem IsErrO.keeps {w w' : World} {E T : Nat → Prop} {v : Value} {o : ErrO} (h : IsErrO w E v o) (hk : Keeps T w w') (hs : ∀ g, E g → ¬ T g) : IsErrO w' E v o := by
  cases o with
  | none => exact h
  | some t => exact ⟨h.1.keeps hk hs, h.2⟩
def LinksOPost (w : World) (o : ErrO) (e : Ending) (w' : World) : Prop :=
  ∃ lv, e = .returned (.tuple #[lv, .bool (fineO o)]) ∧ Row w' 93 3 lv (linksO o).length (lcells (linksO o)) ∧ Keeps (fun _ => False) w w'
end Go.Tx
namespace Go.Proofs.Ytacedeaopgbdhaa
open Go.RowKit Go.Tx
theorem links_o {w : World} {E : Nat → Prop} {v : Value} {o : ErrO} (h : IsErrO w E v o) : Calls Try.prog 27 #[v] w (LinksOPost w o) := by
  cases o with
  | none =>
    obtain rfl : v = .nilIface := h
    exact (links_nil w).mono fun e w' ⟨he, hw⟩ => ⟨_, he, World.ownsRow_nil _ _ _ _, hw ▸ Keeps.refl _ _⟩
  | some t =>
    obtain ⟨l, k⟩ := t
    refine (links_any h.1 h.2).mono fun e w' ⟨lv, he, hr, hk⟩ => ⟨lv, he, ?_, hk⟩
    rw [lcells_of] at hr
    simp only [linksO, linksOf_length]
    exact hr
end Go.Proofs.Ytacedeaopgbdhaa

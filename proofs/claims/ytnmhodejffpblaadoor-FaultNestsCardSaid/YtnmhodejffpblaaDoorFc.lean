/-
  Faults: how bad each kind is.
-/
import Derived.Test.YtnmhodejffpblaaDoorFk
namespace Go.Tx
open Go Go.RowKit
/-- how bad a kind is -/
def classOf (e : Int) : Int := if e = 0 then 0 else if e = 3 then 1 else if e = 4 then 1 else if e = 5 then 1 else if e = 2 then 2 else 3
end Go.Tx
namespace Go.Proofs.YtnmhodejffpblaaDoor
open Go.RowKit Go.Tx
theorem class_any (e : Int) (w : World) : Calls Tryd.prog 6 #[.int .i64 e] w fun r w' => r = .returned (.int .i64 (classOf e)) ∧ w' = w := by
  unfold classOf
  by_cases h0 : e = 0
  · subst h0
    go_enter Tryd.func6, Tryd.ntmps6
    go_wp2
    go_ret
    exact ⟨rfl, rfl⟩
  by_cases h3 : e = 3
  · subst h3
    go_enter Tryd.func6, Tryd.ntmps6
    go_wp2
    go_ret
    exact ⟨rfl, rfl⟩
  by_cases h4 : e = 4
  · subst h4
    go_enter Tryd.func6, Tryd.ntmps6
    go_wp2
    go_ret
    exact ⟨rfl, rfl⟩
  by_cases h5 : e = 5
  · subst h5
    go_enter Tryd.func6, Tryd.ntmps6
    go_wp2
    go_ret
    exact ⟨rfl, rfl⟩
  by_cases h2 : e = 2
  · subst h2
    go_enter Tryd.func6, Tryd.ntmps6
    go_wp2
    go_ret
    exact ⟨rfl, rfl⟩
  rw [if_neg h0, if_neg h3, if_neg h4, if_neg h5, if_neg h2]
  have g0 : (e == 0) = false := by simpa using h0
  have g3 : (e == 3) = false := by simpa using h3
  have g4 : (e == 4) = false := by simpa using h4
  have g5 : (e == 5) = false := by simpa using h5
  have g2 : (e == 2) = false := by simpa using h2
  go_enter Tryd.func6, Tryd.ntmps6
  go_wp2
  go_ret
  exact ⟨rfl, rfl⟩
theorem rclass_any (e : Int) (w : World) : Calls Tryd.prog 7 #[.int .i64 e] w fun r w' => r = .returned (.int .i64 (classOf e)) ∧ w' = w := by
  unfold classOf
  by_cases h0 : e = 0
  · subst h0
    go_enter Tryd.func7, Tryd.ntmps7
    go_wp2
    go_ret
    exact ⟨rfl, rfl⟩
  by_cases h3 : e = 3
  · subst h3
    go_enter Tryd.func7, Tryd.ntmps7
    go_wp2
    go_ret
    exact ⟨rfl, rfl⟩
  by_cases h4 : e = 4
  · subst h4
    go_enter Tryd.func7, Tryd.ntmps7
    go_wp2
    go_ret
    exact ⟨rfl, rfl⟩
  by_cases h5 : e = 5
  · subst h5
    go_enter Tryd.func7, Tryd.ntmps7
    go_wp2
    go_ret
    exact ⟨rfl, rfl⟩
  by_cases h2 : e = 2
  · subst h2
    go_enter Tryd.func7, Tryd.ntmps7
    go_wp2
    go_ret
    exact ⟨rfl, rfl⟩
  rw [if_neg h0, if_neg h3, if_neg h4, if_neg h5, if_neg h2]
  have g0 : (e == 0) = false := by simpa using h0
  have g3 : (e == 3) = false := by simpa using h3
  have g4 : (e == 4) = false := by simpa using h4
  have g5 : (e == 5) = false := by simpa using h5
  have g2 : (e == 2) = false := by simpa using h2
  go_enter Tryd.func7, Tryd.ntmps7
  go_wp2
  go_ret
  exact ⟨rfl, rfl⟩
set_option maxHeartbeats 400000 in
theorem errno_full (w : World) : Calls Tryd.prog 45 #[.int .i64 2] w fun r w' => r = .returned (.string ⟨#[102, 117, 108, 108]⟩) ∧ Keeps (fun _ => False) w w' := by
  go_enter Tryd.func45, Tryd.ntmps45
  go_wp2
  go_ret
  exact ⟨rfl, (Keeps.refl _ w).alloc _⟩
end Go.Proofs.YtnmhodejffpblaaDoor

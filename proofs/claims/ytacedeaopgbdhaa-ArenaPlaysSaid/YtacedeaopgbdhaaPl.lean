/-
  A number as one from 0 to below n: what troupelaw00.Place does.
-/
import Derived.Test.YtacedeaopgbdhaaErr
import Derived.WalkSpells
import Derived.WalkLawsBesides
import Derived.Lib.Hide
namespace Go.Tx
open Go Go.RowKit
theorem place_at (v n : Int) (hn : 0 < n) : (if v.tmod n < 0 then v.tmod n + n else v.tmod n) = v % n := by
  have h1 := Int.tmod_eq_emod (a := v) (b := n)
  have h2 := Int.emod_nonneg v (Int.ne_of_gt hn)
  have h3 := Int.emod_lt_of_pos v hn
  rw [h1]
  split <;> split <;> omega
end Go.Tx
namespace Go.Proofs.Ytacedeaopgbdhaa
open Go.RowKit Go.Tx
set_option maxHeartbeats 400000 in
theorem place_any (v n : Int) (hn : 0 < n) (hn2 : n ≤ 9223372036854775807) (_ : -9223372036854775808 ≤ v) (_ : v ≤ 9223372036854775807) (w : World) :
    Calls Try.prog 9 #[.int .i64 v, .int .i64 n] w fun e w' => e = .returned (.int .i64 (v % n)) ∧ w = w' := by
  have hp := place_at v n hn
  have h3 := Int.emod_lt_of_pos v hn
  have h4 := Int.emod_nonneg v (Int.ne_of_gt hn)
  go_enter Try.func9, Try.ntmps9
  go_wp2
  · rw [if_pos (by omega)] at hp
    rw [hp]
    go_ret
    exact ⟨rfl, rfl⟩
  · rw [if_neg (by omega)] at hp
    rw [hp]
    go_ret
    exact ⟨rfl, rfl⟩
end Go.Proofs.Ytacedeaopgbdhaa

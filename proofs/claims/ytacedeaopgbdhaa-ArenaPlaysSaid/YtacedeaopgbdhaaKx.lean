/-
  The document's kinds of errors: K, as a call.
-/
import Derived.Test.YtacedeaopgbdhaaRf
namespace Go.Proofs.Ytacedeaopgbdhaa
open Go.RowKit Go.Tx
set_option maxHeartbeats 400000 in
theorem K_any (k : Int) (w : World) : Calls Try.prog 46 #[.int .i64 k] w fun e w' => e = .returned (.pointer (some ⟨w.heap.size, 0, none⟩)) ∧ w' = w.alloc (.cells #[.string ⟨#[]⟩, .int .i64 0, .pointer none, .int .i64 k] 114) := by
  go_enter Try.func46, Try.ntmps46
  go_wp2
  go_ret
  exact ⟨rfl, rfl⟩
end Go.Proofs.Ytacedeaopgbdhaa

/-
  Terms without parts: whether two are the same (troupelaw00.Same).
-/
import Derived.Test.YtnmhodejffpblaaSl
namespace Go.Proofs.Ytnmhodejffpblaa
open Go.RowKit Go.Tx
set_option maxHeartbeats 400000 in
theorem sameAll_none (w : World) (a b : Option Addr) (c d : Nat) : Calls Try.prog 48 #[.slice a 0 c, .slice b 0 d] w fun e w' => e = .returned (.bool true) ∧ w' = w := by
  go_enter Try.func48, Try.ntmps48
  go_wp2
  refine wp_loop_rounds 1 ?_
  rw [rounds_succ]
  go_wp2
  go_ret
  exact ⟨rfl, rfl⟩
set_option maxRecDepth 100000 in
set_option maxHeartbeats 400000 in
/-- terms without parts, of the same numbers and name, are the same -/
theorem same_leaf (w : World) (k n : Int) (s : ByteArray) (a1 a2 a3 b1 b2 b3 : Option Addr) (c1 c2 c3 d1 d2 d3 : Nat) :
    Calls Try.prog 31 #[.agg #[.int .i64 k, .int .i64 n, .string s, .slice a1 0 c1, .slice a2 0 c2, .slice a3 0 c3], .agg #[.int .i64 k, .int .i64 n, .string s, .slice b1 0 d1, .slice b2 0 d2, .slice b3 0 d3]] w fun e w' => e = .returned (.bool true) ∧ Keeps (fun _ => False) w w' := by
  have kc : ∀ (w : World) (a : Option Addr) (c : Nat), (convert 24 9 (.slice a 0 c)).run Try.prog w = .ok (.string ⟨#[]⟩) w := fun w a c => conv_none a c Try.underlying24 Try.underlying5 Try.underlying9
  go_enter Try.func31, Try.ntmps31
  go_wp2_with (first | (with_reducible refine wp_region_text (by kernel_rfl) (by kernel_rfl) ?_) | (with_reducible refine text_fin (by kernel_rfl) ?_) | (go_at_call 48; refine (sameAll_none _ _ _ _ _).mono ?_; rintro e w2 ⟨rfl, rfl⟩))
  go_ret
  exact ⟨rfl, ((Keeps.refl _ w).alloc _).alloc _⟩
end Go.Proofs.Ytnmhodejffpblaa

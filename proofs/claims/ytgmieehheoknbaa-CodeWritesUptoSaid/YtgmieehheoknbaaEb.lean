/-
  The document's errors with a fault around them (trouperef01.F); its operands (trouperef09.half).
-/
import Derived.Test.YtgmieehheoknbaaLr
import Derived.Test.YtgmieehheoknbaaMd
import Derived.Test.YtgmieehheoknbaaKx
namespace Go.Tx
open Go Go.RowKit
theorem IsX.wrapped {w0 w w1 : World} {c : Nat} {l : List (ByteArray × Int)} {k : Int} (op : ByteArray) (n : Int) (h : IsX w (Fresh w0 w) (.pointer (some ⟨c, 0, none⟩)) l k) (hk : Keeps (fun _ => False) w w1) (h0 : w0.heap.size ≤ w.heap.size) :
    IsX (w1.alloc (.cells #[.string op, .int .i64 n, .pointer (some ⟨c, 0, none⟩), .int .i64 0] 79)) (Fresh w0 (w1.alloc (.cells #[.string op, .int .i64 n, .pointer (some ⟨c, 0, none⟩), .int .i64 0] 79))) (.pointer (some ⟨w1.heap.size, 0, none⟩)) ((op, n) :: l) k := by
  have hs := hk.size
  refine ⟨w1.heap.size, c, rfl, Blk.new w1 _ _, ⟨by omega, by simp⟩, ((h.keeps hk fun _ _ h => h).keeps ((Keeps.refl (fun _ => False) w1).alloc _) fun _ _ h => h).mono fun g hg => ⟨hg.1, by have := hg.2; simp; omega⟩⟩
end Go.Tx
namespace Go.Proofs.Ytgmieehheoknbaa
open Go.RowKit Go.Tx
set_option maxHeartbeats 400000 in
theorem around_some (op : ByteArray) (n : Int) (p : Addr) (w : World) : Calls Try.prog 18 #[.string op, .int .i64 n, .pointer (some p)] w fun r w' => r = .returned (.pointer (some ⟨w.heap.size, 0, none⟩)) ∧ w' = w.alloc (.cells #[.string op, .int .i64 n, .pointer (some p), .int .i64 0] 79) := by
  go_enter Try.func18, Try.ntmps18
  go_wp2_with (first | (with_reducible refine wp_region_text (by kernel_rfl) (by kernel_rfl) ?_) | (with_reducible refine text_fin (by kernel_rfl) ?_))
  go_ret
  exact ⟨rfl, rfl⟩
set_option maxRecDepth 100000 in
set_option maxHeartbeats 400000 in
theorem half_any (w : World) (n : Int) : Calls Try.prog 19 #[.int .i64 n] w fun e w' => e = .returned (.bool (half n)) ∧ w' = w := by
  by_cases h1 : n < -549755813888
  · have e : half n = false := by unfold half; exact decide_eq_false (by omega)
    rw [e]
    go_enter Try.func19, Try.ntmps19
    go_wp2
    go_ret
    exact ⟨rfl, rfl⟩
  · have g1 : decide (-549755813888 ≤ n) = true := decide_eq_true (by omega)
    by_cases h2 : 549755813888 < n
    · have e : half n = false := by unfold half; exact decide_eq_false (by omega)
      have g2 : decide (n ≤ 549755813888) = false := decide_eq_false (by omega)
      rw [e]
      clear h1 h2
      go_enter Try.func19, Try.ntmps19
      go_wp2
      go_ret
      exact ⟨rfl, rfl⟩
    · have e : half n = true := by unfold half; exact decide_eq_true (by omega)
      have g2 : decide (n ≤ 549755813888) = true := decide_eq_true (by omega)
      rw [e]
      clear h1 h2
      go_enter Try.func19, Try.ntmps19
      go_wp2
      go_ret
      exact ⟨rfl, rfl⟩
end Go.Proofs.Ytgmieehheoknbaa

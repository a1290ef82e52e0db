/-
  Errors: with a fault around them; of terms that may not be.
-/
import Derived.Test.YtgmieehheoknbaaTt
namespace Go.Tx
open Go Go.RowKit
theorem right_few {t : Tm} {c : List (ByteArray × Int)} {k : Int} (h : rightTm t = some (c, k)) : c.length < 9000 := by
  unfold rightTm at h
  cases hc : chk t 1 (0, 0) with
  | ok x => rw [hc] at h; cases h
  | error st => rw [hc] at h; cases h; simp
theorem IsErr.wrapped {w0 w w1 : World} {v : Value} {c : List (ByteArray × Int)} {k : Int} (op : ByteArray) (n : Int) (h : IsErr w (Fresh w0 w) v c k) (hk : Keeps (fun _ => False) w w1) (h0 : w0.heap.size ≤ w.heap.size) :
    IsErr (w1.alloc (.cells #[.string op, .int .i64 n, v] 71)) (Fresh w0 (w1.alloc (.cells #[.string op, .int .i64 n, v] 71))) (.iface 69 (.pointer (some ⟨w1.heap.size, 0, none⟩))) ((op, n) :: c) k := by
  have hs := hk.size
  refine (isErr_new w1 op n v c k _ (h.keeps hk fun _ _ h => h)).mono fun g hg => ?_
  rcases hg with rfl | hg
  · exact ⟨by omega, by simp⟩
  · exact ⟨hg.1, by have := hg.2; simp; omega⟩
theorem IsErr.face {w : World} {E : Nat → Prop} {v : Value} {c : List (ByteArray × Int)} {k : Int} (h : IsErr w E v c k) : ∃ t u, v = .iface t u := by
  cases c with
  | nil => exact ⟨_, _, h⟩
  | cons p c => obtain ⟨b, u, h1, _⟩ := h; exact ⟨_, _, h1⟩
end Go.Tx

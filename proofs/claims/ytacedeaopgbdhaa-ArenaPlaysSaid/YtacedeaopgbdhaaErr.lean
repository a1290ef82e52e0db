/-
  Errors of the program: a chain of faults around a kind; making one.
-/
import Derived.Test.YtacedeaopgbdhaaRows
import Derived.Test.YtacedeaopgbdhaaBlk
import Derived.WalkSpells
import Derived.WalkLawsBesides
import Derived.Lib.Hide
namespace Go.Tx
open Go Go.RowKit

/-- an error of the program: what was done, at which number, around a kind; its blocks lie in E -/
def IsErr (w : World) (E : Nat → Prop) : Value → List (ByteArray × Int) → Int → Prop
  | v, [], k => v = .iface 34 (.int .i64 k)
  | v, (op, n) :: l, k => ∃ b u, v = .iface 33 (.pointer (some ⟨b, 0, none⟩)) ∧ Blk w b 36 [.string op, .int .i64 n, u] ∧ E b ∧ IsErr w E u l k

theorem IsErr.keeps {w w' : World} {E T : Nat → Prop} : ∀ {l : List (ByteArray × Int)} {v : Value} {k : Int}, IsErr w E v l k → Keeps T w w' → (∀ g, E g → ¬ T g) → IsErr w' E v l k
  | [], _, _, h, _, _ => h
  | _ :: _, _, _, ⟨b, u, h1, h2, h3, h4⟩, hk, hs => ⟨b, u, h1, h2.keeps hk (hs b h3), h3, IsErr.keeps h4 hk hs⟩
theorem IsErr.mono {w : World} {E T : Nat → Prop} (ht : ∀ g, E g → T g) : ∀ {l : List (ByteArray × Int)} {v : Value} {k : Int}, IsErr w E v l k → IsErr w T v l k
  | [], _, _, h => h
  | _ :: _, _, _, ⟨b, u, h1, h2, h3, h4⟩ => ⟨b, u, h1, h2, ht b h3, IsErr.mono ht h4⟩

section
variable {w : World}
theorem isErr_new (W : World) (op : ByteArray) (n : Int) (u : Value) (l : List (ByteArray × Int)) (k : Int) (E : Nat → Prop) (hu : IsErr W E u l k) :
    IsErr (W.alloc (.cells #[.string op, .int .i64 n, u] 36)) (fun g => g = W.heap.size ∨ E g) (.iface 33 (.pointer (some ⟨W.heap.size, 0, none⟩))) ((op, n) :: l) k :=
  ⟨W.heap.size, u, rfl, Blk.new W _ _, .inl rfl, (hu.keeps (Keeps.alloc (Keeps.refl (fun _ => False) W) _) fun _ _ h => h).mono fun _ h => .inr h⟩

/-- a call that ends in an error: nothing that was there has turned -/
def ErrPost (f : Value → Value) (l : List (ByteArray × Int)) (k : Int) (I : World → Prop) (w : World) (e : Ending) (w' : World) : Prop :=
  ∃ E, e = .returned (f E) ∧ IsErr w' (Fresh w w') E l k ∧ I w' ∧ Keeps (fun _ => False) w w'
theorem errPost_one {f : Value → Value} {op : ByteArray} {n k : Int} {I : World → Prop} {w1 : World} {g : Nat} (hg : g = w1.heap.size) (hI : I w1) (hk : Keeps (fun _ => False) w w1) (hi : ∀ w2, I w1 → Keeps (fun _ => False) w1 w2 → I w2) :
    ErrPost f [(op, n)] k I w (.returned (f (.iface 33 (.pointer (some ⟨g, 0, none⟩))))) (w1.alloc (.cells #[.string op, .int .i64 n, .iface 34 (.int .i64 k)] 36)) := by
  subst hg
  refine ⟨_, rfl, (isErr_new w1 op n (.iface 34 (.int .i64 k)) [] k (fun _ => False) rfl).mono (fun g hg => ?_), hi _ hI ((Keeps.refl _ _).alloc _), hk.alloc _⟩
  rcases hg with rfl | hg
  · exact ⟨hk.size, by simp⟩
  · exact hg.elim
theorem errPost_two {f : Value → Value} {op op2 : ByteArray} {n n2 k : Int} {I : World → Prop} {w1 : World} {g1 g2 : Nat} (hg1 : g1 = w1.heap.size) (hg2 : g2 = w1.heap.size + 1) (hI : I w1) (hk : Keeps (fun _ => False) w w1) (hi : ∀ w2, I w1 → Keeps (fun _ => False) w1 w2 → I w2) :
    ErrPost f [(op, n), (op2, n2)] k I w (.returned (f (.iface 33 (.pointer (some ⟨g2, 0, none⟩)))))
      ((w1.alloc (.cells #[.string op2, .int .i64 n2, .iface 34 (.int .i64 k)] 36)).alloc (.cells #[.string op, .int .i64 n, .iface 33 (.pointer (some ⟨g1, 0, none⟩))] 36)) := by
  subst hg1 hg2
  have h1 := isErr_new w1 op2 n2 (.iface 34 (.int .i64 k)) [] k (fun _ => False) rfl
  have h2 := isErr_new _ op n _ _ k _ h1
  rw [World.size_alloc] at h2
  refine ⟨_, rfl, h2.mono (fun g hg => ?_), hi _ hI (((Keeps.refl _ _).alloc _).alloc _), (hk.alloc _).alloc _⟩
  have := hk.size
  rcases hg with rfl | rfl | hg
  · exact ⟨by omega, by simp⟩
  · exact ⟨this, by simp; omega⟩
  · exact hg.elim
end
end Go.Tx

namespace Go.Proofs.Ytacedeaopgbdhaa
open Go.RowKit Go.Tx

set_option maxHeartbeats 400000 in
theorem at_any (op : ByteArray) (n : Int) (t : TypeId) (v : Value) (w : World) :
    Calls Try.prog 24 #[.string op, .int .i64 n, .iface t v] w fun e w' => e = .returned (.iface 33 (.pointer (some ⟨w.heap.size, 0, none⟩))) ∧ w' = w.alloc (.cells #[.string op, .int .i64 n, .iface t v] 36 (0, 0)) := by
  go_enter Try.func24, Try.ntmps24
  go_wp2
  go_ret
  exact ⟨rfl, rfl⟩
set_option maxHeartbeats 400000 in
theorem at_nil (op : ByteArray) (n : Int) (w : World) :
    Calls Try.prog 24 #[.string op, .int .i64 n, .nilIface] w fun e w' => e = .returned .nilIface ∧ w' = w := by
  go_enter Try.func24, Try.ntmps24
  go_wp2
  go_ret
  exact ⟨rfl, rfl⟩
end Go.Proofs.Ytacedeaopgbdhaa

/-
  An arena and rows of names: what the loops of the arena's laws hold.
-/
import Derived.Test.YtacedeaopgbdhaaArBl
namespace Go.Tx
open Go Go.RowKit
structure ArW (w : World) (b : Nat) (A : AM) (S : Nat → Prop) (wr : World) : Prop where
  net : IsArena wr b A S
  new : ∀ x, S x → w.heap.size ≤ x
  keep : Keeps (fun _ => False) w wr
/-- a row of names that the law has made; its block lies apart from S -/
structure NamesAt (w : World) (S : Nat → Prop) (lv : Value) (L : List Nat) (wr : World) : Prop where
  row : Row wr 3 1 lv L.length (ints L)
  own : ∀ g, lv.ownBlock = some g → w.heap.size ≤ g ∧ ¬ S g
section
variable {w wr w' w0 w4 : World} {b : Nat} {A B : AM} {S : Nat → Prop} {lv fv v' : Value} {L F : List Nat} {p : Nat}
theorem ArW.read (h : ArW w b A S wr) (k : Keeps (fun _ => False) wr w') : ArW w b A S w' := ⟨h.net.keeps k fun _ _ h => h, h.new, h.keep.trans k fun _ _ h => h⟩
theorem NamesAt.read (h : NamesAt w S lv L wr) (k : Keeps (fun _ => False) wr w') : NamesAt w S lv L w' := ⟨h.row.keeps k fun _ _ h => h, h.own⟩
theorem ArW.step (h : ArW w b A S wr) (ha : IsArena w' b B (Ext S wr w')) (k : Keeps S wr w') : ArW w b B (Ext S wr w') w' :=
  ⟨ha, fun x hx => by
    rcases hx with hx | hx
    · exact h.new x hx
    · exact Nat.le_trans h.keep.size hx.1, h.keep.trans k fun x hx hs => by have := h.new x hs; omega⟩
theorem NamesAt.step (h : NamesAt w S lv L wr) (k : Keeps S wr w') : NamesAt w (Ext S wr w') lv L w' :=
  ⟨h.row.keeps k fun g hg => (h.own g hg).2, fun g hg => ⟨(h.own g hg).1, fun hs => hs.elim (h.own g hg).2 fun hf => by have := h.row.lt hg; have := hf.1; omega⟩⟩
theorem names_nil : NamesAt w S (.slice none 0 0) [] wr := ⟨World.ownsRow_nil _ _ _ _, fun g hg => by simp [Value.ownBlock] at hg⟩
theorem ints_nth {i : Nat} {x : Nat} (h : L[i]? = some x) : (ints L)[i]? = some (.int .i64 (x : Nat)) := by simp [ints, h]
theorem ints_snoc : ints L ++ [.int .i64 (p : Nat)] = ints (L ++ [p]) := by simp [ints]
theorem named (h : ArW w b A S wr) (hn : NamesAt w S lv L wr) (k0 : Keeps (fun _ => False) wr w0) (ha : Appended w0 w4 3 1 lv v' (L.length + 1) (ints L ++ [.int .i64 (p : Nat)])) :
    ArW w b A S w4 ∧ NamesAt w S v' (L ++ [p]) w4 := by
  have h0 := h.read k0
  refine ⟨⟨h0.net.keeps ha.keeps fun g hs ho => (hn.own g ho).2 hs, h.new, h0.keep.trans ha.keeps fun x hx ho => by have := (hn.own x ho).1; omega⟩, ?_, fun g hg => ?_⟩
  · have := ha.row
    rw [ints_snoc] at this
    simpa using this
  · rcases ha.own with ho | ⟨ho, _⟩
    · rw [ho] at hg; exact hn.own g hg
    · rw [ho] at hg
      simp at hg
      subst hg
      exact ⟨h0.keep.size, fun hs => by have := h.net.lt _ hs; have := k0.size; omega⟩
/-- .. while another row stands by -/
theorem named2 (h : ArW w b A S wr) (hl : NamesAt w S lv L wr) (hn : NamesAt w (fun x => S x ∨ Own lv x) fv F wr) (k0 : Keeps (fun _ => False) wr w0) (ha : Appended w0 w4 3 1 fv v' (F.length + 1) (ints F ++ [.int .i64 (p : Nat)])) :
    ArW w b A S w4 ∧ NamesAt w S lv L w4 ∧ NamesAt w (fun x => S x ∨ Own lv x) v' (F ++ [p]) w4 := by
  have h0 := h.read k0
  refine ⟨⟨h0.net.keeps ha.keeps fun g hs ho => (hn.own g ho).2 (.inl hs), h.new, h0.keep.trans ha.keeps fun x hx ho => by have := (hn.own x ho).1; omega⟩, ⟨(hl.read k0).row.keeps ha.keeps fun g hg ho => (hn.own g ho).2 (.inr hg), hl.own⟩, ?_, fun g hg => ?_⟩
  · have := ha.row
    rw [ints_snoc] at this
    simpa using this
  · rcases ha.own with ho | ⟨ho, _⟩
    · rw [ho] at hg; exact hn.own g hg
    · rw [ho] at hg
      simp at hg
      subst hg
      refine ⟨h0.keep.size, fun hs => ?_⟩
      have := k0.size
      rcases hs with hs | hs
      · have := h.net.lt _ hs; omega
      · have := hl.row.lt hs; omega
theorem NamesAt.step2 (h : NamesAt w (fun x => S x ∨ Own lv x) fv F wr) (hl : NamesAt w S lv L wr) (k : Keeps S wr w') : NamesAt w (fun x => Ext S wr w' x ∨ Own lv x) fv F w' :=
  ⟨h.row.keeps k fun g hg hs => (h.own g hg).2 (.inl hs), fun g hg => ⟨(h.own g hg).1, fun hs => hs.elim (fun hs => hs.elim (fun hs => (h.own g hg).2 (.inl hs)) fun hf => by have := h.row.lt hg; have := hf.1; omega) fun hs => (h.own g hg).2 (.inr hs)⟩⟩
theorem IsErr.iface {E : Nat → Prop} {v : Value} {x : ByteArray × Int} {l : List (ByteArray × Int)} {k : Int} (h : IsErr w E v (x :: l) k) : ∃ g, v = .iface 33 (.pointer (some ⟨g, 0, none⟩)) := by
  obtain ⟨b, u, h, _⟩ := h
  exact ⟨b, h⟩
theorem allocPost_no {n : Nat} {e : Ending} (h : AllocPost A n b S wr e w') (ha : A.alloc n = none) : ∃ g, e = .returned (.tuple #[.int .i64 0, .iface 33 (.pointer (some ⟨g, 0, none⟩))]) ∧ IsArena w' b A S ∧ Keeps (fun _ => False) wr w' := by
  unfold AllocPost at h
  rw [ha] at h
  obtain ⟨E, rfl, he, h1, h2⟩ := h
  obtain ⟨g, rfl⟩ := he.iface
  exact ⟨g, rfl, h1, h2⟩
end
end Go.Tx

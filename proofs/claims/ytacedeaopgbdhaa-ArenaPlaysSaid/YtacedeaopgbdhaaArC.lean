/-
  The arena: errors, a new arena, taking and giving back blocks, words: what the Go code does.
-/
import Derived.Test.YtacedeaopgbdhaaArS
import Derived.Test.YtacedeaopgbdhaaErr
import Derived.Test.YtacedeaopgbdhaaArP
namespace Go.Tx
open Go Go.RowKit

section
variable {w w' : World} {b mb : Nat} {A : AM} {S T : Nat → Prop} {pv : Value} {fv : Nat → Value} {c : Nat}

/-- the places' row turned in place -/
theorem ArenaAt.turnRow (h : ArenaAt w b A S pv mb fv) {w1 : World} {l : List Int} (k : Keeps (Own pv) w w1) (hr : Row w1 41 1 pv l.length (u64s l)) : ArenaAt w1 b { A with words := l } S pv mb fv := by
  have hbp : ∀ g, pv.ownBlock = some g → b ≠ g := fun g hg => h.blk.ne_row h.pl (by decide) hg
  refine ⟨h.blk.keeps k fun hg => hbp b hg rfl, hr, fun c hc => (h.fr c hc).keeps k fun g hg ho => row_ne_row (h.fr c hc) h.pl (by decide) hg ho, h.mp.keeps k fun hg => row_ne_map h.pl h.mp hg, h.sb, h.sm, h.sp, h.sf, fun g hg => Nat.lt_of_lt_of_le (h.lt g hg) k.size, h.apart⟩
theorem ArenaAt.setUsed (h : ArenaAt w b A S pv mb fv) (u : Nat) : ArenaAt (w.setCell ⟨b, 26, none⟩ (.int .i64 (u : Nat))) b { A with used := u } S pv mb fv := by
  have hbr : ∀ {e : TypeId} {n : Nat} {u : Value} {ys : List Value}, Row w e 1 u n ys → 66 ≠ e → u.ownBlock ≠ some b := fun r hT hg => h.blk.ne_row r hT hg rfl
  refine ⟨?_, h.pl.setCell_other (hbr h.pl (by decide)) _, fun c hc => (h.fr c hc).setCell_other (hbr (h.fr c hc) (by decide)) _, h.mp.setCell (Ne.symm (h.blk.ne_map h.mp)) _, h.sb, h.sm, h.sp, h.sf, fun g hg => by simpa using h.lt g hg, h.apart⟩
  have := h.blk.set 26 (.int .i64 (u : Nat))
  rw [arenaCells_setUsed] at this
  exact this
theorem ArenaAt.setTaken (h : ArenaAt w b A S pv mb fv) {w1 : World} {l : List (Nat × Nat × Nat)} (k : Keeps (fun g => g = mb) w w1) (hm : MapIs intKey w1 mb (kvOf l)) : ArenaAt w1 b { A with taken := l } S pv mb fv := by
  refine ⟨h.blk.keeps k (h.blk.ne_map h.mp), h.pl.keeps k fun g hg he => by subst he; exact row_ne_map h.pl h.mp hg, fun c hc => (h.fr c hc).keeps k fun g hg he => by subst he; exact row_ne_map (h.fr c hc) h.mp hg, hm, h.sb, h.sm, h.sp, h.sf, fun g hg => Nat.lt_of_lt_of_le (h.lt g hg) k.size, h.apart⟩

def blkVal (c n : Nat) : Value := .agg #[.int .i64 (c : Nat), .int .i64 (n : Nat)]
theorem kvOf_keys (l : List (Nat × Nat × Nat)) (q : Nat) : ((q : Int) ∈ (kvOf l).map (·.1)) ↔ q ∈ l.map (·.1) := by
  simp only [kvOf, List.map_map, List.mem_map, Function.comp]
  constructor
  · rintro ⟨t, ht, he⟩; exact ⟨t, ht, by omega⟩
  · rintro ⟨t, ht, he⟩; exact ⟨t, ht, by omega⟩
theorem kvPut_of (l : List (Nat × Nat × Nat)) (q c n : Nat) : kvPut (kvOf l) (q : Int) (blkVal c n) = kvOf (AM.putTaken l (q, c, n)) := by
  unfold kvPut AM.putTaken
  by_cases hq : q ∈ l.map (·.1)
  · rw [if_pos ((kvOf_keys l q).2 hq), if_pos hq]
    simp only [kvOf, List.map_map]
    apply List.map_congr_left
    intro t _
    simp only [Function.comp]
    by_cases ht : t.1 = q
    · simp [ht, blkVal]
    · have : ¬ ((t.1 : Int) = (q : Int)) := by omega
      simp [ht, this]
  · rw [if_neg (fun h => hq ((kvOf_keys l q).1 h)), if_neg hq]
    simp [kvOf, blkVal]
theorem kvGet_of (l : List (Nat × Nat × Nat)) (p : Int) : kvGet (kvOf l) p = (AM.look ⟨0, 0, [], fun _ => [], l, 0⟩ p).map fun t => blkVal t.1 t.2 := by
  unfold kvGet AM.look kvOf
  rw [List.find?_map]
  simp only [Function.comp_def, Option.map_map]
  rfl
theorem kvDel_of (l : List (Nat × Nat × Nat)) (q : Nat) : kvDel (kvOf l) (q : Int) = kvOf (l.filter fun t => decide (t.1 ≠ q)) := by
  unfold kvDel kvOf
  rw [List.filter_map]
  congr 1
  apply List.filter_congr
  intro t _
  simp only [Function.comp, ne_eq, decide_not]
  congr 1
  simp
  omega
end

/-- what taking a place comes to -/
def TakePost (A : AM) (c b : Nat) (S : Nat → Prop) (w : World) (e : Ending) (w' : World) : Prop :=
  match A.take c with
  | (some p, B) => e = .returned (.int .i64 (p : Nat)) ∧ IsArena w' b B (Ext S w w') ∧ Keeps S w w'
  | (none, _) => e = .returned (.int .i64 (-1)) ∧ IsArena w' b A S ∧ Keeps (fun _ => False) w w'
end Go.Tx

namespace Go.Proofs.Ytacedeaopgbdhaa
open Go.RowKit Go.Tx

theorem take_any {w : World} {b : Nat} {A : AM} {S : Nat → Prop} (h : IsArena w b A S) (hA : A.Ok) (c : Nat) (hc : c < 22) :
    Calls Try.prog 26 #[.pointer (some ⟨b, 0, none⟩), .int .i64 c] w (TakePost A c b S w) := by
  obtain ⟨pv, mb, fv, h⟩ := h
  by_cases h1 : A.free c ≠ []
  · refine (take_pop h c hc h1).mono fun e w' ⟨he, ha, hk⟩ => ?_
    unfold TakePost AM.take
    rw [if_pos h1]
    exact ⟨he, ha.wider (fun g hg => .inl hg) (fun g hg => hg.elim (fun hg => Nat.lt_of_lt_of_le (h.lt g hg) hk.size) (fun hg => hg.2)), hk⟩
  · have h0 : A.free c = [] := by simpa using h1
    by_cases h2 : A.top + pw c ≤ A.size
    · refine (take_grow h c hc h0 hA.size h2).mono fun e w' hh => ?_
      unfold TakePost AM.take
      rw [if_neg h1, if_pos h2]
      exact hh
    · refine (take_search h hA c hc h0 h2).mono fun e w' hh => ?_
      unfold SearchPost at hh
      unfold TakePost AM.take
      rw [if_neg h1, if_neg h2]
      cases hf : A.find (c + 1) with
      | none =>
        rw [hf] at hh
        obtain ⟨he, rfl⟩ := hh
        exact ⟨he, IsArena.drew ⟨pv, mb, fv, h⟩, (Keeps.refl _ _).drew⟩
      | some k =>
        rw [hf] at hh
        exact hh

end Go.Proofs.Ytacedeaopgbdhaa

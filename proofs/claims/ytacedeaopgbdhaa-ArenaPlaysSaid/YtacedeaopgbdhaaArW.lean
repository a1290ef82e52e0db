/-
  The arena in memory; its class, and taking a place: what the Go code does.
-/
import Derived.Test.YtacedeaopgbdhaaRows
import Derived.Test.YtacedeaopgbdhaaBlk
import Derived.Test.YtacedeaopgbdhaaArM
import Derived.WalkSpells
import Derived.WalkLawsBesides
namespace Go.Tx
open Go Go.RowKit

def updV (f : Nat → Value) (k : Nat) (v : Value) : Nat → Value := fun j => if j = k then v else f j
theorem updV_same (f : Nat → Value) (k : Nat) (v : Value) : updV f k v k = v := by simp [updV]
theorem updV_other (f : Nat → Value) {k j : Nat} (v : Value) (h : j ≠ k) : updV f k v j = f j := by simp [updV, h]

def arenaCells (A : AM) (pv : Value) (mb : Nat) (fv : Nat → Value) : List Value :=
  [.int .i64 A.size, .int .i64 A.quota, pv] ++ ((List.range 22).map fv ++ [.map (some mb), .int .i64 A.used])

theorem arenaCells_free (A : AM) (pv : Value) (mb : Nat) (fv : Nat → Value) (c : Nat) (hc : c < 22) : (arenaCells A pv mb fv)[3 + c]? = some (fv c) := by
  unfold arenaCells
  rw [List.getElem?_append_right (by simp), List.getElem?_append_left (by simp; omega)]
  simp [show 3 + c - 3 = c from by omega, hc]
theorem arenaCells_taken (A : AM) (pv : Value) (mb : Nat) (fv : Nat → Value) : (arenaCells A pv mb fv)[25]? = some (.map (some mb)) := rfl
theorem arenaCells_used (A : AM) (pv : Value) (mb : Nat) (fv : Nat → Value) : (arenaCells A pv mb fv)[26]? = some (.int .i64 A.used) := rfl
theorem arenaCells_setFree (A : AM) (pv : Value) (mb : Nat) (fv : Nat → Value) (c : Nat) (hc : c < 22) (v : Value) : (arenaCells A pv mb fv).set (3 + c) v = arenaCells A pv mb (updV fv c v) := by
  unfold arenaCells
  rw [List.set_append_right _ _ (by simp), List.set_append_left _ _ (by simp; omega)]
  congr 2
  apply List.ext_getElem?
  intro j
  simp only [List.length_cons, List.length_nil, List.getElem?_set, List.length_map, List.length_range, List.getElem?_map]
  by_cases hj : j = c
  · subst hj; simp [show 3 + j - 3 = j from by omega, hc, updV_same]
  · rw [if_neg (by omega)]
    by_cases h22 : j < 22
    · simp [h22, updV_other _ _ hj]
    · simp [h22]
theorem arenaCells_setPlaces (A : AM) (pv : Value) (mb : Nat) (fv : Nat → Value) (v : Value) : (arenaCells A pv mb fv).set 2 v = arenaCells A v mb fv := rfl
theorem arenaCells_setUsed (A : AM) (pv : Value) (mb : Nat) (fv : Nat → Value) (u : Nat) : (arenaCells A pv mb fv).set 26 (.int .i64 u) = arenaCells { A with used := u } pv mb fv := rfl

def intKey (n : Int) : Value := .int .i64 n
def kvOf (l : List (Nat × Nat × Nat)) : List (Int × Value) := l.map fun t => ((t.1 : Int), .agg #[.int .i64 (t.2.1 : Nat), .int .i64 (t.2.2 : Nat)])
def u64s (l : List Int) : List Value := l.map (Value.int .u64)
def ints (l : List Nat) : List Value := l.map fun p => Value.int .i64 (p : Nat)

structure ArenaAt (w : World) (b : Nat) (A : AM) (S : Nat → Prop) (pv : Value) (mb : Nat) (fv : Nat → Value) : Prop where
  blk : Blk w b 66 (arenaCells A pv mb fv)
  pl : Row w 41 1 pv A.top (u64s A.words)
  fr : ∀ c, c < 22 → Row w 3 1 (fv c) (A.free c).length (ints (A.free c))
  mp : MapIs intKey w mb (kvOf A.taken)
  sb : S b
  sm : S mb
  sp : ∀ g, pv.ownBlock = some g → S g
  sf : ∀ c, c < 22 → ∀ g, (fv c).ownBlock = some g → S g
  lt : ∀ k, S k → k < w.heap.size
  apart : ∀ c d, c < 22 → d < 22 → c ≠ d → ∀ g, (fv c).ownBlock = some g → (fv d).ownBlock ≠ some g

/-- at b there is this arena; its blocks lie in S -/
def IsArena (w : World) (b : Nat) (A : AM) (S : Nat → Prop) : Prop := ∃ pv mb fv, ArenaAt w b A S pv mb fv

/-- S, and what is new between two worlds -/
def Ext (S : Nat → Prop) (w w' : World) (k : Nat) : Prop := S k ∨ Fresh w w' k

section
variable {w w' : World} {b mb : Nat} {A : AM} {S T : Nat → Prop} {pv : Value} {fv : Nat → Value}

theorem ArenaAt.keeps (h : ArenaAt w b A S pv mb fv) (k : Keeps T w w') (hs : ∀ g, S g → ¬ T g) : ArenaAt w' b A S pv mb fv :=
  ⟨h.blk.keeps k (hs _ h.sb), h.pl.keeps k fun g hg => hs g (h.sp g hg), fun c hc => (h.fr c hc).keeps k fun g hg => hs g (h.sf c hc g hg), h.mp.keeps k (hs _ h.sm), h.sb, h.sm, h.sp, h.sf,
    fun g hg => Nat.lt_of_lt_of_le (h.lt g hg) k.size, h.apart⟩
theorem IsArena.keeps (h : IsArena w b A S) (k : Keeps T w w') (hs : ∀ g, S g → ¬ T g) : IsArena w' b A S := by
  obtain ⟨pv, mb, fv, h⟩ := h
  exact ⟨pv, mb, fv, h.keeps k hs⟩
theorem ArenaAt.wider (h : ArenaAt w b A S pv mb fv) (hs : ∀ g, S g → T g) (ht : ∀ g, T g → g < w.heap.size) : ArenaAt w b A T pv mb fv :=
  ⟨h.blk, h.pl, h.fr, h.mp, hs _ h.sb, hs _ h.sm, fun g hg => hs _ (h.sp g hg), fun c hc g hg => hs _ (h.sf c hc g hg), ht, h.apart⟩
theorem IsArena.lt (h : IsArena w b A S) : ∀ k, S k → k < w.heap.size := by obtain ⟨_, _, _, h⟩ := h; exact h.lt
theorem IsArena.drew (h : IsArena w b A S) : IsArena w.drew b A S := h.keeps (Keeps.refl (fun _ => False) w).drew fun _ _ h => h
end
end Go.Tx

namespace Go.Proofs.Ytacedeaopgbdhaa
open Go.RowKit Go.Tx

theorem pw_int (c : Nat) : ((2 : Int) ^ c) = (pw c : Nat) := by unfold pw; simp

set_option maxHeartbeats 400000 in
theorem class_any (n : Nat) (hn : n ≤ 1048576) (w : World) :
    Calls Try.prog 25 #[.int .i64 n] w fun e w' => e = .returned (.int .i64 (cls n)) ∧ w = w' := by
  obtain ⟨a1, a2, a3, a4⟩ := cls_spec n hn
  go_enter Try.func25, Try.ntmps25
  go_wp2
  go_loop [3] (fun c => ∃ k : Nat, 1 ≤ k ∧ k ≤ cls n ∧ c = .int .i64 k) (fun c => 30 - (intOf c).toNat)
  case atStart => exact ⟨1, Nat.le_refl _, a1, rfl⟩
  case round =>
    obtain ⟨k, hk1, hk2, rfl⟩ := hrel
    have hp := pw_21 (c := k) (by omega)
    have hwr : wrap64 ((2 : Int) ^ k) = (pw k : Nat) := by rw [pw_int]; unfold wrap64; omega
    by_cases hlt : pw k < n + 1
    · have hlt2 : k < cls n := by
        apply Decidable.byContradiction
        intro hc
        have : cls n = k := by omega
        rw [this] at a3; omega
      go_wp2
      go_round
      case rel => exact ⟨k + 1, by omega, by omega, by go_num⟩
      case measure => simp [intOf]; omega
    · have he : k = cls n := by
        apply Decidable.byContradiction
        intro hc
        have := a4 (by omega)
        have := pw_mono (show k ≤ cls n - 1 by omega)
        omega
      subst he
      go_wp2
      go_ret
      exact ⟨rfl, rfl⟩
end Go.Proofs.Ytacedeaopgbdhaa

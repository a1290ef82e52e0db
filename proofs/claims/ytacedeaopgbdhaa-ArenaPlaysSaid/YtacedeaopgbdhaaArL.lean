/-
  What the laws of the arena share: a number cut to a place; the document's example.
-/
import Derived.Test.YtacedeaopgbdhaaPl
import Derived.Test.YtacedeaopgbdhaaArF
namespace Go.Tx
open Go Go.RowKit
namespace AM
/-- nothing is free: a block is laid at the top -/
theorem alloc_top {A : AM} {n c : Nat} (hc : cls n = c) (hu : A.used + pw c ≤ A.quota) (hf : A.free c = []) (ht : A.top + pw c ≤ A.size) :
    A.alloc n = some (A.top + 1, ((A.grow c).wipe A.top (pw c)).note A.top c n) := by
  unfold alloc take
  rw [hc, if_neg (by omega), if_neg (by simp [hf]), if_pos ht]
theorem grown_top (A : AM) (c n : Nat) : (((A.grow c).wipe A.top (pw c)).note A.top c n).top = A.top + pw c := by
  have h : (A.grow c).top = A.top + pw c := by simp [grow, top]
  have := wipe_top (A.grow c) A.top (pw c) (by omega)
  exact this.trans h
theorem cls_one : cls 1 = 1 := cls_unique 1 1 (by decide) (by decide) (by unfold pw; decide) (by intro h; omega)
theorem cls_two : cls 2 = 2 := cls_unique 2 2 (by decide) (by decide) (by unfold pw; decide) (by intro _; unfold pw; decide)
theorem pw_one : pw 1 = 2 := by unfold pw; rfl
theorem pw_two : pw 2 = 4 := by unfold pw; rfl

/-- the example's three blocks -/
theorem example_blocks : ∃ A B C : AM, (new 16 16).alloc 1 = some (1, A) ∧ A.alloc 2 = some (3, B) ∧ B.alloc 1 = some (7, C) ∧ C.used = 8 := by
  have t0 : (new 16 16).top = 0 := rfl
  have h1 := alloc_top (A := new 16 16) (n := 1) cls_one (by rw [pw_one]; decide) rfl (by rw [pw_one, t0]; decide)
  generalize hA : (((new 16 16).grow 1).wipe (new 16 16).top (pw 1)).note (new 16 16).top 1 1 = A at h1
  have t1 : A.top = 2 := by rw [← hA, grown_top, pw_one]; rfl
  have u1 : A.used = 2 := by rw [← hA]; show 0 + pw 1 = 2; rw [pw_one]
  have f1 : A.free = fun _ => [] := by rw [← hA]; rfl
  have s1 : A.size = 16 ∧ A.quota = 16 := by rw [← hA]; exact ⟨rfl, rfl⟩
  have h2 := alloc_top (A := A) (n := 2) cls_two (by rw [pw_two, u1, s1.2]; decide) (by rw [f1]) (by rw [pw_two, t1, s1.1]; decide)
  generalize hB : ((A.grow 2).wipe A.top (pw 2)).note A.top 2 2 = B at h2
  have t2 : B.top = 6 := by rw [← hB, grown_top, pw_two, t1]
  have u2 : B.used = 6 := by rw [← hB]; show A.used + pw 2 = 6; rw [pw_two, u1]
  have f2 : B.free = fun _ => [] := by rw [← hB]; exact f1
  have s2 : B.size = 16 ∧ B.quota = 16 := by rw [← hB]; exact s1
  have h3 := alloc_top (A := B) (n := 1) cls_one (by rw [pw_one, u2, s2.2]; decide) (by rw [f2]) (by rw [pw_one, t2, s2.1]; decide)
  refine ⟨A, B, _, by rw [h1, t0], by rw [h2, t1], by rw [h3, t2], ?_⟩
  show B.used + pw 1 = 8
  rw [u2, pw_one]
end AM
theorem allocPost_get {A B : AM} {n b q : Nat} {S : Nat → Prop} {w w' : World} {e : Ending} (h : AllocPost A n b S w e w') (ha : A.alloc n = some (q, B)) :
    e = .returned (.tuple #[.int .i64 (q : Nat), .nilIface]) ∧ IsArena w' b B (Ext S w w') ∧ Keeps S w w' := by
  unfold AllocPost at h
  rw [ha] at h
  exact h
theorem fresh_ext {w wr w2 : World} {b : Nat} {B : AM} (k1 : Keeps (fun _ => False) w wr) (ha : IsArena w2 b B (Ext (Fresh w wr) wr w2)) (hk : Keeps (Fresh w wr) wr w2) : IsArena w2 b B (Fresh w w2) ∧ Keeps (fun _ => False) w w2 := by
  have h1 := k1.size
  have h2 := hk.size
  refine ⟨ha.wider (fun g hg => ?_) (fun g hg => hg.2), k1.trans hk fun g hg hf => by have := hf.1; omega⟩
  rcases hg with hg | hg
  · exact ⟨hg.1, Nat.lt_of_lt_of_le hg.2 h2⟩
  · exact ⟨Nat.le_trans h1 hg.1, hg.2⟩
theorem fresh_same {w wr w2 : World} {b : Nat} {B : AM} (k1 : Keeps (fun _ => False) w wr) (ha : IsArena w2 b B (Fresh w wr)) (hk : Keeps (Fresh w wr) wr w2) : IsArena w2 b B (Fresh w w2) ∧ Keeps (fun _ => False) w w2 :=
  fresh_ext k1 (ha.wider (fun _ hg => .inl hg) (fun _ hg => hg.elim (fun hg => Nat.lt_of_lt_of_le hg.2 hk.size) (fun hg => hg.2))) hk
end Go.Tx

namespace Go.Proofs.Ytacedeaopgbdhaa
open Go.RowKit Go.Tx

set_option maxHeartbeats 400000 in
theorem awake_any (w : World) : Calls Try.prog 16 #[] w fun e w' => e = .returned (.bool true) ∧ Keeps (fun _ => False) w w' := by
  obtain ⟨A, B, C, h1, h2, h3, hu⟩ := AM.example_blocks
  have hN := AM.new_ok (size := 16) (quota := 16) (by decide) (by decide)
  have hA := (AM.alloc_ok hN (by decide) h1).1
  have hB := (AM.alloc_ok hA (by decide) h2).1
  have HH : Hid (AM.Ok (AM.new 16 16) ∧ A.Ok ∧ B.Ok ∧ (AM.new 16 16).alloc 1 = some (1, A) ∧ A.alloc 2 = some (3, B) ∧ B.alloc 1 = some (7, C) ∧ C.used = 8) := Lib.hid ⟨hN, hA, hB, h1, h2, h3, hu⟩
  clear hN hA hB h1 h2 h3 hu
  go_enter Try.func16, Try.ntmps16
  go_wp2_with (first | (go_at_call 10; refine (new_any 16 16 (by decide) (by decide) (by decide) (by decide) _).mono ?_; rintro e w1 ⟨b, rfl, ha, hk⟩; have G1 := Lib.hid ha; have K1 := Lib.hid hk; clear ha hk) | (go_at_call 11; refine Stop.out ?_))
  refine ⟨(alloc_any G1.out HH.out.1 1 (by decide)).mono ?_⟩
  intro e w2 hp
  obtain ⟨rfl, ha, hk⟩ := allocPost_get hp HH.out.2.2.2.1
  have G2 := Lib.hid ha
  have K2 := Lib.hid (K1.out.trans hk fun g hg hf => by have := hf.1; omega)
  clear hp ha hk
  go_wp2_with (go_at_call 11; refine Stop.out ?_)
  refine ⟨(alloc_any G2.out HH.out.2.1 2 (by decide)).mono ?_⟩
  intro e w3 hp
  obtain ⟨rfl, ha, hk⟩ := allocPost_get hp HH.out.2.2.2.2.1
  have G3 := Lib.hid ha
  have K3 := Lib.hid (K2.out.trans hk fun g hg hf => by rcases hf with hf | hf <;> (have := hf.1; have := K1.out.size; omega))
  clear hp ha hk
  go_wp2_with (go_at_call 11; refine Stop.out ?_)
  refine ⟨(alloc_any G3.out HH.out.2.2.1 1 (by decide)).mono ?_⟩
  intro e w4 hp
  obtain ⟨rfl, ha, hk⟩ := allocPost_get hp HH.out.2.2.2.2.2.1
  have G4 := Lib.hid ha
  have K4 := Lib.hid (K3.out.trans hk fun g hg hf => by rcases hf with (hf | hf) | hf <;> (have := hf.1; have := K1.out.size; have := K2.out.size; omega))
  clear hp ha hk
  go_wp2_with (go_at_call 14; refine (used_any G4.out).mono ?_; rintro e w5 ⟨rfl, rfl⟩; rw [HH.out.2.2.2.2.2.2])
  go_ret
  exact ⟨rfl, K4.out⟩
end Go.Proofs.Ytacedeaopgbdhaa

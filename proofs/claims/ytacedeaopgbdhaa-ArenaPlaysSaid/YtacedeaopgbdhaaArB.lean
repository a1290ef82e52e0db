/-
  The arena: how much is used, words of a block, giving a block back: what the Go code does.
-/
import Derived.Test.YtacedeaopgbdhaaArA
namespace Go.Tx
open Go Go.RowKit
theorem ba_get : (⟨#[103, 101, 116]⟩ : ByteArray) = ⟨#[103, 101, 116]⟩ := rfl
/-- the texts of the program -/
def txtIndex : ByteArray := ⟨#[105, 110, 100, 101, 120]⟩
def txtGet : ByteArray := ⟨#[103, 101, 116]⟩
def txtSet : ByteArray := ⟨#[115, 101, 116]⟩
def txtLen : ByteArray := ⟨#[108, 101, 110]⟩
def txtFree : ByteArray := ⟨#[102, 114, 101, 101]⟩
def txtAlloc : ByteArray := ⟨#[97, 108, 108, 111, 99]⟩

namespace AM
theorem look_mem {A : AM} {p : Int} {c m : Nat} (h : A.look p = some (c, m)) : ∃ q : Nat, p = (q : Int) ∧ (q, c, m) ∈ A.taken := by
  unfold look at h
  cases hf : A.taken.find? (fun t => decide ((t.1 : Int) = p)) with
  | none => rw [hf] at h; cases h
  | some t =>
    rw [hf] at h
    simp at h
    have h1 := List.find?_some hf
    have h2 := List.mem_of_find?_eq_some hf
    obtain ⟨q, c', m'⟩ := t
    simp at h h1
    obtain ⟨rfl, rfl⟩ := h
    exact ⟨q, h1.symm, h2⟩
end AM
section
variable {w w' : World} {b mb : Nat} {A : AM} {S T : Nat → Prop} {pv : Value} {fv : Nat → Value} {c m : Nat}
theorem kvGet_some {p : Int} (h : A.look p = some (c, m)) : kvGet (kvOf A.taken) p = some (blkVal c m) := by
  rw [kvGet_of]
  show Option.map _ (A.look p) = _
  rw [h]; rfl
theorem kvGet_no {p : Int} (h : A.look p = none) : kvGet (kvOf A.taken) p = none := by
  rw [kvGet_of]
  show Option.map _ (A.look p) = _
  rw [h]; rfl

end
end Go.Tx

namespace Go.Proofs.Ytacedeaopgbdhaa
open Go.RowKit Go.Tx

theorem zero_block (w : World) : (zeroValue 69).run Try.prog w = .ok (.agg #[.int .i64 0, .int .i64 0]) w := by kernel_rfl

theorem used_any {w : World} {b : Nat} {A : AM} {S : Nat → Prop} (h : IsArena w b A S) :
    Calls Try.prog 14 #[.pointer (some ⟨b, 0, none⟩)] w fun e w' => e = .returned (.int .i64 A.used) ∧ w = w' := by
  obtain ⟨pv, mb, fv, h⟩ := h
  have h26 : w.cell? ⟨b, 26, none⟩ = some (.int .i64 A.used) := h.blk.cell (arenaCells_used A pv mb fv)
  clear h
  go_enter Try.func14, Try.ntmps14
  go_wp2
  go_ret
  exact ⟨rfl, rfl⟩
theorem top_any {w : World} {b : Nat} {A : AM} {S : Nat → Prop} (h : IsArena w b A S) :
    Calls Try.prog 15 #[.pointer (some ⟨b, 0, none⟩)] w fun e w' => e = .returned (.int .i64 A.top) ∧ w = w' := by
  obtain ⟨pv, mb, fv, h⟩ := h
  obtain ⟨a1, cap1, hpv, hcap, hm⟩ := h.pl.len
  have h2 : w.cell? ⟨b, 2, none⟩ = some (.slice a1 A.top cap1) := by rw [← hpv]; exact h.blk.cell (i := 2) rfl
  clear h hpv
  go_enter Try.func15, Try.ntmps15
  go_wp2
  go_ret
  exact ⟨rfl, rfl⟩

set_option maxHeartbeats 400000 in
theorem word_some {w : World} {b : Nat} {A : AM} {S : Nat → Prop} (h : IsArena w b A S) (hA : A.Ok) (op : ByteArray) (p i : Int) (c m : Nat) (hl : A.look p = some (c, m)) (h0 : 0 ≤ i) (hi : i < m) :
    Calls Try.prog 29 #[.pointer (some ⟨b, 0, none⟩), .string op, .int .i64 p, .int .i64 i] w fun e w' => e = .returned (.tuple #[.int .i64 (p + i), .nilIface]) ∧ IsArena w' b A S ∧ Keeps (fun _ => False) w w' := by
  obtain ⟨pv, mb, fv, h⟩ := h
  obtain ⟨q, rfl, hmem⟩ := AM.look_mem hl
  obtain ⟨t1, t2, t3, t4⟩ := hA.taken _ hmem
  have hs := hA.size
  have ht := hA.top
  simp only at t1 t2 t3 t4
  have hq : q ≤ 1048577 := by omega
  have hm2 : m ≤ 1048577 := by omega
  have h25 : w.cell? ⟨b, 25, none⟩ = some (.map (some mb)) := h.blk.cell (arenaCells_taken A pv mb fv)
  have HG := Lib.hid (kvGet_some hl)
  have HMP := Lib.hid h.mp
  have HF : Hid (∀ o, IsArena (w.alloc o) b A S ∧ Keeps (fun _ => False) w (w.alloc o)) := fun o => ⟨IsArena.keeps ⟨_, _, _, h⟩ ((Keeps.refl (fun _ => False) w).alloc o) fun _ _ h => h, (Keeps.refl _ w).alloc o⟩
  clear h hl hmem hA t1 t2 t3 t4
  go_enter Try.func29, Try.ntmps29
  go_wp2_with (at_lookup; refine wpList_lookup_some rfl _ _ 63 true rfl 3 69 (keyL_int Try.underlying3) Try.underlying63 _ (zero_block _) mb rfl HMP.out _ rfl (blkVal c m) HG.out ?_; simp only [blkVal, if_true])
  go_ret2
  exact ⟨rfl, HF.out _⟩

set_option maxHeartbeats 400000 in
theorem word_none {w : World} {b : Nat} {A : AM} {S : Nat → Prop} (h : IsArena w b A S) (op : ByteArray) (p i : Int) (hl : A.look p = none) :
    Calls Try.prog 29 #[.pointer (some ⟨b, 0, none⟩), .string op, .int .i64 p, .int .i64 i] w (ErrPost (.tuple #[.int .i64 0, ·]) [(op, p)] 3 (fun w' => IsArena w' b A S) w) := by
  obtain ⟨pv, mb, fv, h⟩ := h
  have h25 : w.cell? ⟨b, 25, none⟩ = some (.map (some mb)) := h.blk.cell (arenaCells_taken A pv mb fv)
  have HG := Lib.hid (kvGet_no hl)
  have HMP := Lib.hid h.mp
  have HF : Hid (∀ o, IsArena (w.alloc o) b A S ∧ Keeps (fun _ => False) w (w.alloc o)) := fun o => ⟨IsArena.keeps ⟨_, _, _, h⟩ ((Keeps.refl (fun _ => False) w).alloc o) fun _ _ h => h, (Keeps.refl _ w).alloc o⟩
  clear h hl
  go_enter Try.func29, Try.ntmps29
  go_wp2_with (first | (at_lookup; refine wpList_lookup_none rfl _ _ 63 true rfl 3 69 (keyL_int Try.underlying3) Try.underlying63 _ (zero_block _) mb rfl HMP.out _ rfl HG.out ?_; simp only [if_true]) | (go_at_call 24; refine (at_any _ _ _ _ _).mono ?_; rintro e w1 ⟨rfl, rfl⟩))
  go_ret2
  exact errPost_one (f := (.tuple #[.int .i64 0, ·])) (I := fun w' => IsArena w' b A S) (World.size_alloc ..).symm (HF.out _).1 (HF.out _).2 (fun w1 ha hk => IsArena.keeps ha hk fun _ _ h => h)

set_option maxHeartbeats 400000 in
theorem word_out {w : World} {b : Nat} {A : AM} {S : Nat → Prop} (h : IsArena w b A S) (op : ByteArray) (p i : Int) (c m : Nat) (hl : A.look p = some (c, m)) (hi : i < 0 ∨ (m : Int) ≤ i) :
    Calls Try.prog 29 #[.pointer (some ⟨b, 0, none⟩), .string op, .int .i64 p, .int .i64 i] w (ErrPost (.tuple #[.int .i64 0, ·]) [(op, p), (txtIndex, i)] 12 (fun w' => IsArena w' b A S) w) := by
  obtain ⟨pv, mb, fv, h⟩ := h
  have h25 : w.cell? ⟨b, 25, none⟩ = some (.map (some mb)) := h.blk.cell (arenaCells_taken A pv mb fv)
  have HG := Lib.hid (kvGet_some hl)
  have HMP := Lib.hid h.mp
  have HF : Hid (∀ o, IsArena (w.alloc o) b A S ∧ Keeps (fun _ => False) w (w.alloc o)) := fun o => ⟨IsArena.keeps ⟨_, _, _, h⟩ ((Keeps.refl (fun _ => False) w).alloc o) fun _ _ h => h, (Keeps.refl _ w).alloc o⟩
  clear h hl
  go_enter Try.func29, Try.ntmps29
  rcases hi with hi | hi
  all_goals
    go_wp2_with (first | (at_lookup; refine wpList_lookup_some rfl _ _ 63 true rfl 3 69 (keyL_int Try.underlying3) Try.underlying63 _ (zero_block _) mb rfl HMP.out _ rfl (blkVal c m) HG.out ?_; simp only [blkVal, if_true]) | (go_at_call 24; refine (at_any _ _ _ _ _).mono ?_; rintro e w1 ⟨rfl, rfl⟩))
    go_ret2
    exact errPost_two (f := (.tuple #[.int .i64 0, ·])) (I := fun w' => IsArena w' b A S) (World.size_alloc ..).symm (congrArg (· + 1) (World.size_alloc ..).symm) (HF.out _).1 (HF.out _).2 (fun w1 ha hk => IsArena.keeps ha hk fun _ _ h => h)
end Go.Proofs.Ytacedeaopgbdhaa

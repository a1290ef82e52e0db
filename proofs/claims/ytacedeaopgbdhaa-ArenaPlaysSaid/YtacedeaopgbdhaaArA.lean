/-
  The arena: a new one; taking a block.
-/
import Derived.Test.YtacedeaopgbdhaaArC
namespace Go.Tx
open Go Go.RowKit
section
variable {w w' : World} {b mb : Nat} {A : AM} {S T : Nat → Prop} {pv : Value} {fv : Nat → Value} {c : Nat}

/-- what a new arena comes to -/
def NewPost (size quota : Nat) (w : World) (e : Ending) (w' : World) : Prop :=
  ∃ b, e = .returned (.tuple #[.pointer (some ⟨b, 0, none⟩), .nilIface]) ∧ IsArena w' b (AM.new size quota) (Fresh w w') ∧ Keeps (fun _ => False) w w'
theorem newPost_made (w : World) (size quota : Nat) :
    NewPost size quota w (.returned (.tuple #[.pointer (some ⟨w.heap.size + 1, 0, none⟩), .nilIface]))
      ((w.alloc (.map #[] 0)).alloc (.cells (arenaCells (AM.new size quota) (.slice none 0 0) w.heap.size (fun _ => .slice none 0 0)).toArray 66)) := by
  have hsz : (w.alloc (.map #[] 0)).heap.size = w.heap.size + 1 := by simp
  refine ⟨_, rfl, ⟨.slice none 0 0, w.heap.size, fun _ => .slice none 0 0, ?_, World.ownsRow_nil _ _ _ _, fun c _ => World.ownsRow_nil _ _ _ _, ?_, ?_, ?_, ?_, ?_, ?_, ?_⟩, ((Keeps.refl _ w).alloc _).alloc _⟩
  · have := Blk.new (w.alloc (.map #[] 0)) (arenaCells (AM.new size quota) (.slice none 0 0) w.heap.size (fun _ => .slice none 0 0)) 66
    rw [hsz] at this; exact this
  · exact (mapIs_made intKey w).keeps (Keeps.alloc (Keeps.refl (fun _ => False) _) _) id
  · exact ⟨by omega, by simp⟩
  · exact ⟨Nat.le_refl _, by simp; omega⟩
  · intro g hg; simp [Value.ownBlock] at hg
  · intro c _ g hg; simp [Value.ownBlock] at hg
  · intro k hk; exact hk.2
  · intro c d _ _ _ g hg; simp [Value.ownBlock] at hg
theorem wiped_u64s (A : AM) (p m : Nat) : wiped (u64s A.words) p m (.int .u64 0) = u64s (A.wipe p m).words := by
  simp [wiped, u64s, AM.wipe, List.map_take, List.map_drop]

/-- what taking a block comes to -/
def AllocPost (A : AM) (n b : Nat) (S : Nat → Prop) (w : World) (e : Ending) (w' : World) : Prop :=
  match A.alloc n with
  | some (q, B) => e = .returned (.tuple #[.int .i64 (q : Nat), .nilIface]) ∧ IsArena w' b B (Ext S w w') ∧ Keeps S w w'
  | none => ∃ E, e = .returned (.tuple #[.int .i64 0, E]) ∧ IsErr w' (Fresh w w') E [(⟨#[97, 108, 108, 111, 99]⟩, (n : Int))] 2 ∧ IsArena w' b A S ∧ Keeps (fun _ => False) w w'
theorem allocPost_some {n q : Nat} {B : AM} {x : Int} (h : A.alloc n = some (q, B)) (hx : x = (q : Nat)) (ha : IsArena w' b B (Ext S w w')) (hk : Keeps S w w') :
    AllocPost A n b S w (.returned (.tuple #[.int .i64 x, .nilIface])) w' := by
  subst hx
  unfold AllocPost
  rw [h]
  exact ⟨rfl, ha, hk⟩
theorem allocPost_full {n : Nat} {w1 : World} (h : A.alloc n = none) (ha : IsArena w1 b A S) (hk : Keeps (fun _ => False) w w1) :
    AllocPost A n b S w (.returned (.tuple #[.int .i64 0, .iface 33 (.pointer (some ⟨w1.heap.size, 0, none⟩))]))
      (w1.alloc (.cells #[.string ⟨#[97, 108, 108, 111, 99]⟩, .int .i64 (n : Nat), .iface 34 (.int .i64 2)] 36)) := by
  unfold AllocPost
  rw [h]
  refine ⟨_, rfl, (isErr_new w1 _ _ (.iface 34 (.int .i64 2)) [] 2 (fun _ => False) rfl).mono (fun g hg => ?_), ha.keeps ((Keeps.refl (fun _ => False) _).alloc _) (fun _ _ h => h), hk.alloc _⟩
  rcases hg with rfl | hg
  · exact ⟨hk.size, by simp⟩
  · exact hg.elim
end
end Go.Tx

namespace Go.Proofs.Ytacedeaopgbdhaa
open Go.RowKit Go.Tx

set_option maxHeartbeats 400000 in
theorem new_any (size quota : Nat) (h1 : 2 ≤ size) (h2 : size ≤ 1048576) (h3 : 1 ≤ quota) (h4 : quota ≤ size) (w : World) :
    Calls Try.prog 10 #[.int .i64 size, .int .i64 quota] w (NewPost size quota w) := by
  have hmm := @run_makeMap Try.prog
  go_enter Try.func10, Try.ntmps10
  go_wp2
  go_ret2
  exact newPost_made w size quota

set_option maxRecDepth 100000 in
set_option maxHeartbeats 1000000 in
theorem alloc_any {w : World} {b : Nat} {A : AM} {S : Nat → Prop} (h : IsArena w b A S) (hA : A.Ok) (n : Nat) (hn : n ≤ 1048576) :
    Calls Try.prog 11 #[.pointer (some ⟨b, 0, none⟩), .int .i64 n] w (AllocPost A n b S w) := by
  obtain ⟨c1, c2, c3, c4⟩ := cls_spec n hn
  have hp := pw_21 (c := cls n) c2
  have hwr : wrap64 ((2 : Int) ^ (cls n)) = (pw (cls n) : Nat) := by rw [pw_int]; unfold wrap64; omega
  obtain ⟨pv, mb, fv, HA⟩ := h
  have h1 : w.cell? ⟨b, 1, none⟩ = some (.int .i64 A.quota) := HA.blk.cell (i := 1) rfl
  have h26 : w.cell? ⟨b, 26, none⟩ = some (.int .i64 A.used) := HA.blk.cell (arenaCells_used A pv mb fv)
  have hq := hA.quota
  have hs := hA.size
  have hu := hA.usedq
  have H := Lib.hid HA
  have HO := Lib.hid hA
  clear HA c3 c4 hA
  by_cases hfull : A.used + pw (cls n) > A.quota
  · go_enter Try.func11, Try.ntmps11
    go_wp2_with (first | (with_reducible refine wp_region_text (by kernel_rfl) (by kernel_rfl) ?_) | (with_reducible refine text_fin (by kernel_rfl) ?_) | (go_at_call 25; refine (class_any n hn _).mono ?_; rintro e w1 ⟨rfl, rfl⟩) | (go_at_call 24; refine (at_any _ _ _ _ _).mono ?_; rintro e w1 ⟨rfl, rfl⟩))
    go_ret2
    exact allocPost_full (w1 := w.drew) (by unfold AM.alloc; rw [if_pos hfull]) (IsArena.drew ⟨_, _, _, H.out⟩) ((Keeps.refl _ _).drew)
  · rcases AM.take_cls A (cls n) with ⟨p, B, ht⟩ | ht
    · have hT := take_any (IsArena.drew ⟨_, _, _, H.out⟩) HO.out (cls n) (by omega)
      have HT : Hid (Calls Try.prog 26 #[.pointer (some ⟨b, 0, none⟩), .int .i64 (cls n)] w.drew fun e w' => e = .returned (.int .i64 (p : Nat)) ∧ IsArena w' b B (Ext S w.drew w') ∧ Keeps S w.drew w') :=
        hT.mono fun e w' h => by unfold TakePost at h; rw [ht] at h; exact h
      have HM := Lib.hid (AM.take_missing HO.out (by omega) ht)
      have HTK := Lib.hid ht
      have hq2 : A.used + pw (cls n) ≤ A.quota := by omega
      have hBs : B.size ≤ 1048576 := by rw [HM.out.size]; exact hs
      have hBt : B.top ≤ B.size := HM.out.topS
      have hBp : p + pw (cls n) ≤ B.top := HM.out.place
      have hp0 := pw_pos (cls n)
      have HU := Lib.hid HM.out.used
      clear hT ht hfull h1 h26
      go_enter Try.func11, Try.ntmps11
      have h1 : w.cell? ⟨b, 1, none⟩ = some (.int .i64 A.quota) := H.out.blk.cell (i := 1) rfl
      have h26 : w.cell? ⟨b, 26, none⟩ = some (.int .i64 A.used) := H.out.blk.cell (arenaCells_used A pv mb fv)
      go_wp2_with (first | (with_reducible refine wp_region_text (by kernel_rfl) (by kernel_rfl) ?_) | (with_reducible refine text_fin (by kernel_rfl) ?_) | (go_at_call 25; refine (class_any n hn _).mono ?_; rintro e w1 ⟨rfl, rfl⟩))
      refine HT.out.mono ?_
      rintro e w1 ⟨rfl, ⟨pv1, mb1, fv1, ha1⟩, hk1⟩
      obtain ⟨g, cap1, hpv1, hcap1, hm1⟩ := ha1.pl.form (by omega)
      have e2 : w1.cell? ⟨b, 2, none⟩ = some (.slice (some ⟨g, 0, none⟩) B.top cap1) := by rw [← hpv1]; exact ha1.blk.cell (i := 2) rfl
      have hrow := ha1.pl
      rw [hpv1] at hrow
      have hgb : b ≠ g := ha1.blk.ne_row ha1.pl (by decide) (by rw [hpv1]; rfl)
      have HROW := Lib.hid hrow
      have HPV1 := Lib.hid hpv1
      have HA1 := Lib.hid ha1
      have HK1 := Lib.hid hk1
      have hcp : ¬ cap1 = p := by omega
      unfold maxLen at hm1
      clear ha1 hk1 hrow hpv1 h1 h26
      go_wp2_with (first | (with_reducible refine wp_region_text (by kernel_rfl) (by kernel_rfl) ?_) | (with_reducible refine text_fin (by kernel_rfl) ?_) | (show wpList _ _ _ (⟨_, Op.call ⟨Callee.builtin Builtin.clear, _, _⟩, _, _, _, _⟩ :: _) _ _; refine Stop.out ?_))
      refine ⟨?_⟩
      refine wpList_clear_row _ rfl _ 49 rfl 41 8 (.int .u64 0) info_u64 Try.underlying49 rfl rfl g B.top cap1 p (p + pw (cls n) - p) _ _ HROW.out.drew rfl (by omega) (by omega) ?_
      intro w2 hr2 hk2 hs2
      rw [show p + pw (cls n) - p = pw (cls n) from by omega, wiped_u64s, ← HPV1.out] at hr2
      have hH2 := HA1.out.turnRow (w1 := w2) (l := (B.wipe p (pw (cls n))).words) ((hk2.mono fun x _ hx => by rw [HPV1.out, hx]; rfl).of_drew) (by rw [AM.wipe_len _ _ _ HM.out.place]; exact hr2)
      have e26 : w2.cell? ⟨b, 26, none⟩ = some (.int .i64 A.used) := by rw [← HU.out]; exact hH2.blk.cell (arenaCells_used _ _ _ _)
      have f26 := hH2.blk.free 26
      have e25 : w2.cell? ⟨b, 25, none⟩ = some (.map (some mb1)) := hH2.blk.cell (arenaCells_taken _ _ _ _)
      have hK2 : Keeps S w w2 := (HK1.out.of_drew).trans (hk2.of_drew) fun x hx he => by
        have h3 := HA1.out.sp x (by rw [HPV1.out, he]; rfl)
        rcases h3 with h3 | h3
        · exact h3
        · have := h3.1; simp at this; omega
      have HH2 := Lib.hid hH2
      have HK2 := Lib.hid hK2
      have hH3 := hH2.setUsed (A.used + pw (cls n))
      rw [Int.natCast_add] at hH3
      have HM3 := Lib.hid hH3.mp
      have HH3 := Lib.hid hH3
      clear hH2 hH3 hr2 hk2 e2 hK2
      go_wp2_with (first | (with_reducible refine wp_region_text (by kernel_rfl) (by kernel_rfl) ?_) | (with_reducible refine text_fin (by kernel_rfl) ?_) | (at_mapUpdate; refine Stop.out ?_))
      refine ⟨?_⟩
      refine wpList_update_kv rfl _ _ _ 63 rfl 3 69 (keyL_int Try.underlying3) Try.underlying63 mb1 rfl (HM3.out.keeps (Keeps.drew (Keeps.refl (fun _ => False) _)) id) ((p : Int) + 1) rfl (blkVal (cls n) n) rfl ?_
      intro w3 hm3 hk3 hs3
      have hm4 : MapIs intKey w3 mb1 (kvOf (AM.putTaken B.taken (p + 1, cls n, n))) := by
        have h5 := kvPut_of B.taken (p + 1) (cls n) n
        rw [Int.natCast_add] at h5
        rw [← h5]; exact hm3
      have hH4 := HH3.out.setTaken hk3.of_drew hm4
      have hK4 : Keeps S w w3 := (HK2.out.setCell (fun _ => H.out.sb) _).trans hk3.of_drew fun x hx he => by
        subst he
        have h6 := HA1.out.sm
        rcases h6 with h6 | h6
        · exact h6
        · have := h6.1; simp at this; omega
      have hs4 : w3.heap.size = w1.heap.size := by rw [hs3]; simpa using hs2
      have HFin : Hid (AllocPost A n b S w (.returned (.tuple #[.int .i64 ((p : Int) + 1), .nilIface])) w3) := by
        refine allocPost_some (q := p + 1) (B := (B.wipe p (pw (cls n))).note p (cls n) n) ?_ (by rw [Int.natCast_add]; rfl) ?_ hK4
        · unfold AM.alloc; rw [if_neg (by omega), HTK.out]
        · have h7 : (⟨B.size, B.quota, (B.wipe p (pw (cls n))).words, B.free, AM.putTaken B.taken (p + 1, cls n, n), A.used + pw (cls n)⟩ : AM) = (B.wipe p (pw (cls n))).note p (cls n) n := by
            unfold AM.note AM.wipe; rw [HU.out]
          rw [← h7]
          refine IsArena.wider ⟨_, _, _, hH4⟩ (fun x hx => hx.imp id fun hx => ⟨hx.1, by rw [hs4]; exact hx.2⟩) fun x hx => ?_
          rcases hx with hx | hx
          · exact Nat.lt_of_lt_of_le (H.out.lt x hx) hK4.size
          · exact hx.2
      clear hm3 hk3 hm4 hH4 hK4 hs3 hs4 e25 f26 e26 hs2 hgb
      go_wp2
      go_ret2
      exact HFin.out
    · have hT := take_any (IsArena.drew ⟨_, _, _, H.out⟩) HO.out (cls n) (by omega)
      have HT : Hid (Calls Try.prog 26 #[.pointer (some ⟨b, 0, none⟩), .int .i64 (cls n)] w.drew fun e w' => e = .returned (.int .i64 (-1)) ∧ IsArena w' b A S ∧ Keeps (fun _ => False) w.drew w') :=
        hT.mono fun e w' h => by unfold TakePost at h; rw [ht] at h; exact h
      have HTK := Lib.hid ht
      have hq2 : A.used + pw (cls n) ≤ A.quota := by omega
      clear hT ht hfull
      go_enter Try.func11, Try.ntmps11
      go_wp2_with (first | (with_reducible refine wp_region_text (by kernel_rfl) (by kernel_rfl) ?_) | (with_reducible refine text_fin (by kernel_rfl) ?_) | (go_at_call 25; refine (class_any n hn _).mono ?_; rintro e w1 ⟨rfl, rfl⟩) | (go_at_call 26; refine HT.out.mono ?_; rintro e w1 ⟨rfl, ha1, hk1⟩; have HA1 := Lib.hid ha1; have HK1 := Lib.hid hk1; clear ha1 hk1) | (go_at_call 24; refine (at_any _ _ _ _ _).mono ?_; rintro e w1 ⟨rfl, rfl⟩))
      go_ret2
      exact allocPost_full (by unfold AM.alloc; rw [if_neg (by omega), HTK.out]) HA1.out HK1.out.of_drew
end Go.Proofs.Ytacedeaopgbdhaa

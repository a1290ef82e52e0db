/-
  The arena: giving a block back: what the Go code does.
-/
import Derived.Test.YtacedeaopgbdhaaArG
import Derived.Test.YtacedeaopgbdhaaHeld
namespace Go.Tx
open Go Go.RowKit
theorem one_newAt {w0 : World} {u : Value} {e : TypeId} {g : Nat} (hg : g = w0.heap.size) : ∀ j v, [u][j]? = some v → (w0.alloc (.cells #[u] e)).cell? ((⟨g, 0, none⟩ : Addr).add j) = some v := hg ▸ one_new
end Go.Tx

namespace Go.Proofs.Ytacedeaopgbdhaa
open Go.RowKit Go.Tx

set_option maxRecDepth 100000 in
set_option maxHeartbeats 400000 in
theorem free_some {w : World} {b : Nat} {A : AM} {S : Nat → Prop} (h : IsArena w b A S) (hA : A.Ok) (q c m : Nat) (hmem : (q, c, m) ∈ A.taken) :
    Calls Try.prog 12 #[.pointer (some ⟨b, 0, none⟩), .int .i64 q] w fun e w' => e = .returned .nilIface ∧ IsArena w' b (A.give q c) (Ext S w w') ∧ Keeps S w w' := by
  have hl := (AM.look_iff hA).2 hmem
  obtain ⟨t1, t2, t3, t4⟩ := hA.taken _ hmem
  simp only at t1 t2 t3 t4
  have hu2 : pw c ≤ A.used := Nat.le.intro ((Nat.add_comm _ _).trans (AM.give_ok hA hmem).2)
  have hs := hA.size
  have ht := hA.top
  have hp := pw_21 (c := c) (by omega)
  have hp0 := pw_pos c
  have hu := hA.usedq
  have hq := hA.quota
  have hwr : wrap64 ((2 : Int) ^ c) = (pw c : Nat) := by rw [pw_int]; unfold wrap64; omega
  obtain ⟨pv, mb, fv, h⟩ := h
  have h25 : w.cell? ⟨b, 25, none⟩ = some (.map (some mb)) := h.blk.cell (arenaCells_taken A pv mb fv)
  have HG := Lib.hid (kvGet_some hl)
  have HMP := Lib.hid h.mp
  have hW : ∀ o, Keeps (fun _ => False) w (w.alloc o) := fun o => (Keeps.refl _ w).alloc o
  have hB : Blk (w.alloc (.cells #[.int .i64 c, .int .i64 m] 69)) w.heap.size 69 [.int .i64 c, .int .i64 m] := Blk.new _ _ _
  have h' := h.keeps (hW (.cells #[.int .i64 c, .int .i64 m] 69)) (fun _ _ h => h)
  generalize hw1 : w.alloc (.cells #[.int .i64 c, .int .i64 m] 69) = w1 at h' hB
  have h25' : (w.alloc (.cells #[.int .i64 c, .int .i64 m] 69)).cell? ⟨b, 25, none⟩ = some (.map (some mb)) := by rw [hw1]; exact h'.blk.cell (arenaCells_taken A pv mb fv)
  have H := Lib.hid h
  have H' := Lib.hid h'
  have HB := Lib.hid hB
  have HW1 := Lib.hid hw1
  have hq1 : ((q - 1 : Nat) : Int) = (q : Int) - 1 := by omega
  have hlen := AM.len_le A c t2
  have hsum := hA.sum
  have hfl : (A.free c).length ≤ 1048576 := by omega
  clear h hl hA h' hB hw1 hW hsum hlen
  go_enter Try.func12, Try.ntmps12
  go_wp2_with (first | (with_reducible refine wp_region_text (by kernel_rfl) (by kernel_rfl) ?_) | (with_reducible refine text_fin (by kernel_rfl) ?_) | (at_lookup; refine wpList_lookup_some rfl _ _ 63 true rfl 3 69 (keyL_int Try.underlying3) Try.underlying63 _ (zero_block _) mb rfl HMP.out _ rfl (blkVal c m) HG.out ?_; simp only [blkVal, if_true]) | (show wpList _ _ _ (⟨_, Op.call ⟨Callee.builtin Builtin.delete, _, _⟩, _, _, _, _⟩ :: _) _ _; refine Stop.out ?_))
  refine ⟨?_⟩
  rw [HW1.out]
  refine wpList_delete_kv rfl _ _ 63 3 rfl 3 69 (keyL_int Try.underlying3) Try.underlying63 mb rfl H'.out.mp (q : Int) rfl ?_
  intro w2 hm2 hk2 hs2
  rw [kvDel_of] at hm2
  have hA2 := H'.out.setTaken hk2 hm2
  have hB2 := HB.out.keeps hk2 (Nat.ne_of_gt (H.out.lt _ H.out.sm))
  have e26 : w2.cell? ⟨b, 26, none⟩ = some (.int .i64 A.used) := hA2.blk.cell (arenaCells_used _ pv mb fv)
  have f26 := hA2.blk.free 26
  have e31 : w2.cell? ⟨w.heap.size, 0, none⟩ = some (.int .i64 c) := hB2.cell (i := 0) rfl
  have hbg : b ≠ w.heap.size := Nat.ne_of_lt (H.out.lt _ H.out.sb)
  have hA3 := hA2.setUsed (A.used - pw c)
  rw [Int.ofNat_sub hu2] at hA3
  have hB3 := hB2.set_other (a := ⟨b, 26, none⟩) (Ne.symm hbg) (.int .i64 ((A.used : Int) - (pw c : Nat)))
  have HA3 := Lib.hid hA3
  have HB3 := Lib.hid hB3
  have hKw : Keeps S w w2 := (HW1.out ▸ (Keeps.refl S w).alloc _ : Keeps S w w1).trans hk2 (fun x _ hx => hx ▸ H.out.sm)
  have HKw := Lib.hid (hKw.setCell (p := ⟨b, 26, none⟩) (fun _ => H.out.sb) (.int .i64 ((A.used : Int) - (pw c : Nat))))
  have hPush : ∀ w0 v' w1, Keeps (fun _ => False) (w2.setCell ⟨b, 26, none⟩ (.int .i64 ((A.used : Int) - (pw c : Nat)))) w0 → Appended w0 w1 3 1 (fv c) v' ((A.free c).length + 1) (ints (A.free c) ++ [.int .i64 ((q : Int) - 1)]) →
      IsArena (w1.setCell ⟨b, 3 + c, none⟩ v') b (A.give q c) (Ext S (w2.setCell ⟨b, 26, none⟩ (.int .i64 ((A.used : Int) - (pw c : Nat)))) (w1.setCell ⟨b, 3 + c, none⟩ v')) ∧ Keeps S (w2.setCell ⟨b, 26, none⟩ (.int .i64 ((A.used : Int) - (pw c : Nat)))) (w1.setCell ⟨b, 3 + c, none⟩ v') ∧ w1.cell? ⟨b, 3 + c, none⟩ = some (fv c) ∧ w1.frozen? ⟨b, 3 + c, none⟩ = false ∧
      Keeps (fun g => g ≠ w.heap.size) (w2.setCell ⟨b, 26, none⟩ (.int .i64 ((A.used : Int) - (pw c : Nat)))) w1 := by
    intro w0 v' w1 k0 ha
    rw [← hq1] at ha
    obtain ⟨g1, g2, g3, g4⟩ := hA3.pushed t2 k0 ha
    exact ⟨g1, g2, g3, g4, (k0.mono fun _ _ h => h.elim).trans ha.keeps fun g _ hg he => hB3.ne_row (hA3.fr c t2) (by decide) hg he.symm⟩
  have hHold : ∀ W, Keeps (fun g => g ≠ w.heap.size) (w2.setCell ⟨b, 26, none⟩ (.int .i64 ((A.used : Int) - (pw c : Nat)))) W → W.cell? ⟨w.heap.size, 0, none⟩ = some (.int .i64 c) :=
    fun W hW => (hB3.keeps hW fun h => h rfl).cell (i := 0) rfl
  obtain ⟨a4, cap4, hfv, hc4, hc5⟩ := (hA3.fr c t2).len
  have e3c : w2.cell? ⟨b, 3 + c, none⟩ = some (.slice a4 (A.free c).length cap4) := by rw [← hfv]; exact hA2.blk.cell (arenaCells_free _ pv mb fv c t2)
  have HPu := Lib.hid hPush
  have HHo := Lib.hid hHold
  have HV := Lib.hid hfv
  have HR := Lib.hid (hA3.fr c t2)
  clear hPush hHold hfv hKw
  clear hA3 hB3 hk2 hA2 hq1 hB2 hs2 hm2
  go_wp2_with (first | (show Code.wp _ (Code.region 6 _ _) _ _ _; refine Stop.out ?_) | (with_reducible refine wp_region_text (by kernel_rfl) (by kernel_rfl) ?_) | (with_reducible refine text_fin (by kernel_rfl) ?_))
  refine ⟨?_⟩
  refine wp_region_held_text (fun W => W.cell? ⟨w.heap.size, 0, none⟩ = some (.int .i64 c)) [2] (by kernel_rfl) (by kernel_rfl) (HHo.out _ (by repeat (first | exact Keeps.refl _ _ | apply Keeps.drew | apply Keeps.alloc))) ?_
  go_wp2_with (first | (refine wpH_load rfl _ _ rfl _ rfl rfl _ _ rfl (fun _ h => h) (HHo.out _ (by repeat (first | exact Keeps.refl _ _ | apply Keeps.drew | apply Keeps.alloc))) ?_) | (refine wpH_walk rfl rfl ?_) | (refine held_fin (HHo.out _ (by repeat (first | exact Keeps.refl _ _ | exact HK4.out | apply Keeps.drew | apply Keeps.alloc | (refine Keeps.setCell ?_ (fun _ => hbg) _)))) ?_) | (refine wpH_nil ?_) | (with_reducible refine text_fin (by kernel_rfl) ?_) | (at_builtin; go_must (refine wpList_append_row _ rfl _ _ 40 40 rfl 3 (.slice 3) 1 8 (.int .i64 0) info_int Try.underlying40 Try.underlying40 (by intro k h; cases h) rfl (fv c) (A.free c).length (ints (A.free c)) HV.out.symm (HR.out.keeps (S := fun _ => False) (by repeat (first | exact Keeps.refl _ _ | apply Keeps.drew | apply Keeps.alloc)) (fun _ _ h => h)) _ 1 [.int .i64 ((q : Int) - 1)] rfl rfl (lenOf_slice _ _ _) (firstCells_at _ rfl (one_newAt (World.size_setCell ..).symm)) (by intro u hu; simp at hu; subst hu; rfl) (by unfold maxLen; omega) (by omega) ?_); intro v' w4 ha; obtain ⟨va, vc, rfl, _, _⟩ := ha.row.len; obtain ⟨g1, g2, g3, g4, g5⟩ := HPu.out _ _ w4 (by repeat (first | exact Keeps.refl _ _ | apply Keeps.drew | apply Keeps.alloc)) ha; rw [HV.out] at g3; have G1 := Lib.hid g1; have G2 := Lib.hid g2; have HK4 := Lib.hid g5; clear g1 g2 g5 ha))
  go_ret
  have hf := HKw.out.trans G2.out (fun g _ h => h)
  exact ⟨rfl, G1.out.wider (fun g hg => hg.imp id fun hg => ⟨Nat.le_trans HKw.out.size hg.1, hg.2⟩) (fun g hg => hg.elim (fun hg => Nat.lt_of_lt_of_le (H.out.lt g hg) hf.size) (fun hg => hg.2)), hf⟩
end Go.Proofs.Ytacedeaopgbdhaa

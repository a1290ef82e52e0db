import Derived.Test.YtacedeaopgbdhaaDcE
import Derived.Test.YtacedeaopgbdhaaHg
/-
  The law's On: same, New: what the Go code does.
-/
namespace Go.Tx
open Go Go.RowKit
theorem nums_pos (l : List DB) : nums (l.map fun b => ((b.pos + 1 : Nat) : Int)) = ints (l.map posN) := by
  simp [nums, ints, posN, List.map_map]
/-- what New leaves: both arenas, or none -/
def OnNew (w : World) (e : Ending) (w' : World) : Prop :=
  ∃ o, e = .returned (.tuple #[.pointer (some ⟨o, 0, none⟩), .bool true]) ∧ Keeps (fun _ => False) w w' ∧ (Plays w o 0 w' ∨ w'.cell? ⟨o, 0, none⟩ = some (.pointer none))
end Go.Tx
namespace Go.Proofs.Ytacedeaopgbdhaa
open Go.RowKit Go.Tx
set_option maxRecDepth 100000 in
set_option maxHeartbeats 1600000 in
theorem onsame_any {w wr : World} {o n : Nat} (h : Plays w o n wr) : Calls Try.prog 23 #[.pointer (some ⟨o, 0, none⟩)] wr fun e w' => e = .returned (.bool true) ∧ Keeps (fun _ => False) wr w' := by
  obtain ⟨b, d, rv, ns, A, D, S, T, hP, hL, hA, hl⟩ := h
  have hs := hL.small hA
  have o0 : wr.cell? ⟨o, 0, none⟩ = some (.pointer (some ⟨b, 0, none⟩)) := hP.on.cell (i := 0) rfl
  have o1 : wr.cell? ⟨o, 1, none⟩ = some (.pointer (some ⟨d, 0, none⟩)) := hP.on.cell (i := 1) rfl
  have d3 : wr.cell? ⟨d, 3, none⟩ = some (.int .i64 (A.used : Nat)) := by
    obtain ⟨tv, L, fb, gv, hd⟩ := hP.doc
    rw [← hL.half.used]
    exact hd.blk.cell (i := 3) rfl
  have d2 : wr.cell? ⟨d, 2, none⟩ = some (.int .i64 (A.top : Nat)) := by
    obtain ⟨tv, L, fb, gv, hd⟩ := hP.doc
    rw [← hL.half.top]
    exact hd.blk.cell (i := 2) rfl
  have HC : Hid (∀ V, Keeps (fun _ => False) wr V → V.cell? ⟨o, 0, none⟩ = some (.pointer (some ⟨b, 0, none⟩)) ∧ V.cell? ⟨o, 1, none⟩ = some (.pointer (some ⟨d, 0, none⟩)) ∧ V.cell? ⟨d, 3, none⟩ = some (.int .i64 (A.used : Nat)) ∧ V.cell? ⟨d, 2, none⟩ = some (.int .i64 (A.top : Nat))) := Lib.hid fun V hk => ⟨hk.cell o0 id, hk.cell o1 id, hk.cell d3 id, hk.cell d2 id⟩
  have HP := Lib.hid hP
  have HL := Lib.hid hL
  have HA := Lib.hid hA
  have HSM := Lib.hid hs
  have HAR : Hid (∀ V, Keeps (fun _ => False) wr V → IsArena V b A S) := Lib.hid fun V hk => hP.ar.keeps hk fun _ _ h => h
  have HB1 : Hid (Keeps (fun _ => False) wr wr.drew) := Lib.hid (Keeps.drew (Keeps.refl _ _))
  clear hP hL hA hs o0 o1 d3 d2
  go_enter Try.func23, Try.ntmps23
  go_wp2_with (first | (show Code.wp _ (Code.region 1 _ _) _ _ _; refine Stop.out ?_))
  refine ⟨?_⟩
  refine wp_region_held_text (fun V => V.cell? ⟨o, 0, none⟩ = some (.pointer (some ⟨b, 0, none⟩)) ∧ V.cell? ⟨o, 1, none⟩ = some (.pointer (some ⟨d, 0, none⟩)) ∧ V.cell? ⟨d, 3, none⟩ = some (.int .i64 (A.used : Nat)) ∧ V.cell? ⟨d, 2, none⟩ = some (.int .i64 (A.top : Nat))) [8, 11, 22, 25, 37] (by kernel_rfl) (by kernel_rfl) (HC.out _ HB1.out) ?_
  go_wp2_with (first | (go_at_call 14; refine (used_any (HAR.out _ HB1.out)).mono ?_; rintro e x1 ⟨rfl, rfl⟩) | (go_at_call 15; refine (top_any (HAR.out _ HB1.out)).mono ?_; rintro e x1 ⟨rfl, rfl⟩) | (go_at_call 19; refine Stop.out ?_) | (refine wpH_loadG _ _ rfl _ rfl rfl _ _ (by kernel_rfl) rfl (fun _ h => h.1) (HC.out _ HB1.out) ?_) | (refine wpH_loadG _ _ rfl _ rfl rfl _ _ (by kernel_rfl) rfl (fun _ h => h.2.1) (HC.out _ HB1.out) ?_) | (refine wpH_loadG _ _ rfl _ rfl rfl _ _ (by kernel_rfl) rfl (fun _ h => h.2.2.1) (HC.out _ HB1.out) ?_) | (refine wpH_loadG _ _ rfl _ rfl rfl _ _ (by kernel_rfl) rfl (fun _ h => h.2.2.2) (HC.out _ HB1.out) ?_) | (refine wpH_walkG rfl ?_) | (refine held_fin (HC.out _ HB1.out) ?_) | (refine wpH_nil ?_) | (with_reducible refine text_fin (by kernel_rfl) ?_))
  refine ⟨(blocks_any (HAR.out _ HB1.out) HA.out).mono ?_⟩
  rintro e w2 ⟨lv, ms, rfl, hp, hr, hrow, ha2, hk2⟩
  have hms := HL.out.names hp hr
  have HB2 : Hid (Keeps (fun _ => False) wr w2) := Lib.hid (HB1.out.trans hk2 fun _ _ h => h)
  have HRW : Hid (Row w2 3 1 lv D.taken.length (ints (D.taken.map posN))) := Lib.hid (by
    rw [hms, nums_pos, List.length_map] at hrow
    exact hrow)
  clear hp hr hrow ha2 hk2 hms
  go_wp2_with (first | (go_at_call 42; refine Stop.out ?_) | (refine wpH_loadG _ _ rfl _ rfl rfl _ _ (by kernel_rfl) rfl (fun _ h => h.1) (HC.out _ HB2.out) ?_) | (refine wpH_loadG _ _ rfl _ rfl rfl _ _ (by kernel_rfl) rfl (fun _ h => h.2.1) (HC.out _ HB2.out) ?_) | (refine wpH_loadG _ _ rfl _ rfl rfl _ _ (by kernel_rfl) rfl (fun _ h => h.2.2.1) (HC.out _ HB2.out) ?_) | (refine wpH_loadG _ _ rfl _ rfl rfl _ _ (by kernel_rfl) rfl (fun _ h => h.2.2.2) (HC.out _ HB2.out) ?_) | (refine wpH_walkG rfl ?_) | (refine held_fin (HC.out _ HB2.out) ?_) | (refine wpH_nil ?_) | (with_reducible refine text_fin (by kernel_rfl) ?_))
  refine ⟨(dblocks_any (HP.out.doc.keeps HB2.out fun _ _ h => h) HSM.out.count HSM.out.pos).mono ?_⟩
  rintro e w3 ⟨lv2, rfl, hrow2, hk3⟩
  have HB3 : Hid (Keeps (fun _ => False) wr w3) := Lib.hid (HB2.out.trans hk3 fun _ _ h => h)
  have HRX : Hid (Row w3 3 1 lv D.taken.length (nums (D.taken.map fun b => ((b.pos + 1 : Nat) : Int)))) := Lib.hid (by rw [nums_pos]; exact HRW.out.keeps hk3 fun _ _ h => h)
  have HRY : Hid (Row w3 3 1 lv2 D.taken.length (nums (D.taken.map fun b => ((b.pos + 1 : Nat) : Int)))) := Lib.hid (by rw [nums_pos]; exact hrow2)
  clear hrow2 hk3
  go_wp2_with (first | (go_at_call 41; refine Stop.out ?_) | (refine wpH_loadG _ _ rfl _ rfl rfl _ _ (by kernel_rfl) rfl (fun _ h => h.1) (HC.out _ HB3.out) ?_) | (refine wpH_loadG _ _ rfl _ rfl rfl _ _ (by kernel_rfl) rfl (fun _ h => h.2.1) (HC.out _ HB3.out) ?_) | (refine wpH_loadG _ _ rfl _ rfl rfl _ _ (by kernel_rfl) rfl (fun _ h => h.2.2.1) (HC.out _ HB3.out) ?_) | (refine wpH_loadG _ _ rfl _ rfl rfl _ _ (by kernel_rfl) rfl (fun _ h => h.2.2.2) (HC.out _ HB3.out) ?_) | (refine wpH_walkG rfl ?_) | (refine held_fin (HC.out _ HB3.out) ?_) | (refine wpH_nil ?_) | (with_reducible refine text_fin (by kernel_rfl) ?_))
  refine ⟨(sameInts_eq HRX.out HRY.out).mono ?_⟩
  rintro e w4 ⟨rfl, hk4⟩
  have HB4 : Hid (Keeps (fun _ => False) wr w4) := Lib.hid (HB3.out.trans hk4 fun _ _ h => h)
  clear hk4
  go_wp2_with (first | (refine wpH_walkG rfl ?_) | (refine held_fin (HC.out _ HB4.out) ?_) | (refine wpH_nil ?_) | (with_reducible refine text_fin (by kernel_rfl) ?_))
  go_ret
  exact ⟨rfl, HB4.out⟩
end Go.Proofs.Ytacedeaopgbdhaa

import Derived.Test.YtacedeaopgbdhaaDaT
import Derived.Test.YtacedeaopgbdhaaRegC
/-
  The document's arena: a place taken: what the Go code does where a greater block is cut in halves, or there is none.
-/
namespace Go.Tx
open Go Go.RowKit
theorem wide_one (W : World) (e : TypeId) (x : Value) : Wide (W.alloc (.cells #[x] e)) e 1 (.slice (some ⟨W.heap.size, 0, none⟩) 1 1) 1 [x] :=
  ⟨rfl, .inr ⟨_, 1, #[x], rfl, heap_alloc_new W _, Nat.le_refl _, by simp [maxLen], by simp, rfl⟩⟩
theorem firstCells_zero {P : Program} (size n c : Nat) (ad : Option Addr) (W : World) : (Builtin.firstCells size 0 (.slice ad n c)).run P W = .ok ([] : List Value).toArray W := by
  cases ad with
  | none => exact firstCells_nil _ _ _ _ _
  | some x => exact firstCells_at (w := W) (c := c) (news := []) (by simp) (by simp) W rfl
/-- what the inner loop holds of: from here on the halves come to the end -/
def DHalvesAt (w : World) (b : Nat) (S : Nat → Prop) (p c k0 : Nat) (F : DM) (v : Value) (wr : World) : Prop :=
  ∃ (k : Nat) (E : DM), c ≤ k ∧ k ≤ k0 ∧ v = .int .i64 (k : Nat) ∧ IsDoc wr b E (Ext S w wr) ∧ Keeps S w wr ∧ DM.halves p c (k - c) E = F ∧ ∀ j, c ≤ j → j < k → E.free j = []
theorem DM.halves_step (p c j : Nat) (hj : c ≤ j) (E : DM) (he : E.free j = []) : DM.halves p c (j + 1 - c) E = DM.halves p c (j - c) (E.setFree j [p + pw j]) := by
  rw [show j + 1 - c = (j - c) + 1 by omega]
  show DM.halves p c (j - c) (E.push (c + (j - c)) (p + pw (c + (j - c)))) = _
  rw [show c + (j - c) = j by omega]
  unfold DM.push
  rw [he]
theorem IsDoc.wider {w : World} {b : Nat} {D : DM} {S T : Nat → Prop} (h : IsDoc w b D S) (hs : ∀ g, S g → T g) (ht : ∀ g, T g → g < w.heap.size) : IsDoc w b D T := by
  obtain ⟨tv, L, fb, gv, h⟩ := h
  exact ⟨tv, L, fb, gv, h.wider hs ht⟩
theorem IsDoc.lt {w : World} {b : Nat} {D : DM} {S : Nat → Prop} (h : IsDoc w b D S) : ∀ k, S k → k < w.heap.size := by
  obtain ⟨tv, L, fb, gv, h⟩ := h
  exact h.lt
end Go.Tx
namespace Go.Proofs.Ytacedeaopgbdhaa
open Go.RowKit Go.Tx
theorem wrap_place (p m : Nat) (hp : p + m ≤ 1048576) : wrap64 ((p : Int) + (m : Int)) = (p : Int) + (m : Int) := by
  unfold wrap64; omega
theorem wrap_small (m : Nat) (hp : m ≤ 1048576) : wrap64 (m : Int) = (m : Nat) := by
  unfold wrap64; omega
theorem pw_wraps (p j kk : Nat) (h : j ≤ kk) (hp : p + pw kk ≤ 1048576) : wrap64 ((2 : Int) ^ j) = (pw j : Nat) ∧ wrap64 ((p : Int) + ((pw j : Nat) : Int)) = (p : Int) + ((pw j : Nat) : Int) := by
  have h1 := pw_mono h
  rw [pw_int]
  exact ⟨wrap_small _ (by omega), wrap_place _ _ (by omega)⟩
set_option maxRecDepth 100000 in
set_option maxHeartbeats 1600000 in
theorem dtake_search {w : World} {b : Nat} {D : DM} {S : Nat → Prop} (h : IsDoc w b D S) {c : Nat} (hc : c < 22) (hf : D.free c = []) (hs : D.size ≤ 1048576) (htp : D.top ≤ 1048576) (ht : ¬ D.top + pw c ≤ D.size)
    (hF : ∀ k, 22 ≤ k → D.free k = []) (hP : ∀ k p, p ∈ D.free k → p + pw k ≤ 1048576) (hL : ∀ k, (D.free k).length ≤ 1048576) :
    Calls Try.prog 49 #[.pointer (some ⟨b, 0, none⟩), .int .i64 c] w (DTakePost D b S c w) := by
  obtain ⟨tv, L, fb, gv, h⟩ := h
  have hfr := h.fr c (by omega)
  rw [hf] at hfr
  have e1 := gv_cell h (k := c) (by omega)
  obtain ⟨ga, cap, hgv, hc1, hc2⟩ := hfr.len
  rw [hgv, List.length_nil] at e1
  have c0 : w.cell? ⟨b, 0, none⟩ = some (.int .i64 (D.size : Nat)) := h.blk.cell (i := 0) rfl
  have c2 : w.cell? ⟨b, 2, none⟩ = some (.int .i64 (D.top : Nat)) := h.blk.cell (i := 2) rfl
  have c5 : w.cell? ⟨b, 5, none⟩ = some (.slice (some ⟨fb, 0, none⟩) 40 40) := h.blk.cell (i := 5) rfl
  have hp := pw_21 (c := c) (by omega)
  have hwr : wrap64 ((2 : Int) ^ c) = (pw c : Nat) := by rw [pw_int]; unfold wrap64; omega
  have hd : decide ((D.top : Int) + ((pw c : Nat) : Int) ≤ (D.size : Int)) = false := by simp; omega
  have HD := Lib.hid h
  have HF0 := Lib.hid hf
  have HHI := Lib.hid hF
  have HPL := Lib.hid hP
  have HLN := Lib.hid hL
  have HTN := Lib.hid ht
  clear h hfr hgv hf hF hP hL ht
  go_enter Try.func49, Try.ntmps49
  go_wp2_with (first | (with_reducible refine wp_region_text (by kernel_rfl) (by kernel_rfl) ?_) | (with_reducible refine text_fin (by kernel_rfl) ?_))
  clear hwr c0 c2 e1 hd hp
  go_loop [7] (fun k => ∃ kk : Nat, c + 1 ≤ kk ∧ kk ≤ 40 ∧ k = .int .i64 (kk : Nat) ∧ Hid (∀ j, c + 1 ≤ j → j < kk → D.free j = [])) (fun k => 40 - (intOf k).toNat)
  case atStart => exact ⟨c + 1, by omega, by omega, by go_num, Lib.hid fun j h1 h2 => by omega⟩
  case round =>
    obtain ⟨kk, hk1, hk2, rfl, HN⟩ := hrel
    by_cases hk : kk < 40
    · have e2 := gv_cell HD.out (k := kk) hk
      rcases hfk : D.free kk with _ | ⟨p, l⟩
      · have hfr := HD.out.fr kk hk
        rw [hfk] at hfr
        obtain ⟨ga2, cap2, hgv2, _, _⟩ := hfr.len
        rw [hgv2, List.length_nil] at e2
        have HFK := Lib.hid hfk
        clear hfr hgv2 hfk
        go_wp2
        go_round
        case rel => exact ⟨kk + 1, by omega, by omega, by go_num, Lib.hid fun j h1 h2 => by
          by_cases he : j = kk
          · rw [he]; exact HFK.out
          · exact HN.out j h1 (by omega)⟩
        case measure => simp [intOf]; omega
      · have hfr := HD.out.fr kk hk
        rw [hfk] at hfr
        obtain ⟨g, cap2, hgv2, hc3, hc4⟩ := hfr.form (by simp)
        rw [hgv2] at hfr e2
        rw [List.length_cons] at hfr e2 hc3
        have hk22 : kk < 22 := by
          apply Decidable.byContradiction
          intro hh
          rw [HHI.out kk (by omega)] at hfk
          cases hfk
        have hpp := HPL.out kk p (by rw [hfk]; simp)
        have hl := HLN.out kk
        rw [hfk, List.length_cons] at hl
        have cg : w.cell? ⟨g, 0, none⟩ = some (.int .i64 (p : Nat)) := hfr.cell (i := 0) rfl
        have HHo : Hid (∀ W, Keeps (fun _ => False) w W → W.cell? ⟨b, 5, none⟩ = some (.slice (some ⟨fb, 0, none⟩) 40 40)) := Lib.hid fun W hk => hk.cell c5 id
        have HTL : Hid (∀ W0, Keeps (fun _ => False) w W0 → ∀ ad c, (ad = some ⟨g, 1, none⟩ ∨ (ad = some ⟨g, 0, none⟩ ∧ l.length + 1 ≤ 1)) → ∀ W : World, W.heap = W0.heap → (Builtin.firstCells 1 l.length (.slice ad l.length c)).run Try.prog W = .ok (ints l).toArray W) := Lib.hid fun W0 k ad c ho W hW => by
          rcases ho with rfl | ⟨rfl, ho⟩
          · exact tail_one (k := 1) (hfr.keeps k (fun _ _ h => h)) 1 c (.inl rfl) W hW
          · exact tail_one (k := 1) (hfr.keeps k (fun _ _ h => h)) 0 c (.inr ho) W hW
        have HA : Hid (∀ w0 w1 v, AppendedW w0 w1 3 1 (.slice none 0 0) v l.length (ints l) → Keeps (fun _ => False) w w0 → IsDoc (w1.setCell ⟨fb, kk, none⟩ v) b (D.setFree kk l) (Ext S w (w1.setCell ⟨fb, kk, none⟩ v)) ∧ Keeps S w (w1.setCell ⟨fb, kk, none⟩ v) ∧ w1.cell? ⟨fb, kk, none⟩ = some (.slice (some ⟨g, 0, none⟩) (l.length + 1) cap2) ∧ w1.frozen? ⟨fb, kk, none⟩ = false ∧ w1.cell? ⟨b, 5, none⟩ = some (.slice (some ⟨fb, 0, none⟩) 40 40) ∧ (w1.setCell ⟨fb, kk, none⟩ v).cell? ⟨b, 5, none⟩ = some (.slice (some ⟨fb, 0, none⟩) 40 40)) := Lib.hid fun w0 w1 v ha k0 => by
          have := HD.out.turned (k := kk) hk k0 (v0 := .slice none 0 0) (v := v) (l := l) ha (fun g hg => by simp [Value.ownBlock] at hg)
          rwa [hgv2] at this
        have HFK := Lib.hid hfk
        unfold maxLen at hc4
        obtain ⟨ad, hif⟩ : ∃ ad, (if cap2 = 1 then (some ⟨g, 0, none⟩ : Option Addr) else some ⟨g, 1, none⟩) = ad := ⟨_, rfl⟩
        have HAD : Hid (ad = some ⟨g, 1, none⟩ ∨ (ad = some ⟨g, 0, none⟩ ∧ l.length + 1 ≤ 1)) := Lib.hid (by
          by_cases hcc : cap2 = 1
          · exact .inr ⟨by rw [← hif]; exact if_pos hcc, by omega⟩
          · exact .inl (by rw [← hif]; exact if_neg hcc))
        clear hfr hgv2 hfk
        go_wp2_with (first | (show Code.wp _ (Code.region 14 _ _) _ _ _; refine Stop.out ?_) | (with_reducible refine wp_region_text (by kernel_rfl) (by kernel_rfl) ?_) | (with_reducible refine text_fin (by kernel_rfl) ?_))
        refine ⟨?_⟩
        refine wp_region_held_text (fun W => W.cell? ⟨b, 5, none⟩ = some (.slice (some ⟨fb, 0, none⟩) 40 40)) [3] (by kernel_rfl) (by kernel_rfl) (HHo.out _ (by repeat (first | with_reducible exact Keeps.refl _ _ | with_reducible apply Keeps.drew | with_reducible apply Keeps.alloc))) ?_
        go_wp2_with (first | (refine wpH_load rfl _ _ rfl _ rfl rfl _ _ rfl (fun _ h => h) (by first | assumption | exact HHo.out _ (by repeat (first | with_reducible exact Keeps.refl _ _ | with_reducible apply Keeps.drew | with_reducible apply Keeps.alloc))) ?_) | (refine wpH_walk rfl rfl ?_) | (refine held_fin (by first | assumption | exact HHo.out _ (by repeat (first | with_reducible exact Keeps.refl _ _ | with_reducible apply Keeps.drew | with_reducible apply Keeps.alloc))) ?_) | (refine wpH_nil ?_) | (with_reducible refine text_fin (by kernel_rfl) ?_) | (at_builtin; go_must (refine wpList_append_wide _ rfl _ _ 40 40 rfl 3 (.slice 3) 1 8 (.int .i64 0) info_int Try.underlying40 Try.underlying40 (by intro k h; cases h) rfl (.slice none 0 0) 0 [] rfl (wide_nil _ _ _) _ l.length (ints l) rfl (by simp [ints]) (lenOf_slice _ _ _) (HTL.out _ (by repeat (first | with_reducible exact Keeps.refl _ _ | with_reducible apply Keeps.drew | with_reducible apply Keeps.alloc)) _ _ HAD.out) ints_cell (by unfold maxLen; omega) (by omega) ?_); intro v' w4 ha; rw [Nat.zero_add] at ha; obtain ⟨va, vc, rfl, _, _⟩ := ha.row.len; obtain ⟨g1, g2, g3, g4, g5, g6⟩ := HA.out _ w4 _ ha (by repeat (first | with_reducible exact Keeps.refl _ _ | with_reducible apply Keeps.drew | with_reducible apply Keeps.alloc)); have G1 := Lib.hid g1; have G2 := Lib.hid g2; clear g1 g2 ha))
        have HH : Hid (DHalvesAt w b S p c kk (DM.halves p c (kk - c) (D.setFree kk l)) (.int .i64 (kk : Nat)) (w4.setCell ⟨fb, kk, none⟩ (.slice va l.length vc))) := Lib.hid ⟨kk, _, by omega, Nat.le_refl _, rfl, G1.out, G2.out, rfl, fun j h1 h2 => by
          show AM.updF D.free kk l j = []
          rw [AM.updF_other _ _ (by omega)]
          by_cases he : j = c
          · rw [he]; exact HF0.out
          · exact HN.out j (by omega) h2⟩
        clear g3 g4 g5 g6 cg e2 c5
        go_loopw [7] (fun v wr => DHalvesAt w b S p c kk (DM.halves p c (kk - c) (D.setFree kk l)) v wr) (fun v _ => (intOf v).toNat)
        case atStart => exact HH.out
        case round =>
          obtain ⟨k1, E, hk3, hk4, rfl, ⟨tv2, L2, fb2, gv2, HB⟩, HKs, HFin, HE⟩ := hrel
          by_cases hkc : k1 = c
          · subst hkc
            have HFi : Hid (IsDoc wr b (DM.halves p k1 (kk - k1) (D.setFree kk l)) (Ext S w wr)) := Lib.hid (by
              rw [← HFin, Nat.sub_self]
              exact ⟨tv2, L2, fb2, gv2, HB⟩)
            have HK2 := Lib.hid HKs
            have HTK : Hid (D.take k1 = (some p, DM.halves p k1 (kk - k1) (D.setFree kk l))) := Lib.hid (by
              have := DM.take_cut HF0.out HTN.out (DM.find_eq (D := D) hk1 hk (by rw [HFK.out]; simp) HN.out)
              rw [HFK.out] at this
              exact this)
            clear HB HKs HFin HE
            go_wp2
            go_ret
            exact ⟨_, _, HTK.out, rfl, HFi.out, HK2.out⟩
          · obtain ⟨j, rfl⟩ : ∃ j, k1 = j + 1 := ⟨k1 - 1, by omega⟩
            have hj40 : j < 40 := by omega
            have hej := HE j (by omega) (by omega)
            obtain ⟨hwj, hadd⟩ := pw_wraps p j kk (by omega) hpp
            clear hpp
            have d5 : wr.cell? ⟨b, 5, none⟩ = some (.slice (some ⟨fb2, 0, none⟩) 40 40) := HB.blk.cell (i := 5) rfl
            have e3 := gv_cell HB (k := j) hj40
            have hfr := HB.fr j hj40
            rw [hej] at hfr
            obtain ⟨ga3, cap3, hgv3, hc5, hc6⟩ := hfr.len
            rw [hgv3, List.length_nil] at e3
            have e4 : (wr.alloc (.cells #[.int .i64 ((p : Int) + (pw j : Nat))] 3)).cell? ⟨fb2, j, none⟩ = some (.slice ga3 0 cap3) := Keeps.cell ((Keeps.refl (fun _ => False) wr).alloc _) e3 id
            have HHo2 : Hid (∀ W, Keeps (fun _ => False) wr W → W.cell? ⟨b, 5, none⟩ = some (.slice (some ⟨fb2, 0, none⟩) 40 40) ∧ ∃ v, W.cell? ⟨fb2, j, none⟩ = some v) := Lib.hid fun W hk => ⟨hk.cell d5 id, _, hk.cell e3 id⟩
            have HA2 : Hid (∀ w0 w1 v, AppendedW w0 w1 3 1 (.slice (some ⟨wr.heap.size, 0, none⟩) 1 1) v (1 + 0) ([.int .i64 ((p : Int) + (pw j : Nat))] ++ []) → Keeps (fun _ => False) wr w0 → IsDoc (w1.setCell ⟨fb2, j, none⟩ v) b (E.setFree j [p + pw j]) (Ext (Ext S w wr) wr (w1.setCell ⟨fb2, j, none⟩ v)) ∧ Keeps (Ext S w wr) wr (w1.setCell ⟨fb2, j, none⟩ v) ∧ w1.cell? ⟨fb2, j, none⟩ = some (.slice ga3 0 cap3) ∧ w1.frozen? ⟨fb2, j, none⟩ = false ∧ w1.cell? ⟨b, 5, none⟩ = some (.slice (some ⟨fb2, 0, none⟩) 40 40) ∧ ((w1.setCell ⟨fb2, j, none⟩ v).cell? ⟨b, 5, none⟩ = some (.slice (some ⟨fb2, 0, none⟩) 40 40) ∧ ∃ u, (w1.setCell ⟨fb2, j, none⟩ v).cell? ⟨fb2, j, none⟩ = some u)) := Lib.hid fun w0 w1 v ha k0 => by
              have := HB.turned (k := j) hj40 k0 (v0 := .slice (some ⟨wr.heap.size, 0, none⟩) 1 1) (v := v) (l := [p + pw j]) ha (fun g hg => by simp [Value.ownBlock] at hg; omega)
              rw [hgv3] at this
              obtain ⟨q1, q2, q3, q4, q5, q6⟩ := this
              exact ⟨q1, q2, q3, q4, q5, q6, _, World.cell?_setCell_same' w1 ⟨fb2, j, none⟩ v (by rw [q3]; rfl)⟩
            have HK2 := Lib.hid HKs
            have HFi := Lib.hid HFin
            have HE2 := Lib.hid HE
            have HEJ := Lib.hid hej
            clear HB HKs HFin HE hfr hgv3 hej
            go_wp2_with (first | (show Code.wp _ (Code.region 17 _ _) _ _ _; refine Stop.out ?_) | (with_reducible refine wp_region_text (by kernel_rfl) (by kernel_rfl) ?_) | (with_reducible refine text_fin (by kernel_rfl) ?_))
            refine ⟨?_⟩
            refine Tc.wp_region_held_text (fun W => W.cell? ⟨b, 5, none⟩ = some (.slice (some ⟨fb2, 0, none⟩) 40 40) ∧ ∃ v, W.cell? ⟨fb2, j, none⟩ = some v) [3, 14, 1017] (by kernel_rfl) (by kernel_rfl) (HHo2.out _ (by repeat (first | with_reducible exact Keeps.refl _ _ | with_reducible apply Keeps.drew | with_reducible apply Keeps.alloc))) ?_
            go_wp2_with (first | (refine Tc.wpH_load rfl _ _ rfl _ rfl rfl _ _ rfl (fun _ h => h.1) (HHo2.out _ (by repeat (first | with_reducible exact Keeps.refl _ _ | with_reducible apply Keeps.drew | with_reducible apply Keeps.alloc))) ?_) | (refine Tc.wpH_sure rfl rfl _ _ rfl _ rfl rfl _ _ rfl (fun _ h => h.2) e4 (HHo2.out _ (by repeat (first | with_reducible exact Keeps.refl _ _ | with_reducible apply Keeps.drew | with_reducible apply Keeps.alloc))) ?_) | (refine Tc.wpH_walk rfl rfl ?_) | (refine Tc.held_fin (by first | assumption | exact ⟨g5, _, g3⟩ | exact HHo2.out _ (by repeat (first | with_reducible exact Keeps.refl _ _ | with_reducible apply Keeps.drew | with_reducible apply Keeps.alloc))) ?_) | (refine Tc.wpH_nil ?_) | (with_reducible refine Tc.text_fin (by kernel_rfl) ?_) | (at_builtin; go_must (refine wpList_append_wide _ rfl _ _ 40 40 rfl 3 (.slice 3) 1 8 (.int .i64 0) info_int Try.underlying40 Try.underlying40 (by intro k h; cases h) rfl (.slice (some ⟨wr.heap.size, 0, none⟩) 1 1) 1 [.int .i64 ((p : Int) + (pw j : Nat))] rfl (wide_one wr.drew 3 _) _ 0 [] rfl rfl (lenOf_slice _ _ _) (fun W _ => firstCells_zero _ _ _ _ W) (by intro u hu; cases hu) (by unfold maxLen; omega) (by omega) ?_); intro v' w5 ha; obtain ⟨g1, g2, g3, g4, g5, g6⟩ := HA2.out _ w5 _ ha (by repeat (first | with_reducible exact Keeps.refl _ _ | with_reducible apply Keeps.drew | with_reducible apply Keeps.alloc)); obtain ⟨va2, vc2, rfl, _, _⟩ := ha.row.len; have G5 := Lib.hid g1; have G6 := Lib.hid g2; clear g1 g2 ha))
            go_roundw
            case rel =>
              refine ⟨j, E.setFree j [p + pw j], by omega, by omega, by go_num, ?_, HK2.out.trans_ext G6.out, ?_, fun i h1 h2 => ?_⟩
              · exact G5.out.wider (fun g hg => Ext.trans HK2.out.size G6.out.size hg) (fun g hg => by
                  rcases hg with hg | hg
                  · exact Nat.lt_of_lt_of_le (HD.out.lt g hg) (Nat.le_trans HK2.out.size G6.out.size)
                  · exact hg.2)
              · rw [← HFi.out, DM.halves_step p c j (by omega) E HEJ.out]
              · show AM.updF E.free j _ i = []
                rw [AM.updF_other _ _ (by omega)]
                exact HE2.out i h1 (by omega)
            case measure => simp [intOf]
    · have he : kk = 40 := by omega
      subst he
      have HTK : Hid (D.take c = (none, D)) := Lib.hid (DM.take_no HF0.out HTN.out (DM.find_none (D := D) fun i h1 h2 => HN.out i h1 h2))
      have HFD : Hid (∀ W, Keeps (fun _ => False) w W → IsDoc W b D (Ext S w W)) := Lib.hid fun W k => IsDoc.wider ⟨tv, L, fb, gv, HD.out.keeps k fun _ _ h => h⟩ (fun _ h => .inl h) (fun x hx => hx.elim (fun hx => Nat.lt_of_lt_of_le (HD.out.lt x hx) k.size) fun hx => hx.2)
      go_wp2
      go_ret
      exact ⟨_, _, HTK.out, rfl, HFD.out _ (by repeat (first | with_reducible exact Keeps.refl _ _ | with_reducible apply Keeps.drew | with_reducible apply Keeps.alloc)), (by repeat (first | with_reducible exact Keeps.refl _ _ | with_reducible apply Keeps.drew | with_reducible apply Keeps.alloc))⟩
end Go.Proofs.Ytacedeaopgbdhaa

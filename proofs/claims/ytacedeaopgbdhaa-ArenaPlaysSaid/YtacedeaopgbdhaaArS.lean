/-
  The arena: taking a place where the top has no more room: a greater block is cut in halves, or there is none.
-/
import Derived.Test.YtacedeaopgbdhaaArT
namespace Go.Tx
open Go Go.RowKit
section
variable {w w' : World} {b mb : Nat} {A : AM} {S T : Nat → Prop} {pv : Value} {fv : Nat → Value} {c : Nat}

/-- a place put to the free ones of class c: behind the append -/
theorem ArenaAt.pushed (h : ArenaAt w b A S pv mb fv) (hc : c < 22) {w0 w1 : World} {v : Value} {p : Nat} (k0 : Keeps (fun _ => False) w w0) (ha : Appended w0 w1 3 1 (fv c) v ((A.free c).length + 1) (ints (A.free c) ++ [.int .i64 (p : Nat)])) :
    IsArena (w1.setCell ⟨b, 3 + c, none⟩ v) b (A.push c p) (Ext S w (w1.setCell ⟨b, 3 + c, none⟩ v)) ∧ Keeps S w (w1.setCell ⟨b, 3 + c, none⟩ v) ∧ w1.cell? ⟨b, 3 + c, none⟩ = some (fv c) ∧ w1.frozen? ⟨b, 3 + c, none⟩ = false := by
  have hk : Keeps (Own (fv c)) w w1 := (k0.mono fun _ _ h => h.elim).trans ha.keeps fun g _ hg => hg
  have hb := h.row_turned hc hk
  have hrow : Row w1 3 1 v (A.free c ++ [p]).length (ints (A.free c ++ [p])) := by
    have := ha.row
    simpa [ints] using this
  have hown : ∀ g, v.ownBlock = some g → (fv c).ownBlock = some g ∨ Fresh w w1 g := by
    intro g hg
    rcases ha.own with ho | ⟨ho, hs⟩
    · rw [ho] at hg; exact .inl hg
    · rw [ho] at hg; simp at hg; subst hg
      exact .inr ⟨k0.size, by omega⟩
  have hA := hb.setFv hc hrow (fun g hg => (hown g hg).imp (h.sf c hc g) id) (fun d hd hdc g hg hd2 => by
    rcases hown g hg with ho | ho
    · exact h.apart c d hc hd (Ne.symm hdc) g ho hd2
    · have := (h.fr d hd).lt hd2
      have := ho.1
      omega)
  have hkS : Keeps S w (w1.setCell ⟨b, 3 + c, none⟩ v) := (hk.mono fun g _ hg => h.sf c hc g hg).setCell (fun _ => h.sb) _
  refine ⟨⟨_, _, _, hA.wider (fun g hg => ?_) (fun g hg => ?_)⟩, hkS, hb.blk.cell (arenaCells_free A pv mb fv c hc), hb.blk.free _⟩
  · rcases hg with hg | hg
    · exact .inl hg
    · exact .inr ⟨hg.1, by simpa using hg.2⟩
  · rcases hg with hg | hg
    · exact Nat.lt_of_lt_of_le (h.lt g hg) hkS.size
    · exact hg.2
theorem Ext.trans {a b c : World} (h : a.heap.size ≤ b.heap.size) (k : b.heap.size ≤ c.heap.size) {g : Nat} (hg : Ext (Ext S a b) b c g) : Ext S a c g := by
  rcases hg with (hg | hg) | hg
  · exact .inl hg
  · exact .inr ⟨hg.1, Nat.lt_of_lt_of_le hg.2 k⟩
  · exact .inr ⟨Nat.le_trans h hg.1, hg.2⟩
theorem Keeps.trans_ext {a b c : World} (h : Keeps S a b) (k : Keeps (Ext S a b) b c) : Keeps S a c := h.trans k fun g hg he => by
  rcases he with he | he
  · exact he
  · have := he.1; omega
end
/-- what the inner loop holds of: from here on the halves come to the end -/
def HalvesAt (w : World) (b : Nat) (S : Nat → Prop) (p c k0 : Nat) (F : AM) (bound : Nat) (v : Value) (wr : World) : Prop :=
  ∃ (k : Nat) (B : AM), c < k ∧ k ≤ k0 ∧ v = .int .i64 (k : Nat) ∧ IsArena wr b B (Ext S w wr) ∧ Keeps S w wr ∧ AM.halves p c (k - c) B = F ∧ B.freeSum + pw k ≤ bound
/-- what the search comes to -/
def SearchPost (A : AM) (c b : Nat) (S : Nat → Prop) (w : World) (e : Ending) (w' : World) : Prop :=
  match A.find (c + 1) with
  | some k => e = .returned (.int .i64 (AM.last (A.free k) : Nat)) ∧ IsArena w' b (AM.halves (AM.last (A.free k)) c (k - c) (A.pop k)) (Ext S w w') ∧ Keeps S w w'
  | none => e = .returned (.int .i64 (-1)) ∧ w' = w.drew
theorem searchPost_none {A : AM} {c b : Nat} {S : Nat → Prop} {w : World} (h : ∀ j, c + 1 ≤ j → j < 22 → A.free j = []) : SearchPost A c b S w (.returned (.int .i64 (-1))) w.drew := by
  unfold SearchPost
  cases hf : A.find (c + 1) with
  | none => exact ⟨rfl, rfl⟩
  | some k =>
    obtain ⟨a1, a2, a3, _⟩ := AM.find_some hf
    exact absurd (h k a1 a2) a3
theorem searchPost_some {A : AM} {c b kk : Nat} {S : Nat → Prop} {w w' : World} (h1 : c + 1 ≤ kk) (h2 : kk < 22) (h3 : A.free kk ≠ []) (h : ∀ j, c + 1 ≤ j → j < kk → A.free j = [])
    (hA : IsArena w' b (AM.halves (AM.last (A.free kk)) c (kk - c) (A.pop kk)) (Ext S w w')) (hk : Keeps S w w') : SearchPost A c b S w (.returned (.int .i64 (AM.last (A.free kk) : Nat))) w' := by
  unfold SearchPost
  rw [AM.find_eq h1 h2 h3 h]
  exact ⟨rfl, hA, hk⟩
end Go.Tx

namespace Go.Proofs.Ytacedeaopgbdhaa
open Go.RowKit Go.Tx

theorem cast_beq {j c : Nat} (h : ((j : Int) == (c : Int)) = true) : j = c := by
  have h' : (j : Int) = (c : Int) := by simpa using h
  omega
theorem bound_step {x y a b d : Nat} (h6 : x = y + a) (h7 : b = 2 * a) (h : y + b ≤ d) : x + a ≤ d := by omega
theorem add_places (p k : Nat) (hk : k ≤ 21) (hp : p ≤ 1048576) : wrap64 ((p : Int) + ((pw k : Nat) : Int)) = ((p + pw k : Nat) : Int) := by
  have := pw_21 hk
  unfold wrap64; omega

set_option maxRecDepth 100000 in
set_option maxHeartbeats 1000000 in
theorem take_search {w : World} {b mb : Nat} {A : AM} {S : Nat → Prop} {pv : Value} {fv : Nat → Value} (h : ArenaAt w b A S pv mb fv) (hA : A.Ok) (c : Nat) (hc : c < 22) (hne : A.free c = []) (ht : ¬ A.top + pw c ≤ A.size) :
    Calls Try.prog 26 #[.pointer (some ⟨b, 0, none⟩), .int .i64 c] w (SearchPost A c b S w) := by
  obtain ⟨a0, cap0, hv0⟩ := h.freeNone hc hne
  have h1 := h.blk.cell (arenaCells_free A pv mb fv c hc)
  rw [hv0] at h1
  obtain ⟨a1, cap1, hpv, hcap, hm⟩ := h.pl.len
  have h2 : w.cell? ⟨b, 2, none⟩ = some (.slice a1 A.top cap1) := by rw [← hpv]; exact h.blk.cell (i := 2) rfl
  have h0 : w.cell? ⟨b, 0, none⟩ = some (.int .i64 A.size) := h.blk.cell (i := 0) rfl
  have hp := pw_21 (c := c) (by omega)
  have hs := hA.size
  have htop := hA.top
  have hwr : wrap64 ((2 : Int) ^ c) = (pw c : Nat) := by rw [pw_int]; unfold wrap64; omega
  have hd : decide ((A.top : Int) + ((pw c : Nat) : Int) ≤ (A.size : Int)) = false := by simp; omega
  have H := Lib.hid h
  have HO := Lib.hid hA
  have HFS : ∀ k, k < 22 → A.free k ≠ [] → AM.last (A.free k) + pw k ≤ A.top := fun k hk hne => hA.free k hk _ (by
    have hl := List.length_pos_iff.2 hne
    have := last_get (l := A.free k) (n := (A.free k).length - 1) (by omega)
    exact List.mem_of_getElem? this)
  have HF2 := Lib.hid HFS
  clear HFS
  have HFB : A.freeSum ≤ 1048576 := by have := hA.sum; omega
  clear h hv0 hne hpv hA
  unfold maxLen at hm
  go_enter Try.func26, Try.ntmps26
  go_wp2
  go_step3
  go_wp2_with (first | (with_reducible refine wp_region_text (by kernel_rfl) (by kernel_rfl) ?_) | (with_reducible refine text_fin (by kernel_rfl) ?_))
  go_step3
  clear hwr h0 h2 h1
  go_wp2_with fail
  go_loop [8, 9] (fun p k => ∃ kk : Nat, c + 1 ≤ kk ∧ kk ≤ 22 ∧ k = .int .i64 (kk : Nat) ∧ p = .int .i64 (-1) ∧ Hid (∀ j, c + 1 ≤ j → j < kk → A.free j = [])) (fun _ k => 22 - (intOf k).toNat)
  case atStart => exact ⟨c + 1, by omega, by omega, by go_num, rfl, fun j h1 h2 => by omega⟩
  case round =>
    obtain ⟨kk, hk1, hk2, rfl, rfl, HN⟩ := hrel
    by_cases hk : kk < 22
    · have H1 := H.out.blk.cell (arenaCells_free A pv mb fv kk hk)
      by_cases hf : A.free kk = []
      · obtain ⟨a3, cap3, hv3⟩ := H.out.freeNone hk hf
        rw [hv3] at H1
        have HF := Lib.hid hf
        clear hf hv3
        go_wp2
        go_round
        case rel => exact ⟨kk + 1, by omega, by omega, by go_num, rfl, fun j h1 h2 => by
          by_cases he : j = kk
          · rw [he]; exact HF.out
          · exact HN.out j h1 (by omega)⟩
        case measure => simp [intOf]; omega
      · obtain ⟨n, g, cap, hn, hv, hcap2, hm2, h3, hrow⟩ := H.out.freeSome hk hf
        rw [hv] at H1
        have hfz := H.out.blk.free (3 + kk)
        have hlast := HF2.out kk hk hf
        have hpk := pw_21 (c := kk) (by omega)
        have hap : ∀ d, d < 22 → d ≠ kk → ∀ g', (Value.slice (some ⟨g, 0, none⟩) n cap).ownBlock = some g' → (fv d).ownBlock ≠ some g' := fun d hd hdc g' hg' => H.out.apart kk d hk hd (Ne.symm hdc) g' (by rw [hv]; exact hg')
        have hS : ∀ g', (Value.slice (some ⟨g, 0, none⟩) n cap).ownBlock = some g' → S g' := fun g' hg' => H.out.sf kk hk g' (by rw [hv]; exact hg')
        have hfin := (H.out.but kk).setFv hk hrow hS hap
        have hkp : Keeps S w (w.setCell ⟨b, 3 + kk, none⟩ (.slice (some ⟨g, 0, none⟩) n cap)) := (Keeps.refl S w).setCell (fun _ => H.out.sb) _
        generalize hpp : AM.last (A.free kk) = p at h3 hlast
        have HH : Hid (HalvesAt w b S p c kk (AM.halves p c (kk - c) (A.pop kk)) A.freeSum (.int .i64 (kk : Nat)) (w.setCell ⟨b, 3 + kk, none⟩ (.slice (some ⟨g, 0, none⟩) n cap)).drew.drew) := by
          have h7 := AM.freeSum_pop A kk hk hf
          exact ⟨kk, A.pop kk, by omega, Nat.le_refl _, rfl, (IsArena.wider ⟨_, _, _, hfin⟩ (fun g hg => .inl hg) (fun g hg => hg.elim (fun h => by simpa using H.out.lt g h) (fun h => by simpa using h.2))).drew.drew, hkp.drew.drew, rfl, by omega⟩
        have HPP := Lib.hid hpp
        have HF := Lib.hid hf
        have hp20 : p ≤ 1048576 := by omega
        clear hfin hkp hS hap hrow hv hpp hf hn
        unfold maxLen at hm2
        go_wp2_with (first | (with_reducible refine wp_region_text (by kernel_rfl) (by kernel_rfl) ?_) | (with_reducible refine text_fin (by kernel_rfl) ?_) | fail)
        clear H1 hfz h3 hlast
        go_loopw [9] (fun v wr => HalvesAt w b S p c kk (AM.halves p c (kk - c) (A.pop kk)) A.freeSum v wr) (fun v _ => (intOf v).toNat)
        case atStart => exact HH.out
        case round =>
          obtain ⟨k1, B, hk3, hk4, rfl, ⟨pv2, mb2, fv2, HB⟩, HKs, HFin, HBd⟩ := hrel
          obtain ⟨j, rfl⟩ : ∃ j, k1 = j + 1 := ⟨k1 - 1, by omega⟩
          have hj22 : j < 22 := by omega
          have hpj := pw_21 (c := j) (by omega)
          have hwj : wrap64 ((2 : Int) ^ j) = (pw j : Nat) := by rw [pw_int]; unfold wrap64; omega
          have hadd : wrap64 ((p : Int) + ((pw j : Nat) : Int)) = (p : Int) + ((pw j : Nat) : Int) := add_places p j (by omega) hp20
          have hPush : ∀ v' w1, Appended (wr.alloc (.cells #[.int .i64 ((p : Int) + ((pw j : Nat) : Int))] 3)).drew w1 3 1 (fv2 j) v' ((B.free j).length + 1) (ints (B.free j) ++ [.int .i64 ((p : Int) + ((pw j : Nat) : Int))]) →
              IsArena (w1.setCell ⟨b, 3 + j, none⟩ v') b (B.push j (p + pw j)) (Ext (Ext S w wr) wr (w1.setCell ⟨b, 3 + j, none⟩ v')) ∧ Keeps (Ext S w wr) wr (w1.setCell ⟨b, 3 + j, none⟩ v') ∧ w1.cell? ⟨b, 3 + j, none⟩ = some (fv2 j) ∧ w1.frozen? ⟨b, 3 + j, none⟩ = false :=
            fun v' w1 ha => HB.pushed hj22 (((Keeps.refl _ _).alloc _).drew) ha
          obtain ⟨a4, cap4, hfv, hc4, hc5⟩ := (HB.fr j hj22).len
          have G1 : wr.cell? ⟨b, 3 + j, none⟩ = some (.slice a4 (B.free j).length cap4) := by rw [← hfv]; exact HB.blk.cell (arenaCells_free B pv2 mb2 fv2 j hj22)
          have hlen := AM.len_le B j hj22
          have HR := Lib.hid (HB.fr j hj22)
          have HPu := Lib.hid hPush
          clear hPush
          have HV := Lib.hid hfv
          have HB2 := Lib.hid HB
          have HKs2 := Lib.hid HKs
          have HFi := Lib.hid HFin
          clear HB hfv HKs HFin
          go_wp2_with (first | (with_reducible refine wp_region_text (by kernel_rfl) (by kernel_rfl) ?_) | (with_reducible refine text_fin (by kernel_rfl) ?_) | (at_builtin; go_must (refine wpList_append_row _ rfl _ _ 40 40 rfl 3 (.slice 3) 1 8 (.int .i64 0) info_int Try.underlying40 Try.underlying40 (by intro k h; cases h) rfl (fv2 j) (B.free j).length (ints (B.free j)) HV.out.symm ((HR.out.alloc _).drew) _ 1 [.int .i64 ((p : Int) + ((pw j : Nat) : Int))] rfl rfl (lenOf_slice _ _ _) (firstCells_at _ rfl one_new) (by intro u hu; simp at hu; subst hu; rfl) (by unfold maxLen; omega) (by omega) ?_); intro v' w1 ha; obtain ⟨va, vc, rfl, _, _⟩ := ha.row.len; obtain ⟨g1, g2, g3, g4⟩ := HPu.out _ w1 ha; have G5 := Lib.hid g1; have G6 := Lib.hid g2; clear g1 g2 ha))
          · have hjc : j = c := by
              have h : ((j : Int) == (c : Int)) = true := by assumption
              exact cast_beq h
            subst hjc
            rw [Exit.noGoto_ret]
            go_ret
            refine HPP.out ▸ searchPost_some hk1 hk HF.out HN.out ?_ ?_
            · rw [HPP.out]
              have h1 := HFi.out
              rw [AM.halves_one] at h1
              rw [← h1]
              exact G5.out.wider (fun g hg => Ext.trans HKs2.out.size G6.out.size hg) (fun g hg => by
                rcases hg with hg | hg
                · exact Nat.lt_of_lt_of_le (H.out.lt g hg) (Nat.le_trans HKs2.out.size G6.out.size)
                · exact hg.2)
            · exact HKs2.out.trans_ext G6.out
          · have hjc : j ≠ c := by
              have h : ((j : Int) == (c : Int)) = false := by assumption
              intro he; subst he; simp at h
            go_roundw
            case rel =>
              have h6 := AM.freeSum_push B j (p + pw j) hj22
              have h7 := pw_succ j
              refine ⟨j, B.push j (p + pw j), by omega, by omega, rfl, ?_, HKs2.out.trans_ext G6.out, ?_, bound_step h6 h7 HBd⟩
              · exact G5.out.wider (fun g hg => Ext.trans HKs2.out.size G6.out.size hg) (fun g hg => by
                  rcases hg with hg | hg
                  · exact Nat.lt_of_lt_of_le (H.out.lt g hg) (Nat.le_trans HKs2.out.size G6.out.size)
                  · exact hg.2)
              · rw [← HFi.out]
                exact (AM.halves_step p c j B (by omega)).symm
            case measure => simp [intOf]
    · have HK : Hid (kk = 22) := by show kk = 22; omega
      go_wp2
      go_ret
      exact searchPost_none fun j h1 h2 => HN.out j h1 (by have := HK.out; omega)
end Go.Proofs.Ytacedeaopgbdhaa

/-
  The arena: taking a place, each way through it.
-/
import Derived.Test.YtacedeaopgbdhaaArW
import Derived.Lib.Hide
namespace Go.Tx
open Go Go.RowKit

/-- an arena but for the free blocks of class c, of which nothing is said -/
structure ArenaBut (w : World) (b : Nat) (A : AM) (S : Nat → Prop) (pv : Value) (mb : Nat) (fv : Nat → Value) (c : Nat) : Prop where
  blk : Blk w b 66 (arenaCells A pv mb fv)
  pl : Row w 41 1 pv A.top (u64s A.words)
  fr : ∀ d, d < 22 → d ≠ c → Row w 3 1 (fv d) (A.free d).length (ints (A.free d))
  mp : MapIs intKey w mb (kvOf A.taken)
  sb : S b
  sm : S mb
  sp : ∀ g, pv.ownBlock = some g → S g
  sf : ∀ d, d < 22 → d ≠ c → ∀ g, (fv d).ownBlock = some g → S g
  lt : ∀ k, S k → k < w.heap.size
  apart : ∀ d e, d < 22 → e < 22 → d ≠ c → e ≠ c → d ≠ e → ∀ g, (fv d).ownBlock = some g → (fv e).ownBlock ≠ some g

section
variable {w w' : World} {b mb : Nat} {A : AM} {S T : Nat → Prop} {pv : Value} {fv : Nat → Value} {c : Nat}

theorem ArenaAt.but (h : ArenaAt w b A S pv mb fv) (c : Nat) : ArenaBut w b A S pv mb fv c :=
  ⟨h.blk, h.pl, fun d hd _ => h.fr d hd, h.mp, h.sb, h.sm, h.sp, fun d hd _ => h.sf d hd, h.lt, fun d e hd he _ _ => h.apart d e hd he⟩
/-- what turns the row of class c alone turns nothing else of it -/
theorem ArenaAt.row_turned (h : ArenaAt w b A S pv mb fv) (hc : c < 22) (k : Keeps (Own (fv c)) w w') : ArenaBut w' b A (Ext S w w') pv mb fv c := by
  have hb : ∀ g, (fv c).ownBlock = some g → b ≠ g := fun g hg => h.blk.ne_row (h.fr c hc) (by decide) hg
  refine ⟨h.blk.keeps k fun hg => hb b hg rfl, h.pl.keeps k fun g hg ho => row_ne_row h.pl (h.fr c hc) (by decide) hg ho, fun d hd hdc => (h.fr d hd).keeps k fun g hg ho => h.apart d c hd hc hdc g hg ho,
    h.mp.keeps k fun hg => row_ne_map (h.fr c hc) h.mp hg, .inl h.sb, .inl h.sm, fun g hg => .inl (h.sp g hg), fun d hd _ g hg => .inl (h.sf d hd g hg), ?_, fun d e hd he _ _ => h.apart d e hd he⟩
  intro g hg
  rcases hg with hg | hg
  · exact Nat.lt_of_lt_of_le (h.lt g hg) k.size
  · exact hg.2
/-- the slot of class c set to a row -/
theorem ArenaBut.setFv (h : ArenaBut w b A S pv mb fv c) (hc : c < 22) {v : Value} {l : List Nat} (hr : Row w 3 1 v l.length (ints l)) (hS : ∀ g, v.ownBlock = some g → S g)
    (hap : ∀ d, d < 22 → d ≠ c → ∀ g, v.ownBlock = some g → (fv d).ownBlock ≠ some g) : ArenaAt (w.setCell ⟨b, 3 + c, none⟩ v) b (A.setFree c l) S pv mb (updV fv c v) := by
  have hbr : ∀ {e : TypeId} {n : Nat} {u : Value} {ys : List Value}, Row w e 1 u n ys → 66 ≠ e → u.ownBlock ≠ some b := fun r hT hg => h.blk.ne_row r hT hg rfl
  refine ⟨?_, h.pl.setCell_other (hbr h.pl (by decide)) _, ?_, h.mp.setCell (Ne.symm (h.blk.ne_map h.mp)) _, h.sb, h.sm, h.sp, ?_, ?_, ?_⟩
  · have := h.blk.set (3 + c) v
    rw [arenaCells_setFree _ _ _ _ _ hc] at this
    exact this
  · intro d hd
    by_cases hdc : d = c
    · subst hdc
      simp only [AM.setFree, AM.updF_same, updV_same]
      exact hr.setCell_other (hbr hr (by decide)) _
    · simp only [AM.setFree, AM.updF_other _ _ hdc, updV_other _ _ hdc]
      exact (h.fr d hd hdc).setCell_other (hbr (h.fr d hd hdc) (by decide)) _
  · intro d hd g hg
    by_cases hdc : d = c
    · subst hdc; rw [updV_same] at hg; exact hS g hg
    · rw [updV_other _ _ hdc] at hg; exact h.sf d hd hdc g hg
  · intro k hk; simpa using h.lt k hk
  · intro d e hd he hde g hg ho
    by_cases hdc : d = c
    · subst hdc
      rw [updV_same] at hg; rw [updV_other _ _ (Ne.symm hde)] at ho
      exact hap e he (Ne.symm hde) g hg ho
    · rw [updV_other _ _ hdc] at hg
      by_cases hec : e = c
      · subst hec; rw [updV_same] at ho
        exact hap d hd hdc g ho hg
      · rw [updV_other _ _ hec] at ho
        exact h.apart d e hd he hdc hec hde g hg ho

theorem ints_length (l : List Nat) : (ints l).length = l.length := by simp [ints]
theorem ints_get {l : List Nat} {i p : Nat} (h : l[i]? = some p) : (ints l)[i]? = some (.int .i64 (p : Nat)) := by simp [ints, h]
theorem last_get {l : List Nat} {n : Nat} (h : l.length = n + 1) : l[n]? = some (AM.last l) := by
  unfold AM.last
  rw [List.getLastD_eq_getLast?, List.getLast?_eq_getElem?, h]
  have hn : n < l.length := by omega
  simp [hn]

/-- a free block of class c: the slot, its last cell -/
theorem ArenaAt.freeSome (h : ArenaAt w b A S pv mb fv) (hc : c < 22) (hne : A.free c ≠ []) :
    ∃ n g cap, (A.free c).length = n + 1 ∧ fv c = .slice (some ⟨g, 0, none⟩) (n + 1) cap ∧ n < cap ∧ cap ≤ maxLen ∧ w.cell? ⟨g, n, none⟩ = some (.int .i64 (AM.last (A.free c) : Nat)) ∧
      Row w 3 1 (.slice (some ⟨g, 0, none⟩) n cap) (A.free c).dropLast.length (ints (A.free c).dropLast) := by
  have hpos := List.length_pos_iff.2 hne
  obtain ⟨n, hn⟩ : ∃ n, (A.free c).length = n + 1 := ⟨(A.free c).length - 1, by omega⟩
  have hr := h.fr c hc
  rw [hn] at hr
  obtain ⟨g, cap, hv, h1, h2⟩ := hr.form (by omega)
  rw [hv] at hr
  refine ⟨n, g, cap, hn, hv, by omega, h2, hr.cell (ints_get (last_get hn)), ?_⟩
  have hcut := hr.cut (k := n) (by omega)
  have hl : (A.free c).dropLast.length = n := by simp [hn]
  rw [hl]
  have : (ints (A.free c)).take (n * 1) = ints (A.free c).dropLast := by
    unfold ints
    rw [← List.map_take, List.dropLast_eq_take, hn]
    simp
  rw [← this]; exact hcut
theorem ArenaAt.freeNone (h : ArenaAt w b A S pv mb fv) (hc : c < 22) (hne : A.free c = []) : ∃ a cap, fv c = .slice a 0 cap := by
  have hr := h.fr c hc
  rw [hne] at hr
  obtain ⟨a, cap, hv, _⟩ := hr.len
  exact ⟨a, cap, hv⟩
/-- the places set to a row, behind what turned their old row alone -/
theorem ArenaAt.setPlaces (h : ArenaAt w b A S pv mb fv) {w1 : World} {v : Value} {l : List Int} (k : Keeps (Own pv) w w1) (hr : Row w1 41 1 v l.length (u64s l)) (hv : v.ownBlock = pv.ownBlock ∨ (v.ownBlock = some w.heap.size ∧ w1.heap.size = w.heap.size + 1)) :
    ArenaAt (w1.setCell ⟨b, 2, none⟩ v) b { A with words := l } (Ext S w w1) v mb fv := by
  have hbp : ∀ g, pv.ownBlock = some g → b ≠ g := fun g hg => h.blk.ne_row h.pl (by decide) hg
  have blk1 : Blk w1 b 66 (arenaCells A pv mb fv) := h.blk.keeps k fun hg => hbp b hg rfl
  have hbr : ∀ {e : TypeId} {n : Nat} {u : Value} {ys : List Value}, Row w1 e 1 u n ys → 66 ≠ e → u.ownBlock ≠ some b := fun r hT hg => blk1.ne_row r hT hg rfl
  refine ⟨?_, hr.setCell_other (hbr hr (by decide)) _, fun c hc => ?_, ?_, .inl h.sb, .inl h.sm, ?_, fun c hc g hg => .inl (h.sf c hc g hg), ?_, h.apart⟩
  · exact blk1.set 2 v
  · have hf := (h.fr c hc).keeps k fun g hg ho => row_ne_row (h.fr c hc) h.pl (by decide) hg ho
    exact hf.setCell_other (hbr hf (by decide)) _
  · have hm := h.mp.keeps k fun hg => row_ne_map h.pl h.mp hg
    exact hm.setCell (Ne.symm (blk1.ne_map hm)) _
  · intro g hg
    rcases hv with hv | ⟨hv, hs⟩
    · rw [hv] at hg; exact .inl (h.sp g hg)
    · rw [hv] at hg; simp at hg; subst hg; exact .inr ⟨Nat.le_refl _, by omega⟩
  · intro g hg
    simp only [World.size_setCell]
    rcases hg with hg | hg
    · exact Nat.lt_of_lt_of_le (h.lt g hg) k.size
    · exact hg.2
theorem Keeps.ext {S : Nat → Prop} {w w' : World} (h : Keeps S w w') : Keeps (Ext S w w') w w' := h.mono fun _ _ hs => .inl hs
theorem IsArena.wider (h : IsArena w b A S) (hs : ∀ g, S g → T g) (ht : ∀ g, T g → g < w.heap.size) : IsArena w b A T := by
  obtain ⟨pv, mb, fv, h⟩ := h; exact ⟨pv, mb, fv, h.wider hs ht⟩
end
end Go.Tx

namespace Go.Proofs.Ytacedeaopgbdhaa
open Go.RowKit Go.Tx

set_option maxRecDepth 100000 in
set_option maxHeartbeats 400000 in
theorem take_pop {w : World} {b mb : Nat} {A : AM} {S : Nat → Prop} {pv : Value} {fv : Nat → Value} (h : ArenaAt w b A S pv mb fv) (c : Nat) (hc : c < 22) (hne : A.free c ≠ []) :
    Calls Try.prog 26 #[.pointer (some ⟨b, 0, none⟩), .int .i64 c] w fun e w' => e = .returned (.int .i64 (AM.last (A.free c) : Nat)) ∧ IsArena w' b (A.pop c) S ∧ Keeps S w w' := by
  obtain ⟨n, g, cap, hn, hv, hcap, hm, h2, hrow⟩ := h.freeSome hc hne
  have h1 := h.blk.cell (arenaCells_free A pv mb fv c hc)
  rw [hv] at h1
  have hf := h.blk.free (3 + c)
  have hap : ∀ d, d < 22 → d ≠ c → ∀ g', (Value.slice (some ⟨g, 0, none⟩) n cap).ownBlock = some g' → (fv d).ownBlock ≠ some g' := fun d hd hdc g' hg' => h.apart c d hc hd (Ne.symm hdc) g' (by rw [hv]; exact hg')
  have hS : ∀ g', (Value.slice (some ⟨g, 0, none⟩) n cap).ownBlock = some g' → S g' := fun g' hg' => h.sf c hc g' (by rw [hv]; exact hg')
  have hfin := (h.but c).setFv hc hrow hS hap
  have hk : Keeps S w ((w.drew).setCell ⟨b, 3 + c, none⟩ (.slice (some ⟨g, 0, none⟩) n cap)) := ((Keeps.refl S w).drew).setCell (fun _ => h.sb) _
  generalize hp : AM.last (A.free c) = p at h2 ⊢
  have HF := Lib.hid hfin
  have HK := Lib.hid hk
  clear hfin hk hap hS hrow hp hv hn hne
  unfold maxLen at hm
  go_enter Try.func26, Try.ntmps26
  go_wp2
  go_step3
  go_wp2_with (first | (with_reducible refine wp_region_text (by kernel_rfl) (by kernel_rfl) ?_) | (with_reducible refine text_fin (by kernel_rfl) ?_))
  rw [Exit.noGoto_ret]
  go_ret
  exact ⟨rfl, ⟨_, _, _, HF.out.keeps (Keeps.refl (fun _ => False) _).drew (fun _ _ h => h)⟩, HK.out⟩
theorem info_u64 : (Try.prog.info? 41).map (fun i => (i.zero, i.size, i.bytes)) = some (some (.int .u64 0), 1, 8) := by kernel_rfl
theorem info_int : (Try.prog.info? 3).map (fun i => (i.zero, i.size, i.bytes)) = some (some (.int .i64 0), 1, 8) := by kernel_rfl

theorem u64s_grow (l : List Int) (m : Nat) : u64s l ++ List.replicate m (.int .u64 0) = u64s (l ++ List.replicate m 0) := by simp [u64s]

set_option maxRecDepth 100000 in
set_option maxHeartbeats 400000 in
theorem take_grow {w : World} {b mb : Nat} {A : AM} {S : Nat → Prop} {pv : Value} {fv : Nat → Value} (h : ArenaAt w b A S pv mb fv) (c : Nat) (hc : c < 22) (hne : A.free c = []) (hs : A.size ≤ 1048576) (ht : A.top + pw c ≤ A.size) :
    Calls Try.prog 26 #[.pointer (some ⟨b, 0, none⟩), .int .i64 c] w fun e w' => e = .returned (.int .i64 A.top) ∧ IsArena w' b (A.grow c) (Ext S w w') ∧ Keeps S w w' := by
  obtain ⟨a0, cap0, hv0⟩ := h.freeNone hc hne
  have h1 := h.blk.cell (arenaCells_free A pv mb fv c hc)
  rw [hv0] at h1
  obtain ⟨a1, cap1, hpv, hcap, hm⟩ := h.pl.len
  have h2 : w.cell? ⟨b, 2, none⟩ = some (.slice a1 A.top cap1) := by rw [← hpv]; exact h.blk.cell (i := 2) rfl
  have h0 : w.cell? ⟨b, 0, none⟩ = some (.int .i64 A.size) := h.blk.cell (i := 0) rfl
  have hp := pw_21 (c := c) (by omega)
  have hp0 := pw_pos c
  have hwr : wrap64 ((2 : Int) ^ c) = (pw c : Nat) := by rw [pw_int]; unfold wrap64; omega
  have hpl := h.pl
  have hfin : ∀ v' w1, Appended w.drew.drew w1 41 1 pv v' (A.top + pw c) (u64s A.words ++ List.replicate (pw c) (.int .u64 0)) →
      IsArena (w1.setCell ⟨b, 2, none⟩ v') b (A.grow c) (Ext S w (w1.setCell ⟨b, 2, none⟩ v')) ∧ Keeps S w (w1.setCell ⟨b, 2, none⟩ v') ∧ w1.cell? ⟨b, 2, none⟩ = some pv ∧ w1.frozen? ⟨b, 2, none⟩ = false := by
    intro v' w1 ha
    have hk : Keeps (Own pv) w w1 := ha.keeps.of_drew.of_drew
    have hbp : ∀ g, pv.ownBlock = some g → b ≠ g := fun g hg => h.blk.ne_row h.pl (by decide) hg
    have blk1 := h.blk.keeps hk fun hg => hbp b hg rfl
    have hrow : Row w1 41 1 v' (A.words ++ List.replicate (pw c) 0).length (u64s (A.words ++ List.replicate (pw c) 0)) := by
      have := ha.row
      rw [u64s_grow] at this
      simpa [AM.top] using this
    have hA := h.setPlaces hk hrow ha.own
    have hkS : Keeps S w (w1.setCell ⟨b, 2, none⟩ v') := (hk.mono fun g _ hg => h.sp g hg).setCell (fun _ => h.sb) _
    refine ⟨⟨_, _, _, hA.wider (fun g hg => ?_) (fun g hg => ?_)⟩, hkS, blk1.cell rfl, blk1.free 2⟩
    · rcases hg with hg | hg
      · exact .inl hg
      · exact .inr ⟨hg.1, by simpa using hg.2⟩
    · rcases hg with hg | hg
      · exact Nat.lt_of_lt_of_le (h.lt g hg) hkS.size
      · exact hg.2
  have HV := Lib.hid hpv
  have HF := Lib.hid hfin
  have HP := Lib.hid hpl
  clear hfin hpl hv0 hne h hpv
  unfold maxLen at hm
  go_enter Try.func26, Try.ntmps26
  go_wp2
  go_step3
  go_wp2_with (first | (with_reducible refine wp_region_text (by kernel_rfl) (by kernel_rfl) ?_) | (with_reducible refine text_fin (by kernel_rfl) ?_) | (at_builtin; go_must (refine wpList_append_zeros _ rfl _ _ 49 3 rfl 41 .i64 .i64 8 (.int .u64 0) info_u64 Try.underlying49 Try.underlying3 rfl rfl pv A.top _ HV.out.symm HP.out.drew.drew (pw c) _ rfl hwr hp0 (by unfold maxLen; omega) (by omega) ?_); intro v' w1 ha; obtain ⟨va, vc, rfl, _, _⟩ := ha.row.len; obtain ⟨g1, g2, g3, g4⟩ := HF.out _ w1 ha; have G1 := Lib.hid g1; have G2 := Lib.hid g2; clear g1 g2 ha))
  rw [Exit.noGoto_ret]
  go_ret
  exact ⟨rfl, G1.out, G2.out⟩
end Go.Proofs.Ytacedeaopgbdhaa

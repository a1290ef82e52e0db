import Derived.Test.YtacedeaopgbdhaaDmC
import Derived.Test.YtacedeaopgbdhaaHeld
/-
  The document's arena: a place taken: what the Go code does where a free one is there, or the top has room.
-/
namespace Go.Tx
open Go Go.RowKit
section
variable {w w' w1 : World} {b fb : Nat} {D : DM} {S T : Nat → Prop} {tv : Value} {L : List (DB × Value)} {gv : Nat → Value}
theorem blk_ne {w : World} {b c : Nat} {t u : TypeId} {xs ys : List Value} (h : Blk w b t xs) (k : Blk w c u ys) (ht : t ≠ u) : b ≠ c := by
  intro e
  subst e
  have h1 : w.heap[b]? = some (.cells xs.toArray t (0, 0)) := h
  have h2 : w.heap[b]? = some (.cells ys.toArray u (0, 0)) := k
  rw [h1] at h2
  simp only [Option.some.injEq, Obj.cells.injEq] at h2
  exact ht h2.2.1
def updG (f : Nat → Value) (k : Nat) (v : Value) : Nat → Value := fun j => if j = k then v else f j
theorem updG_map (f : Nat → Value) (k n : Nat) (v : Value) : ((List.range n).map f).set k v = (List.range n).map (updG f k v) := by
  refine List.ext_getElem? fun j => ?_
  rw [List.getElem?_set]
  by_cases e : k = j
  · subst e
    by_cases hk : k < n
    · simp [hk, updG]
    · simp [hk]
  · rw [if_neg e]
    by_cases hj : j < n
    · simp [hj, updG, Ne.symm e]
    · simp [hj]
theorem gv_cell (h : DocAt w b D S tv L fb gv) {k : Nat} (hk : k < 40) : w.cell? ⟨fb, k, none⟩ = some (gv k) := h.fbk.cell (i := k) (by simp [hk])
/-- the free places of one class are turned -/
theorem DocAt.setFr (h : DocAt w b D S tv L fb gv) {k : Nat} (hk : k < 40) (k1 : Keeps (fun _ => False) w w1) {v : Value} {l : List Nat} (hr : Wide w1 3 1 v l.length (ints l)) (ho : ∀ g, v.ownBlock = some g → w.heap.size ≤ g) :
    IsDoc (w1.setCell ⟨fb, k, none⟩ v) b (D.setFree k l) (Ext S w (w1.setCell ⟨fb, k, none⟩ v)) ∧ Keeps S w (w1.setCell ⟨fb, k, none⟩ v) ∧ w1.cell? ⟨fb, k, none⟩ = some (gv k) ∧ w1.frozen? ⟨fb, k, none⟩ = false ∧ w1.cell? ⟨b, 5, none⟩ = some (.slice (some ⟨fb, 0, none⟩) 40 40) ∧ (w1.setCell ⟨fb, k, none⟩ v).cell? ⟨b, 5, none⟩ = some (.slice (some ⟨fb, 0, none⟩) 40 40) := by
  have h1 := h.keeps k1 fun _ _ h => h
  have s1 := k1.size
  have hbf : b ≠ fb := blk_ne h.blk h.fbk (by decide)
  have K : Keeps (fun x => x = fb) w1 (w1.setCell ⟨fb, k, none⟩ v) := Keeps.setCell (Keeps.refl (fun x => x = fb) w1) (p := ⟨fb, k, none⟩) (fun _ => rfl) _
  have hs2 : (w1.setCell ⟨fb, k, none⟩ v).heap.size = w1.heap.size := World.size_setCell ..
  have hcells : w1.heap[fb]? = some (.cells ((List.range 40).map gv).toArray 40 (0, 0)) := h1.fbk
  have hne : ∀ {e2 : TypeId} {x : Nat} {cs : Array Value}, e2 ≠ 40 → w1.heap[x]? = some (.cells cs e2 (0, 0)) → x ≠ fb := fun he hx e => by
    subst e
    rw [hcells] at hx
    simp only [Option.some.injEq, Obj.cells.injEq] at hx
    exact he hx.2.1.symm
  have hlt := h.lt fb h.sf
  refine ⟨⟨tv, L, fb, updG gv k v, h1.blk.keeps K hbf, ?_, h.lst, ?_, ?_, ?_, .inl h.sb, .inl h.sf, fun g hg => .inl (h.st g hg), fun p hp g hg => .inl (h.sw p hp g hg), ?_, ?_, h.apart⟩, (k1.mono (T := S) fun _ _ h => h.elim).setCell (fun _ => h.sf) _, gv_cell h1 hk, h1.fbk.free k, h1.blk.cell (i := 5) rfl, K.cell (h1.blk.cell (i := 5) rfl) hbf⟩
  · exact h1.tk.keeps K fun x hx e => by
      obtain ⟨cs, hcs⟩ := h1.tk.block hx
      exact hne (by decide) hcs e
  · intro p hp
    refine (h1.ws p hp).keeps K fun x hx e => ?_
    subst e
    exact (h1.ws p hp).ne_type (by decide) hcells hx
  · rw [← updG_map]
    exact h1.fbk.set k v
  · intro j hj
    by_cases e : j = k
    · subst e
      show Wide _ _ _ (updG gv j v j) (AM.updF D.free j l j).length (ints (AM.updF D.free j l j))
      rw [AM.updF_same, show updG gv j v j = v by simp [updG]]
      exact hr.keeps K fun x hx e => by have := ho x hx; omega
    · show Wide _ _ _ (updG gv k v j) (AM.updF D.free k l j).length (ints (AM.updF D.free k l j))
      rw [AM.updF_other _ _ e, show updG gv k v j = gv j by simp [updG, e]]
      exact (h1.fr j hj).keeps K fun x hx e => by
        obtain ⟨cs, hcs⟩ := (h1.fr j hj).block hx
        exact hne (by decide) hcs e
  · intro j hj g hg
    by_cases e : j = k
    · subst e
      rw [show updG gv j v j = v by simp [updG]] at hg
      exact .inr ⟨ho g hg, by rw [hs2]; exact hr.lt hg⟩
    · rw [show updG gv k v j = gv j by simp [updG, e]] at hg
      exact .inl (h.sg j hj g hg)
  · intro x hx
    rw [hs2]
    rcases hx with hx | hx
    · have := h.lt x hx; omega
    · have := hx.2; rw [hs2] at this; exact this
/-- behind 'append' onto a fresh row -/
theorem DocAt.turned (h : DocAt w b D S tv L fb gv) {k : Nat} (hk : k < 40) {w0 : World} {v0 v : Value} {n : Nat} {l : List Nat} (k0 : Keeps (fun _ => False) w w0) (ha : AppendedW w0 w1 3 1 v0 v n (ints l)) (h0 : ∀ g, v0.ownBlock = some g → w.heap.size ≤ g) :
    IsDoc (w1.setCell ⟨fb, k, none⟩ v) b (D.setFree k l) (Ext S w (w1.setCell ⟨fb, k, none⟩ v)) ∧ Keeps S w (w1.setCell ⟨fb, k, none⟩ v) ∧ w1.cell? ⟨fb, k, none⟩ = some (gv k) ∧ w1.frozen? ⟨fb, k, none⟩ = false ∧ w1.cell? ⟨b, 5, none⟩ = some (.slice (some ⟨fb, 0, none⟩) 40 40) ∧ (w1.setCell ⟨fb, k, none⟩ v).cell? ⟨b, 5, none⟩ = some (.slice (some ⟨fb, 0, none⟩) 40 40) := by
  have hn : n = l.length := by have := ha.row.1; simpa [ints] using this.symm
  subst hn
  have k1 : Keeps (fun _ => False) w w1 := k0.trans ha.keeps fun g hg hown => by have := h0 g hown; omega
  refine h.setFr hk k1 ha.row fun g hg => ?_
  rcases ha.own with ho | ⟨ho, _⟩
  · rw [ho] at hg; exact h0 g hg
  · rw [ho] at hg; simp at hg; subst hg; exact k0.size
theorem DocAt.setTop (h : DocAt w b D S tv L fb gv) (t : Nat) : DocAt (w.setCell ⟨b, 2, none⟩ (.int .i64 (t : Nat))) b { D with top := t } S tv L fb gv ∧ Keeps S w (w.setCell ⟨b, 2, none⟩ (.int .i64 (t : Nat))) := by
  have K : Keeps (fun x => x = b) w (w.setCell ⟨b, 2, none⟩ (.int .i64 (t : Nat))) := Keeps.setCell (Keeps.refl (fun x => x = b) w) (p := ⟨b, 2, none⟩) (fun _ => rfl) _
  have hb : w.heap[b]? = some (.cells (docCells D tv fb).toArray 91 (0, 0)) := h.blk
  have hne : ∀ {e2 : TypeId} {x : Nat} {cs : Array Value}, e2 ≠ 91 → w.heap[x]? = some (.cells cs e2 (0, 0)) → x ≠ b := fun he hx e => by
    subst e
    rw [hb] at hx
    simp only [Option.some.injEq, Obj.cells.injEq] at hx
    exact he hx.2.1.symm
  refine ⟨⟨h.blk.set 2 _, ?_, h.lst, ?_, h.fbk.keeps K (hne (by decide) h.fbk), ?_, h.sb, h.sf, h.st, h.sw, h.sg, fun x hx => Nat.lt_of_lt_of_le (h.lt x hx) K.size, h.apart⟩, K.mono fun x _ e => e ▸ h.sb⟩
  · exact h.tk.keeps K fun x hx e => by
      obtain ⟨cs, hcs⟩ := h.tk.block hx
      exact hne (by decide) hcs e
  · intro p hp
    refine (h.ws p hp).keeps K fun x hx e => ?_
    subst e
    exact (h.ws p hp).ne_type (by decide) hb hx
  · intro j hj
    exact (h.fr j hj).keeps K fun x hx e => by
      obtain ⟨cs, hcs⟩ := (h.fr j hj).block hx
      exact hne (by decide) hcs e
end
/-- what 'take' tells and leaves -/
def DTakePost (D : DM) (b : Nat) (S : Nat → Prop) (c : Nat) (w : World) (e : Ending) (w' : World) : Prop :=
  ∃ r E, D.take c = (r, E) ∧ e = .returned (.int .i64 (match r with | some p => ((p : Nat) : Int) | none => -1)) ∧ IsDoc w' b E (Ext S w w') ∧ Keeps S w w'
theorem ints_drop1 {p : Nat} {l : List Nat} : (ints (p :: l)).drop 1 = ints l := rfl
end Go.Tx
namespace Go.Proofs.Ytacedeaopgbdhaa
open Go.RowKit Go.Tx
set_option maxRecDepth 100000 in
set_option maxHeartbeats 800000 in
theorem dtake_pop {w : World} {b : Nat} {D : DM} {S : Nat → Prop} (h : IsDoc w b D S) {c : Nat} (hc : c < 22) {p : Nat} {l : List Nat} (hf : D.free c = p :: l) (hl : l.length ≤ 1048576) :
    Calls Try.prog 49 #[.pointer (some ⟨b, 0, none⟩), .int .i64 c] w (DTakePost D b S c w) := by
  obtain ⟨tv, L, fb, gv, h⟩ := h
  have hfr := h.fr c (by omega)
  rw [hf] at hfr
  have e1 := gv_cell h (k := c) (by omega)
  obtain ⟨g, cap, hgv, hc1, hc2⟩ := hfr.form (by simp)
  rw [hgv] at hfr e1
  rw [List.length_cons] at hfr e1 hc1
  have c5 : w.cell? ⟨b, 5, none⟩ = some (.slice (some ⟨fb, 0, none⟩) 40 40) := h.blk.cell (i := 5) rfl
  have cg : w.cell? ⟨g, 0, none⟩ = some (.int .i64 (p : Nat)) := hfr.cell (i := 0) rfl
  have HHo : Hid (∀ W, Keeps (fun _ => False) w W → W.cell? ⟨b, 5, none⟩ = some (.slice (some ⟨fb, 0, none⟩) 40 40)) := Lib.hid fun W hk => hk.cell c5 id
  have HR := Lib.hid hfr
  have HTL : Hid (∀ W0, Keeps (fun _ => False) w W0 → ∀ ad c, (ad = some ⟨g, 1, none⟩ ∨ (ad = some ⟨g, 0, none⟩ ∧ l.length + 1 ≤ 1)) → ∀ W : World, W.heap = W0.heap → (Builtin.firstCells 1 l.length (.slice ad l.length c)).run Try.prog W = .ok (ints l).toArray W) := Lib.hid fun W0 k ad c ho W hW => by
    rcases ho with rfl | ⟨rfl, ho⟩
    · exact tail_one (k := 1) (hfr.keeps k (fun _ _ h => h)) 1 c (.inl rfl) W hW
    · exact tail_one (k := 1) (hfr.keeps k (fun _ _ h => h)) 0 c (.inr ho) W hW
  have HT := Lib.hid (DM.take_pop hf)
  have HGV := Lib.hid hgv
  have HD := Lib.hid h
  have HA : Hid (∀ w0 w1 v, AppendedW w0 w1 3 1 (.slice none 0 0) v l.length (ints l) → Keeps (fun _ => False) w w0 → IsDoc (w1.setCell ⟨fb, c, none⟩ v) b (D.setFree c l) (Ext S w (w1.setCell ⟨fb, c, none⟩ v)) ∧ Keeps S w (w1.setCell ⟨fb, c, none⟩ v) ∧ w1.cell? ⟨fb, c, none⟩ = some (.slice (some ⟨g, 0, none⟩) (l.length + 1) cap) ∧ w1.frozen? ⟨fb, c, none⟩ = false ∧ w1.cell? ⟨b, 5, none⟩ = some (.slice (some ⟨fb, 0, none⟩) 40 40) ∧ (w1.setCell ⟨fb, c, none⟩ v).cell? ⟨b, 5, none⟩ = some (.slice (some ⟨fb, 0, none⟩) 40 40)) := Lib.hid fun w0 w1 v ha k0 => by
    have := h.turned (k := c) (by omega) k0 (v0 := .slice none 0 0) (v := v) (l := l) ha (fun g hg => by simp [Value.ownBlock] at hg)
    rwa [hgv] at this
  unfold maxLen at hc2
  have hbf : b ≠ fb := blk_ne h.blk h.fbk (by decide)
  clear h hfr hgv hf
  go_enter Try.func49, Try.ntmps49
  go_wp2_with (first | (show Code.wp _ (Code.region 3 _ _) _ _ _; refine Stop.out ?_) | (with_reducible refine wp_region_text (by kernel_rfl) (by kernel_rfl) ?_) | (with_reducible refine text_fin (by kernel_rfl) ?_))
  refine ⟨?_⟩
  refine wp_region_held_text (fun W => W.cell? ⟨b, 5, none⟩ = some (.slice (some ⟨fb, 0, none⟩) 40 40)) [3] (by kernel_rfl) (by kernel_rfl) (HHo.out _ (by repeat (first | with_reducible exact Keeps.refl _ _ | with_reducible apply Keeps.drew | with_reducible apply Keeps.alloc))) ?_
  go_wp2_with (first | (refine wpH_load rfl _ _ rfl _ rfl rfl _ _ rfl (fun _ h => h) (by first | assumption | exact HHo.out _ (by repeat (first | with_reducible exact Keeps.refl _ _ | with_reducible apply Keeps.drew | with_reducible apply Keeps.alloc))) ?_) | (refine wpH_walk rfl rfl ?_) | (refine held_fin (by first | assumption | exact HHo.out _ (by repeat (first | with_reducible exact Keeps.refl _ _ | with_reducible apply Keeps.drew | with_reducible apply Keeps.alloc))) ?_) | (refine wpH_nil ?_) | (with_reducible refine text_fin (by kernel_rfl) ?_) | (at_builtin; go_must (refine wpList_append_wide _ rfl _ _ 40 40 rfl 3 (.slice 3) 1 8 (.int .i64 0) info_int Try.underlying40 Try.underlying40 (by intro k h; cases h) rfl (.slice none 0 0) 0 [] rfl (wide_nil _ _ _) _ l.length (ints l) rfl (by simp [ints]) (lenOf_slice _ _ _) (HTL.out _ (by repeat (first | with_reducible exact Keeps.refl _ _ | with_reducible apply Keeps.drew | with_reducible apply Keeps.alloc)) _ _ (by by_cases hcc : cap = 1; (exact .inr ⟨if_pos hcc, by omega⟩); exact .inl (if_neg hcc))) ints_cell (by unfold maxLen; omega) (by omega) ?_); intro v' w4 ha; rw [Nat.zero_add] at ha; obtain ⟨va, vc, rfl, _, _⟩ := ha.row.len; obtain ⟨g1, g2, g3, g4, g5, g6⟩ := HA.out _ w4 _ ha (by repeat (first | with_reducible exact Keeps.refl _ _ | with_reducible apply Keeps.drew | with_reducible apply Keeps.alloc)); have G1 := Lib.hid g1; have G2 := Lib.hid g2; clear g1 g2 ha))
  all_goals go_wp2
  all_goals go_ret
  all_goals exact ⟨_, _, HT.out, rfl, G1.out, G2.out⟩

set_option maxRecDepth 100000 in
set_option maxHeartbeats 800000 in
theorem dtake_top {w : World} {b : Nat} {D : DM} {S : Nat → Prop} (h : IsDoc w b D S) {c : Nat} (hc : c < 22) (hf : D.free c = []) (hs : D.size ≤ 1048576) (ht : D.top + pw c ≤ D.size) :
    Calls Try.prog 49 #[.pointer (some ⟨b, 0, none⟩), .int .i64 c] w (DTakePost D b S c w) := by
  obtain ⟨tv, L, fb, gv, h⟩ := h
  have hfr := h.fr c (by omega)
  rw [hf] at hfr
  have e1 := gv_cell h (k := c) (by omega)
  obtain ⟨ga, cap, hgv, hc1, hc2⟩ := hfr.len
  rw [hgv, List.length_nil] at e1
  have c0 : w.cell? ⟨b, 0, none⟩ = some (.int .i64 (D.size : Nat)) := h.blk.cell (i := 0) rfl
  have c2 : w.cell? ⟨b, 2, none⟩ = some (.int .i64 (D.top : Nat)) := h.blk.cell (i := 2) rfl
  have f2 := h.blk.free 2
  have c5 : w.cell? ⟨b, 5, none⟩ = some (.slice (some ⟨fb, 0, none⟩) 40 40) := h.blk.cell (i := 5) rfl
  have HT := Lib.hid (DM.take_top hf ht)
  have hp := pw_21 (c := c) (by omega)
  have hwr : wrap64 ((2 : Int) ^ c) = (pw c : Nat) := by rw [pw_int]; unfold wrap64; omega
  have HFin : Hid (DocAt (w.setCell ⟨b, 2, none⟩ (.int .i64 ((D.top : Int) + (pw c : Nat)))) b { D with top := D.top + pw c } S tv L fb gv ∧ Keeps S w (w.setCell ⟨b, 2, none⟩ (.int .i64 ((D.top : Int) + (pw c : Nat))))) := Lib.hid (by
    have := h.setTop (D.top + pw c)
    exact this)
  have HL := Lib.hid h.lt
  clear h hfr hgv hf
  go_enter Try.func49, Try.ntmps49
  go_wp2_with (first | (with_reducible refine wp_region_text (by kernel_rfl) (by kernel_rfl) ?_) | (with_reducible refine text_fin (by kernel_rfl) ?_))
  go_ret
  have hk := HFin.out.2
  have hd := HFin.out.1
  refine ⟨_, _, HT.out, rfl, ⟨tv, L, fb, gv, ?_⟩, ?_⟩
  · exact DocAt.wider (DocAt.keeps hd (by repeat (first | with_reducible exact Keeps.refl _ _ | with_reducible apply Keeps.drew | with_reducible apply Keeps.alloc)) (fun _ _ h => h)) (fun _ h => .inl h) (fun x hx => by
      rcases hx with hx | hx
      · exact Nat.lt_of_lt_of_le (HL.out x hx) (by simp)
      · exact hx.2)
  · exact hk.drew
end Go.Proofs.Ytacedeaopgbdhaa

import Derived.Test.YtacedeaopgbdhaaDbA
/-
  The document's arena: Give: what the Go code does.
-/
namespace Go.Tx
open Go Go.RowKit
/-- a block is taken out -/
theorem DocAt.takeOut {w w5 w6 : World} {b fb : Nat} {D D' : DM} {S : Nat → Prop} {ta : Option Addr} {tc k : Nat} {L : List (DB × Value)} {gv : Nat → Value} {v6 : Value}
    (h : DocAt w b D S (.slice ta L.length tc) L fb gv) (hk : k < L.length) (k5 : Keeps (fun _ => False) w w5)
    (ha : AppendedW w5 w6 100 4 (.slice ta k k) v6 (k + (L.length - (k + 1))) ((L.take k).flatMap dbV ++ (L.drop (k + 1)).flatMap dbV))
    (hD : (L.eraseIdx k).map (·.1) = D'.taken) (hc : (docCells D (.slice ta L.length tc) fb).set 4 v6 = docCells D' v6 fb) (hf : D'.free = D.free) :
    IsDoc (w6.setCell ⟨b, 4, none⟩ v6) b D' (Ext S w (w6.setCell ⟨b, 4, none⟩ v6)) ∧ Keeps S w (w6.setCell ⟨b, 4, none⟩ v6) ∧ w6.cell? ⟨b, 4, none⟩ = some (.slice ta L.length tc) ∧ w6.frozen? ⟨b, 4, none⟩ = false := by
  have k6 : Keeps (fun g => (Value.slice ta L.length tc).ownBlock = some g) w w6 := (k5.mono (T := fun g => (Value.slice ta L.length tc).ownBlock = some g) fun _ _ h => h.elim).trans ha.keeps fun g _ hg => by
    have hg : (Value.slice ta k k).ownBlock = some g := hg
    rw [own_slice ta k k L.length tc] at hg
    exact hg
  have hs := List.eraseIdx_sublist L k
  have hlen : (L.eraseIdx k).length = k + (L.length - (k + 1)) := by rw [List.length_eraseIdx, if_pos hk]; omega
  have hty : ∀ {v : Value} {n : Nat} {xs : List Value}, Row w 41 1 v n xs → ∀ g, v.ownBlock = some g → ¬ (Value.slice ta L.length tc).ownBlock = some g := fun hr g hg ht => by
    obtain ⟨cs, hcs⟩ := h.tk.block ht
    exact hr.ne_type (by decide) hcs hg
  refine h.setTaken k6 (M := L.eraseIdx k) ?_ (fun g hg => ?_) hD (fun q hq => (h.ws q (hs.subset hq)).keeps k6 (hty (h.ws q (hs.subset hq)))) (fun q hq g hg => .inl (h.sw q (hs.subset hq) g hg)) (h.apart.sublist hs) hc hf
  · rw [hlen, List.eraseIdx_eq_take_drop_succ, List.flatMap_append]
    exact ha.row
  · rcases ha.own with ho | ⟨ho, _⟩
    · rw [ho, own_slice ta k k L.length tc] at hg
      exact .inl (h.st g hg)
    · rw [ho] at hg; simp at hg; subst hg; exact .inr k5.size
def DGivePost (D : DM) (b : Nat) (S : Nat → Prop) (p : Int) (w : World) (e : Ending) (w' : World) : Prop :=
  (∃ (i : Nat) (x : DB), e = .returned (.pointer none) ∧ D.taken[i]? = some x ∧ ((x.pos + 1 : Nat) : Int) = p ∧ IsDoc w' b (D.give i x) (Ext S w w') ∧ Keeps S w w') ∨
  (∃ g, e = .returned (.pointer (some ⟨g, 0, none⟩)) ∧ (∀ x ∈ D.taken, ((x.pos + 1 : Nat) : Int) ≠ p) ∧ XTold w w' (.pointer (some ⟨g, 0, none⟩)) [(txtFree, p)] 3)
theorem Ext.three {w W w7 w9 w10 : World} {S : Nat → Prop} (h1 : w.heap.size ≤ W.heap.size) (h2 : W.heap.size ≤ w7.heap.size) (h3 : w7.heap.size ≤ w9.heap.size) (h4 : w9.heap.size = w10.heap.size) {g : Nat} (hg : Ext (Ext S W w7) w7 w9 g) : Ext S w w10 g := by
  rcases hg with (hg | hg) | hg
  · exact .inl hg
  · have h5 := hg.1
    have h6 := hg.2
    exact .inr ⟨by omega, by omega⟩
  · have h5 := hg.1
    have h6 := hg.2
    exact .inr ⟨by omega, by omega⟩
theorem wrap_sub (u m : Nat) (h : u ≤ 1048576) (hm : m ≤ u) : wrap64 ((u : Int) - (m : Int)) = (u : Int) - (m : Int) := by
  unfold wrap64; omega
theorem Ext.join {a b c : World} {S : Nat → Prop} (h : a.heap.size ≤ b.heap.size) {g : Nat} (hg : Ext (Ext S a b) b c g) (k : b.heap.size ≤ c.heap.size) : Ext S a c g := Ext.trans h k hg
end Go.Tx
namespace Go.Proofs.Ytacedeaopgbdhaa
open Go.RowKit Go.Tx
set_option maxRecDepth 100000 in
set_option maxHeartbeats 4000000 in
theorem dgive_any {w : World} {b : Nat} {D : DM} {S : Nat → Prop} (h : IsDoc w b D S) (hs : D.Small) (p : Int) :
    Calls Try.prog 35 #[.pointer (some ⟨b, 0, none⟩), .int .i64 p] w (DGivePost D b S p w) := by
  have HF := Lib.hid (find_any h hs.count hs.pos p)
  have HS := Lib.hid hs
  have HLT := Lib.hid h.lt
  obtain ⟨tv, L, fb, gv, h⟩ := h
  obtain ⟨ta, tc, rfl, htc, htm⟩ := h.tk.len
  have c4 : w.cell? ⟨b, 4, none⟩ = some (.slice ta L.length tc) := h.blk.cell (i := 4) rfl
  have HD := Lib.hid h
  have hl := h.len
  have hlb : L.length ≤ 1048576 := by have := hs.count; omega
  unfold maxLen at htm
  clear h hs hl
  go_enter Try.func35, Try.ntmps35
  go_wp2_with (first | (go_at_call 50; refine Stop.out ?_))
  refine ⟨HF.out.mono ?_⟩
  rintro e w1 ⟨rfl, ⟨i, x, rfl, hi, hx⟩ | ⟨rfl, hno⟩⟩
  · have hil : i < L.length := by
      have := (List.getElem?_eq_some_iff.1 hi).1
      rw [← HD.out.lst, List.length_map] at this
      exact this
    obtain ⟨⟨y, yv⟩, hy⟩ : ∃ q, L[i]? = some q := ⟨L[i]'hil, by simp⟩
    obtain rfl : y = x := by
      have h1 : (L.map (·.1))[i]? = some y := by simp [hy]
      rw [HD.out.lst, hi] at h1
      exact (Option.some.inj h1).symm
    obtain ⟨g, tc2, e, _, _⟩ := HD.out.tk.form (by omega)
    obtain ⟨rfl, rfl⟩ : ta = some ⟨g, 0, none⟩ ∧ tc = tc2 := by cases e; exact ⟨rfl, rfl⟩
    have hyr := HD.out.ws _ (List.mem_of_getElem? hy)
    simp only at hyr
    obtain ⟨ya, yc, rfl, _, _⟩ := hyr.len
    clear hyr
    have d0 := HD.out.cell rfl hy (k := 0) (by omega) rfl
    have d1 := HD.out.cell rfl hy (k := 1) (by omega) rfl
    have d2 := HD.out.cell rfl hy (k := 2) (by omega) rfl
    have d3 := HD.out.cell rfl hy (k := 3) (by omega) rfl
    simp only [Nat.add_zero] at d0
    have HI := Lib.hid hi
    have HX := Lib.hid hx
    have HY := Lib.hid hy
    have hym := List.mem_of_getElem? hi
    obtain ⟨hyc, hyu⟩ := HS.out.cls y hym
    have hyp := HS.out.pos y hym
    clear hi hx hy e hym
    go_wp2_with (first | (show Code.wp _ (Code.region 5 _ _) _ _ _; refine Stop.out ?_) | (with_reducible refine wp_region_text (by kernel_rfl) (by kernel_rfl) ?_) | (with_reducible refine text_fin (by kernel_rfl) ?_))
    generalize hW : w.alloc (.cells #[.int .i64 y.pos, .int .i64 y.cls, .int .i64 y.len, .slice ya y.len yc] 100) = W
    have hkW : Keeps (fun _ => False) w W := by rw [← hW]; exact (Keeps.refl _ w).alloc _
    have hB : Blk W w.heap.size 100 (dbV (y, .slice ya y.len yc)) := by rw [← hW]; exact Blk.new w (dbV (y, .slice ya y.len yc)) 100
    have hDW := HD.out.keeps hkW fun _ _ h => h
    have c4w : W.cell? ⟨b, 4, none⟩ = some (.slice (some ⟨g, 0, none⟩) L.length tc) := hDW.blk.cell (i := 4) rfl
    have f4w := hDW.blk.free 4
    have HDW := Lib.hid hDW
    have HBW := Lib.hid hB
    have HKW := Lib.hid hkW
    have HOC : Hid (∀ q ∈ L, q.2.oneCell' = true) := Lib.hid fun q hq => (HD.out.ws q hq).one
    have HS1S : Hid (∀ V, (Instr.sliceAt 88 (.slice (some ⟨g, 0, none⟩) L.length tc) none (some (.int .i64 (i : Nat))) (some (.int .i64 (i : Nat)))).run Try.prog V = .ok (.slice (some ⟨g, 0, none⟩) i i) V) := Lib.hid (slice_head _ elem_b size_b HDW.out.tk (Nat.le_of_lt hil))
    obtain ⟨ad, HAD⟩ : ∃ ad, Hid (ad = if tc = i + 1 then (some ⟨g, 0, none⟩ : Option Addr) else (some (⟨g, 0, none⟩ : Addr)).map (·.add ((i + 1) * 4))) := ⟨_, Lib.hid rfl⟩
    have HS2S : Hid (∀ V, (Instr.sliceAt 88 (.slice (some ⟨g, 0, none⟩) L.length tc) (some (.int .i64 ((i : Int) + 1))) none none).run Try.prog V = .ok (.slice ad (L.length - (i + 1)) (tc - (i + 1))) V) := Lib.hid (by rw [HAD.out]; exact slice_tail _ elem_b size_b (k := i + 1) (by omega))
    have HTL : Hid (∀ V, Keeps (fun _ => False) W V → ∀ V2 : World, V2.heap = V.heap → (Builtin.firstCells 4 (L.length - (i + 1)) (.slice ad (L.length - (i + 1)) (tc - (i + 1)))).run Try.prog V2 = .ok ((L.drop (i + 1)).flatMap dbV).toArray V2) := Lib.hid fun V hV V2 h2 => by
      rw [← flat_drop, HAD.out]
      exact tail_any (HDW.out.tk.keeps hV fun _ _ h => h) (by omega) V2 h2
    have HKF : ∀ V, Keeps (fun _ => False) W V → V.cell? ⟨b, 4, none⟩ = some (.slice (some ⟨g, 0, none⟩) L.length tc) := fun V hk => hk.cell c4w id
    have HHo := Lib.hid HKF
    clear HKF hW hkW hB hDW d0 d1 d2 d3 c4
    refine ⟨?_⟩
    refine Tc.wp_region_held_text (fun V => True) [] (by kernel_rfl) (by kernel_rfl) trivial ?_
    go_wp2_with (first | (show Tc.wpListH _ _ _ _ _ (⟨_, Op.slice _ _ none _ _, _, _, _, _⟩ :: _) _ _ _; refine Tc.wpH_same rfl rfl trivial _ (op_slice rfl (HS1S.out _)) ?_) | (show Tc.wpListH _ _ _ _ _ (⟨_, Op.slice _ _ (some _) _ _, _, _, _, _⟩ :: _) _ _ _; refine Tc.wpH_same rfl rfl trivial _ (op_slice rfl (HS2S.out _)) ?_) | (refine Tc.wpH_walk rfl rfl ?_) | (refine Tc.held_fin trivial ?_) | (refine Tc.wpH_nil ?_) | (with_reducible refine Tc.text_fin (by kernel_rfl) ?_) | (show wpList _ _ _ (⟨_, Op.call ⟨Callee.builtin Builtin.append, _, _⟩, _, _, _, _⟩ :: _) _ _; refine Stop.out ?_))
    refine ⟨?_⟩
    refine wpList_append_wide _ rfl _ _ 88 88 rfl 100 (.slice 100) 4 48 _ info_b Try.underlying88 Try.underlying88 (by intro k h; cases h) rfl (.slice (some ⟨g, 0, none⟩) i i) i ((L.take i).flatMap dbV) rfl (by rw [← flat_take]; exact (HDW.out.tk.cut_any (Nat.le_of_lt hil)).keeps (Keeps.drew (Keeps.refl (fun _ => False) W)) fun _ _ h => h) _ (L.length - (i + 1)) ((L.drop (i + 1)).flatMap dbV) rfl (by rw [flat_length, List.length_drop]) (lenOf_slice _ _ _) (fun V2 h2 => HTL.out _ (by repeat (first | with_reducible exact Keeps.refl _ _ | with_reducible apply Keeps.drew | with_reducible apply Keeps.alloc)) V2 h2) (flat_cells _ fun q hq => HOC.out q (List.mem_of_mem_drop hq)) (by unfold maxLen; omega) (by omega) ?_
    intro v6 w6 ha6
    have hmap : (L.eraseIdx i).map (·.1) = D.taken.eraseIdx i := by rw [List.eraseIdx_eq_take_drop_succ, List.map_append, List.map_take, List.map_drop, HD.out.lst, ← List.eraseIdx_eq_take_drop_succ]
    obtain ⟨g1, g2, g3, g4⟩ := HDW.out.takeOut (D' := { D with taken := D.taken.eraseIdx i }) hil (Keeps.drew (Keeps.refl (fun _ => False) W)) ha6 hmap rfl rfl
    have hB6 : Blk w6 w.heap.size 100 (dbV (y, .slice ya y.len yc)) := HBW.out.keeps ((Keeps.drew (Keeps.refl (Own (.slice (some ⟨g, 0, none⟩) i i)) W)).trans ha6.keeps fun _ _ h => h) fun ho => by
      simp [Own, Value.ownBlock] at ho
      have := HLT.out g (HD.out.st g rfl)
      omega
    have hbn : w.heap.size ≠ b := fun e => by have := HLT.out b HD.out.sb; omega
    have hB7 := hB6.set_other (a := ⟨b, 4, none⟩) hbn v6
    obtain ⟨va6, vc6, rfl, _, _⟩ := ha6.row.len
    have G1 := Lib.hid g1
    have G2 := Lib.hid g2
    have HB7 := Lib.hid hB7
    clear g1 g2 ha6 hB6 hB7 hmap
    refine Tc.held_fin trivial ?_
    go_wp2_with (first | (show Code.wp _ (Code.region 6 _ _) _ _ _; refine Stop.out ?_) | (refine Tc.wpH_walk rfl rfl ?_) | (refine Tc.held_fin trivial ?_) | (refine Tc.wpH_nil ?_) | (with_reducible refine Tc.text_fin (by kernel_rfl) ?_) | fail)
    generalize hW7 : w6.setCell ⟨b, 4, none⟩ (.slice va6 (i + (L.length - (i + 1))) vc6) = w7
    have g1 := G1.out
    have g2 := G2.out
    have hb7 := HB7.out
    rw [hW7] at g1 g2 hb7
    clear G1 G2 HB7 hW7 g3 g4
    obtain ⟨tv5, L5, fb5, gv5, h5⟩ := g1
    have hc40 : y.cls < 40 := by omega
    have e5 : w7.cell? ⟨b, 5, none⟩ = some (.slice (some ⟨fb5, 0, none⟩) 40 40) := h5.blk.cell (i := 5) rfl
    have e6 := gv_cell h5 (k := y.cls) hc40
    obtain ⟨fa, fc, hfv, hfc1, hfc2⟩ := (h5.fr y.cls hc40).len
    rw [show ({ D with taken := D.taken.eraseIdx i } : DM).free = D.free from rfl] at hfv hfc1
    rw [hfv] at e6
    have k0 := hb7.cell (i := 0) rfl
    have k1 := hb7.cell (i := 1) rfl
    have hfl := HS.out.lens y.cls
    have HHo7 : Hid (∀ V, Keeps (fun _ => False) w7 V → V.cell? ⟨b, 5, none⟩ = some (.slice (some ⟨fb5, 0, none⟩) 40 40) ∧ V.cell? ⟨w.heap.size, 1, none⟩ = some (.int .i64 (y.cls : Nat)) ∧ V.cell? ⟨fb5, y.cls, none⟩ = some (.slice fa (D.free y.cls).length fc)) := Lib.hid fun V hk => ⟨hk.cell e5 id, hk.cell k1 id, hk.cell e6 id⟩
    have HFA : Hid (∀ V, Keeps (fun _ => False) w7 V → ∀ V2 : World, V2.heap = V.heap → (Builtin.firstCells 1 (D.free y.cls).length (.slice fa (D.free y.cls).length fc)).run Try.prog V2 = .ok (ints (D.free y.cls)).toArray V2) := Lib.hid fun V hV V2 h2 => by
      have h := (h5.fr y.cls hc40).keeps hV fun _ _ h => h
      rw [hfv] at h
      exact h.all V2 h2
    have HA2 : Hid (∀ w0 w1 v, AppendedW w0 w1 3 1 (.slice (some ⟨w7.heap.size, 0, none⟩) 1 1) v (1 + (D.free y.cls).length) ([.int .i64 (y.pos : Nat)] ++ ints (D.free y.cls)) → Keeps (fun _ => False) w7 w0 → IsDoc (w1.setCell ⟨fb5, y.cls, none⟩ v) b (DM.setFree { D with taken := D.taken.eraseIdx i } y.cls (y.pos :: D.free y.cls)) (Ext (Ext S W w7) w7 (w1.setCell ⟨fb5, y.cls, none⟩ v)) ∧ Keeps (Ext S W w7) w7 (w1.setCell ⟨fb5, y.cls, none⟩ v) ∧ (w1.cell? ⟨b, 5, none⟩ = some (.slice (some ⟨fb5, 0, none⟩) 40 40) ∧ w1.cell? ⟨w.heap.size, 1, none⟩ = some (.int .i64 (y.cls : Nat)) ∧ w1.cell? ⟨fb5, y.cls, none⟩ = some (.slice fa (D.free y.cls).length fc)) ∧ w1.frozen? ⟨fb5, y.cls, none⟩ = false ∧ Blk (w1.setCell ⟨fb5, y.cls, none⟩ v) w.heap.size 100 (dbV (y, .slice ya y.len yc))) := Lib.hid fun w0 w1 v ha kk0 => by
      have := h5.turned (k := y.cls) hc40 kk0 (v0 := .slice (some ⟨w7.heap.size, 0, none⟩) 1 1) (v := v) (l := y.pos :: D.free y.cls) ha (fun g hg => by simp [Value.ownBlock] at hg; omega)
      rw [hfv] at this
      obtain ⟨q1, q2, q3, q4, q5, q6⟩ := this
      have kk1 : Keeps (fun _ => False) w7 w1 := kk0.trans ha.keeps fun g hg ho => by simp [Own, Value.ownBlock] at ho; omega
      exact ⟨q1, q2, ⟨q5, kk1.cell k1 id, q3⟩, q4, (hb7.keeps kk1 id).set_other (fun e => by
        have h1 := hb7
        have h2 := h5.fbk
        simp only at e
        rw [← e] at h2
        unfold Blk at h1 h2
        rw [h1] at h2
        simp only [Option.some.injEq, Obj.cells.injEq] at h2
        exact absurd h2.2.1 (by decide)) v⟩
    have HK7 : Hid (Keeps S w w7) := Lib.hid ((HKW.out.mono (T := S) fun _ _ h => h.elim).trans g2 fun _ _ h => h)
    have HWS : Hid (w.heap.size ≤ W.heap.size ∧ W.heap.size ≤ w7.heap.size) := Lib.hid ⟨HKW.out.size, g2.size⟩
    clear h5 hb7 hfv g2
    refine ⟨?_⟩
    refine Tc.wp_region_held_text (fun V => V.cell? ⟨b, 5, none⟩ = some (.slice (some ⟨fb5, 0, none⟩) 40 40) ∧ V.cell? ⟨w.heap.size, 1, none⟩ = some (.int .i64 (y.cls : Nat)) ∧ V.cell? ⟨fb5, y.cls, none⟩ = some (.slice fa (D.free y.cls).length fc)) [3, 5, 12, 14, 16] (by kernel_rfl) (by kernel_rfl) (HHo7.out _ (by repeat (first | with_reducible exact Keeps.refl _ _ | with_reducible apply Keeps.drew | with_reducible apply Keeps.alloc))) ?_
    go_wp2_with (first | (refine Tc.wpH_load rfl _ _ rfl _ rfl rfl _ _ rfl (fun _ h => h.1) (HHo7.out _ (by repeat (first | with_reducible exact Keeps.refl _ _ | with_reducible apply Keeps.drew | with_reducible apply Keeps.alloc))) ?_) | (refine Tc.wpH_load rfl _ _ rfl _ rfl rfl _ _ rfl (fun _ h => h.2.1) (HHo7.out _ (by repeat (first | with_reducible exact Keeps.refl _ _ | with_reducible apply Keeps.drew | with_reducible apply Keeps.alloc))) ?_) | (refine Tc.wpH_load rfl _ _ rfl _ rfl rfl _ _ rfl (fun _ h => h.2.2) (HHo7.out _ (by repeat (first | with_reducible exact Keeps.refl _ _ | with_reducible apply Keeps.drew | with_reducible apply Keeps.alloc))) ?_) | (refine Tc.wpH_walk rfl rfl ?_) | (refine Tc.held_last rfl ?_) | (refine Tc.held_fin (by first | assumption | exact HHo7.out _ (by repeat (first | with_reducible exact Keeps.refl _ _ | with_reducible apply Keeps.drew | with_reducible apply Keeps.alloc))) ?_) | (refine Tc.wpH_nil ?_) | (with_reducible refine Tc.text_fin (by kernel_rfl) ?_) | (at_builtin; go_must (refine wpList_append_wide _ rfl _ _ 40 40 rfl 3 (.slice 3) 1 8 (.int .i64 0) info_int Try.underlying40 Try.underlying40 (by intro k h; cases h) rfl (.slice (some ⟨w7.heap.size, 0, none⟩) 1 1) 1 [.int .i64 (y.pos : Nat)] rfl (wide_one w7.drew 3 _) _ (D.free y.cls).length (ints (D.free y.cls)) rfl (by simp [ints]) (lenOf_slice _ _ _) (fun V2 h2 => HFA.out _ (by repeat (first | with_reducible exact Keeps.refl _ _ | with_reducible apply Keeps.drew | with_reducible apply Keeps.alloc)) V2 h2) ints_cell (by unfold maxLen; omega) (by omega) ?_); intro v' w8 ha; obtain ⟨g1, g2, g3, g4, g5⟩ := HA2.out _ w8 _ ha (by repeat (first | with_reducible exact Keeps.refl _ _ | with_reducible apply Keeps.drew | with_reducible apply Keeps.alloc)); obtain ⟨va2, vc2, rfl, _, _⟩ := ha.row.len; have G5 := Lib.hid g1; have G6 := Lib.hid g2; have G7 := Lib.hid g5; have g6 := g3.2.2; clear g1 g2 g5 ha) | (show Code.wp _ (Code.region 7 _ _) _ _ _; refine Stop.out ?_))
    generalize hW9 : w8.setCell ⟨fb5, y.cls, none⟩ (.slice va2 (1 + (D.free y.cls).length) vc2) = w9
    have g1 := G5.out
    have g2 := G6.out
    have g5 := G7.out
    rw [hW9] at g1 g2 g5
    clear G5 G6 G7 hW9 g3 g4 g6 e5 e6 k0 k1
    obtain ⟨tv9, L9, fb9, gv9, h9⟩ := g1
    have e3 : w9.cell? ⟨b, 3, none⟩ = some (.int .i64 (D.used : Nat)) := h9.blk.cell (i := 3) rfl
    have f3 := h9.blk.free 3
    have k1 := g5.cell (i := 1) rfl
    have hpc := pw_21 (c := y.cls) (by omega)
    have hus := HS.out.used
    have hwr : wrap64 ((2 : Int) ^ y.cls) = (pw y.cls : Nat) := by rw [pw_int]; exact wrap_small _ (by omega)
    have hwsub := wrap_sub D.used (pw y.cls) hus hyu
    have hsub : ((D.used - pw y.cls : Nat) : Int) = (D.used : Int) - (pw y.cls : Nat) := Int.ofNat_sub hyu
    have HFin : Hid (DocAt (w9.setCell ⟨b, 3, none⟩ (.int .i64 ((D.used : Int) - (pw y.cls : Nat)))) b (D.give i y) (Ext (Ext S W w7) w7 w9) tv9 L9 fb9 gv9 ∧ Keeps (Ext (Ext S W w7) w7 w9) w9 (w9.setCell ⟨b, 3, none⟩ (.int .i64 ((D.used : Int) - (pw y.cls : Nat))))) := Lib.hid (by
      rw [← hsub]
      exact h9.head (D' := D.give i y) 3 _ (by simp [docCells, DM.give, DM.push, DM.setFree]) rfl rfl)
    have HG2 := Lib.hid g2
    clear h9 g2 g5 hsub
    refine ⟨?_⟩
    go_wp2_with (first | (with_reducible refine wp_region_text (by kernel_rfl) (by kernel_rfl) ?_) | (with_reducible refine text_fin (by kernel_rfl) ?_))
    go_ret
    obtain ⟨hd, hk⟩ := HFin.out
    obtain ⟨z1, z2⟩ := HWS.out
    clear hpc hus hyu hfl hyp hlb htm htc hfc1 hfc2 hwr hwsub
    have z3 := HG2.out.size
    have z4 := hk.size
    have hkk : Keeps S w9 (w9.setCell ⟨b, 3, none⟩ (.int .i64 ((D.used : Int) - (pw y.cls : Nat)))) := Keeps.setCell (p := ⟨b, 3, none⟩) (Keeps.refl S w9) (fun _ => HD.out.sb) _
    have hk9 : Keeps S w w9 := HK7.out.trans HG2.out fun g hg he => by
      rcases he with he | he
      · exact he
      · have := he.1; omega
    refine .inl ⟨i, y, rfl, HI.out, HX.out, ⟨tv9, L9, fb9, gv9, DocAt.keeps (T := fun _ => False) (DocAt.wider hd (fun g hg => Ext.three z1 z2 z3 (World.size_setCell ..).symm hg) (fun g hg => ?_)) (by repeat (first | with_reducible exact Keeps.refl _ _ | with_reducible apply Keeps.drew | with_reducible apply Keeps.alloc)) (fun _ _ h => h)⟩, ?_⟩
    · rcases hg with hg | hg
      · exact Nat.lt_of_lt_of_le (HLT.out g hg) (hk9.trans hkk fun _ _ h => h).size
      · exact hg.2
    · exact (hk9.trans hkk fun _ _ h => h).drew
  · have HN := Lib.hid hno
    clear hno c4
    go_wp2_with (first | (with_reducible refine wp_region_text (by kernel_rfl) (by kernel_rfl) ?_) | (with_reducible refine text_fin (by kernel_rfl) ?_) | (go_at_call 46; refine (K_any 3 _).mono ?_; rintro e x1 ⟨rfl, rfl⟩) | (go_at_call 45; refine (f_any _ _ _ _).mono ?_; rintro e x1 ⟨rfl, rfl⟩))
    go_ret
    exact .inr ⟨_, rfl, HN.out, told_one w txtFree p 3⟩
end Go.Proofs.Ytacedeaopgbdhaa

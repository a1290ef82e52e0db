/-
  Links: who is linked: what the Go code does.
-/
import Derived.Test.YtkdlhpddcpjpaaaLnD
namespace Go.Proofs.Ytkdlhpddcpjpaaa
open Go.RowKit Go.Tx
theorem eq_pair (x y x' y' : Int) (w : World) : (binOp .eql 47 (.agg #[.int .i64 x, .int .i64 y]) (.agg #[.int .i64 x', .int .i64 y'])).run Try.prog w = .ok (.bool (decide (x = x' ∧ y = y'))) w := by
  obtain ⟨i, hi⟩ := info_of_underlying Try.underlying2
  have h := run_equal_pair Try.underlying47 Try.underlying2 hi cells_pair (x, y) (x', y') w
  simp only [pairV] at h
  show (do pure (Value.bool (← Op.equal 47 (.agg #[.int .i64 x, .int .i64 y]) (.agg #[.int .i64 x', .int .i64 y']))) : Sem Value).run Try.prog w = _
  rw [Sem.run_bind, h]
  simp
theorem guard_pair : Try.prog.eqGuardType Try.prog.depth 47 = false := by kernel_rfl
set_option maxRecDepth 100000 in
set_option maxHeartbeats 1600000 in
theorem linked_any {w : World} {b : Nat} {N : NM} {S : Nat → Prop} (h : IsNet w b N S) (hN : N.Ok) (hlen : N.ls.length ≤ 8796093022208) (a : Int) :
    Calls Try.prog 9 #[.pointer (some ⟨b, 0, none⟩), .int .i64 a] w (LongsPost w b N S (N.linked a)) := by
  have HN := Lib.hid h
  have heq := eq_pair
  have hgd := guard_pair
  obtain ⟨i2, hi2t⟩ := info_of_underlying Try.underlying47
  have HI2T := Lib.hid hi2t
  obtain ⟨lv, wv, h⟩ := h
  obtain ⟨o, rfl⟩ := h.ml.form
  have hbs := h.lt b h.sb
  have c0 : w.cell? ⟨b, 0, none⟩ = some (.map o) := h.blk.cell (i := 0) rfl
  have HM := Lib.hid h.ml
  obtain ⟨F, hF⟩ : ∃ F : (Int × Int) × Value → Option Int, F = fun p => NM.other a p.1 := ⟨_, rfl⟩
  have HF : Hid (∀ k1 k2 u, F ((k1, k2), u) = NM.other a (k1, k2)) := Lib.hid fun _ _ _ => by rw [hF]
  have HW : Hid ((lsKV N.ls).filterMap F = N.ls.filterMap (NM.other a)) := Lib.hid (by
    unfold lsKV
    rw [List.filterMap_map, hF]
    rfl)
  have HB : Hid (∀ p ∈ lsKV N.ls, ∃ k1 k2, p = ((k1, k2), .int .i64 1) ∧ k1 < k2) := Lib.hid fun p hp => by
    obtain ⟨t, ht, rfl⟩ := List.mem_map.1 hp
    exact ⟨t.1, t.2, rfl, hN.lt t ht⟩
  have HL : Hid ((lsKV N.ls).length ≤ 8796093022208) := Lib.hid (by rw [lsKV_length]; exact hlen)
  have HL2 : Hid (∀ acc : List Int, acc.Perm ((lsKV N.ls).filterMap F) → acc.length < 4611686018427387904) := Lib.hid fun acc hp => by
    have h1 := hp.length_eq
    have h2 := List.length_filterMap_le F (lsKV N.ls)
    rw [lsKV_length] at h2
    omega
  clear h hlen hF hN hi2t
  go_enter Try.func9, Try.ntmps9
  go_wp2_with (at_range; refine Stop.out ?_)
  refine ⟨?_⟩
  refine wpList_range_o rfl _ 24 rfl 47 2 Try.underlying24 (.map o) rfl HM.out ?_
  intro w1 hi1 hk1 hs1
  have HI := Lib.hid hi1
  have HK := Lib.hid hk1
  have HS := Lib.hid hs1
  clear hi1 hk1 hs1
  go_simp
  go_wp2
  go_loopg [5] (lsKV N.ls).length (fun k lv wr => CollAt pairV F w (.map o) (lsKV N.ls) k lv wr)
  case atStart => exact ⟨_, [], rfl, HI.out, World.ownsRow_nil _ _ _ _, by simp, fun _ h => h, HK.out, by rw [HS.out]; omega, fun g hg => by simp [Value.ownBlock] at hg⟩
  case round =>
    obtain ⟨left, acc, rfl, hit, hr, hperm, hsub, hkp, hsz, hown⟩ := hrel
    have HIt := Lib.hid hit
    have HR := Lib.hid hr
    have HP := Lib.hid hperm
    have HKp := Lib.hid hkp
    have HO := Lib.hid hown
    have HSub := Lib.hid hsub
    have HSz := Lib.hid hsz
    clear hit hr hperm hkp hown hsub hsz
    go_wp2_with (at_next; refine Stop.out ?_)
    refine ⟨?_⟩
    refine wpList_next_o rfl _ rfl w.heap.size (.map o) rfl HIt.out ?_ ?_
    · intro hl
      subst hl
      go_wp2_with (go_at_call 18; refine Stop.out ?_)
      have hp : acc.Perm (N.ls.filterMap (NM.other a)) := by
        have := HP.out
        rw [HW.out] at this
        simpa using this
      refine ⟨(sort_row HR.out (HL2.out acc (by have := HP.out; simpa using this))).mono ?_⟩
      rintro e w2 ⟨rfl, hr2, hk2⟩
      rw [sortI_of_perm hp] at hr2
      have hlen : acc.length = (N.linked a).length := by rw [hp.length_eq]; exact (sortI_length _).symm
      rw [hlen] at hr2
      have hk3 : Keeps (fun _ => False) w w2 := HKp.out.trans hk2 fun g hg ho => by have := HO.out g ho; omega
      have HFin : Hid (LongsPost w b N S (N.linked a) (.returned u5) w2) := Lib.hid ⟨_, rfl, hr2, HN.out.keeps hk3 fun _ _ h => h, hk3, fun g hg => Nat.le_of_lt (HO.out g hg)⟩
      clear hr2 hk2 hk3 hp hlen
      go_wp2
      go_ret
      exact HFin.out
    · intro j p w2 hj hi2 hk2 hs2 hen
      obtain ⟨k1, k2, rfl, hlt⟩ := HB.out p (HSub.out p (List.mem_of_getElem? hj))
      have HJ := Lib.hid hj
      have HI2 := Lib.hid hi2
      have HEN := Lib.hid hen
      have hsz2 : w.heap.size < w2.heap.size := by rw [hs2]; exact HSz.out
      have HK2 : Hid (Keeps (fun _ => False) w w2) := Lib.hid (HKp.out.trans hk2 fun g hg e => by omega)
      have HR2 : Hid (Row w2 2 1 u5 acc.length (longs acc)) := Lib.hid (HR.out.keeps hk2 fun g hg e => by have := HO.out g hg; omega)
      have HHo : Hid (∀ W, Keeps (fun _ => False) (w2.alloc (.cells #[.int .i64 k1, .int .i64 k2] 47)) W → W.cell? ⟨w2.heap.size, 0, none⟩ = some (.int .i64 k1) ∧ W.cell? ⟨w2.heap.size, 1, none⟩ = some (.int .i64 k2)) := Lib.hid fun W hk => by
        have hb := (Blk.new w2 [.int .i64 k1, .int .i64 k2] 47).keeps hk fun h => h
        exact ⟨hb.cell (i := 0) rfl, hb.cell (i := 1) rfl⟩
      clear hj hi2 hk2 hs2 hen
      have hfx := HF.out k1 k2 (.int .i64 1)
      by_cases h1 : k1 = a
      · subst h1
        rw [show NM.other k1 (k1, k2) = some k2 by simp [NM.other]] at hfx
        have HFX := Lib.hid hfx
        have hal := coll_len HJ.out hfx HP.out
        have hal2 := HL.out
        have HPA : Hid (pairK k1 k2 = (k1, k2)) := Lib.hid (by unfold pairK; rw [if_pos (by omega)])
        clear hfx
        go_wp2_with (first | (show wpList _ _ _ (⟨_, Op.entry _, _, _, _, _⟩ :: _) _ _; refine wpList_entry_kv rfl _ rfl w.heap.size ((k1, k2), .int .i64 1) rfl HEN.out ?_; simp only [pairV]))
        refine wp_region_held_text (fun W => W.cell? ⟨w2.heap.size, 0, none⟩ = some (.int .i64 k1) ∧ W.cell? ⟨w2.heap.size, 1, none⟩ = some (.int .i64 k2)) [0] (by kernel_rfl) (by kernel_rfl) (HHo.out _ (by repeat (first | with_reducible exact Keeps.refl _ _ | with_reducible exact HKb.out | with_reducible exact HKa.out | with_reducible apply Keeps.drew | with_reducible apply Keeps.alloc))) ?_
        go_wp2_with (first | (refine wpH_load2 rfl 47 2 _ rfl Try.underlying47 cells_two i2 HI2T.out w2.heap.size _ _ rfl (fun _ h => h) (HHo.out _ (by repeat (first | with_reducible exact Keeps.refl _ _ | with_reducible exact HKb.out | with_reducible exact HKa.out | with_reducible apply Keeps.drew | with_reducible apply Keeps.alloc))) ?_) | (refine wpH_walk rfl rfl ?_) | (refine held_fin (HHo.out _ (by repeat (first | with_reducible exact Keeps.refl _ _ | with_reducible exact HKb.out | with_reducible exact HKa.out | with_reducible apply Keeps.drew | with_reducible apply Keeps.alloc))) ?_) | (refine wpH_nil ?_) | (with_reducible refine text_fin (by kernel_rfl) ?_) | (go_at_call 17; refine (key_any _ _ _).mono ?_; rintro e w5 ⟨rfl, hkk⟩; rw [HPA.out]; simp only [pairV]; have HKa : Hid (Keeps (fun _ => False) (w2.alloc (.cells #[.int .i64 k1, .int .i64 k2] 47)) w5) := Lib.hid (Keeps.trans (S := fun _ => False) (T := fun _ => False) (by repeat (first | with_reducible exact Keeps.refl _ _ | with_reducible exact HKb.out | with_reducible exact HKa.out | with_reducible apply Keeps.drew | with_reducible apply Keeps.alloc)) hkk fun _ _ h => h); have HK3 : Hid (Keeps (fun _ => False) w2 w5) := Lib.hid (((Keeps.refl (fun _ => False) w2).alloc _).trans HKa.out fun _ _ h => h); have hsz_w5 : w2.heap.size < w5.heap.size := (by have := HKa.out.size; rw [World.size_alloc] at this; omega); have x0_w5 := (HHo.out w5 HKa.out).1; have x1_w5 := (HHo.out w5 HKa.out).2; clear hkk) | (at_builtin; go_must (refine wpList_append_row _ rfl _ _ 33 33 rfl 2 (.slice 2) 1 8 (.int .i64 0) info_i64 Try.underlying33 Try.underlying33 (by intro k h; cases h) rfl u5 acc.length (longs acc) rfl (HR2.out.keeps (S := fun _ => False) (by repeat (first | with_reducible exact Keeps.refl _ _ | with_reducible exact HK4.out | with_reducible exact HK3.out | with_reducible apply Keeps.drew | with_reducible apply Keeps.alloc)) (fun _ _ h => h)) _ 1 [.int .i64 k2] rfl rfl (lenOf_slice _ _ _) (firstCells_at _ rfl (oneAt rfl)) (by intro u hu; simp at hu; subst hu; rfl) (by unfold maxLen; omega) (by omega) ?_); intro v' w4 ha; obtain ⟨va, vc, rfl, _, _⟩ := ha.row.len; obtain ⟨g1, g2, g3, g4⟩ := rowKeep HK2.out HO.out hsz2 (by repeat (first | with_reducible exact Keeps.refl _ _ | with_reducible exact HK4.out | with_reducible exact HK3.out | with_reducible apply Keeps.drew | with_reducible apply Keeps.alloc)) ha; have HIT : Hid (IterO pairV w4 w.heap.size (.map o) (lsKV N.ls) (left.eraseIdx j)) := Lib.hid (HI2.out.keeps g4 (fun m hm => by have := HM.out.lt hm; omega) (Nat.lt_irrefl _)); have G1 := Lib.hid g1; have G2 := Lib.hid g2; have G3 := Lib.hid g3; have G5 := Lib.hid ha.row; clear g1 g2 g3 g4 ha))
        go_roundg (left.eraseIdx j).length
        case measure => exact erase_len HJ.out
        case rel => exact ⟨left.eraseIdx j, acc ++ [k2], rfl, HIT.out, by have := G5.out; rw [longs_snoc] at this; simpa using this, coll_some HJ.out HFX.out HP.out, erase_sub HSub.out, G1.out, G2.out, G3.out⟩
      · by_cases h2 : k2 = a
        · subst h2
          rw [show NM.other k2 (k1, k2) = some k1 by simp [NM.other, h1]] at hfx
          have HFX := Lib.hid hfx
          have hal := coll_len HJ.out hfx HP.out
          have hal2 := HL.out
          have HPA : Hid (pairK k2 k2 = (k2, k2)) := Lib.hid (by unfold pairK; rw [if_pos (by omega)])
          have HPB : Hid (pairK k1 k2 = (k1, k2)) := Lib.hid (by unfold pairK; rw [if_pos (by omega)])
          have hd : decide (k1 = k2 ∧ k2 = k2) = false := by simp; omega
          clear hfx
          go_wp2_with (first | (show wpList _ _ _ (⟨_, Op.entry _, _, _, _, _⟩ :: _) _ _; refine wpList_entry_kv rfl _ rfl w.heap.size ((k1, k2), .int .i64 1) rfl HEN.out ?_; simp only [pairV]))
          refine wp_region_held_text (fun W => W.cell? ⟨w2.heap.size, 0, none⟩ = some (.int .i64 k1) ∧ W.cell? ⟨w2.heap.size, 1, none⟩ = some (.int .i64 k2)) [0] (by kernel_rfl) (by kernel_rfl) (HHo.out _ (by repeat (first | with_reducible exact Keeps.refl _ _ | with_reducible exact HKb.out | with_reducible exact HKa.out | with_reducible apply Keeps.drew | with_reducible apply Keeps.alloc))) ?_
          go_wp2_with (first | (refine wpH_load2 rfl 47 2 _ rfl Try.underlying47 cells_two i2 HI2T.out w2.heap.size _ _ rfl (fun _ h => h) (HHo.out _ (by repeat (first | with_reducible exact Keeps.refl _ _ | with_reducible exact HKb.out | with_reducible exact HKa.out | with_reducible apply Keeps.drew | with_reducible apply Keeps.alloc))) ?_) | (refine wpH_walk rfl rfl ?_) | (refine held_fin (HHo.out _ (by repeat (first | with_reducible exact Keeps.refl _ _ | with_reducible exact HKb.out | with_reducible exact HKa.out | with_reducible apply Keeps.drew | with_reducible apply Keeps.alloc))) ?_) | (refine wpH_nil ?_) | (with_reducible refine text_fin (by kernel_rfl) ?_) | (go_at_call 17; refine (key_any _ _ _).mono ?_; rintro e w5 ⟨rfl, hkk⟩; rw [HPA.out]; simp only [pairV]; have HKa : Hid (Keeps (fun _ => False) (w2.alloc (.cells #[.int .i64 k1, .int .i64 k2] 47)) w5) := Lib.hid (Keeps.trans (S := fun _ => False) (T := fun _ => False) (by repeat (first | with_reducible exact Keeps.refl _ _ | with_reducible exact HKb.out | with_reducible exact HKa.out | with_reducible apply Keeps.drew | with_reducible apply Keeps.alloc)) hkk fun _ _ h => h); have HK3 : Hid (Keeps (fun _ => False) w2 w5) := Lib.hid (((Keeps.refl (fun _ => False) w2).alloc _).trans HKa.out fun _ _ h => h); have hsz_w5 : w2.heap.size < w5.heap.size := (by have := HKa.out.size; rw [World.size_alloc] at this; omega); have x0_w5 := (HHo.out w5 HKa.out).1; have x1_w5 := (HHo.out w5 HKa.out).2; clear hkk))
          refine wp_region_held_text (fun W => W.cell? ⟨w2.heap.size, 0, none⟩ = some (.int .i64 k1) ∧ W.cell? ⟨w2.heap.size, 1, none⟩ = some (.int .i64 k2)) [0] (by kernel_rfl) (by kernel_rfl) (HHo.out _ (by repeat (first | with_reducible exact Keeps.refl _ _ | with_reducible exact HKb.out | with_reducible exact HKa.out | with_reducible apply Keeps.drew | with_reducible apply Keeps.alloc))) ?_
          go_wp2_with (first | (refine wpH_load2 rfl 47 2 _ rfl Try.underlying47 cells_two i2 HI2T.out w2.heap.size _ _ rfl (fun _ h => h) (HHo.out _ (by repeat (first | with_reducible exact Keeps.refl _ _ | with_reducible exact HKb.out | with_reducible exact HKa.out | with_reducible apply Keeps.drew | with_reducible apply Keeps.alloc))) ?_) | (refine wpH_walk rfl rfl ?_) | (refine held_fin (HHo.out _ (by repeat (first | with_reducible exact Keeps.refl _ _ | with_reducible exact HKb.out | with_reducible exact HKa.out | with_reducible apply Keeps.drew | with_reducible apply Keeps.alloc))) ?_) | (refine wpH_nil ?_) | (with_reducible refine text_fin (by kernel_rfl) ?_) | (go_at_call 17; refine (key_any _ _ _).mono ?_; rintro e w6 ⟨rfl, hkk⟩; rw [HPB.out]; simp only [pairV]; have HKb : Hid (Keeps (fun _ => False) (w2.alloc (.cells #[.int .i64 k1, .int .i64 k2] 47)) w6) := Lib.hid (Keeps.trans (S := fun _ => False) (T := fun _ => False) (by repeat (first | with_reducible exact Keeps.refl _ _ | with_reducible exact HKb.out | with_reducible exact HKa.out | with_reducible apply Keeps.drew | with_reducible apply Keeps.alloc)) hkk fun _ _ h => h); have HK4 : Hid (Keeps (fun _ => False) w2 w6) := Lib.hid (((Keeps.refl (fun _ => False) w2).alloc _).trans HKb.out fun _ _ h => h); have hsz_w6 : w2.heap.size < w6.heap.size := (by have := HKb.out.size; rw [World.size_alloc] at this; omega); have x0_w6 := (HHo.out w6 HKb.out).1; have x1_w6 := (HHo.out w6 HKb.out).2; clear hkk) | (at_builtin; go_must (refine wpList_append_row _ rfl _ _ 33 33 rfl 2 (.slice 2) 1 8 (.int .i64 0) info_i64 Try.underlying33 Try.underlying33 (by intro k h; cases h) rfl u5 acc.length (longs acc) rfl (HR2.out.keeps (S := fun _ => False) (by repeat (first | with_reducible exact Keeps.refl _ _ | with_reducible exact HK4.out | with_reducible exact HK3.out | with_reducible apply Keeps.drew | with_reducible apply Keeps.alloc)) (fun _ _ h => h)) _ 1 [.int .i64 k1] rfl rfl (lenOf_slice _ _ _) (firstCells_at _ rfl (oneAt rfl)) (by intro u hu; simp at hu; subst hu; rfl) (by unfold maxLen; omega) (by omega) ?_); intro v' w4 ha; obtain ⟨va, vc, rfl, _, _⟩ := ha.row.len; obtain ⟨g1, g2, g3, g4⟩ := rowKeep HK2.out HO.out hsz2 (by repeat (first | with_reducible exact Keeps.refl _ _ | with_reducible exact HK4.out | with_reducible exact HK3.out | with_reducible apply Keeps.drew | with_reducible apply Keeps.alloc)) ha; have HIT : Hid (IterO pairV w4 w.heap.size (.map o) (lsKV N.ls) (left.eraseIdx j)) := Lib.hid (HI2.out.keeps g4 (fun m hm => by have := HM.out.lt hm; omega) (Nat.lt_irrefl _)); have G1 := Lib.hid g1; have G2 := Lib.hid g2; have G3 := Lib.hid g3; have G5 := Lib.hid ha.row; clear g1 g2 g3 g4 ha))
          go_roundg (left.eraseIdx j).length
          case measure => exact erase_len HJ.out
          case rel => exact ⟨left.eraseIdx j, acc ++ [k1], rfl, HIT.out, by have := G5.out; rw [longs_snoc] at this; simpa using this, coll_some HJ.out HFX.out HP.out, erase_sub HSub.out, G1.out, G2.out, G3.out⟩
        · rw [show NM.other a (k1, k2) = none by simp [NM.other, h1, h2]] at hfx
          have HFX := Lib.hid hfx
          obtain ⟨p1, p2, hp⟩ : ∃ p1 p2, pairK a k2 = (p1, p2) := ⟨_, _, rfl⟩
          obtain ⟨q1, q2, hq⟩ : ∃ q1 q2, pairK k1 a = (q1, q2) := ⟨_, _, rfl⟩
          have HPA := Lib.hid hp
          have HPB := Lib.hid hq
          have hd1 : decide (k1 = p1 ∧ k2 = p2) = false := by
            rw [decide_eq_false_iff_not]
            rintro ⟨rfl, rfl⟩
            rcases (pairK_mem (p := (k1, k2)) hlt).1 hp.symm with ⟨e, _⟩ | ⟨_, e⟩
            · exact h1 e
            · exact h2 e
          have hd2 : decide (k1 = q1 ∧ k2 = q2) = false := by
            rw [decide_eq_false_iff_not]
            rintro ⟨rfl, rfl⟩
            rcases (pairK_mem (p := (k1, k2)) hlt).1 hq.symm with ⟨_, e⟩ | ⟨e, _⟩
            · exact h2 e
            · exact h1 e
          clear hfx hp hq
          go_wp2_with (first | (show wpList _ _ _ (⟨_, Op.entry _, _, _, _, _⟩ :: _) _ _; refine wpList_entry_kv rfl _ rfl w.heap.size ((k1, k2), .int .i64 1) rfl HEN.out ?_; simp only [pairV]))
          refine wp_region_held_text (fun W => W.cell? ⟨w2.heap.size, 0, none⟩ = some (.int .i64 k1) ∧ W.cell? ⟨w2.heap.size, 1, none⟩ = some (.int .i64 k2)) [0] (by kernel_rfl) (by kernel_rfl) (HHo.out _ (by repeat (first | with_reducible exact Keeps.refl _ _ | with_reducible exact HKb.out | with_reducible exact HKa.out | with_reducible apply Keeps.drew | with_reducible apply Keeps.alloc))) ?_
          go_wp2_with (first | (refine wpH_load2 rfl 47 2 _ rfl Try.underlying47 cells_two i2 HI2T.out w2.heap.size _ _ rfl (fun _ h => h) (HHo.out _ (by repeat (first | with_reducible exact Keeps.refl _ _ | with_reducible exact HKb.out | with_reducible exact HKa.out | with_reducible apply Keeps.drew | with_reducible apply Keeps.alloc))) ?_) | (refine wpH_walk rfl rfl ?_) | (refine held_fin (HHo.out _ (by repeat (first | with_reducible exact Keeps.refl _ _ | with_reducible exact HKb.out | with_reducible exact HKa.out | with_reducible apply Keeps.drew | with_reducible apply Keeps.alloc))) ?_) | (refine wpH_nil ?_) | (with_reducible refine text_fin (by kernel_rfl) ?_) | (go_at_call 17; refine (key_any _ _ _).mono ?_; rintro e w5 ⟨rfl, hkk⟩; rw [HPA.out]; simp only [pairV]; have HKa : Hid (Keeps (fun _ => False) (w2.alloc (.cells #[.int .i64 k1, .int .i64 k2] 47)) w5) := Lib.hid (Keeps.trans (S := fun _ => False) (T := fun _ => False) (by repeat (first | with_reducible exact Keeps.refl _ _ | with_reducible exact HKb.out | with_reducible exact HKa.out | with_reducible apply Keeps.drew | with_reducible apply Keeps.alloc)) hkk fun _ _ h => h); have HK3 : Hid (Keeps (fun _ => False) w2 w5) := Lib.hid (((Keeps.refl (fun _ => False) w2).alloc _).trans HKa.out fun _ _ h => h); have hsz_w5 : w2.heap.size < w5.heap.size := (by have := HKa.out.size; rw [World.size_alloc] at this; omega); have x0_w5 := (HHo.out w5 HKa.out).1; have x1_w5 := (HHo.out w5 HKa.out).2; clear hkk))
          refine wp_region_held_text (fun W => W.cell? ⟨w2.heap.size, 0, none⟩ = some (.int .i64 k1) ∧ W.cell? ⟨w2.heap.size, 1, none⟩ = some (.int .i64 k2)) [0] (by kernel_rfl) (by kernel_rfl) (HHo.out _ (by repeat (first | with_reducible exact Keeps.refl _ _ | with_reducible exact HKb.out | with_reducible exact HKa.out | with_reducible apply Keeps.drew | with_reducible apply Keeps.alloc))) ?_
          go_wp2_with (first | (refine wpH_load2 rfl 47 2 _ rfl Try.underlying47 cells_two i2 HI2T.out w2.heap.size _ _ rfl (fun _ h => h) (HHo.out _ (by repeat (first | with_reducible exact Keeps.refl _ _ | with_reducible exact HKb.out | with_reducible exact HKa.out | with_reducible apply Keeps.drew | with_reducible apply Keeps.alloc))) ?_) | (refine wpH_walk rfl rfl ?_) | (refine held_fin (HHo.out _ (by repeat (first | with_reducible exact Keeps.refl _ _ | with_reducible exact HKb.out | with_reducible exact HKa.out | with_reducible apply Keeps.drew | with_reducible apply Keeps.alloc))) ?_) | (refine wpH_nil ?_) | (with_reducible refine text_fin (by kernel_rfl) ?_) | (go_at_call 17; refine (key_any _ _ _).mono ?_; rintro e w6 ⟨rfl, hkk⟩; rw [HPB.out]; simp only [pairV]; have HKb : Hid (Keeps (fun _ => False) (w2.alloc (.cells #[.int .i64 k1, .int .i64 k2] 47)) w6) := Lib.hid (Keeps.trans (S := fun _ => False) (T := fun _ => False) (by repeat (first | with_reducible exact Keeps.refl _ _ | with_reducible exact HKb.out | with_reducible exact HKa.out | with_reducible apply Keeps.drew | with_reducible apply Keeps.alloc)) hkk fun _ _ h => h); have HK4 : Hid (Keeps (fun _ => False) w2 w6) := Lib.hid (((Keeps.refl (fun _ => False) w2).alloc _).trans HKb.out fun _ _ h => h); have hsz_w6 : w2.heap.size < w6.heap.size := (by have := HKb.out.size; rw [World.size_alloc] at this; omega); have x0_w6 := (HHo.out w6 HKb.out).1; have x1_w6 := (HHo.out w6 HKb.out).2; clear hkk))
          go_roundg (left.eraseIdx j).length
          case measure => exact erase_len HJ.out
          case rel => exact ⟨left.eraseIdx j, acc, rfl, HI2.out.keeps (S := fun _ => False) (by repeat (first | with_reducible exact Keeps.refl _ _ | with_reducible exact HK4.out | with_reducible exact HK3.out | with_reducible apply Keeps.drew | with_reducible apply Keeps.alloc)) (fun _ _ h => h) (fun h => h), HR2.out.keeps (S := fun _ => False) (by repeat (first | with_reducible exact Keeps.refl _ _ | with_reducible exact HK4.out | with_reducible exact HK3.out | with_reducible apply Keeps.drew | with_reducible apply Keeps.alloc)) (fun _ _ h => h), coll_none HJ.out HFX.out HP.out, erase_sub HSub.out, HK2.out.trans (T := fun _ => False) (by repeat (first | with_reducible exact Keeps.refl _ _ | with_reducible exact HK4.out | with_reducible exact HK3.out | with_reducible apply Keeps.drew | with_reducible apply Keeps.alloc)) (fun _ _ h => h), Nat.lt_trans hsz2 hsz_w6, HO.out⟩
end Go.Proofs.Ytkdlhpddcpjpaaa

/-
  Links: linking, unlinking, monitors, lengths: what the Go code does.
-/
import Derived.Test.YtkdlhpddcpjpaaaLnW
import Derived.Deep.RegionLaw
namespace Go.Tx
open Go Go.RowKit
theorem NM.link_no {N : NM} {x y : Int} (h : N.fits x y = false) : N.link x y = N := by unfold NM.link; rw [if_neg (by simp [h])]
theorem NM.link_yes {N : NM} {x y : Int} (h : N.fits x y = true) : N.link x y = { N with ls := N.ls ++ [pairK x y] } := by unfold NM.link; rw [if_pos h]
theorem linkPost_no {w w' : World} {b : Nat} {N : NM} {S : Nat → Prop} {x y : Int} (h : IsNet w b N S) (hf : N.fits x y = false) (hk : Keeps (fun _ => False) w w') : IsNet w' b (N.link x y) (ExtN S w w') ∧ Keeps S w w' := by
  rw [NM.link_no hf]
  have h1 := h.keeps hk fun _ _ h => h
  refine ⟨h1.wider (fun _ h => .inl h) fun g hg => ?_, hk.mono fun _ _ h => h.elim⟩
  obtain ⟨lv, wv, h2⟩ := h
  rcases hg with hg | hg
  · exact Nat.lt_of_lt_of_le (h2.lt g hg) hk.size
  · exact hg.2
/-- of what a call has left: the blocks that it may have turned were there, or have come since -/
theorem net_out {w w1 w2 w' : World} {b : Nat} {N : NM} {S : Nat → Prop} (h : IsNet w' b N (ExtN S w1 w2)) (h1 : w.heap.size ≤ w1.heap.size) (h2 : w2.heap.size ≤ w'.heap.size) (hS : ∀ x, S x → x < w'.heap.size) : IsNet w' b N (ExtN S w w') :=
  h.wider (fun x hx => hx.imp id fun hx => ⟨Nat.le_trans h1 hx.1, Nat.lt_of_lt_of_le hx.2 h2⟩) fun x hx => by
    rcases hx with hx | hx
    · exact hS x hx
    · exact hx.2
end Go.Tx
namespace Go.Proofs.Ytkdlhpddcpjpaaa
open Go.RowKit Go.Tx
theorem eq_map_none (w : World) : (binOp .eql 24 (.map none) (.map none)).run Try.prog w = .ok (.bool true) w := by kernel_rfl
theorem eq_map_some (m : Nat) (w : World) : (binOp .eql 24 (.map (some m)) (.map none)).run Try.prog w = .ok (.bool false) w := by kernel_rfl
theorem eq_mapw_none (w : World) : (binOp .eql 25 (.map none) (.map none)).run Try.prog w = .ok (.bool true) w := by kernel_rfl
theorem eq_mapw_some (m : Nat) (w : World) : (binOp .eql 25 (.map (some m)) (.map none)).run Try.prog w = .ok (.bool false) w := by kernel_rfl
theorem zero_long (w : World) : (zeroValue 2).run Try.prog w = .ok (.int .i64 0) w := by kernel_rfl
theorem zero_watch (w : World) : (zeroValue 51).run Try.prog w = .ok (.agg #[.int .i64 0, .int .i64 0]) w := by kernel_rfl

set_option maxRecDepth 100000 in
set_option maxHeartbeats 800000 in
theorem link_no {w : World} {b : Nat} {N : NM} {S : Nat → Prop} (h : IsNet w b N S) (x y : Int) (hf : N.fits x y = false) :
    Calls Try.prog 5 #[.pointer (some ⟨b, 0, none⟩), .int .i64 x, .int .i64 y] w fun e w' => e = .returned (.bool false) ∧ IsNet w' b (N.link x y) (ExtN S w w') ∧ Keeps S w w' := by
  have HN := Lib.hid h
  have HF := Lib.hid hf
  obtain ⟨lv, wv, h⟩ := h
  obtain ⟨o, rfl⟩ := h.ml.form
  obtain ⟨p1, p2, hp⟩ : ∃ p1 p2, pairK x y = (p1, p2) := ⟨_, _, rfl⟩
  have HP := Lib.hid hp
  have H := Lib.hid h
  have hbs := h.lt b h.sb
  by_cases hm : pairK x y ∈ N.ls
  · have HG := Lib.hid (show kvGet (lsKV N.ls) (p1, p2) = some (.int .i64 1) by rw [kvGet_ls, ← hp, if_pos hm])
    clear h hf hp hm
    go_enter Try.func5, Try.ntmps5
    go_wp2_with (go_at_call 17; refine Stop.out ?_)
    refine ⟨(key_any x y _).mono ?_⟩
    rintro e w1 ⟨rfl, hk1⟩
    have h1 := H.out.keeps hk1 fun _ _ h => h
    have c0 : w1.cell? ⟨b, 0, none⟩ = some (.map o) := h1.blk.cell (i := 0) rfl
    have hb1 := h1.lt b h1.sb
    have HM := Lib.hid h1.ml
    have HK := Lib.hid hk1
    simp only [HP.out, pairV]
    clear h1 hk1
    go_wp2_with (first | (with_reducible refine wp_region_text (by kernel_rfl) (by kernel_rfl) ?_) | (with_reducible refine text_fin (by kernel_rfl) ?_) | (at_lookup; refine wpList_lookup_o_some rfl _ _ 24 true rfl 47 2 keyPair Try.underlying24 _ (zero_long _) (.map o) rfl (HM.out.keeps (S := fun _ => False) (by repeat (first | with_reducible exact Keeps.refl _ _ | with_reducible apply Keeps.drew | with_reducible apply Keeps.alloc)) (fun _ _ h => h)) (p1, p2) rfl (.int .i64 1) HG.out ?_; simp only [if_true]))
    go_ret
    exact ⟨rfl, linkPost_no HN.out HF.out (HK.out.trans (T := fun _ => False) (by repeat (first | with_reducible exact Keeps.refl _ _ | with_reducible apply Keeps.drew | with_reducible apply Keeps.alloc)) fun _ _ h => h)⟩
  · have hxy : x = y := by
      simp only [NM.fits, decide_eq_false_iff_not, not_and, Decidable.not_not] at hf
      exact hf hm
    subst hxy
    have HG := Lib.hid (show kvGet (lsKV N.ls) (p1, p2) = none by rw [kvGet_ls, ← hp, if_neg hm])
    clear h hf hp hm
    go_enter Try.func5, Try.ntmps5
    go_wp2_with (go_at_call 17; refine Stop.out ?_)
    refine ⟨(key_any x x _).mono ?_⟩
    rintro e w1 ⟨rfl, hk1⟩
    have h1 := H.out.keeps hk1 fun _ _ h => h
    have c0 : w1.cell? ⟨b, 0, none⟩ = some (.map o) := h1.blk.cell (i := 0) rfl
    have hb1 := h1.lt b h1.sb
    have HM := Lib.hid h1.ml
    have HK := Lib.hid hk1
    simp only [HP.out, pairV]
    clear h1 hk1
    go_wp2_with (first | (with_reducible refine wp_region_text (by kernel_rfl) (by kernel_rfl) ?_) | (with_reducible refine text_fin (by kernel_rfl) ?_) | (at_lookup; refine wpList_lookup_o_none rfl _ _ 24 true rfl 47 2 keyPair Try.underlying24 _ (zero_long _) (.map o) rfl (HM.out.keeps (S := fun _ => False) (by repeat (first | with_reducible exact Keeps.refl _ _ | with_reducible apply Keeps.drew | with_reducible apply Keeps.alloc)) (fun _ _ h => h)) (p1, p2) rfl HG.out ?_; simp only [if_true]))
    go_ret
    exact ⟨rfl, linkPost_no HN.out HF.out (HK.out.trans (T := fun _ => False) (by repeat (first | with_reducible exact Keeps.refl _ _ | with_reducible apply Keeps.drew | with_reducible apply Keeps.alloc)) fun _ _ h => h)⟩

set_option maxRecDepth 100000 in
set_option maxHeartbeats 800000 in
theorem link_yes {w : World} {b : Nat} {N : NM} {S : Nat → Prop} (h : IsNet w b N S) (x y : Int) (hf : N.fits x y = true) :
    Calls Try.prog 5 #[.pointer (some ⟨b, 0, none⟩), .int .i64 x, .int .i64 y] w fun e w' => e = .returned (.bool true) ∧ IsNet w' b (N.link x y) (ExtN S w w') ∧ Keeps S w w' := by
  rw [NM.link_yes hf]
  simp only [NM.fits, decide_eq_true_eq] at hf
  obtain ⟨hm, hxy⟩ := hf
  obtain ⟨lv, wv, h⟩ := h
  have hmm := @run_makeMap Try.prog
  have q1 := eq_map_none
  have q2 := eq_map_some
  obtain ⟨p1, p2, hp⟩ : ∃ p1 p2, pairK x y = (p1, p2) := ⟨_, _, rfl⟩
  have HP := Lib.hid hp
  have HG := Lib.hid (show kvGet (lsKV N.ls) (p1, p2) = none by rw [kvGet_ls, ← hp, if_neg hm])
  have HU := Lib.hid (show kvPut (lsKV N.ls) (p1, p2) (.int .i64 1) = lsKV (N.ls ++ [(p1, p2)]) from kvPut_ls (by rw [← hp]; exact hm))
  have hbs := h.lt b h.sb
  have HLT := Lib.hid h.lt
  have HSB := Lib.hid h.sb
  obtain ⟨o, rfl⟩ := h.ml.form
  have H := Lib.hid h
  clear h hm
  cases o with
  | none =>
    go_enter Try.func5, Try.ntmps5
    go_wp2_with (go_at_call 17; refine Stop.out ?_)
    refine ⟨(key_any x y _).mono ?_⟩
    rintro e w1 ⟨rfl, hk1⟩
    have h1 := H.out.keeps hk1 fun _ _ h => h
    have c0 : w1.cell? ⟨b, 0, none⟩ = some (.map none) := h1.blk.cell (i := 0) rfl
    have f0 := h1.blk.free 0
    have hb1 := h1.lt b h1.sb
    have HM := Lib.hid h1.ml
    have HK := Lib.hid hk1
    have H1 := Lib.hid h1
    simp only [HP.out, pairV]
    clear h1 hk1 hp
    go_wp2_with (first | (with_reducible refine wp_region_text (by kernel_rfl) (by kernel_rfl) ?_) | (with_reducible refine text_fin (by kernel_rfl) ?_) | (at_lookup; refine wpList_lookup_o_none rfl _ _ 24 true rfl 47 2 keyPair Try.underlying24 _ (zero_long _) (.map none) rfl (HM.out.keeps (S := fun _ => False) (by repeat (first | with_reducible exact Keeps.refl _ _ | with_reducible apply Keeps.drew | with_reducible apply Keeps.alloc)) (fun _ _ h => h)) (p1, p2) rfl HG.out ?_; simp only [if_true]) | (at_mapUpdate; refine Stop.out ?_))
    refine ⟨?_⟩
    have hmade : MapIs pairV (((w1.setCell ⟨b, 0, none⟩ (.map (some (w1.heap.size + 1)))).alloc (.cells #[.int .i64 p1, .int .i64 p2] 47)).alloc (.map #[] 0)) (w1.heap.size + 1) [] := by
      have := mapIs_made pairV ((w1.setCell ⟨b, 0, none⟩ (.map (some (w1.heap.size + 1)))).alloc (.cells #[.int .i64 p1, .int .i64 p2] 47))
      rwa [World.size_alloc, World.size_setCell] at this
    have hkb : Keeps (fun z => z = b) w1 (((w1.setCell ⟨b, 0, none⟩ (.map (some (w1.heap.size + 1)))).alloc (.cells #[.int .i64 p1, .int .i64 p2] 47)).alloc (.map #[] 0)).drew.drew := (((((Keeps.refl (fun z => z = b) w1).setCell (p := ⟨b, 0, none⟩) (fun _ => rfl) _).alloc _).alloc _).drew).drew
    have hnet := H1.out.madeL' hkb (by have := ((((H1.out.blk.set 0 (.map (some (w1.heap.size + 1)))).alloc (.cells #[.int .i64 p1, .int .i64 p2] 47)).alloc (.map #[] 0)).drew).drew; exact this) (hmade.keeps (Keeps.refl (fun _ => False) _).drew.drew id) (Nat.le_succ _)
    refine wpList_update_kv rfl _ _ _ 24 rfl 47 2 keyPair Try.underlying24 (w1.heap.size + 1) rfl hnet.ml.some (p1, p2) rfl (.int .i64 1) rfl ?_
    intro w2 hm2 hk2 hs2
    rw [HU.out] at hm2
    have hn2 := hnet.turnL (hk2.mono fun z _ e => by subst e; rfl) (.inr ⟨_, rfl, hm2⟩)
    have hsz := hk2.size
    have HN2 : Hid (IsNet w2 b { N with ls := N.ls ++ [pairK x y] } (ExtN S w w2)) := Lib.hid (net_out (w1 := w1) ⟨_, _, by rw [HP.out]; exact hn2⟩ HK.out.size hsz fun z hz => by have := HLT.out z hz; have := HK.out.size; have := hkb.size; omega)
    have HK2 : Hid (Keeps S w w2) := Lib.hid (((HK.out.mono (T := S) fun _ _ h => h.elim).trans hkb fun z _ e => by subst e; exact HSB.out).trans hk2 fun z hz e => by
      subst e
      have := HK.out.size
      omega)
    clear hmade hkb hnet hm2 hk2 hs2 hn2 hsz c0 f0
    go_wp2_with (first | (with_reducible refine wp_region_text (by kernel_rfl) (by kernel_rfl) ?_) | (with_reducible refine text_fin (by kernel_rfl) ?_))
    go_ret
    exact ⟨rfl, HN2.out, HK2.out⟩
  | some m =>
    go_enter Try.func5, Try.ntmps5
    go_wp2_with (go_at_call 17; refine Stop.out ?_)
    refine ⟨(key_any x y _).mono ?_⟩
    rintro e w1 ⟨rfl, hk1⟩
    have h1 := H.out.keeps hk1 fun _ _ h => h
    have c0 : w1.cell? ⟨b, 0, none⟩ = some (.map (some m)) := h1.blk.cell (i := 0) rfl
    have hb1 := h1.lt b h1.sb
    have HM := Lib.hid h1.ml
    have HK := Lib.hid hk1
    have H1 := Lib.hid h1
    simp only [HP.out, pairV]
    clear h1 hk1 hp
    go_wp2_with (first | (with_reducible refine wp_region_text (by kernel_rfl) (by kernel_rfl) ?_) | (with_reducible refine text_fin (by kernel_rfl) ?_) | (at_lookup; refine wpList_lookup_o_none rfl _ _ 24 true rfl 47 2 keyPair Try.underlying24 _ (zero_long _) (.map (some m)) rfl (HM.out.keeps (S := fun _ => False) (by repeat (first | with_reducible exact Keeps.refl _ _ | with_reducible apply Keeps.drew | with_reducible apply Keeps.alloc)) (fun _ _ h => h)) (p1, p2) rfl HG.out ?_; simp only [if_true]) | (at_mapUpdate; refine Stop.out ?_))
    refine ⟨?_⟩
    have hkb : Keeps (fun _ => False) w1 (w1.alloc (.cells #[.int .i64 p1, .int .i64 p2] 47)).drew.drew := (((Keeps.refl (fun _ => False) w1).alloc _).drew).drew
    have hnet := H1.out.keeps hkb fun _ _ h => h
    refine wpList_update_kv rfl _ _ _ 24 rfl 47 2 keyPair Try.underlying24 m rfl hnet.ml.some (p1, p2) rfl (.int .i64 1) rfl ?_
    intro w2 hm2 hk2 hs2
    rw [HU.out] at hm2
    have hn2 := hnet.turnL (hk2.mono fun z _ e => by subst e; rfl) (.inr ⟨_, rfl, hm2⟩)
    have HN2 : Hid (IsNet w2 b { N with ls := N.ls ++ [pairK x y] } (ExtN S w w2)) := Lib.hid (IsNet.wider (S := S) ⟨_, _, by rw [HP.out]; exact hn2⟩ (fun _ h => .inl h) fun z hz => by
      rcases hz with hz | hz
      · exact hn2.lt z hz
      · exact hz.2)
    have HK2 : Hid (Keeps S w w2) := Lib.hid (((HK.out.mono (T := S) fun _ _ h => h.elim).trans hkb fun z _ e => e.elim).trans hk2 fun z hz e => by
      subst e
      exact H.out.sl _ rfl)
    clear hkb hnet hm2 hk2 hs2 hn2 c0
    go_wp2_with (first | (with_reducible refine wp_region_text (by kernel_rfl) (by kernel_rfl) ?_) | (with_reducible refine text_fin (by kernel_rfl) ?_))
    go_ret
    exact ⟨rfl, HN2.out, HK2.out⟩
end Go.Proofs.Ytkdlhpddcpjpaaa

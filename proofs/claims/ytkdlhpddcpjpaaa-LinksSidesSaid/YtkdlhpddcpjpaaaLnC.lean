/-
  Links: monitors, lengths: what the Go code does.
-/
import Derived.Test.YtkdlhpddcpjpaaaLnB
namespace Go.Tx
open Go Go.RowKit
theorem lsKV_length (l : List (Int × Int)) : (lsKV l).length = l.length := by simp [lsKV]
theorem wsKV_length (l : List (Int × Int × Int)) : (wsKV l).length = l.length := by simp [wsKV]
end Go.Tx
namespace Go.Proofs.Ytkdlhpddcpjpaaa
open Go.RowKit Go.Tx
set_option maxRecDepth 100000 in
set_option maxHeartbeats 800000 in
theorem monitor_any {w : World} {b : Nat} {N : NM} {S : Nat → Prop} (h : IsNet w b N S) (hN : N.Ok) (hn : N.next < 9223372036854775807) (x y : Int) :
    Calls Try.prog 7 #[.pointer (some ⟨b, 0, none⟩), .int .i64 x, .int .i64 y] w fun e w' => e = .returned (.int .i64 (N.next : Nat)) ∧ IsNet w' b (N.monitor x y) (ExtN S w w') ∧ Keeps S w w' := by
  obtain ⟨lv, wv, h⟩ := h
  have hmm := @run_makeMap Try.prog
  have q1 := eq_mapw_none
  have q2 := eq_mapw_some
  have HU : Hid (kvPut (wsKV N.ws) (N.next : Int) (watchV (x, y)) = wsKV (N.ws ++ [((N.next : Int), x, y)])) := Lib.hid (kvPut_ws fun q hq => by have := (hN.refs q hq).2; omega)
  have hbs := h.lt b h.sb
  have HLT := Lib.hid h.lt
  have HSB := Lib.hid h.sb
  have HE : Hid (((N.next + 1 : Nat) : Int) = (N.next : Int) + 1) := Lib.hid (by omega)
  obtain ⟨o, rfl⟩ := h.mw.form
  have c1 : w.cell? ⟨b, 1, none⟩ = some (.map o) := h.blk.cell (i := 1) rfl
  have c2 : w.cell? ⟨b, 2, none⟩ = some (.int .i64 (N.next : Nat)) := h.blk.cell (i := 2) rfl
  have f1 := h.blk.free 1
  have H := Lib.hid h
  clear h hN
  cases o with
  | none =>
    go_enter Try.func7, Try.ntmps7
    go_wp2_with (first | (with_reducible refine wp_region_text (by kernel_rfl) (by kernel_rfl) ?_) | (with_reducible refine text_fin (by kernel_rfl) ?_) | (at_mapUpdate; refine Stop.out ?_))
    refine ⟨?_⟩
    have hmade : MapIs longKey ((w.setCell ⟨b, 1, none⟩ (.map (some w.heap.size))).alloc (.map #[] 0)) w.heap.size [] := by
      have := mapIs_made longKey (w.setCell ⟨b, 1, none⟩ (.map (some w.heap.size)))
      rwa [World.size_setCell] at this
    have hkb : Keeps (fun z => z = b) w ((w.setCell ⟨b, 1, none⟩ (.map (some w.heap.size))).alloc (.map #[] 0)).drew := (((Keeps.refl (fun z => z = b) w).setCell (p := ⟨b, 1, none⟩) (fun _ => rfl) _).alloc _).drew
    have hnet := H.out.madeW' hkb (by have := (((H.out.blk.set 1 (.map (some w.heap.size))).alloc (.map #[] 0)).drew); exact this) (hmade.keeps (Keeps.refl (fun _ => False) _).drew id) (Nat.le_refl _)
    refine wpList_update_kv rfl _ _ _ 25 rfl 2 51 keyLong Try.underlying25 w.heap.size rfl hnet.mw.some (N.next : Int) rfl (watchV (x, y)) rfl ?_
    intro w2 hm2 hk2 hs2
    rw [HU.out] at hm2
    have hn2 := hnet.turnW (hk2.mono fun z _ e => by subst e; rfl) (.inr ⟨_, rfl, hm2⟩)
    have hn3 := hn2.setNext (N.next + 1)
    rw [HE.out] at hn3
    have hsz := hk2.size
    have e2 : w2.cell? ⟨b, 2, none⟩ = some (.int .i64 (N.next : Nat)) := hn2.blk.cell (i := 2) rfl
    have g2 := hn2.blk.free 2
    have hb2 : b < w2.heap.size := hn2.lt b hn2.sb
    have HN3 : Hid (IsNet (w2.setCell ⟨b, 2, none⟩ (.int .i64 ((N.next : Int) + 1))) b (N.monitor x y) (ExtN S w (w2.setCell ⟨b, 2, none⟩ (.int .i64 ((N.next : Int) + 1))))) := Lib.hid (net_out (w1 := w) ⟨_, _, hn3⟩ (Nat.le_refl _) (by rw [World.size_setCell]; exact hsz) fun z hz => by have := HLT.out z hz; have := hkb.size; rw [World.size_setCell]; omega)
    have HK3 : Hid (Keeps S w (w2.setCell ⟨b, 2, none⟩ (.int .i64 ((N.next : Int) + 1)))) := Lib.hid (((hkb.mono fun z _ e => by subst e; exact HSB.out).trans hk2 fun z hz e => by
      subst e
      omega).setCell (fun _ => HSB.out) _)
    clear hmade hkb hnet hm2 hk2 hs2 hn2 hn3 hsz c1 f1 c2
    go_wp2_with (first | (with_reducible refine wp_region_text (by kernel_rfl) (by kernel_rfl) ?_) | (with_reducible refine text_fin (by kernel_rfl) ?_))
    go_ret
    exact ⟨rfl, HN3.out, HK3.out⟩
  | some m =>
    go_enter Try.func7, Try.ntmps7
    go_wp2_with (first | (with_reducible refine wp_region_text (by kernel_rfl) (by kernel_rfl) ?_) | (with_reducible refine text_fin (by kernel_rfl) ?_) | (at_mapUpdate; refine Stop.out ?_))
    refine ⟨?_⟩
    have hnet := H.out.keeps (Keeps.refl (fun _ => False) w).drew fun _ _ h => h
    refine wpList_update_kv rfl _ _ _ 25 rfl 2 51 keyLong Try.underlying25 m rfl hnet.mw.some (N.next : Int) rfl (watchV (x, y)) rfl ?_
    intro w2 hm2 hk2 hs2
    rw [HU.out] at hm2
    have hn2 := hnet.turnW (hk2.mono fun z _ e => by subst e; rfl) (.inr ⟨_, rfl, hm2⟩)
    have hn3 := hn2.setNext (N.next + 1)
    rw [HE.out] at hn3
    have e2 : w2.cell? ⟨b, 2, none⟩ = some (.int .i64 (N.next : Nat)) := hn2.blk.cell (i := 2) rfl
    have g2 := hn2.blk.free 2
    have hb2 : b < w2.heap.size := hn2.lt b hn2.sb
    have HN3 : Hid (IsNet (w2.setCell ⟨b, 2, none⟩ (.int .i64 ((N.next : Int) + 1))) b (N.monitor x y) (ExtN S w (w2.setCell ⟨b, 2, none⟩ (.int .i64 ((N.next : Int) + 1))))) := Lib.hid (IsNet.wider (S := S) ⟨_, _, hn3⟩ (fun _ h => .inl h) fun z hz => by
      rcases hz with hz | hz
      · exact hn3.lt z hz
      · exact hz.2)
    have HK3 : Hid (Keeps S w (w2.setCell ⟨b, 2, none⟩ (.int .i64 ((N.next : Int) + 1)))) := Lib.hid (((hk2.of_drew.mono fun z _ e => by subst e; exact H.out.sw _ rfl) : Keeps S w w2).setCell (fun _ => HSB.out) _)
    clear hnet hm2 hk2 hs2 hn2 hn3 c1 f1 c2
    go_wp2_with (first | (with_reducible refine wp_region_text (by kernel_rfl) (by kernel_rfl) ?_) | (with_reducible refine text_fin (by kernel_rfl) ?_))
    go_ret
    exact ⟨rfl, HN3.out, HK3.out⟩

def ReadPost (w : World) (b : Nat) (N : NM) (S : Nat → Prop) (v : Value) (e : Ending) (w' : World) : Prop := e = .returned v ∧ IsNet w' b N S ∧ Keeps (fun _ => False) w w'
theorem readPost {w w' : World} {b : Nat} {N : NM} {S : Nat → Prop} {v : Value} (h : IsNet w b N S) (k : Keeps (fun _ => False) w w') : ReadPost w b N S v (.returned v) w' := ⟨rfl, h.keeps k fun _ _ h => h, k⟩
set_option maxRecDepth 100000 in
set_option maxHeartbeats 400000 in
theorem watches_some {w : World} {b : Nat} {N : NM} {S : Nat → Prop} (h : IsNet w b N S) (r x y : Int) (hr : N.watch r = some (x, y)) :
    Calls Try.prog 13 #[.pointer (some ⟨b, 0, none⟩), .int .i64 r] w (ReadPost w b N S (.tuple #[.int .i64 x, .int .i64 y, .bool true])) := by
  have HN := Lib.hid h
  obtain ⟨lv, wv, h⟩ := h
  obtain ⟨o, rfl⟩ := h.mw.form
  have hbs := h.lt b h.sb
  have c1 : w.cell? ⟨b, 1, none⟩ = some (.map o) := h.blk.cell (i := 1) rfl
  have HM := Lib.hid h.mw
  have HG : Hid (kvGet (wsKV N.ws) r = some (watchV (x, y))) := Lib.hid (by rw [kvGet_ws]; show (N.watch r).map watchV = _; rw [hr]; rfl)
  clear h hr
  go_enter Try.func13, Try.ntmps13
  go_wp2_with (first | (with_reducible refine wp_region_text (by kernel_rfl) (by kernel_rfl) ?_) | (with_reducible refine text_fin (by kernel_rfl) ?_) | (at_lookup; refine wpList_lookup_o_some rfl _ _ 25 true rfl 2 51 keyLong Try.underlying25 _ (zero_watch _) (.map o) rfl (HM.out.keeps (S := fun _ => False) (by repeat (first | with_reducible exact Keeps.refl _ _ | with_reducible apply Keeps.drew | with_reducible apply Keeps.alloc)) (fun _ _ h => h)) r rfl (watchV (x, y)) HG.out ?_; simp only [watchV, if_true]))
  go_ret3
  exact readPost HN.out (by repeat (first | with_reducible exact Keeps.refl _ _ | with_reducible apply Keeps.drew | with_reducible apply Keeps.alloc))
set_option maxRecDepth 100000 in
set_option maxHeartbeats 400000 in
theorem watches_none {w : World} {b : Nat} {N : NM} {S : Nat → Prop} (h : IsNet w b N S) (r : Int) (hr : N.watch r = none) :
    Calls Try.prog 13 #[.pointer (some ⟨b, 0, none⟩), .int .i64 r] w (ReadPost w b N S (.tuple #[.int .i64 0, .int .i64 0, .bool false])) := by
  have HN := Lib.hid h
  obtain ⟨lv, wv, h⟩ := h
  obtain ⟨o, rfl⟩ := h.mw.form
  have hbs := h.lt b h.sb
  have c1 : w.cell? ⟨b, 1, none⟩ = some (.map o) := h.blk.cell (i := 1) rfl
  have HM := Lib.hid h.mw
  have HG : Hid (kvGet (wsKV N.ws) r = none) := Lib.hid (by rw [kvGet_ws]; show (N.watch r).map watchV = _; rw [hr]; rfl)
  clear h hr
  go_enter Try.func13, Try.ntmps13
  go_wp2_with (first | (with_reducible refine wp_region_text (by kernel_rfl) (by kernel_rfl) ?_) | (with_reducible refine text_fin (by kernel_rfl) ?_) | (at_lookup; refine wpList_lookup_o_none rfl _ _ 25 true rfl 2 51 keyLong Try.underlying25 _ (zero_watch _) (.map o) rfl (HM.out.keeps (S := fun _ => False) (by repeat (first | with_reducible exact Keeps.refl _ _ | with_reducible apply Keeps.drew | with_reducible apply Keeps.alloc)) (fun _ _ h => h)) r rfl HG.out ?_; simp only [if_true]))
  go_ret3
  exact readPost HN.out (by repeat (first | with_reducible exact Keeps.refl _ _ | with_reducible apply Keeps.drew | with_reducible apply Keeps.alloc))
set_option maxRecDepth 100000 in
set_option maxHeartbeats 400000 in
theorem len_any {w : World} {b : Nat} {N : NM} {S : Nat → Prop} (h : IsNet w b N S) :
    Calls Try.prog 16 #[.pointer (some ⟨b, 0, none⟩)] w (ReadPost w b N S (.tuple #[.int .i64 N.ls.length, .int .i64 N.ws.length])) := by
  have HN := Lib.hid h
  obtain ⟨lv, wv, h⟩ := h
  obtain ⟨o, rfl⟩ := h.ml.form
  obtain ⟨q, rfl⟩ := h.mw.form
  have c0 : w.cell? ⟨b, 0, none⟩ = some (.map o) := h.blk.cell (i := 0) rfl
  have c1 : w.cell? ⟨b, 1, none⟩ = some (.map q) := h.blk.cell (i := 1) rfl
  have HM := Lib.hid h.mw
  have HL := Lib.hid h.ml
  clear h
  go_enter Try.func16, Try.ntmps16
  go_wp2_with (first | (with_reducible refine wp_region_text (by kernel_rfl) (by kernel_rfl) ?_) | (with_reducible refine text_fin (by kernel_rfl) ?_) | ((show wpList _ _ _ (⟨_, Op.call ⟨Callee.builtin Builtin.len, _, _⟩, _, _, _, _⟩ :: _) _ _); first | (refine wpList_len_o rfl _ 24 rfl 47 2 Try.underlying24 (.map o) rfl (HL.out.keeps (S := fun _ => False) (by repeat (first | with_reducible exact Keeps.refl _ _ | with_reducible apply Keeps.drew | with_reducible apply Keeps.alloc)) (fun _ _ h => h)) ?_; rw [lsKV_length]) | (refine wpList_len_o rfl _ 25 rfl 2 51 Try.underlying25 (.map q) rfl (HM.out.keeps (S := fun _ => False) (by repeat (first | with_reducible exact Keeps.refl _ _ | with_reducible apply Keeps.drew | with_reducible apply Keeps.alloc)) (fun _ _ h => h)) ?_; rw [wsKV_length])))
  go_ret2
  exact readPost HN.out (by repeat (first | with_reducible exact Keeps.refl _ _ | with_reducible apply Keeps.drew | with_reducible apply Keeps.alloc))
end Go.Proofs.Ytkdlhpddcpjpaaa

import Derived.Test.YtacedeaopgbdhaaDaY
/-
  The document's arena: take and Alloc at any arena: what the Go code does.
-/
namespace Go.Tx
open Go Go.RowKit
/-- what the walks want of the document's arena -/
structure DM.Small (D : DM) : Prop where
  size : D.size ≤ 1048576
  quota : D.quota ≤ 1048576
  used : D.used ≤ 1048576
  top : D.top ≤ 1048576
  high : ∀ k, 22 ≤ k → D.free k = []
  places : ∀ k p, p ∈ D.free k → p + pw k ≤ 1048576
  lens : ∀ k, (D.free k).length ≤ 1048576
  count : D.taken.length ≤ 1048576
  pos : ∀ x ∈ D.taken, x.pos ≤ 1048576
  len : ∀ x ∈ D.taken, x.len ≤ 1048576
  cls : ∀ x ∈ D.taken, x.cls < 22 ∧ pw x.cls ≤ D.used
theorem DM.take_place {D : DM} (h : D.Small) {c p : Nat} {E : DM} (he : D.take c = (some p, E)) : p ≤ 1048576 := by
  unfold DM.take at he
  split at he
  · rename_i p' l hf
    cases he
    have := h.places c p (by rw [hf]; simp)
    omega
  · split at he
    · cases he
      exact h.top
    · split at he
      · rename_i k hk
        cases he
        have h1 : D.free k ≠ [] := by
          unfold DM.find at hk
          simpa using List.find?_some hk
        rcases hfk : D.free k with _ | ⟨q, l⟩
        · exact absurd hfk h1
        · have := h.places k q (by rw [hfk]; simp)
          show q ≤ 1048576
          omega
      · cases he
def DAllocPost (D : DM) (b : Nat) (S : Nat → Prop) (n : Nat) (w : World) (e : Ending) (w' : World) : Prop :=
  match D.alloc n with
  | some (q, E) => e = .returned (.tuple #[.int .i64 (q : Nat), .pointer none]) ∧ IsDoc w' b E (Ext S w w') ∧ Keeps S w w'
  | none => ∃ g, e = .returned (.tuple #[.int .i64 0, .pointer (some ⟨g, 0, none⟩)]) ∧ IsDoc w' b D (Ext S w w') ∧ Keeps S w w' ∧ IsX w' (Fresh w w') (.pointer (some ⟨g, 0, none⟩)) [(txtAlloc, (n : Int))] 2
theorem IsDoc.later {w w1 w2 : World} {b : Nat} {D : DM} {S : Nat → Prop} (h : IsDoc w1 b D (Ext S w w1)) (hs : ∀ g, S g → g < w.heap.size) (k1 : w.heap.size ≤ w1.heap.size) (k2 : Keeps (fun _ => False) w1 w2) : IsDoc w2 b D (Ext S w w2) := by
  refine IsDoc.wider (h.keeps k2 fun _ _ h => h) (fun g hg => ?_) (fun g hg => ?_)
  · exact hg.imp id fun hg => ⟨hg.1, Nat.lt_of_lt_of_le hg.2 k2.size⟩
  · rcases hg with hg | hg
    · exact Nat.lt_of_lt_of_le (hs g hg) (Nat.le_trans k1 k2.size)
    · exact hg.2
theorem IsDoc.start {w w2 : World} {b : Nat} {D : DM} {S : Nat → Prop} (h : IsDoc w b D S) (k2 : Keeps (fun _ => False) w w2) : IsDoc w2 b D (Ext S w w2) :=
  IsDoc.wider (h.keeps k2 fun _ _ h => h) (fun _ h => .inl h) fun g hg => hg.elim (fun hg => Nat.lt_of_lt_of_le (h.lt g hg) k2.size) fun hg => hg.2
end Go.Tx
namespace Go.Proofs.Ytacedeaopgbdhaa
open Go.RowKit Go.Tx
theorem dtake_any {w : World} {b : Nat} {D : DM} {S : Nat → Prop} (h : IsDoc w b D S) (hs : D.Small) {c : Nat} (hc : c < 22) :
    Calls Try.prog 49 #[.pointer (some ⟨b, 0, none⟩), .int .i64 c] w (DTakePost D b S c w) := by
  rcases hf : D.free c with _ | ⟨p, l⟩
  · by_cases ht : D.top + pw c ≤ D.size
    · exact dtake_top h hc hf hs.size ht
    · exact dtake_search h hc hf hs.size hs.top ht hs.high hs.places hs.lens
  · exact dtake_pop h hc hf (by have := hs.lens c; rw [hf, List.length_cons] at this; omega)
set_option maxRecDepth 100000 in
set_option maxHeartbeats 800000 in
theorem dalloc_quota {w : World} {b : Nat} {D : DM} {S : Nat → Prop} (h : IsDoc w b D S) (hs : D.Small) {n : Nat} (hn : n ≤ 1048576) (hq : D.used + pw (cls n) > D.quota) :
    Calls Try.prog 34 #[.pointer (some ⟨b, 0, none⟩), .int .i64 n] w (XTell (fun E => .tuple #[.int .i64 0, E]) [(txtAlloc, (n : Int))] 2 w) := by
  obtain ⟨d1, d2, d3, d4⟩ := cls_spec n hn
  have hu := hs.used
  obtain ⟨tv, L, fb, gv, h⟩ := h
  have c3 : w.cell? ⟨b, 3, none⟩ = some (.int .i64 (D.used : Nat)) := h.blk.cell (i := 3) rfl
  have c1 : w.cell? ⟨b, 1, none⟩ = some (.int .i64 (D.quota : Nat)) := h.blk.cell (i := 1) rfl
  generalize hcn : cls n = c at *
  have hcw := pw_21 (c := c) (by omega)
  have hwr : wrap64 ((2 : Int) ^ c) = (pw c : Nat) := by rw [pw_int]; unfold wrap64; omega
  have HCL := Lib.hid (dclass_any n hn)
  clear h hs d3 d4
  go_enter Try.func34, Try.ntmps34
  go_wp2_with (first | (with_reducible refine wp_region_text (by kernel_rfl) (by kernel_rfl) ?_) | (with_reducible refine text_fin (by kernel_rfl) ?_) | (go_at_call 48; refine (HCL.out _).mono ?_; rintro e x1 ⟨rfl, rfl⟩; rw [hcn]) | (go_at_call 46; refine (K_any 2 _).mono ?_; rintro e x1 ⟨rfl, rfl⟩) | (go_at_call 45; refine (f_any _ _ _ _).mono ?_; rintro e x1 ⟨rfl, rfl⟩))
  go_ret2
  have ht := told_one w.drew txtAlloc (n : Int) 2
  exact ⟨_, rfl, ht.1, ht.2.of_drew⟩
set_option maxRecDepth 100000 in
set_option maxHeartbeats 800000 in
theorem dalloc_none {w : World} {b : Nat} {D : DM} {S : Nat → Prop} (h : IsDoc w b D S) (hs : D.Small) {n : Nat} (hn : n ≤ 1048576) (hq : ¬ D.used + pw (cls n) > D.quota) {E : DM} (ht : D.take (cls n) = (none, E)) :
    Calls Try.prog 34 #[.pointer (some ⟨b, 0, none⟩), .int .i64 n] w fun e w' => ∃ g w1, e = .returned (.tuple #[.int .i64 0, .pointer (some ⟨g, 0, none⟩)]) ∧ IsDoc w1 b E (Ext S w w1) ∧ Keeps S w w1 ∧ XTold w1 w' (.pointer (some ⟨g, 0, none⟩)) [(txtAlloc, (n : Int))] 2 := by
  obtain ⟨d1, d2, d3, d4⟩ := cls_spec n hn
  have hu := hs.used
  have HI := Lib.hid h
  have HS := Lib.hid hs
  obtain ⟨tv, L, fb, gv, h⟩ := h
  have c3 : w.cell? ⟨b, 3, none⟩ = some (.int .i64 (D.used : Nat)) := h.blk.cell (i := 3) rfl
  have c1 : w.cell? ⟨b, 1, none⟩ = some (.int .i64 (D.quota : Nat)) := h.blk.cell (i := 1) rfl
  generalize hcn : cls n = c at *
  have hcw := pw_21 (c := c) (by omega)
  have hwr : wrap64 ((2 : Int) ^ c) = (pw c : Nat) := by rw [pw_int]; unfold wrap64; omega
  have HCL := Lib.hid (dclass_any n hn)
  have HT := Lib.hid ht
  have hc22 : c < 22 := by omega
  clear h hs d3 d4 ht
  go_enter Try.func34, Try.ntmps34
  go_wp2_with (first | (with_reducible refine wp_region_text (by kernel_rfl) (by kernel_rfl) ?_) | (with_reducible refine text_fin (by kernel_rfl) ?_) | (go_at_call 48; refine (HCL.out _).mono ?_; rintro e x1 ⟨rfl, rfl⟩; rw [hcn]) | (go_at_call 49; refine Stop.out ?_))
  refine ⟨(dtake_any (HI.out.keeps (T := fun _ => False) (by repeat (first | with_reducible exact Keeps.refl _ _ | with_reducible apply Keeps.drew | with_reducible apply Keeps.alloc)) (fun _ _ h => h)) HS.out hc22).mono ?_⟩
  rintro e w2 ⟨r, E', he, rfl, hd, hk⟩
  rw [HT.out] at he
  obtain ⟨rfl, rfl⟩ : r = none ∧ E' = E := by cases he; exact ⟨rfl, rfl⟩
  have HD2 : Hid (IsDoc w2 b E' (Ext S w w2)) := Lib.hid hd
  have HK2 : Hid (Keeps S w w2) := Lib.hid (((Keeps.refl S w).drew).trans hk fun _ _ h => h)
  clear hd hk he
  go_wp2_with (first | (go_at_call 46; refine (K_any 2 _).mono ?_; rintro e x1 ⟨rfl, rfl⟩) | (go_at_call 45; refine (f_any _ _ _ _).mono ?_; rintro e x1 ⟨rfl, rfl⟩))
  go_ret2
  exact ⟨_, w2, rfl, HD2.out, HK2.out, told_one w2 _ _ _⟩
theorem dalloc_any {w : World} {b : Nat} {D : DM} {S : Nat → Prop} (h : IsDoc w b D S) (hs : D.Small) {n : Nat} (hn : n ≤ 1048576) :
    Calls Try.prog 34 #[.pointer (some ⟨b, 0, none⟩), .int .i64 n] w (DAllocPost D b S n w) := by
  obtain ⟨d1, d2, _, _⟩ := cls_spec n hn
  by_cases hq : D.used + pw (cls n) > D.quota
  · have hnone : D.alloc n = none := by unfold DM.alloc; rw [if_pos hq]
    refine (dalloc_quota h hs hn hq).mono ?_
    rintro e w' ⟨g, rfl, hx, hk⟩
    unfold DAllocPost
    rw [hnone]
    exact ⟨g, rfl, h.start hk, hk.mono fun _ _ h => h.elim, hx⟩
  · rcases ht : D.take (cls n) with ⟨_ | p, E⟩
    · have hnone : D.alloc n = none := by unfold DM.alloc; rw [if_neg hq, ht]
      have hE : E = D := by
        unfold DM.take at ht
        split at ht
        · cases ht
        · split at ht
          · cases ht
          · split at ht
            · cases ht
            · cases ht; rfl
      subst hE
      refine (dalloc_none h hs hn hq ht).mono ?_
      rintro e w' ⟨g, w1, rfl, hd, hk, hx, hk2⟩
      unfold DAllocPost
      rw [hnone]
      refine ⟨g, rfl, hd.later h.lt hk.size hk2, hk.trans hk2 fun _ _ h => h.elim, hx.mono fun g hg => ⟨Nat.le_trans hk.size hg.1, hg.2⟩⟩
    · have hsome : D.alloc n = some (p + 1, { E with used := E.used + pw (cls n), taken := DM.put E.taken ⟨p, cls n, n, List.replicate n 0⟩ }) := by unfold DM.alloc; rw [if_neg hq, ht]
      refine (dalloc_ok h hn hq hs.quota ht (fun W hW => dtake_any hW hs (by omega)) hs.count hs.pos (DM.take_place hs ht)).mono ?_
      rintro e w' ⟨rfl, hd, hk⟩
      unfold DAllocPost
      rw [hsome]
      exact ⟨rfl, hd, hk⟩
end Go.Proofs.Ytacedeaopgbdhaa

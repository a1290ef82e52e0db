import Derived.Test.YtacedeaopgbdhaaDmB
import Derived.Great.Walk
section
/-
  The document's arena: Blocks, Clear, New: what the Go code does.
-/
namespace Go.Tx
open Go Go.RowKit
def posN (x : DB) : Nat := x.pos + 1
def DBlocksPost (D : DM) (w : World) (e : Ending) (w' : World) : Prop :=
  ∃ lv, e = .returned lv ∧ Row w' 3 1 lv D.taken.length (ints (D.taken.map posN)) ∧ Keeps (fun _ => False) w w'
def DBlocksAt (D : DM) (n : Nat) (w : World) (lv iv : Value) (wr : World) : Prop :=
  ∃ i : Nat, iv = .int .i64 i ∧ i ≤ n ∧ Row wr 3 1 lv i (ints ((D.taken.take i).map posN)) ∧ Keeps (fun _ => False) w wr ∧ ∀ g, lv.ownBlock = some g → w.heap.size ≤ g
theorem names_step {D : DM} {i : Nat} {x : DB} (h : D.taken[i]? = some x) : ints ((D.taken.take i).map posN) ++ [.int .i64 ((x.pos : Int) + 1)] = ints ((D.taken.take (i + 1)).map posN) := by
  rw [List.take_add_one, h]
  simp [ints, posN]
theorem appended_keep {w wr w0 w4 : World} {lv v' : Value} {e : TypeId} {n : Nat} {xs : List Value} (hk : Keeps (fun _ => False) w wr) (hown : ∀ g, lv.ownBlock = some g → w.heap.size ≤ g) (ha : Appended w0 w4 e 1 lv v' n xs) (k0 : Keeps (fun _ => False) wr w0) :
    Keeps (fun _ => False) w w4 ∧ ∀ g, v'.ownBlock = some g → w.heap.size ≤ g := by
  have h1 : Keeps (fun _ => False) w w0 := hk.trans k0 fun _ _ h => h
  have s0 := h1.size
  refine ⟨h1.trans ha.keeps fun g hg ho => ?_, fun g hg => ?_⟩
  · have := hown g ho; omega
  · rcases ha.own with ho | ⟨ho, _⟩
    · rw [ho] at hg; exact hown g hg
    · rw [ho] at hg; simp at hg; subst hg; omega
end Go.Tx
namespace Go.Proofs.Ytacedeaopgbdhaa
open Go.RowKit Go.Tx
set_option maxRecDepth 100000 in
set_option maxHeartbeats 400000 in
theorem dblocks_any {w : World} {b : Nat} {D : DM} {S : Nat → Prop} (h : IsDoc w b D S) (hd : D.taken.length ≤ 1048576) (hp : ∀ x ∈ D.taken, x.pos ≤ 1048576) :
    Calls Try.prog 42 #[.pointer (some ⟨b, 0, none⟩)] w (DBlocksPost D w) := by
  obtain ⟨tv, L, fb, gv, h⟩ := h
  obtain ⟨ta, tc, rfl, htc, htm⟩ := h.tk.len
  have HD := Lib.hid h
  have HP := Lib.hid hp
  have HLEN := Lib.hid h.len
  have hlb : L.length ≤ 1048576 := by have := h.len; omega
  unfold maxLen at htm
  have c4 : w.cell? ⟨b, 4, none⟩ = some (.slice ta L.length tc) := h.blk.cell (i := 4) rfl
  clear h hp hd
  go_enter Try.func42, Try.ntmps42
  go_wp2
  go_loopw [3, 4] (fun lv iv wr => DBlocksAt D L.length w lv iv wr) (fun _ iv _ => L.length - (intOf iv).toNat)
  case atStart => exact ⟨0, rfl, Nat.zero_le _, World.ownsRow_nil _ _ _ _, Keeps.refl _ _, fun g hg => by simp [Value.ownBlock] at hg⟩
  case round =>
    obtain ⟨i, rfl, hi, hr, hk, ho⟩ := hrel
    have HR := Lib.hid hr
    have HK := Lib.hid hk
    have HO := Lib.hid ho
    have HDr := Lib.hid (HD.out.keeps hk fun _ _ h => h)
    have c4r := hk.cell c4 id
    clear hr hk ho
    by_cases hil : i < L.length
    · obtain ⟨⟨x, xv⟩, hx⟩ : ∃ q, L[i]? = some q := ⟨L[i]'hil, by simp⟩
      have HX : Hid (D.taken[i]? = some x) := Lib.hid (by rw [← HD.out.lst]; simp [hx])
      obtain ⟨g, tc2, e, _, _⟩ := HD.out.tk.form (by omega)
      obtain ⟨rfl, rfl⟩ : ta = some ⟨g, 0, none⟩ ∧ tc = tc2 := by cases e; exact ⟨rfl, rfl⟩
      have hc := HDr.out.cell rfl hx (k := 0) (by omega) rfl
      have hxp := HP.out x (List.mem_of_getElem? HX.out)
      simp only [Nat.add_zero] at hc
      clear hx e c4
      go_wp2_with (at_builtin; go_must (refine wpList_append_row _ rfl _ _ 40 40 rfl 3 (.slice 3) 1 8 (.int .i64 0) info_int Try.underlying40 Try.underlying40 (by intro k h; cases h) rfl u3 i (ints ((D.taken.take i).map posN)) rfl (HR.out.keeps (S := fun _ => False) (by repeat (first | with_reducible exact Keeps.refl _ _ | with_reducible apply Keeps.drew | with_reducible apply Keeps.alloc)) (fun _ _ h => h)) _ 1 [.int .i64 ((x.pos : Int) + 1)] rfl rfl (lenOf_slice _ _ _) (firstCells_at _ rfl (one_newAt rfl)) (by intro u hu; simp at hu; subst hu; rfl) (by unfold maxLen; omega) (by omega) ?_); intro v' w4 ha; have HA := Lib.hid (appended_keep HK.out HO.out ha (by repeat (first | with_reducible exact Keeps.refl _ _ | with_reducible apply Keeps.drew | with_reducible apply Keeps.alloc))); have HRW := Lib.hid ha.row; clear ha)
      go_roundw
      case rel => exact ⟨i + 1, by go_num, by omega, by have := HRW.out; rw [names_step HX.out] at this; exact this, HA.out.1, HA.out.2⟩
      case measure => simp [intOf]; omega
    · have HRF : Hid (Row wr 3 1 u3 D.taken.length (ints (D.taken.map posN))) := Lib.hid (by
        have := HR.out
        have e : i = D.taken.length := by have := HLEN.out; omega
        rw [e, List.take_length] at this
        exact this)
      go_wp2
      go_ret
      exact ⟨_, rfl, HRF.out, HK.out⟩
end Go.Proofs.Ytacedeaopgbdhaa
namespace Go.Tx
open Go Go.RowKit
def nil40 : List Value := List.replicate 40 (.slice none 0 0)
theorem nil40_eq : nil40 = (List.range 40).map fun _ => Value.slice none 0 0 := rfl
/-- an empty arena of the document's -/
theorem doc_new {w : World} {b fb size quota : Nat} {S : Nat → Prop} (h : Blk w b 91 (docCells (DM.new size quota) (.slice none 0 0) fb)) (hf : Blk w fb 40 nil40) (hb : S b) (hfb : S fb) (hlt : ∀ x, S x → x < w.heap.size) : IsDoc w b (DM.new size quota) S := by
  refine ⟨_, [], fb, fun _ => .slice none 0 0, h, wide_nil _ _ _, rfl, by simp, by rw [← nil40_eq]; exact hf, fun k _ => wide_nil _ _ _, hb, hfb, ?_, by simp, ?_, hlt, List.Pairwise.nil⟩
  · intro g hg; simp [Value.ownBlock] at hg
  · intro k _ g hg; simp [Value.ownBlock] at hg
theorem cleared {w : World} {b fb : Nat} {D : DM} {S : Nat → Prop} {tv : Value} {L : List (DB × Value)} {gv : Nat → Value} (h : DocAt w b D S tv L fb gv) :
    IsDoc (((((w.setCell ⟨b, 2, none⟩ (.int .i64 0)).setCell ⟨b, 3, none⟩ (.int .i64 0)).setCell ⟨b, 4, none⟩ (.slice none 0 0)).setCell ⟨b, 5, none⟩ (.slice (some ⟨w.heap.size, 0, none⟩) 40 40)).alloc (.cells nil40.toArray 40)) b D.clear (Ext S w (((((w.setCell ⟨b, 2, none⟩ (.int .i64 0)).setCell ⟨b, 3, none⟩ (.int .i64 0)).setCell ⟨b, 4, none⟩ (.slice none 0 0)).setCell ⟨b, 5, none⟩ (.slice (some ⟨w.heap.size, 0, none⟩) 40 40)).alloc (.cells nil40.toArray 40))) ∧
    Keeps S w (((((w.setCell ⟨b, 2, none⟩ (.int .i64 0)).setCell ⟨b, 3, none⟩ (.int .i64 0)).setCell ⟨b, 4, none⟩ (.slice none 0 0)).setCell ⟨b, 5, none⟩ (.slice (some ⟨w.heap.size, 0, none⟩) 40 40)).alloc (.cells nil40.toArray 40)) := by
  have h4 := (((h.blk.set 2 (.int .i64 0)).set 3 (.int .i64 0)).set 4 (.slice none 0 0)).set 5 (.slice (some ⟨w.heap.size, 0, none⟩) 40 40)
  have hk : Keeps S w ((((w.setCell ⟨b, 2, none⟩ (.int .i64 0)).setCell ⟨b, 3, none⟩ (.int .i64 0)).setCell ⟨b, 4, none⟩ (.slice none 0 0)).setCell ⟨b, 5, none⟩ (.slice (some ⟨w.heap.size, 0, none⟩) 40 40)) :=
    ((((Keeps.refl S w).setCell (p := ⟨b, 2, none⟩) (fun _ => h.sb) _).setCell (p := ⟨b, 3, none⟩) (fun _ => h.sb) _).setCell (p := ⟨b, 4, none⟩) (fun _ => h.sb) _).setCell (p := ⟨b, 5, none⟩) (fun _ => h.sb) _
  obtain ⟨W, hW⟩ : ∃ W, ((((w.setCell ⟨b, 2, none⟩ (.int .i64 0)).setCell ⟨b, 3, none⟩ (.int .i64 0)).setCell ⟨b, 4, none⟩ (.slice none 0 0)).setCell ⟨b, 5, none⟩ (.slice (some ⟨w.heap.size, 0, none⟩) 40 40)) = W := ⟨_, rfl⟩
  have hs : W.heap.size = w.heap.size := by rw [← hW]; simp [World.setCell]
  rw [hW] at h4 hk ⊢
  refine ⟨doc_new (fb := w.heap.size) (h4.alloc _) ?_ (.inl h.sb) (.inr ⟨Nat.le_refl _, by rw [World.size_alloc, hs]; omega⟩) (fun x hx => ?_), hk.alloc _⟩
  · have := Blk.new W nil40 40
    rwa [hs] at this
  · rw [World.size_alloc, hs]
    rcases hx with hx | hx
    · have := h.lt x hx; omega
    · have := hx.2; rw [World.size_alloc, hs] at this; exact this
theorem made (w : World) (size quota : Nat) :
    IsDoc ((w.alloc (.cells nil40.toArray 40)).alloc (.cells #[.int .i64 size, .int .i64 quota, .int .i64 0, .int .i64 0, .slice none 0 0, .slice (some ⟨w.heap.size, 0, none⟩) 40 40] 91)) (w.heap.size + 1) (DM.new size quota) (Fresh w ((w.alloc (.cells nil40.toArray 40)).alloc (.cells #[.int .i64 size, .int .i64 quota, .int .i64 0, .int .i64 0, .slice none 0 0, .slice (some ⟨w.heap.size, 0, none⟩) 40 40] 91))) ∧
    Keeps (fun _ => False) w ((w.alloc (.cells nil40.toArray 40)).alloc (.cells #[.int .i64 size, .int .i64 quota, .int .i64 0, .int .i64 0, .slice none 0 0, .slice (some ⟨w.heap.size, 0, none⟩) 40 40] 91)) := by
  have s1 : (w.alloc (.cells nil40.toArray 40)).heap.size = w.heap.size + 1 := World.size_alloc ..
  have hb := Blk.new (w.alloc (.cells nil40.toArray 40)) (docCells (DM.new size quota) (.slice none 0 0) w.heap.size) 91
  rw [s1] at hb
  refine ⟨doc_new (fb := w.heap.size) hb ((Blk.new w nil40 40).alloc _) ⟨by omega, ?_⟩ ⟨Nat.le_refl _, ?_⟩ (fun x hx => hx.2), ((Keeps.refl _ w).alloc _).alloc _⟩
  · rw [World.size_alloc, s1]; omega
  · rw [World.size_alloc, s1]; omega
end Go.Tx
namespace Go.Proofs.Ytacedeaopgbdhaa
open Go.RowKit Go.Tx
theorem make_forty (w : World) : (Instr.makeSlice 89 (.int .i64 40) (.int .i64 40)).run Try.prog w = .ok (.slice (some ⟨w.heap.size, 0, none⟩) 40 40) (w.alloc (.cells nil40.toArray 40)) := by kernel_rfl
set_option maxRecDepth 100000 in
set_option maxHeartbeats 400000 in
theorem dclear_any {w : World} {b : Nat} {D : DM} {S : Nat → Prop} (h : IsDoc w b D S) :
    Calls Try.prog 40 #[.pointer (some ⟨b, 0, none⟩)] w fun e w' => e = .returned (.tuple #[]) ∧ IsDoc w' b D.clear (Ext S w w') ∧ Keeps S w w' := by
  have hmk := make_forty
  obtain ⟨tv, L, fb, gv, h⟩ := h
  have hbl := h.lt b h.sb
  have f2 := h.blk.free 2
  have f3 := h.blk.free 3
  have f4 := h.blk.free 4
  have f5 := h.blk.free 5
  have c2 : w.cell? ⟨b, 2, none⟩ = some (.int .i64 (D.top : Nat)) := h.blk.cell (i := 2) rfl
  have c3 : w.cell? ⟨b, 3, none⟩ = some (.int .i64 (D.used : Nat)) := h.blk.cell (i := 3) rfl
  have c4 : w.cell? ⟨b, 4, none⟩ = some tv := h.blk.cell (i := 4) rfl
  have c5 : w.cell? ⟨b, 5, none⟩ = some (.slice (some ⟨fb, 0, none⟩) 40 40) := h.blk.cell (i := 5) rfl
  have HD := Lib.hid h
  clear h
  go_enter Try.func40, Try.ntmps40
  go_wp2
  refine Go.Great.bodyPost_end0 rfl rfl ?_
  exact ⟨rfl, cleared HD.out⟩
set_option maxRecDepth 100000 in
set_option maxHeartbeats 400000 in
theorem dnew_ok (w : World) (size quota : Nat) (h1 : 2 ≤ size) (h2 : size ≤ 1048576) (h3 : 1 ≤ quota) (h4 : quota ≤ size) :
    Calls Try.prog 31 #[.int .i64 size, .int .i64 quota] w fun e w' => ∃ b, e = .returned (.tuple #[.pointer (some ⟨b, 0, none⟩), .pointer none]) ∧ IsDoc w' b (DM.new size quota) (Fresh w w') ∧ Keeps (fun _ => False) w w' := by
  have hmk := make_forty
  go_enter Try.func31, Try.ntmps31
  go_wp2
  go_ret2
  exact ⟨w.heap.size + 1, rfl, made w size quota⟩
end Go.Proofs.Ytacedeaopgbdhaa
end
section
/-
  The arena and the document's at wrong arguments: New, Alloc: what the Go code does.
-/
namespace Go.Tx
open Go Go.RowKit
def txtArena : ByteArray := ⟨#[97, 114, 101, 110, 97]⟩
/-- which argument of New is wrong -/
def newWrong (size quota : Int) : Option Int := if size < 2 ∨ 1048576 < size then some size else if quota < 1 ∨ size < quota then some quota else none
def XTell (f : Value → Value) (l : List (ByteArray × Int)) (k : Int) (w : World) (e : Ending) (w' : World) : Prop := ∃ g, e = .returned (f (.pointer (some ⟨g, 0, none⟩))) ∧ XTold w w' (.pointer (some ⟨g, 0, none⟩)) l k
theorem xtell_one (w : World) (f : Value → Value) (op : ByteArray) (n k : Int) : XTell f [(op, n)] k w (.returned (f (.pointer (some ⟨w.heap.size + 1, 0, none⟩)))) ((w.alloc (xKind k)).alloc (xLink op n w.heap.size)) := ⟨_, rfl, told_one w op n k⟩
end Go.Tx
namespace Go.Proofs.Ytacedeaopgbdhaa
open Go.RowKit Go.Tx
set_option maxHeartbeats 400000 in
theorem new_bad1 (w : World) (size quota : Int) (h : size < 2 ∨ 1048576 < size) :
    Calls Try.prog 10 #[.int .i64 size, .int .i64 quota] w (ErrPost (fun E => .tuple #[.pointer none, E]) [(txtArena, size)] 1 (fun _ => True) w) := by
  by_cases h2 : size < 2
  · go_enter Try.func10, Try.ntmps10
    go_wp2_with (go_at_call 24; refine (at_any _ _ _ _ _).mono ?_; rintro e w1 ⟨rfl, rfl⟩)
    go_ret2
    exact errPost_one (f := fun E => .tuple #[.pointer none, E]) (I := fun _ => True) (w1 := w) rfl trivial (Keeps.refl _ _) (fun _ _ _ => trivial)
  · have h3 : 1048576 < size := by omega
    clear h
    go_enter Try.func10, Try.ntmps10
    go_wp2_with (go_at_call 24; refine (at_any _ _ _ _ _).mono ?_; rintro e w1 ⟨rfl, rfl⟩)
    go_ret2
    exact errPost_one (f := fun E => .tuple #[.pointer none, E]) (I := fun _ => True) (w1 := w) rfl trivial (Keeps.refl _ _) (fun _ _ _ => trivial)
set_option maxHeartbeats 400000 in
theorem new_bad2 (w : World) (size quota : Int) (h1 : 2 ≤ size) (h2 : size ≤ 1048576) (h : quota < 1 ∨ size < quota) :
    Calls Try.prog 10 #[.int .i64 size, .int .i64 quota] w (ErrPost (fun E => .tuple #[.pointer none, E]) [(txtArena, quota)] 1 (fun _ => True) w) := by
  by_cases h2 : quota < 1
  · clear h
    go_enter Try.func10, Try.ntmps10
    go_wp2_with (go_at_call 24; refine (at_any _ _ _ _ _).mono ?_; rintro e w1 ⟨rfl, rfl⟩)
    go_ret2
    exact errPost_one (f := fun E => .tuple #[.pointer none, E]) (I := fun _ => True) (w1 := w) rfl trivial (Keeps.refl _ _) (fun _ _ _ => trivial)
  · have h3 : size < quota := by omega
    clear h
    go_enter Try.func10, Try.ntmps10
    go_wp2_with (go_at_call 24; refine (at_any _ _ _ _ _).mono ?_; rintro e w1 ⟨rfl, rfl⟩)
    go_ret2
    exact errPost_one (f := fun E => .tuple #[.pointer none, E]) (I := fun _ => True) (w1 := w) rfl trivial (Keeps.refl _ _) (fun _ _ _ => trivial)
set_option maxHeartbeats 400000 in
theorem alloc_bad {w : World} {b : Nat} {A : AM} {S : Nat → Prop} (h : IsArena w b A S) (n : Int) (hn : n < 0 ∨ 1048576 < n) :
    Calls Try.prog 11 #[.pointer (some ⟨b, 0, none⟩), .int .i64 n] w (ErrPost (fun E => .tuple #[.int .i64 0, E]) [(txtAlloc, n)] 1 (fun w' => IsArena w' b A S) w) := by
  have H := Lib.hid h
  clear h
  by_cases h2 : n < 0
  · clear hn
    go_enter Try.func11, Try.ntmps11
    go_wp2_with (go_at_call 24; refine (at_any _ _ _ _ _).mono ?_; rintro e w1 ⟨rfl, rfl⟩)
    go_ret2
    exact errPost_one (f := fun E => .tuple #[.int .i64 0, E]) (I := fun w' => IsArena w' b A S) (w1 := w) rfl H.out (Keeps.refl _ _) (fun w2 ha hk => IsArena.keeps ha hk fun _ _ h => h)
  · have h3 : 1048576 < n := by omega
    clear hn
    go_enter Try.func11, Try.ntmps11
    go_wp2_with (go_at_call 24; refine (at_any _ _ _ _ _).mono ?_; rintro e w1 ⟨rfl, rfl⟩)
    go_ret2
    exact errPost_one (f := fun E => .tuple #[.int .i64 0, E]) (I := fun w' => IsArena w' b A S) (w1 := w) rfl H.out (Keeps.refl _ _) (fun w2 ha hk => IsArena.keeps ha hk fun _ _ h => h)
set_option maxHeartbeats 400000 in
theorem dnew_bad1 (w : World) (size quota : Int) (h : size < 2 ∨ 1048576 < size) :
    Calls Try.prog 31 #[.int .i64 size, .int .i64 quota] w (XTell (fun E => .tuple #[.pointer none, E]) [(txtArena, size)] 1 w) := by
  by_cases h2 : size < 2
  · clear h
    go_enter Try.func31, Try.ntmps31
    go_wp2_with (first | (go_at_call 46; refine (K_any 1 _).mono ?_; rintro e x1 ⟨rfl, rfl⟩) | (go_at_call 45; refine (f_any _ _ _ _).mono ?_; rintro e x1 ⟨rfl, rfl⟩))
    go_ret2
    exact xtell_one w _ _ _ _
  · have h3 : 1048576 < size := by omega
    clear h
    go_enter Try.func31, Try.ntmps31
    go_wp2_with (first | (go_at_call 46; refine (K_any 1 _).mono ?_; rintro e x1 ⟨rfl, rfl⟩) | (go_at_call 45; refine (f_any _ _ _ _).mono ?_; rintro e x1 ⟨rfl, rfl⟩))
    go_ret2
    exact xtell_one w _ _ _ _
set_option maxHeartbeats 400000 in
theorem dnew_bad2 (w : World) (size quota : Int) (h1 : 2 ≤ size) (h2 : size ≤ 1048576) (h : quota < 1 ∨ size < quota) :
    Calls Try.prog 31 #[.int .i64 size, .int .i64 quota] w (XTell (fun E => .tuple #[.pointer none, E]) [(txtArena, quota)] 1 w) := by
  by_cases h2 : quota < 1
  · clear h
    go_enter Try.func31, Try.ntmps31
    go_wp2_with (first | (go_at_call 46; refine (K_any 1 _).mono ?_; rintro e x1 ⟨rfl, rfl⟩) | (go_at_call 45; refine (f_any _ _ _ _).mono ?_; rintro e x1 ⟨rfl, rfl⟩))
    go_ret2
    exact xtell_one w _ _ _ _
  · have h3 : size < quota := by omega
    clear h
    go_enter Try.func31, Try.ntmps31
    go_wp2_with (first | (go_at_call 46; refine (K_any 1 _).mono ?_; rintro e x1 ⟨rfl, rfl⟩) | (go_at_call 45; refine (f_any _ _ _ _).mono ?_; rintro e x1 ⟨rfl, rfl⟩))
    go_ret2
    exact xtell_one w _ _ _ _
set_option maxHeartbeats 400000 in
theorem dalloc_bad {w : World} {b : Nat} (n : Int) (hn : n < 0 ∨ 1048576 < n) :
    Calls Try.prog 34 #[.pointer (some ⟨b, 0, none⟩), .int .i64 n] w (XTell (fun E => .tuple #[.int .i64 0, E]) [(txtAlloc, n)] 1 w) := by
  by_cases h2 : n < 0
  · clear hn
    go_enter Try.func34, Try.ntmps34
    go_wp2_with (first | (go_at_call 46; refine (K_any 1 _).mono ?_; rintro e x1 ⟨rfl, rfl⟩) | (go_at_call 45; refine (f_any _ _ _ _).mono ?_; rintro e x1 ⟨rfl, rfl⟩))
    go_ret2
    exact xtell_one w _ _ _ _
  · have h3 : 1048576 < n := by omega
    clear hn
    go_enter Try.func34, Try.ntmps34
    go_wp2_with (first | (go_at_call 46; refine (K_any 1 _).mono ?_; rintro e x1 ⟨rfl, rfl⟩) | (go_at_call 45; refine (f_any _ _ _ _).mono ?_; rintro e x1 ⟨rfl, rfl⟩))
    go_ret2
    exact xtell_one w _ _ _ _
end Go.Proofs.Ytacedeaopgbdhaa
end
section
/-
  The arena: Clear: what the Go code does.
-/
namespace Go.Tx
open Go Go.RowKit
theorem arena_cleared {w : World} {b mb : Nat} {A : AM} {S : Nat → Prop} {pv : Value} {fv : Nat → Value} (h : ArenaAt w b A S pv mb fv) :
    IsArena ((w.alloc (.map #[] 0)).drew.setRow b (arenaCells (AM.new A.size A.quota) (.slice none 0 0) w.heap.size (fun _ => .slice none 0 0)).toArray) b (AM.new A.size A.quota) (Ext S w ((w.alloc (.map #[] 0)).drew.setRow b (arenaCells (AM.new A.size A.quota) (.slice none 0 0) w.heap.size (fun _ => .slice none 0 0)).toArray)) ∧
    Keeps S w ((w.alloc (.map #[] 0)).drew.setRow b (arenaCells (AM.new A.size A.quota) (.slice none 0 0) w.heap.size (fun _ => .slice none 0 0)).toArray) := by
  have hbl := h.lt b h.sb
  have k1 : Keeps (fun _ => False) w (w.alloc (.map #[] 0)).drew := ((Keeps.refl _ w).alloc _).drew
  have hb : (w.alloc (.map #[] 0)).drew.heap[b]? = some (.cells (arenaCells A pv mb fv).toArray 66 (0, 0)) := h.blk.keeps k1 id
  have hm : MapIs intKey (w.alloc (.map #[] 0)).drew w.heap.size [] := (mapIs_made intKey w).keeps (Keeps.drew (Keeps.refl (fun _ => False) _)) id
  have hs : (w.alloc (.map #[] 0)).drew.heap.size = w.heap.size + 1 := World.size_alloc ..
  obtain ⟨W, hW⟩ : ∃ W, (w.alloc (.map #[] 0)).drew = W := ⟨_, rfl⟩
  rw [hW] at k1 hb hm hs ⊢
  have K := keeps_setRow (w := W) (g := b) (cs := (arenaCells (AM.new A.size A.quota) (.slice none 0 0) w.heap.size (fun _ => .slice none 0 0)).toArray)
  have hb2 := setRow_heap W b _ (arenaCells (AM.new A.size A.quota) (.slice none 0 0) w.heap.size (fun _ => .slice none 0 0)).toArray _ _ hb
  obtain ⟨W2, hW2⟩ : ∃ W2, W.setRow b (arenaCells (AM.new A.size A.quota) (.slice none 0 0) w.heap.size (fun _ => .slice none 0 0)).toArray = W2 := ⟨_, rfl⟩
  rw [hW2] at K hb2 ⊢
  have h2 := K.size
  refine ⟨⟨.slice none 0 0, w.heap.size, fun _ => .slice none 0 0, hb2, World.ownsRow_nil _ _ _ _, fun c _ => World.ownsRow_nil _ _ _ _, hm.keeps K (by omega), .inl h.sb, .inr ⟨Nat.le_refl _, by omega⟩, ?_, ?_, ?_, ?_⟩, (k1.mono (T := S) fun _ _ h => h.elim).trans K fun x _ e => e ▸ h.sb⟩
  · intro g hg; simp [Value.ownBlock] at hg
  · intro c _ g hg; simp [Value.ownBlock] at hg
  · intro x hx
    rcases hx with hx | hx
    · have := h.lt x hx; omega
    · exact hx.2
  · intro c d _ _ _ g hg; simp [Value.ownBlock] at hg
end Go.Tx
namespace Go.Proofs.Ytacedeaopgbdhaa
open Go.RowKit Go.Tx
theorem info_arena : (Try.prog.info? 66).map (·.size) = some 27 := by kernel_rfl
set_option maxRecDepth 100000 in
set_option maxHeartbeats 800000 in
theorem clear_any {w : World} {b : Nat} {A : AM} {S : Nat → Prop} (h : IsArena w b A S) :
    Calls Try.prog 39 #[.pointer (some ⟨b, 0, none⟩)] w fun e w' => e = .returned (.tuple #[]) ∧ IsArena w' b (AM.new A.size A.quota) (Ext S w w') ∧ Keeps S w w' := by
  have hmm := @run_makeMap Try.prog
  obtain ⟨pv, mb, fv, h⟩ := h
  have hbl := h.lt b h.sb
  have c0 : w.cell? ⟨b, 0, none⟩ = some (.int .i64 A.size) := h.blk.cell (i := 0) rfl
  have c1 : w.cell? ⟨b, 1, none⟩ = some (.int .i64 A.quota) := h.blk.cell (i := 1) rfl
  have HHo : Hid (∀ W, Keeps (fun _ => False) w W → W.cell? ⟨b, 0, none⟩ = some (.int .i64 A.size) ∧ W.cell? ⟨b, 1, none⟩ = some (.int .i64 A.quota)) := Lib.hid fun W hk => ⟨hk.cell c0 id, hk.cell c1 id⟩
  have HBK : Hid (∀ W, Keeps (fun _ => False) w W → W.heap[b]? = some (.cells (arenaCells A pv mb fv).toArray 66 (0, 0))) := Lib.hid fun W hk => h.blk.keeps hk id
  have H := Lib.hid h
  clear h
  go_enter Try.func39, Try.ntmps39
  go_wp2
  refine wp_region_held_text (fun W => W.cell? ⟨b, 0, none⟩ = some (.int .i64 A.size) ∧ W.cell? ⟨b, 1, none⟩ = some (.int .i64 A.quota)) [4, 8] (by kernel_rfl) (by kernel_rfl) (HHo.out _ (by repeat (first | with_reducible exact Keeps.refl _ _ | with_reducible apply Keeps.drew | with_reducible apply Keeps.alloc))) ?_
  go_wp2_with (first | (refine wpH_load rfl _ _ rfl _ rfl rfl _ _ rfl (fun _ h => h.1) (HHo.out _ (by repeat (first | with_reducible exact Keeps.refl _ _ | with_reducible apply Keeps.drew | with_reducible apply Keeps.alloc))) ?_) | (refine wpH_load rfl _ _ rfl _ rfl rfl _ _ rfl (fun _ h => h.2) (HHo.out _ (by repeat (first | with_reducible exact Keeps.refl _ _ | with_reducible apply Keeps.drew | with_reducible apply Keeps.alloc))) ?_) | (refine wpH_walk rfl rfl ?_; refine wpList_store_row rfl _ _ _ rfl b _ rfl rfl _ _ (HBK.out _ (by repeat (first | with_reducible exact Keeps.refl _ _ | with_reducible apply Keeps.drew | with_reducible apply Keeps.alloc))) info_arena rfl (by simp [Value.oneCell']) ?_) | (refine wpH_walk rfl rfl ?_) | (refine held_fin (by first | exact ⟨Blk.cell (i := 0) (setRow_heap _ _ _ _ _ _ (HBK.out _ (by repeat (first | with_reducible exact Keeps.refl _ _ | with_reducible apply Keeps.drew | with_reducible apply Keeps.alloc)))) rfl, Blk.cell (i := 1) (setRow_heap _ _ _ _ _ _ (HBK.out _ (by repeat (first | with_reducible exact Keeps.refl _ _ | with_reducible apply Keeps.drew | with_reducible apply Keeps.alloc)))) rfl⟩ | exact HHo.out _ (by repeat (first | with_reducible exact Keeps.refl _ _ | with_reducible apply Keeps.drew | with_reducible apply Keeps.alloc))) ?_) | (refine wpH_nil ?_) | (with_reducible refine text_fin (by kernel_rfl) ?_))
  refine Go.Great.bodyPost_end0 rfl rfl ?_
  exact ⟨rfl, arena_cleared H.out⟩
end Go.Proofs.Ytacedeaopgbdhaa
end

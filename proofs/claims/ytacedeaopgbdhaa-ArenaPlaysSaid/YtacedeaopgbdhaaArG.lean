/-
  The arena: getting and setting words, lengths, giving blocks back: what the Go code does.
-/
import Derived.Test.YtacedeaopgbdhaaArB
import Derived.Test.YtacedeaopgbdhaaArQ
namespace Go.Tx
open Go Go.RowKit
section
variable {w w' : World} {b mb : Nat} {A : AM} {S T : Nat → Prop} {pv : Value} {fv : Nat → Value} {c m : Nat}

/-- one element of a row turned -/
theorem Row.setCell {e : TypeId} {g n cap : Nat} {ys : List Value} (h : Row w e 1 (.slice (some ⟨g, 0, none⟩) n cap) n ys) (i : Nat) (_ : i < n) (u : Value) : Row (w.setCell ⟨g, i, none⟩ u) e 1 (.slice (some ⟨g, 0, none⟩) n cap) n (ys.set i u) := by
  refine ⟨by rw [List.length_set]; exact h.1, ?_⟩
  rcases h.2 with ⟨h0, _⟩ | ⟨g', cap', cur, hv, hb, hgg, h1, h2, h3, h4⟩
  · cases h0
  · cases hv
    refine .inr ⟨_, _, cur.set! i u, rfl, hb, ?_, by omega, h2, by simpa using h3, ?_⟩
    · have hlt := (Array.getElem?_eq_some_iff.1 hgg).1
      have hg2 : w.heap[g] = .cells cur e (0, 0) := by simpa [Array.getElem?_eq_getElem hlt] using hgg
      show (w.heap.modify g _)[g]? = _
      rw [Array.getElem?_eq_getElem (by simpa using hlt), Array.getElem_modify_self, hg2]
      simp
    · rw [← h4]
      simp [List.take_set]
theorem u64s_set (l : List Int) (i : Nat) (v : Int) : (u64s l).set i (.int .u64 v) = u64s (l.set i v) := by simp [u64s, List.map_set]
theorem u64s_get (l : List Int) (i : Nat) (h : i < l.length) : (u64s l)[i]? = some (.int .u64 (l.getD i 0)) := by simp [u64s, h]

/-- a word turned -/
theorem ArenaAt.setWord {g cap : Nat} (h : ArenaAt w b A S (.slice (some ⟨g, 0, none⟩) A.top cap) mb fv) (i : Nat) (hi : i < A.top) (v : Int) :
    ArenaAt (w.setCell ⟨g, i, none⟩ (.int .u64 v)) b (A.setWord i v) S (.slice (some ⟨g, 0, none⟩) A.top cap) mb fv := by
  have hr := h.pl.setCell i hi (.int .u64 v)
  rw [u64s_set] at hr
  have hk : Keeps (Own (.slice (some ⟨g, 0, none⟩) A.top cap)) w (w.setCell ⟨g, i, none⟩ (.int .u64 v)) := Keeps.setCell (p := ⟨g, i, none⟩) (Keeps.refl (Own (.slice (some ⟨g, 0, none⟩) A.top cap)) w) (fun _ => rfl) _
  exact h.turnRow (l := A.words.set i v) hk (by simpa [AM.top] using hr)
/-- a free block put behind the others of its class, which stand in a row that was appended to -/
theorem ArenaAt.gave (h : ArenaAt w b A S pv mb fv) (hc : c < 22) {w1 : World} {v' : Value} {p : Nat} (ha : Appended w w1 3 1 (fv c) v' ((A.free c).length + 1) (ints (A.free c) ++ [.int .i64 (p : Nat)])) :
    ArenaAt (w1.setCell ⟨b, 3 + c, none⟩ v') b (A.push c p) (Ext S w w1) pv mb (updV fv c v') := by
  have h1 := h.row_turned hc ha.keeps
  have hr : Row w1 3 1 v' (A.free c ++ [p]).length (ints (A.free c ++ [p])) := by
    have := ha.row
    simpa [ints] using this
  refine h1.setFv hc hr (fun g hg => ?_) (fun d hd hdc g hg ho => ?_)
  · rcases ha.own with ho | ⟨ho, hs⟩
    · rw [ho] at hg; exact .inl (h.sf c hc g hg)
    · rw [ho] at hg; simp at hg; subst hg; exact .inr ⟨Nat.le_refl _, by omega⟩
  · rcases ha.own with ho2 | ⟨ho2, hs⟩
    · rw [ho2] at hg; exact h.apart d c hd hc hdc g ho hg
    · rw [ho2] at hg; simp at hg; subst hg
      have := (h.fr d hd).lt ho
      omega

/-- what is wrong with a word of a block -/
def AM.wrong (A : AM) (op : ByteArray) (p i : Int) : Option (List (ByteArray × Int) × Int) :=
  match A.look p with
  | none => some ([(op, p)], 3)
  | some (_, m) => if 0 ≤ i ∧ i < m then none else some ([(op, p), (txtIndex, i)], 12)
theorem AM.wrong_none {op : ByteArray} {p i : Int} (h : A.wrong op p i = none) : ∃ c m, A.look p = some (c, m) ∧ 0 ≤ i ∧ i < m := by
  unfold AM.wrong at h
  cases hl : A.look p with
  | none => rw [hl] at h; cases h
  | some t =>
    obtain ⟨c, m⟩ := t
    rw [hl] at h
    simp only at h
    by_cases hi : 0 ≤ i ∧ i < m
    · exact ⟨c, m, rfl, hi.1, hi.2⟩
    · rw [if_neg hi] at h; cases h
theorem AM.wrong_some {op : ByteArray} {p i : Int} {l : List (ByteArray × Int)} {k : Int} (h : A.wrong op p i = some (l, k)) : ∃ n l', l = (op, n) :: l' := by
  unfold AM.wrong at h
  cases hl : A.look p with
  | none => rw [hl] at h; simp at h; exact ⟨_, _, h.1.symm⟩
  | some t =>
    obtain ⟨c, m⟩ := t
    rw [hl] at h
    simp only at h
    by_cases hi : 0 ≤ i ∧ i < m
    · rw [if_pos hi] at h; cases h
    · rw [if_neg hi] at h; simp at h; exact ⟨_, _, h.1.symm⟩
theorem AM.place_lt (hA : A.Ok) {p i : Int} (hl : A.look p = some (c, m)) (h0 : 0 ≤ i) (hi : i < m) : ∃ q k : Nat, p = q ∧ i = k ∧ 1 ≤ q ∧ q + k < A.top ∧ q + k ≤ 1048576 := by
  obtain ⟨q, rfl, hmem⟩ := AM.look_mem hl
  obtain ⟨t1, t2, t3, t4⟩ := hA.taken _ hmem
  have hs := hA.size
  have ht := hA.top
  simp only at t1 t2 t3 t4
  exact ⟨q, i.toNat, rfl, by omega, t1, by omega, by omega⟩
end
end Go.Tx

namespace Go.Proofs.Ytacedeaopgbdhaa
open Go.RowKit Go.Tx

/-- a word's place, whatever is asked for -/
theorem word_wrong {w : World} {b : Nat} {A : AM} {S : Nat → Prop} (h : IsArena w b A S) (op : ByteArray) (p i : Int) {l : List (ByteArray × Int)} {k : Int} (hw : A.wrong op p i = some (l, k)) :
    Calls Try.prog 29 #[.pointer (some ⟨b, 0, none⟩), .string op, .int .i64 p, .int .i64 i] w (ErrPost (.tuple #[.int .i64 0, ·]) l k (fun w' => IsArena w' b A S) w) := by
  unfold AM.wrong at hw
  cases hl : A.look p with
  | none =>
    rw [hl] at hw; simp at hw
    obtain ⟨rfl, rfl⟩ := hw
    exact word_none h op p i hl
  | some t =>
    obtain ⟨c, m⟩ := t
    rw [hl] at hw
    simp only at hw
    by_cases hi : 0 ≤ i ∧ i < m
    · rw [if_pos hi] at hw; cases hw
    · rw [if_neg hi] at hw; simp at hw
      obtain ⟨rfl, rfl⟩ := hw
      exact word_out h op p i c m hl (by omega)

set_option maxHeartbeats 400000 in
theorem get_some {w : World} {b : Nat} {A : AM} {S : Nat → Prop} (h : IsArena w b A S) (hA : A.Ok) (p i : Int) (c m : Nat) (hl : A.look p = some (c, m)) (h0 : 0 ≤ i) (hi : i < m) :
    Calls Try.prog 17 #[.pointer (some ⟨b, 0, none⟩), .int .i64 p, .int .i64 i] w fun e w' => e = .returned (.tuple #[.int .u64 (A.words.getD (p + i).toNat 0), .nilIface]) ∧ IsArena w' b A S ∧ Keeps (fun _ => False) w w' := by
  have HW := Lib.hid (word_some h hA txtGet p i c m hl h0 hi)
  obtain ⟨q, k, rfl, rfl, hq1, hqk, hqm⟩ := AM.place_lt hA hl h0 hi
  have e1 : ((q : Int) + (k : Int)).toNat = q + k := by omega
  rw [e1]
  have htop : Hid (q + k < A.words.length) := Lib.hid hqk
  obtain ⟨x, hx⟩ : ∃ x, A.words.getD (q + k) 0 = x := ⟨_, rfl⟩
  rw [hx]
  have HX := Lib.hid hx
  clear h hA hl hx
  go_enter Try.func17, Try.ntmps17
  go_wp2_with (go_at_call 29; refine HW.out.mono ?_; rintro e w1 ⟨rfl, ⟨pv, mb, fv, ha⟩, hk⟩; obtain ⟨g, cap, hpv, hcap, hm⟩ := ha.pl.form (by omega); have h2 : w1.cell? ⟨b, 2, none⟩ = some (.slice (some ⟨g, 0, none⟩) A.top cap) := (by rw [← hpv]; exact ha.blk.cell (i := 2) rfl); have hrow := ha.pl; rw [hpv] at hrow; have h3 := hrow.cell (u64s_get A.words (q + k) htop.out); rw [HX.out] at h3; have HA := Lib.hid ha; have HK := Lib.hid hk; clear ha hk hrow hpv)
  go_ret2
  exact ⟨rfl, ⟨_, _, _, HA.out⟩, HK.out⟩

set_option maxHeartbeats 400000 in
theorem get_wrong {w : World} {b : Nat} {A : AM} {S : Nat → Prop} (h : IsArena w b A S) (p i : Int) {l : List (ByteArray × Int)} {k : Int} (hw : A.wrong txtGet p i = some (l, k)) :
    Calls Try.prog 17 #[.pointer (some ⟨b, 0, none⟩), .int .i64 p, .int .i64 i] w (ErrPost (.tuple #[.int .u64 0, ·]) l k (fun w' => IsArena w' b A S) w) := by
  have HW := Lib.hid (word_wrong h txtGet p i hw)
  obtain ⟨n, l', rfl⟩ := AM.wrong_some hw
  clear h hw
  go_enter Try.func17, Try.ntmps17
  go_wp2_with (go_at_call 29; refine HW.out.mono ?_; rintro e w1 ⟨E, rfl, ⟨g, u, rfl, hb⟩, hk⟩; have HB := Lib.hid hb; have HK := Lib.hid hk; clear hb hk)
  go_ret2
  exact ⟨_, rfl, ⟨_, _, rfl, HB.out⟩, HK.out⟩

set_option maxHeartbeats 400000 in
theorem set_some {w : World} {b : Nat} {A : AM} {S : Nat → Prop} (h : IsArena w b A S) (hA : A.Ok) (p i : Int) (x : Int) (c m : Nat) (hl : A.look p = some (c, m)) (h0 : 0 ≤ i) (hi : i < m) :
    Calls Try.prog 18 #[.pointer (some ⟨b, 0, none⟩), .int .i64 p, .int .i64 i, .int .u64 x] w fun e w' => e = .returned .nilIface ∧ IsArena w' b (A.setWord (p + i).toNat x) S ∧ Keeps S w w' := by
  have HW := Lib.hid (word_some h hA txtSet p i c m hl h0 hi)
  obtain ⟨q, k, rfl, rfl, hq1, hqk, hqm⟩ := AM.place_lt hA hl h0 hi
  have e1 : ((q : Int) + (k : Int)).toNat = q + k := by omega
  rw [e1]
  have htop : Hid (q + k < A.words.length) := Lib.hid hqk
  clear h hA hl
  go_enter Try.func18, Try.ntmps18
  go_wp2_with (go_at_call 29; refine HW.out.mono ?_; rintro e w1 ⟨rfl, ⟨pv, mb, fv, ha⟩, hk⟩; obtain ⟨g, cap, hpv, hcap, hm⟩ := ha.pl.form (by omega); have h2 : w1.cell? ⟨b, 2, none⟩ = some (.slice (some ⟨g, 0, none⟩) A.top cap) := (by rw [← hpv]; exact ha.blk.cell (i := 2) rfl); have hrow := ha.pl; rw [hpv] at hrow; have h3 := hrow.cell (u64s_get A.words (q + k) htop.out); have h4 := hrow.free (q + k); rw [hpv] at ha; have HF := Lib.hid (ha.setWord (q + k) hqk x); have hsg : S g := ha.sp g rfl; have HK := Lib.hid ((hk.mono (T := S) (fun _ _ h => h.elim)).setCell (p := ⟨g, q + k, none⟩) (fun _ => hsg) (.int .u64 x)); clear ha hk hrow hpv hsg)
  go_ret
  exact ⟨rfl, ⟨_, _, _, HF.out⟩, HK.out⟩

set_option maxHeartbeats 400000 in
theorem set_wrong {w : World} {b : Nat} {A : AM} {S : Nat → Prop} (h : IsArena w b A S) (p i x : Int) {l : List (ByteArray × Int)} {k : Int} (hw : A.wrong txtSet p i = some (l, k)) :
    Calls Try.prog 18 #[.pointer (some ⟨b, 0, none⟩), .int .i64 p, .int .i64 i, .int .u64 x] w (ErrPost (fun E => E) l k (fun w' => IsArena w' b A S) w) := by
  have HW := Lib.hid (word_wrong h txtSet p i hw)
  obtain ⟨n, l', rfl⟩ := AM.wrong_some hw
  clear h hw
  go_enter Try.func18, Try.ntmps18
  go_wp2_with (go_at_call 29; refine HW.out.mono ?_; rintro e w1 ⟨E, rfl, ⟨g, u, rfl, hb⟩, hk⟩; have HB := Lib.hid hb; have HK := Lib.hid hk; clear hb hk)
  go_ret
  exact ⟨_, rfl, ⟨_, _, rfl, HB.out⟩, HK.out⟩

set_option maxHeartbeats 400000 in
theorem len_some {w : World} {b : Nat} {A : AM} {S : Nat → Prop} (h : IsArena w b A S) (p : Int) (c m : Nat) (hl : A.look p = some (c, m)) :
    Calls Try.prog 20 #[.pointer (some ⟨b, 0, none⟩), .int .i64 p] w fun e w' => e = .returned (.tuple #[.int .i64 m, .nilIface]) ∧ IsArena w' b A S ∧ Keeps (fun _ => False) w w' := by
  obtain ⟨pv, mb, fv, h⟩ := h
  have h25 : w.cell? ⟨b, 25, none⟩ = some (.map (some mb)) := h.blk.cell (arenaCells_taken A pv mb fv)
  have HG := Lib.hid (kvGet_some hl)
  have HMP := Lib.hid h.mp
  have HF : Hid (∀ o, IsArena (w.alloc o) b A S ∧ Keeps (fun _ => False) w (w.alloc o)) := (fun o => ⟨IsArena.keeps ⟨_, _, _, h⟩ ((Keeps.refl (fun _ => False) w).alloc o) fun _ _ h => h, (Keeps.refl _ w).alloc o⟩)
  clear h hl
  go_enter Try.func20, Try.ntmps20
  go_wp2_with (at_lookup; refine wpList_lookup_some rfl _ _ 63 true rfl 3 69 (keyL_int Try.underlying3) Try.underlying63 _ (zero_block _) mb rfl HMP.out _ rfl (blkVal c m) HG.out ?_; simp only [blkVal, if_true])
  go_ret2
  exact ⟨rfl, HF.out _⟩

set_option maxHeartbeats 400000 in
theorem len_none {w : World} {b : Nat} {A : AM} {S : Nat → Prop} (h : IsArena w b A S) (p : Int) (hl : A.look p = none) :
    Calls Try.prog 20 #[.pointer (some ⟨b, 0, none⟩), .int .i64 p] w (ErrPost (.tuple #[.int .i64 0, ·]) [(txtLen, p)] 3 (fun w' => IsArena w' b A S) w) := by
  obtain ⟨pv, mb, fv, h⟩ := h
  have h25 : w.cell? ⟨b, 25, none⟩ = some (.map (some mb)) := h.blk.cell (arenaCells_taken A pv mb fv)
  have HG := Lib.hid (kvGet_no hl)
  have HMP := Lib.hid h.mp
  have HF : Hid (∀ o, IsArena (w.alloc o) b A S ∧ Keeps (fun _ => False) w (w.alloc o)) := (fun o => ⟨IsArena.keeps ⟨_, _, _, h⟩ ((Keeps.refl (fun _ => False) w).alloc o) fun _ _ h => h, (Keeps.refl _ w).alloc o⟩)
  clear h hl
  go_enter Try.func20, Try.ntmps20
  go_wp2_with (first | (at_lookup; refine wpList_lookup_none rfl _ _ 63 true rfl 3 69 (keyL_int Try.underlying3) Try.underlying63 _ (zero_block _) mb rfl HMP.out _ rfl HG.out ?_; simp only [if_true]) | (go_at_call 24; refine (at_any _ _ _ _ _).mono ?_; rintro e w1 ⟨rfl, rfl⟩))
  go_ret2
  exact errPost_one (f := (.tuple #[.int .i64 0, ·])) (I := fun w' => IsArena w' b A S) (World.size_alloc ..).symm (HF.out _).1 (HF.out _).2 (fun w1 ha hk => IsArena.keeps ha hk fun _ _ h => h)

set_option maxHeartbeats 400000 in
theorem free_none {w : World} {b : Nat} {A : AM} {S : Nat → Prop} (h : IsArena w b A S) (p : Int) (hl : A.look p = none) :
    Calls Try.prog 12 #[.pointer (some ⟨b, 0, none⟩), .int .i64 p] w (ErrPost (fun E => E) [(txtFree, p)] 3 (fun w' => IsArena w' b A S) w) := by
  obtain ⟨pv, mb, fv, h⟩ := h
  have h25 : w.cell? ⟨b, 25, none⟩ = some (.map (some mb)) := h.blk.cell (arenaCells_taken A pv mb fv)
  have HG := Lib.hid (kvGet_no hl)
  have HMP := Lib.hid h.mp
  have HF : Hid (∀ o, IsArena (w.alloc o) b A S ∧ Keeps (fun _ => False) w (w.alloc o)) := (fun o => ⟨IsArena.keeps ⟨_, _, _, h⟩ ((Keeps.refl (fun _ => False) w).alloc o) fun _ _ h => h, (Keeps.refl _ w).alloc o⟩)
  clear h hl
  go_enter Try.func12, Try.ntmps12
  go_wp2_with (first | (at_lookup; refine wpList_lookup_none rfl _ _ 63 true rfl 3 69 (keyL_int Try.underlying3) Try.underlying63 _ (zero_block _) mb rfl HMP.out _ rfl HG.out ?_; simp only [if_true]) | (go_at_call 24; refine (at_any _ _ _ _ _).mono ?_; rintro e w1 ⟨rfl, rfl⟩))
  go_ret
  exact errPost_one (f := fun E => E) (I := fun w' => IsArena w' b A S) (World.size_alloc ..).symm (HF.out _).1 (HF.out _).2 (fun w1 ha hk => IsArena.keeps ha hk fun _ _ h => h)
end Go.Proofs.Ytacedeaopgbdhaa

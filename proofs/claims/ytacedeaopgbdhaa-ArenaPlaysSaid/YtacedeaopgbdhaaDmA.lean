import Derived.Test.YtacedeaopgbdhaaArApP
section
/-
  The document's arena in plain words, and how it goes beside the arena. No program here.
-/
namespace Go.Tx
/-- a block of the document's: place, class, length, words -/
structure DB where
  pos : Nat
  cls : Nat
  len : Nat
  ws : List Int
/-- the document's arena: blocks by place; free places by class, the next first -/
structure DM where
  size : Nat
  quota : Nat
  top : Nat
  used : Nat
  taken : List DB
  free : Nat → List Nat
namespace DM
open AM (updF)
def new (size quota : Nat) : DM := ⟨size, quota, 0, 0, [], fun _ => []⟩
def setFree (D : DM) (k : Nat) (l : List Nat) : DM := { D with free := updF D.free k l }
def push (D : DM) (k p : Nat) : DM := D.setFree k (p :: D.free k)
def find (D : DM) (k : Nat) : Option Nat := (List.range' k (40 - k)).find? fun j => decide (D.free j ≠ [])
def halves (p c : Nat) : Nat → DM → DM
  | 0, D => D
  | d + 1, D => halves p c d (D.push (c + d) (p + pw (c + d)))
/-- a block's place; none: there is none -/
def take (D : DM) (c : Nat) : Option Nat × DM :=
  match D.free c with
  | p :: l => (some p, D.setFree c l)
  | [] =>
    if D.top + pw c ≤ D.size then (some D.top, { D with top := D.top + pw c })
    else match D.find (c + 1) with
      | some k => (some ((D.free k).headD 0), halves ((D.free k).headD 0) c (k - c) (D.setFree k (D.free k).tail))
      | none => (none, D)
/-- a block put in where it belongs -/
def put (l : List DB) (b : DB) : List DB := l.takeWhile (fun x => decide (x.pos < b.pos)) ++ b :: l.dropWhile (fun x => decide (x.pos < b.pos))
def alloc (D : DM) (n : Nat) : Option (Nat × DM) :=
  if D.used + pw (Go.Tx.cls n) > D.quota then none
  else match D.take (Go.Tx.cls n) with
    | (some p, E) => some (p + 1, { E with used := E.used + pw (Go.Tx.cls n), taken := put E.taken ⟨p, Go.Tx.cls n, n, List.replicate n 0⟩ })
    | (none, _) => none
/-- the i-th block given back -/
def give (D : DM) (i : Nat) (b : DB) : DM := { (D.push b.cls b.pos) with used := D.used - pw b.cls, taken := D.taken.eraseIdx i }
def setWord (D : DM) (i : Nat) (b : DB) (k : Nat) (v : Int) : DM := { D with taken := D.taken.set i { b with ws := b.ws.set k v } }
def clear (D : DM) : DM := new D.size D.quota
end DM

/-- free places: the arena's last is the document's first -/
structure FreeRel (f g : Nat → List Nat) : Prop where
  low : ∀ k, k < 22 → g k = (f k).reverse
  high : ∀ k, 22 ≤ k → g k = []
theorem FreeRel.push {f g : Nat → List Nat} (h : FreeRel f g) {k p : Nat} (hk : k < 22) : FreeRel (AM.updF f k (f k ++ [p])) (AM.updF g k (p :: g k)) := by
  refine ⟨fun j hj => ?_, fun j hj => ?_⟩
  · by_cases e : j = k
    · subst e; rw [AM.updF_same, AM.updF_same, h.low j hj]; simp
    · rw [AM.updF_other _ _ e, AM.updF_other _ _ e]; exact h.low j hj
  · rw [AM.updF_other _ _ (by omega)]; exact h.high j hj
theorem FreeRel.pop {f g : Nat → List Nat} (h : FreeRel f g) {k : Nat} (hk : k < 22) : FreeRel (AM.updF f k (f k).dropLast) (AM.updF g k (g k).tail) := by
  refine ⟨fun j hj => ?_, fun j hj => ?_⟩
  · by_cases e : j = k
    · subst e; rw [AM.updF_same, AM.updF_same, h.low j hj, List.tail_reverse]
    · rw [AM.updF_other _ _ e, AM.updF_other _ _ e]; exact h.low j hj
  · rw [AM.updF_other _ _ (by omega)]; exact h.high j hj
theorem FreeRel.nil {f g : Nat → List Nat} (h : FreeRel f g) {k : Nat} (hk : k < 22) : g k = [] ↔ f k = [] := by rw [h.low k hk]; simp
theorem FreeRel.first {f g : Nat → List Nat} (h : FreeRel f g) {k : Nat} (hk : k < 22) : (g k).headD 0 = AM.last (f k) := by
  rw [h.low k hk]
  unfold AM.last
  rw [List.headD_eq_head?_getD, List.head?_reverse, List.getLastD_eq_getLast?]
/-- what is alike but for the taken blocks -/
structure Half (A : AM) (D : DM) : Prop where
  size : D.size = A.size
  quota : D.quota = A.quota
  top : D.top = A.top
  used : D.used = A.used
  free : FreeRel A.free D.free
namespace DM
theorem find_eq {D : DM} {k j : Nat} (h1 : k ≤ j) (h2 : j < 40) (h3 : D.free j ≠ []) (h4 : ∀ i, k ≤ i → i < j → D.free i = []) : D.find k = some j := by
  unfold find
  rw [List.find?_eq_some_iff_append]
  refine ⟨by simpa using h3, List.range' k (j - k), List.range' (j + 1) (40 - (j + 1)), ?_, fun i hi => ?_⟩
  · rw [show 40 - k = (j - k) + ((40 - (j + 1)) + 1) by omega, ← List.range'_append_1, List.range'_succ, show k + (j - k) = j by omega]
  · rw [List.mem_range'_1] at hi
    simp [h4 i hi.1 (by omega)]
theorem find_none {D : DM} {k : Nat} (h : ∀ i, k ≤ i → i < 40 → D.free i = []) : D.find k = none := by
  unfold find
  rw [List.find?_eq_none]
  intro i hi
  rw [List.mem_range'_1] at hi
  simp [h i hi.1 (by omega)]
theorem halves_used (p c : Nat) : ∀ (d : Nat) (D : DM), (halves p c d D).used = D.used ∧ (halves p c d D).taken = D.taken
  | 0, _ => ⟨rfl, rfl⟩
  | d + 1, D => ⟨(halves_used p c d _).1, (halves_used p c d _).2⟩
end DM
theorem Half.halves (p c : Nat) : ∀ (d : Nat) {A : AM} {D : DM}, c + d ≤ 22 → Half A D → Half (AM.halves p c d A) (DM.halves p c d D)
  | 0, _, _, _, h => h
  | d + 1, A, D, hc, h => Half.halves p c d (by omega) ⟨h.size, h.quota, h.top, h.used, by
      show FreeRel (AM.updF A.free (c + d) (A.free (c + d) ++ [p + pw (c + d)])) (AM.updF D.free (c + d) ((p + pw (c + d)) :: D.free (c + d)))
      exact h.free.push (by omega)⟩
theorem AM.take_pop {A : AM} {c : Nat} (h : A.free c ≠ []) : A.take c = (some (AM.last (A.free c)), A.pop c) := by unfold AM.take; rw [if_pos h]
theorem AM.take_top {A : AM} {c : Nat} (h : A.free c = []) (ht : A.top + pw c ≤ A.size) : A.take c = (some A.top, A.grow c) := by unfold AM.take; rw [if_neg (by simp [h]), if_pos ht]
theorem AM.take_cut {A : AM} {c k : Nat} (h : A.free c = []) (ht : ¬ A.top + pw c ≤ A.size) (hk : A.find (c + 1) = some k) : A.take c = (some (AM.last (A.free k)), AM.halves (AM.last (A.free k)) c (k - c) (A.pop k)) := by unfold AM.take; rw [if_neg (by simp [h]), if_neg ht, hk]
theorem AM.take_no {A : AM} {c : Nat} (h : A.free c = []) (ht : ¬ A.top + pw c ≤ A.size) (hk : A.find (c + 1) = none) : A.take c = (none, A) := by unfold AM.take; rw [if_neg (by simp [h]), if_neg ht, hk]
theorem DM.take_pop {D : DM} {c p : Nat} {l : List Nat} (h : D.free c = p :: l) : D.take c = (some p, D.setFree c l) := by unfold DM.take; rw [h]
theorem DM.take_top {D : DM} {c : Nat} (h : D.free c = []) (ht : D.top + pw c ≤ D.size) : D.take c = (some D.top, { D with top := D.top + pw c }) := by unfold DM.take; rw [h]; simp only; rw [if_pos ht]
theorem DM.take_cut {D : DM} {c k : Nat} (h : D.free c = []) (ht : ¬ D.top + pw c ≤ D.size) (hk : D.find (c + 1) = some k) : D.take c = (some ((D.free k).headD 0), DM.halves ((D.free k).headD 0) c (k - c) (D.setFree k (D.free k).tail)) := by unfold DM.take; rw [h]; simp only; rw [if_neg ht, hk]
theorem DM.take_no {D : DM} {c : Nat} (h : D.free c = []) (ht : ¬ D.top + pw c ≤ D.size) (hk : D.find (c + 1) = none) : D.take c = (none, D) := by unfold DM.take; rw [h]; simp only; rw [if_neg ht, hk]
/-- the same place is taken -/
theorem Half.take {A : AM} {D : DM} (h : Half A D) {c : Nat} (hc : c < 22) : ∃ D', D.take c = ((A.take c).1, D') ∧ Half (A.take c).2 D' ∧ D'.taken = D.taken := by
  by_cases hf : A.free c = []
  · have hg := (h.free.nil hc).2 hf
    by_cases ht : A.top + pw c ≤ A.size
    · rw [AM.take_top hf ht, DM.take_top hg (by rw [h.top, h.size]; exact ht)]
      refine ⟨{ D with top := D.top + pw c }, by rw [h.top], ⟨h.size, h.quota, ?_, h.used, h.free⟩, rfl⟩
      show D.top + pw c = (A.words ++ List.replicate (pw c) 0).length
      rw [h.top]
      simp [AM.top]
    · have ht2 : ¬ D.top + pw c ≤ D.size := by rw [h.top, h.size]; exact ht
      rcases hfd : A.find (c + 1) with _ | k
      · have hno := AM.find_none hfd
        rw [AM.take_no hf ht hfd, DM.take_no hg ht2 (DM.find_none (D := D) fun i h1 h2 => by
          by_cases h22 : i < 22
          · exact (h.free.nil h22).2 (hno i h1 h22)
          · exact h.free.high i (by omega))]
        exact ⟨_, rfl, h, rfl⟩
      · obtain ⟨k1, k2, k3, k4⟩ := AM.find_some hfd
        rw [AM.take_cut hf ht hfd, DM.take_cut hg ht2 (DM.find_eq (D := D) k1 (by omega) (fun e => k3 ((h.free.nil k2).1 e)) fun i h1 h2 => (h.free.nil (by omega)).2 (k4 i h1 h2)), h.free.first k2]
        refine ⟨_, rfl, ?_, (DM.halves_used _ _ _ _).2⟩
        refine Half.halves _ _ _ (by omega) ⟨h.size, h.quota, h.top, h.used, ?_⟩
        show FreeRel (AM.updF A.free k (A.free k).dropLast) (AM.updF D.free k (D.free k).tail)
        exact h.free.pop k2
  · have hg : D.free c = AM.last (A.free c) :: (D.free c).tail := by
      have h1 := h.free.first hc
      have h2 : D.free c ≠ [] := fun e => hf ((h.free.nil hc).1 e)
      rcases hd : D.free c with _ | ⟨x, l⟩
      · exact absurd hd h2
      · rw [hd] at h1; simp at h1; rw [h1]; rfl
    rw [AM.take_pop hf, DM.take_pop hg]
    refine ⟨_, rfl, ⟨h.size, h.quota, h.top, h.used, ?_⟩, rfl⟩
    show FreeRel (AM.updF A.free c (A.free c).dropLast) (AM.updF D.free c (D.free c).tail)
    exact h.free.pop hc
def keyB (b : DB) : Nat × Nat × Nat := (b.pos + 1, b.cls, b.len)
/-- the two arenas are alike -/
structure Like (A : AM) (D : DM) : Prop where
  half : Half A D
  perm : (D.taken.map keyB).Perm A.taken
  rise : D.taken.Pairwise fun x y => x.pos < y.pos
  words : ∀ b ∈ D.taken, b.ws.length = b.len ∧ ∀ i, i < b.len → b.ws.getD i 0 = A.words.getD (b.pos + 1 + i) 0
theorem like_new (size quota : Nat) : Like (AM.new size quota) (DM.new size quota) := ⟨⟨rfl, rfl, rfl, rfl, ⟨fun _ _ => rfl, fun _ _ => rfl⟩⟩, List.Perm.refl _, List.Pairwise.nil, by simp [DM.new]⟩
/-- the names, rising, are the document's list -/
theorem Like.names {A : AM} {D : DM} (h : Like A D) {ns : List Int} (hp : ns.Perm (A.taken.map fun t => (t.1 : Int))) (hr : ns.Pairwise (· ≤ ·)) : ns = D.taken.map fun b => ((b.pos + 1 : Nat) : Int) := by
  have h1 : (D.taken.map fun b => ((b.pos + 1 : Nat) : Int)).Perm ns := by
    refine List.Perm.trans ?_ hp.symm
    have := h.perm.map (fun t : Nat × Nat × Nat => (t.1 : Int))
    rw [List.map_map] at this
    exact this
  have h2 : (D.taken.map fun b => ((b.pos + 1 : Nat) : Int)).Pairwise (· ≤ ·) := by
    rw [List.pairwise_map]
    exact h.rise.imp fun hxy => by omega
  exact (List.Perm.eq_of_pairwise (le := (· ≤ ·)) (fun a b _ _ h1 h2 => Int.le_antisymm h1 h2) h2 hr h1).symm
theorem put_perm (l : List DB) (b : DB) : (DM.put l b).Perm (l ++ [b]) := by
  unfold DM.put
  conv => rhs; rw [← List.takeWhile_append_dropWhile (p := fun x : DB => decide (x.pos < b.pos)) (l := l)]
  rw [List.append_assoc]
  exact List.Perm.append_left _ (List.perm_append_comm (l₁ := [b]))
theorem put_rise {l : List DB} {b : DB} (h : l.Pairwise fun x y => x.pos < y.pos) (hb : ∀ x ∈ l, x.pos ≠ b.pos) : (DM.put l b).Pairwise fun x y => x.pos < y.pos := by
  unfold DM.put
  induction l with
  | nil => simp
  | cons x l ih =>
    obtain ⟨h1, h2⟩ := List.pairwise_cons.1 h
    by_cases hx : x.pos < b.pos
    · rw [List.takeWhile_cons_of_pos (by simpa using hx), List.dropWhile_cons_of_pos (by simpa using hx)]
      refine List.Pairwise.cons (fun y hy => ?_) (ih h2 fun y hy => hb y (List.mem_cons_of_mem _ hy))
      rcases List.mem_append.1 hy with hy | hy
      · exact h1 y ((List.takeWhile_sublist _).subset hy)
      · rcases List.mem_cons.1 hy with rfl | hy
        · exact hx
        · exact h1 y ((List.dropWhile_sublist _).subset hy)
    · rw [List.takeWhile_cons_of_neg (by simpa using hx), List.dropWhile_cons_of_neg (by simpa using hx)]
      have hxb := hb x (List.mem_cons_self ..)
      refine List.Pairwise.cons (fun y hy => ?_) h
      rcases List.mem_cons.1 hy with rfl | hy
      · omega
      · have := h1 y hy; omega
end Go.Tx
end
section
/-
  The document's arena beside the arena: taking, giving back, writing. No program here.
-/
namespace Go.Tx
namespace AM
/-- what was written stays when a block is taken; the new block is 0 -/
theorem alloc_words {A B : AM} {q n : Nat} (h : A.Ok) (hn : n ≤ 1048576) (ha : A.alloc n = some (q, B)) :
    (∀ t ∈ A.taken, ∀ i, i < t.2.2 → B.words.getD (t.1 + i) 0 = A.words.getD (t.1 + i) 0) ∧ ∀ i, i < n → B.words.getD (q + i) 0 = 0 := by
  obtain ⟨a1, a2, a3, a4, a5, a6, a7, a8⟩ := alloc_ok h hn ha
  have hne : ∀ t ∈ A.taken, t.1 ≠ q := fun t ht => by
    have hnd := a1.nodup
    rw [a5, List.map_append, List.nodup_append] at hnd
    exact hnd.2.2 t.1 (List.mem_map.2 ⟨t, ht, rfl⟩) q (by simp)
  unfold AM.alloc at ha
  by_cases hq : A.used + pw (Go.Tx.cls n) > A.quota
  · rw [if_pos hq] at ha; cases ha
  · rw [if_neg hq] at ha
    rcases take_cls A (Go.Tx.cls n) with ⟨p, C, htk2⟩ | htk2
    · rw [htk2] at ha
      simp only [Option.some.injEq, Prod.mk.injEq] at ha
      obtain ⟨rfl, rfl⟩ := ha
      obtain ⟨d1, d2, d3, _⟩ := cls_spec n hn
      have hmi := take_missing h (by omega) htk2
      refine ⟨fun t ht i hi => ?_, fun i hi => ?_⟩
      · have hm1 : t ∈ ((C.wipe p (pw (Go.Tx.cls n))).note p (Go.Tx.cls n) n).taken := by rw [a5]; exact List.mem_append_left _ ht
        have hm2 : (p + 1, Go.Tx.cls n, n) ∈ ((C.wipe p (pw (Go.Tx.cls n))).note p (Go.Tx.cls n) n).taken := by rw [a5]; simp
        obtain ⟨c1, c2, c3, c4⟩ := h.taken _ ht
        have hcv := two_cov a1 hm1 hm2 (hne t ht) (t.1 + i)
        rw [cov_at (t.1 - 1) (pw t.2.1) (t.1 + i) (by omega) (by omega)] at hcv
        have hout : t.1 + i < p ∨ p + pw (Go.Tx.cls n) ≤ t.1 + i := by
          apply Decidable.byContradiction
          intro hc
          rw [cov_at (p + 1 - 1) (pw (Go.Tx.cls n)) (t.1 + i) (by omega) (by omega)] at hcv
          omega
        show (C.wipe p (pw (Go.Tx.cls n))).words.getD (t.1 + i) 0 = _
        rw [wipe_out C p _ _ hmi.place hout]
        exact take_words htk2 _ (by omega)
      · show (C.wipe p (pw (Go.Tx.cls n))).words.getD (p + 1 + i) 0 = 0
        have hpl := hmi.place
        have hl : (C.words.take p).length = p := by unfold top at hpl; simp; omega
        show (C.words.take p ++ List.replicate (pw (Go.Tx.cls n)) 0 ++ C.words.drop (p + pw (Go.Tx.cls n))).getD (p + 1 + i) 0 = 0
        rw [List.getD_eq_getElem?_getD, List.append_assoc, List.getElem?_append_right (by omega), hl, List.getElem?_append_left (by simp; omega)]
        simp [show p + 1 + i - p < pw (Go.Tx.cls n) by omega]
    · rw [htk2] at ha; simp at ha
end AM
/-- nothing can be taken: neither can the document -/
theorem Like.full {A : AM} {D : DM} (h : Like A D) {n : Nat} (hn : n ≤ 1048576) (ha : A.alloc n = none) : D.alloc n = none := by
  obtain ⟨d1, d2, _, _⟩ := cls_spec n hn
  unfold AM.alloc at ha
  unfold DM.alloc
  rw [h.half.used, h.half.quota]
  by_cases hq : A.used + pw (cls n) > A.quota
  · rw [if_pos hq]
  · rw [if_neg hq] at ha ⊢
    obtain ⟨D', e, _, _⟩ := h.half.take (c := cls n) (by omega)
    rw [e]
    rcases AM.take_cls A (cls n) with ⟨p, C, ht⟩ | ht
    · rw [ht] at ha; cases ha
    · rw [ht]
/-- a block is taken: the document takes the same -/
theorem Like.alloc {A B : AM} {D : DM} (h : Like A D) (hA : A.Ok) {n q : Nat} (hn : n ≤ 1048576) (ha : A.alloc n = some (q, B)) : ∃ D', D.alloc n = some (q, D') ∧ Like B D' := by
  obtain ⟨a1, a2, a3, a4, a5, a6, a7, a8⟩ := AM.alloc_ok hA hn ha
  obtain ⟨w1, w2⟩ := AM.alloc_words hA hn ha
  obtain ⟨d1, d2, d3, _⟩ := cls_spec n hn
  have hne : ∀ x ∈ D.taken, x.pos + 1 ≠ q := fun x hx => by
    have hnd := a1.nodup
    rw [a5, List.map_append, List.nodup_append] at hnd
    exact hnd.2.2 (x.pos + 1) (List.mem_map.2 ⟨keyB x, h.perm.mem_iff.1 (List.mem_map.2 ⟨x, hx, rfl⟩), rfl⟩) q (by simp)
  unfold AM.alloc at ha
  unfold DM.alloc
  rw [h.half.used, h.half.quota]
  by_cases hq : A.used + pw (cls n) > A.quota
  · rw [if_pos hq] at ha; cases ha
  · rw [if_neg hq] at ha ⊢
    obtain ⟨D', e, hh, ht'⟩ := h.half.take (c := cls n) (by omega)
    rw [e]
    rcases AM.take_cls A (cls n) with ⟨p, C, ht⟩ | ht
    · rw [ht] at ha hh ⊢
      simp only [Option.some.injEq, Prod.mk.injEq] at ha
      obtain ⟨rfl, rfl⟩ := ha
      have hmi := AM.take_missing hA (by omega) ht
      refine ⟨_, rfl, ⟨hh.size, hh.quota, ?_, ?_, hh.free⟩, ?_, ?_, ?_⟩
      · show D'.top = (C.wipe p (pw (cls n))).top
        rw [AM.wipe_top C p _ hmi.place]
        exact hh.top
      · show D'.used + pw (cls n) = C.used + pw (cls n)
        rw [hh.used]
      · rw [a5]
        show ((DM.put D'.taken _).map keyB).Perm _
        rw [ht']
        refine ((put_perm _ _).map keyB).trans ?_
        rw [List.map_append]
        exact h.perm.append (List.Perm.refl _)
      · show (DM.put D'.taken _).Pairwise _
        rw [ht']
        exact put_rise h.rise fun x hx e2 => hne x hx (by rw [e2])
      · intro b hb
        have hb2 : b ∈ D.taken ++ [⟨p, cls n, n, List.replicate n 0⟩] := by
          rw [← ht']
          exact (put_perm _ _).mem_iff.1 hb
        rcases List.mem_append.1 hb2 with hb3 | hb3
        · obtain ⟨x1, x2⟩ := h.words b hb3
          refine ⟨x1, fun i hi => (x2 i hi).trans ?_⟩
          exact (w1 (keyB b) (h.perm.mem_iff.1 (List.mem_map.2 ⟨b, hb3, rfl⟩)) i hi).symm
        · simp only [List.mem_singleton] at hb3
          subst hb3
          refine ⟨by simp, fun i hi => ?_⟩
          have := w2 i hi
          rw [this]
          simp only at hi
          simp [hi]
    · rw [ht] at ha; cases ha
theorem Like.nodup {A : AM} {D : DM} (h : Like A D) : (D.taken.map fun b => b.pos + 1).Nodup := by
  rw [List.nodup_iff_pairwise_ne, List.pairwise_map]
  exact h.rise.imp fun hxy => by omega
theorem Like.mem {A : AM} {D : DM} (h : Like A D) {i : Nat} {b : DB} (hb : D.taken[i]? = some b) : (b.pos + 1, b.cls, b.len) ∈ A.taken := h.perm.mem_iff.1 (List.mem_map.2 ⟨b, List.mem_of_getElem? hb, rfl⟩)
theorem Like.give {A : AM} {D : DM} (h : Like A D) (hA : A.Ok) {i : Nat} {b : DB} (hb : D.taken[i]? = some b) : Like (A.give (b.pos + 1) b.cls) (D.give i b) := by
  have hm := h.mem hb
  have hc := (hA.taken _ hm).2.1
  simp only at hc
  refine ⟨⟨h.half.size, h.half.quota, h.half.top, ?_, ?_⟩, ?_, List.Pairwise.sublist (List.eraseIdx_sublist _ _) h.rise, fun x hx => h.words x ((List.eraseIdx_sublist _ _).subset hx)⟩
  · show D.used - pw b.cls = A.used - pw b.cls
    rw [h.half.used]
  · show FreeRel (AM.updF A.free b.cls (A.free b.cls ++ [b.pos + 1 - 1])) (AM.updF D.free b.cls (b.pos :: D.free b.cls))
    exact h.half.free.push hc
  · show ((D.taken.eraseIdx i).map keyB).Perm (A.taken.filter fun t => decide (t.1 ≠ b.pos + 1))
    rw [← AM.filter_erase (fun b : DB => b.pos + 1) h.nodup hb]
    have := h.perm.filter (fun t => decide (t.1 ≠ b.pos + 1))
    rw [List.filter_map] at this
    exact this
theorem Like.set {A : AM} {D : DM} (h : Like A D) (hA : A.Ok) {i k : Nat} {b : DB} (hb : D.taken[i]? = some b) (hk : k < b.len) (v : Int) : Like (A.setWord (b.pos + 1 + k) v) (D.setWord i b k v) := by
  have hm := h.mem hb
  obtain ⟨b1, b2, b3, b4⟩ := hA.taken _ hm
  simp only at b1 b2 b3 b4
  have hi := (List.getElem?_eq_some_iff.1 hb).1
  have hmap : ∀ {β : Type} (f : DB → β), f { b with ws := b.ws.set k v } = f b → (D.taken.set i { b with ws := b.ws.set k v }).map f = D.taken.map f := fun f hf => by
    rw [List.map_set, hf]
    refine List.ext_getElem? fun j => ?_
    by_cases e : i = j
    · subst e
      rw [List.getElem?_set_self (by simpa using hi)]
      simp [hb]
    · rw [List.getElem?_set_ne e]
  refine ⟨⟨h.half.size, h.half.quota, h.half.top.trans (AM.setWord_top _ _ _).symm, h.half.used, h.half.free⟩, ?_, ?_, ?_⟩
  · show ((D.taken.set i _).map keyB).Perm _
    rw [hmap keyB rfl]
    exact h.perm
  · have h1 : ((D.taken.set i { b with ws := b.ws.set k v }).map DB.pos).Pairwise (· < ·) := by
      rw [hmap DB.pos rfl, List.pairwise_map]
      exact h.rise
    rw [List.pairwise_map] at h1
    exact h1
  · intro x hx
    have hx2 : x ∈ D.taken.set i { b with ws := b.ws.set k v } := hx
    obtain ⟨j, hj⟩ := List.mem_iff_getElem?.1 hx2
    by_cases e : i = j
    · subst e
      rw [List.getElem?_set_self hi] at hj
      have hj := Option.some.inj hj
      subst hj
      obtain ⟨y1, y2⟩ := h.words b (List.mem_of_getElem? hb)
      refine ⟨by simpa using y1, fun l hl => ?_⟩
      show (b.ws.set k v).getD l 0 = (A.words.set (b.pos + 1 + k) v).getD (b.pos + 1 + l) 0
      have htop : b.pos + 1 + k < A.words.length := by unfold AM.top at b4; omega
      by_cases el : l = k
      · subst el
        rw [List.getD_eq_getElem?_getD, List.getD_eq_getElem?_getD, List.getElem?_set_self (by rw [y1]; exact hk), List.getElem?_set_self htop]
      · rw [List.getD_eq_getElem?_getD, List.getD_eq_getElem?_getD, List.getElem?_set_ne (by omega), List.getElem?_set_ne (by omega), ← List.getD_eq_getElem?_getD, ← List.getD_eq_getElem?_getD]
        exact y2 l hl
    · rw [List.getElem?_set_ne e] at hj
      obtain ⟨y1, y2⟩ := h.words x (List.mem_of_getElem? hj)
      refine ⟨y1, fun l hl => ?_⟩
      have hmx := h.mem hj
      have hne : x.pos + 1 ≠ b.pos + 1 := fun e2 => by
        have hnd := h.nodup
        have q1 : (D.taken.map fun b => b.pos + 1)[i]? = some (b.pos + 1) := by simp [hb]
        have q2 : (D.taken.map fun b => b.pos + 1)[j]? = some (b.pos + 1) := by simp [hj, e2]
        have hil : i < (D.taken.map fun b => b.pos + 1).length := by simpa using hi
        exact e ((List.getElem?_inj hil hnd).1 (q1.trans q2.symm))
      have hap := AM.apart_at hA (t := (b.pos + 1, b.cls, b.len)) (u := (x.pos + 1, x.cls, x.len)) hm hmx (fun e2 => hne e2.symm) hk hl
      show x.ws.getD l 0 = (A.words.set (b.pos + 1 + k) v).getD (x.pos + 1 + l) 0
      rw [List.getD_eq_getElem?_getD (l := A.words.set _ _), List.getElem?_set_ne hap, ← List.getD_eq_getElem?_getD]
      exact y2 l hl
/-- who is there -/
theorem Like.look {A : AM} {D : DM} (h : Like A D) (hA : A.Ok) {p : Int} {c m : Nat} (hl : A.look p = some (c, m)) : ∃ (i : Nat) (b : DB), D.taken[i]? = some b ∧ p = ((b.pos + 1 : Nat) : Int) ∧ b.cls = c ∧ b.len = m := by
  obtain ⟨q, rfl, hm⟩ := AM.look_mem hl
  obtain ⟨b, hb, e⟩ := List.mem_map.1 (h.perm.mem_iff.2 hm)
  obtain ⟨i, hi⟩ := List.mem_iff_getElem?.1 hb
  simp only [keyB, Prod.mk.injEq] at e
  exact ⟨i, b, hi, by rw [e.1], e.2.1, e.2.2⟩
theorem Like.none {A : AM} {D : DM} (h : Like A D) {p : Int} (hl : A.look p = none) : ∀ b ∈ D.taken, ((b.pos + 1 : Nat) : Int) ≠ p := fun b hb => AM.look_none.1 hl (keyB b) (h.perm.mem_iff.1 (List.mem_map.2 ⟨b, hb, rfl⟩))
theorem like_clear {A : AM} {D : DM} (h : Like A D) : Like (AM.new A.size A.quota) D.clear := by
  unfold DM.clear
  rw [h.half.size, h.half.quota]
  exact like_new _ _
end Go.Tx
end

/-
  The law ArenaApart in plain words: taken blocks share no place.
-/
import Derived.Test.YtacedeaopgbdhaaArAgP
namespace Go.Tx
namespace AM
/-- of two taken blocks at most one covers a place -/
theorem two_cov {A : AM} (h : A.Ok) {t u : Nat × Nat × Nat} (ht : t ∈ A.taken) (hu : u ∈ A.taken) (hne : t.1 ≠ u.1) (x : Nat) : cov (t.1 - 1) (pw t.2.1) x + cov (u.1 - 1) (pw u.2.1) x ≤ 1 := by
  have h1 := sum_filter (fun t => cov (t.1 - 1) (pw t.2.1) x) A.taken t h.nodup ht
  have h2 : cov (u.1 - 1) (pw u.2.1) x ≤ ((A.taken.filter fun v => decide (v.1 ≠ t.1)).map fun t => cov (t.1 - 1) (pw t.2.1) x).sum := by
    refine le_sum (List.mem_map.2 ⟨u, List.mem_filter.2 ⟨hu, ?_⟩, rfl⟩)
    simpa using fun e => hne e.symm
  have h3 := h.tiles x
  unfold takenCov at h3
  have h4 := under_le x A.top
  omega
theorem apart_at {A : AM} (h : A.Ok) {t u : Nat × Nat × Nat} (ht : t ∈ A.taken) (hu : u ∈ A.taken) (hne : t.1 ≠ u.1) {i k : Nat} (hi : i < t.2.2) (hk : k < u.2.2) : t.1 + i ≠ u.1 + k := by
  intro e
  obtain ⟨a1, a2, a3, a4⟩ := h.taken t ht
  obtain ⟨b1, b2, b3, b4⟩ := h.taken u hu
  have h1 := two_cov h ht hu hne (t.1 + i)
  rw [cov_at (t.1 - 1) (pw t.2.1) (t.1 + i) (by omega) (by omega), cov_at (u.1 - 1) (pw u.2.1) (t.1 + i) (by omega) (by omega)] at h1
  omega
theorem halves_words (p c : Nat) : ∀ (d : Nat) (A : AM), (halves p c d A).words = A.words
  | 0, _ => rfl
  | d + 1, A => (halves_words p c d (A.push (c + d) (p + pw (c + d)))).trans rfl
theorem take_words {A B : AM} {c p : Nat} (h : A.take c = (some p, B)) (x : Nat) (hx : x < A.top) : B.words.getD x 0 = A.words.getD x 0 := by
  unfold take at h
  split at h
  · cases h; rfl
  · split at h
    · cases h
      show (A.words ++ List.replicate (pw c) 0).getD x 0 = _
      rw [List.getD_eq_getElem?_getD, List.getElem?_append_left hx, ← List.getD_eq_getElem?_getD]
    · split at h
      · cases h
        rw [halves_words]; rfl
      · cases h
theorem wipe_out (B : AM) (p m x : Nat) (h : p + m ≤ B.top) (hx : x < p ∨ p + m ≤ x) : (B.wipe p m).words.getD x 0 = B.words.getD x 0 := by
  unfold top at h
  show (B.words.take p ++ List.replicate m 0 ++ B.words.drop (p + m)).getD x 0 = _
  have hl : (B.words.take p).length = p := by simp; omega
  rw [List.getD_eq_getElem?_getD, List.getD_eq_getElem?_getD, List.append_assoc]
  rcases hx with hx | hx
  · rw [List.getElem?_append_left (by omega), List.getElem?_take_of_lt hx]
  · rw [List.getElem?_append_right (by omega), hl, List.getElem?_append_right (by simp; omega), List.getElem?_drop]
    simp only [List.length_replicate]
    congr 2
    omega
/-- a block as it stands in the arena's list: name, class, words -/
def trip (t : Nat × Nat × Nat) : Nat × Nat × Nat := (t.1, Go.Tx.cls t.2.1, t.2.1)
/-- the taken blocks (name, words, mark), each word as it was written -/
structure Kept (A : AM) (T : List (Nat × Nat × Nat)) : Prop where
  ok : A.Ok
  taken : A.taken = T.map trip
  len : ∀ t ∈ T, t.2.1 ≤ 39
  words : ∀ t ∈ T, ∀ k, k < t.2.1 → A.words.getD (t.1 + k) 0 = ((t.2.2 + k : Nat) : Int)
/-- .. and one more, of which so many words were written -/
structure Setting (A : AM) (T : List (Nat × Nat × Nat)) (q n m k : Nat) : Prop where
  ok : A.Ok
  taken : A.taken = (T ++ [(q, n, m)]).map trip
  len : ∀ t ∈ T, t.2.1 ≤ 39
  words : ∀ t ∈ T, ∀ k, k < t.2.1 → A.words.getD (t.1 + k) 0 = ((t.2.2 + k : Nat) : Int)
  new : ∀ j, j < k → A.words.getD (q + j) 0 = ((m + j : Nat) : Int)
theorem kept_new : Kept (AM.new 4000 4000) [] := ⟨new_ok (by decide) (by decide), rfl, by simp, by simp⟩
theorem Setting.mem {A : AM} {T : List (Nat × Nat × Nat)} {q n m k : Nat} (h : Setting A T q n m k) : (q, Go.Tx.cls n, n) ∈ A.taken := by
  rw [h.taken]; simp [trip]
theorem Setting.look {A : AM} {T : List (Nat × Nat × Nat)} {q n m k : Nat} (h : Setting A T q n m k) : A.look (q : Int) = some (Go.Tx.cls n, n) := (look_iff h.ok).2 h.mem
theorem Setting.ne {A : AM} {T : List (Nat × Nat × Nat)} {q n m k : Nat} (h : Setting A T q n m k) {t : Nat × Nat × Nat} (ht : t ∈ T) : t.1 ≠ q := by
  have hn := h.ok.nodup
  rw [h.taken, List.map_map, List.map_append, List.nodup_append] at hn
  exact hn.2.2 t.1 (List.mem_map.2 ⟨t, ht, rfl⟩) q (by simp [trip])
theorem Setting.top {A : AM} {T : List (Nat × Nat × Nat)} {q n m k : Nat} (h : Setting A T q n m k) {j : Nat} (hj : j < n) : q + j < A.words.length := by
  obtain ⟨a1, a2, a3, a4⟩ := h.ok.taken _ h.mem
  simp only at a1 a2 a3 a4
  unfold AM.top at a4
  omega
theorem Kept.alloc {A B : AM} {T : List (Nat × Nat × Nat)} {q n : Nat} (h : Kept A T) (hn : n ≤ 39) (ha : A.alloc n = some (q, B)) (m : Nat) : Setting B T q n m 0 := by
  obtain ⟨a1, a2, a3, a4, a5, a6, a7, a8⟩ := alloc_ok h.ok (by omega) ha
  have htk : B.taken = (T ++ [(q, n, m)]).map trip := by rw [a5, h.taken]; simp [trip]
  have hne : ∀ t ∈ T, t.1 ≠ q := fun t ht => by
    have hnd := a1.nodup
    rw [htk, List.map_map, List.map_append, List.nodup_append] at hnd
    exact hnd.2.2 t.1 (List.mem_map.2 ⟨t, ht, rfl⟩) q (by simp [trip])
  refine ⟨a1, htk, h.len, fun t ht k hk => ?_, fun j hj => absurd hj (Nat.not_lt_zero _)⟩
  rw [← h.words t ht k hk]
  have hm1 : trip t ∈ B.taken := by rw [htk]; exact List.mem_map.2 ⟨t, List.mem_append_left _ ht, rfl⟩
  have hm2 : (q, Go.Tx.cls n, n) ∈ B.taken := by rw [a5]; simp
  have hm3 : trip t ∈ A.taken := by rw [h.taken]; exact List.mem_map.2 ⟨t, ht, rfl⟩
  obtain ⟨c1, c2, c3, c4⟩ := h.ok.taken _ hm3
  simp only [trip] at c1 c2 c3 c4
  have hcv := two_cov a1 hm1 hm2 (hne t ht) (t.1 + k)
  simp only [trip] at hcv
  rw [cov_at (t.1 - 1) (pw (Go.Tx.cls t.2.1)) (t.1 + k) (by omega) (by omega)] at hcv
  have hout : t.1 + k < q - 1 ∨ q - 1 + pw (Go.Tx.cls n) ≤ t.1 + k := by
    apply Decidable.byContradiction
    intro hc
    rw [cov_at (q - 1) (pw (Go.Tx.cls n)) (t.1 + k) (by omega) (by omega)] at hcv
    omega
  unfold AM.alloc at ha
  by_cases hq : A.used + pw (Go.Tx.cls n) > A.quota
  · rw [if_pos hq] at ha; cases ha
  · rw [if_neg hq] at ha
    rcases take_cls A (Go.Tx.cls n) with ⟨p, C, htk2⟩ | htk2
    · rw [htk2] at ha
      simp only [Option.some.injEq, Prod.mk.injEq] at ha
      obtain ⟨rfl, rfl⟩ := ha
      obtain ⟨d1, d2, _, _⟩ := cls_spec n (by omega)
      have hmi := take_missing h.ok (by omega) htk2
      show (C.wipe p (pw (Go.Tx.cls n))).words.getD (t.1 + k) 0 = _
      rw [wipe_out C p _ _ hmi.place (by omega)]
      exact take_words htk2 _ (by omega)
    · rw [htk2] at ha; simp at ha
theorem Setting.set {A : AM} {T : List (Nat × Nat × Nat)} {q n m k : Nat} (h : Setting A T q n m k) (hk : k < n) : Setting (A.setWord (q + k) ((m + k : Nat) : Int)) T q n m (k + 1) := by
  have ht := h.top hk
  refine ⟨setWord_ok h.ok _ _, h.taken, h.len, fun t ht' j hj => ?_, fun j hj => ?_⟩
  · have hne : q + k ≠ t.1 + j := apart_at h.ok h.mem (u := trip t) (by rw [h.taken]; exact List.mem_map.2 ⟨t, List.mem_append_left _ ht', rfl⟩) (fun e => h.ne ht' e.symm) hk hj
    show (A.words.set (q + k) _).getD (t.1 + j) 0 = _
    rw [List.getD_eq_getElem?_getD, List.getElem?_set_ne hne, ← List.getD_eq_getElem?_getD]
    exact h.words t ht' j hj
  · show (A.words.set (q + k) _).getD (q + j) 0 = _
    by_cases e : j = k
    · subst e
      rw [List.getD_eq_getElem?_getD, List.getElem?_set_self ht]
      rfl
    · rw [List.getD_eq_getElem?_getD, List.getElem?_set_ne (by omega), ← List.getD_eq_getElem?_getD]
      exact h.new j (by omega)
theorem Setting.done {A : AM} {T : List (Nat × Nat × Nat)} {q n m : Nat} (h : Setting A T q n m n) (hn : n ≤ 39) : Kept A (T ++ [(q, n, m)]) := by
  refine ⟨h.ok, h.taken, fun t ht => ?_, fun t ht k hk => ?_⟩
  · rcases List.mem_append.1 ht with h1 | h1
    · exact h.len t h1
    · simp at h1; subst h1; exact hn
  · rcases List.mem_append.1 ht with h1 | h1
    · exact h.words t h1 k hk
    · simp at h1; subst h1; exact h.new k hk
theorem filter_erase {α : Type} (f : α → Nat) : ∀ {l : List α} {j : Nat} {x : α}, (l.map f).Nodup → l[j]? = some x → l.filter (fun y => decide (f y ≠ f x)) = l.eraseIdx j
  | [], j, x, _, h => by simp at h
  | y :: l, 0, x, hn, h => by
    simp at h
    subst h
    simp only [List.map_cons, List.nodup_cons] at hn
    rw [List.filter_cons]
    simp only [ne_eq, not_true, decide_false, Bool.false_eq_true, if_false, List.eraseIdx_zero, List.tail_cons]
    rw [List.filter_eq_self]
    intro z hz
    simp only [decide_eq_true_eq]
    intro e
    exact hn.1 (List.mem_map.2 ⟨z, hz, e⟩)
  | y :: l, j + 1, x, hn, h => by
    simp only [List.getElem?_cons_succ] at h
    simp only [List.map_cons, List.nodup_cons] at hn
    have hxy : f y ≠ f x := fun e => hn.1 (e ▸ List.mem_map.2 ⟨x, List.mem_of_getElem? h, rfl⟩)
    rw [List.filter_cons]
    simp only [hxy, ne_eq, not_false_eq_true, decide_true, if_true, List.eraseIdx_cons_succ]
    rw [filter_erase f hn.2 h]
theorem Kept.mem {A : AM} {T : List (Nat × Nat × Nat)} (h : Kept A T) {j : Nat} {t : Nat × Nat × Nat} (ht : T[j]? = some t) : trip t ∈ A.taken := by
  rw [h.taken]; exact List.mem_map.2 ⟨t, List.mem_of_getElem? ht, rfl⟩
theorem Kept.look {A : AM} {T : List (Nat × Nat × Nat)} (h : Kept A T) {j : Nat} {t : Nat × Nat × Nat} (ht : T[j]? = some t) : A.look (t.1 : Int) = some (Go.Tx.cls t.2.1, t.2.1) := (look_iff h.ok).2 (h.mem ht)
theorem Kept.nodup {A : AM} {T : List (Nat × Nat × Nat)} (h : Kept A T) : (T.map (·.1)).Nodup := by
  have := h.ok.nodup
  rw [h.taken, List.map_map] at this
  exact this
theorem Kept.give {A : AM} {T : List (Nat × Nat × Nat)} (h : Kept A T) {j : Nat} {t : Nat × Nat × Nat} (ht : T[j]? = some t) : Kept (A.give t.1 (Go.Tx.cls t.2.1)) (T.eraseIdx j) ∧ (A.give t.1 (Go.Tx.cls t.2.1)).look (t.1 : Int) = none := by
  have hm := h.mem ht
  have he : T.filter (fun y => decide (y.1 ≠ t.1)) = T.eraseIdx j := filter_erase (·.1) h.nodup ht
  refine ⟨⟨(give_ok h.ok hm).1, ?_, fun u hu => h.len u ((List.eraseIdx_sublist _ _).subset hu), fun u hu k hk => h.words u ((List.eraseIdx_sublist _ _).subset hu) k hk⟩, ?_⟩
  · show A.taken.filter (fun u => decide (u.1 ≠ t.1)) = _
    rw [h.taken, List.filter_map, ← he]
    rfl
  · rw [look_none]
    intro u hu
    have := (List.mem_filter.1 hu).2
    simp only [decide_eq_true_eq] at this
    omega
theorem Kept.count {A : AM} {T : List (Nat × Nat × Nat)} (h : Kept A T) : A.taken.length = T.length := by rw [h.taken, List.length_map]
end AM
end Go.Tx

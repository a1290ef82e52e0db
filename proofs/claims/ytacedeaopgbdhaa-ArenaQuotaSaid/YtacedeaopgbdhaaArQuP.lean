/-
  The law ArenaQuota in plain words.
-/
import Derived.Test.YtacedeaopgbdhaaArAgP
namespace Go.Tx
namespace AM
/-- an arena in which these blocks are taken, in this order -/
structure Held (A : AM) (quota : Nat) (L : List Nat) : Prop where
  ok : A.Ok
  size : A.size = 2000
  quota : A.quota = quota
  names : A.taken.map (·.1) = L
theorem held_new {q : Nat} (h : q ≤ 2000) : Held (new 2000 q) q [] := ⟨new_ok (by decide) h, rfl, rfl, rfl⟩
theorem Held.alloc {A B : AM} {n q p : Nat} {L : List Nat} (h : Held A q L) (hn : n ≤ 1048576) (ha : A.alloc n = some (p, B)) : Held B q (L ++ [p]) ∧ B.used = A.used + pw (Go.Tx.cls n) ∧ B.used ≤ q := by
  obtain ⟨a1, a2, a3, a4, a5, a6, a7, a8⟩ := alloc_ok h.ok hn ha
  refine ⟨⟨a1, a2.trans h.size, a3.trans h.quota, by rw [a5, List.map_append, h.names]; rfl⟩, a4, ?_⟩
  have := a1.usedq
  rw [a3, h.quota] at this
  exact this
theorem alloc_none {A : AM} {n : Nat} (h : A.alloc n = none) : A.used + pw (Go.Tx.cls n) > A.quota ∨ A.top + pw (Go.Tx.cls n) > A.size := by
  unfold AM.alloc at h
  by_cases hq : A.used + pw (Go.Tx.cls n) > A.quota
  · exact .inl hq
  · rw [if_neg hq] at h
    unfold take at h
    by_cases hf : A.free (Go.Tx.cls n) ≠ []
    · rw [if_pos hf] at h; simp at h
    · rw [if_neg hf] at h
      by_cases ht : A.top + pw (Go.Tx.cls n) ≤ A.size
      · rw [if_pos ht] at h; simp at h
      · exact .inr (by omega)
theorem Held.len {A : AM} {q : Nat} {L : List Nat} (h : Held A q L) : L.length ≤ 1048576 := by
  have := taken_len h.ok
  rwa [← h.names, List.length_map]
theorem Held.head {A : AM} {q p : Nat} {L : List Nat} (h : Held A q (p :: L)) : ∃ c m, (p, c, m) ∈ A.taken ∧ Held (A.give p c) q L := by
  have hn := h.names
  rcases ht : A.taken with _ | ⟨⟨p', c, m⟩, l⟩
  · rw [ht] at hn; cases hn
  · rw [ht] at hn
    simp only [List.map_cons, List.cons.injEq] at hn
    obtain ⟨rfl, hl⟩ := hn
    have hm : (p', c, m) ∈ A.taken := by rw [ht]; simp
    refine ⟨c, m, by simp, (give_ok h.ok hm).1, h.size, h.quota, ?_⟩
    show (A.taken.filter fun t => decide (t.1 ≠ p')).map (·.1) = L
    have hnd := h.ok.nodup
    rw [ht, List.map_cons, List.nodup_cons] at hnd
    rw [ht, List.filter_cons]
    simp only [ne_eq, not_true, decide_false, Bool.false_eq_true, if_false]
    rw [List.filter_eq_self.2, hl]
    intro t ht'
    simp only [decide_eq_true_eq]
    intro e
    exact hnd.1 (List.mem_map.2 ⟨t, ht', e⟩)
theorem Held.none {A : AM} {q : Nat} (h : Held A q []) : A.used = 0 ∧ A.taken = [] := by
  have ht : A.taken = [] := by simpa using h.names
  refine ⟨?_, ht⟩
  rw [h.ok.usedS]
  unfold takenSum
  rw [ht]; rfl
/-- powers of two up to the class -/
theorem cls_next {n j : Nat} (hn : n ≤ 1048576) (h1 : 1 ≤ j) (h2 : j ≤ Go.Tx.cls n) : (pw j < n + 1 → j + 1 ≤ Go.Tx.cls n) ∧ (¬ pw j < n + 1 → j = Go.Tx.cls n) := by
  obtain ⟨c1, c2, c3, c4⟩ := cls_spec n hn
  refine ⟨fun h => ?_, fun h => ?_⟩
  · apply Decidable.byContradiction
    intro hc
    obtain rfl : j = Go.Tx.cls n := by omega
    omega
  · apply Decidable.byContradiction
    intro hc
    have h5 := c4 (by omega)
    have h6 := pw_mono (show j ≤ Go.Tx.cls n - 1 by omega)
    omega
theorem cls_seven {n : Nat} (h : n ≤ 69) : 1 ≤ Go.Tx.cls n ∧ Go.Tx.cls n ≤ 7 ∧ pw (Go.Tx.cls n) ≤ 128 := by
  obtain ⟨h1, h2, h3, h4⟩ := cls_spec n (by omega)
  have h7 : pw 7 = 128 := by unfold pw; rfl
  have hc : Go.Tx.cls n ≤ 7 := by
    apply Decidable.byContradiction
    intro hc
    have h5 := h4 (by omega)
    have h6 := pw_mono (show 7 ≤ Go.Tx.cls n - 1 by omega)
    omega
  exact ⟨h1, hc, h7 ▸ pw_mono hc⟩
end AM
end Go.Tx

/-
  The arena, in plain words: giving a block back, and setting a word, keep what holds of it always.
-/
import Derived.Test.YtacedeaopgbdhaaArP
namespace Go.Tx
namespace AM

theorem key_eq : ∀ {l : List (Nat × Nat × Nat)} {q : Nat} {x y : Nat × Nat}, (l.map (·.1)).Nodup → (q, x) ∈ l → (q, y) ∈ l → x = y
  | [], _, _, _, _, h, _ => by cases h
  | u :: l, q, x, y, hn, h1, h2 => by
    simp only [List.map_cons, List.nodup_cons] at hn
    rcases List.mem_cons.1 h1 with e1 | h1
    · rcases List.mem_cons.1 h2 with e2 | h2
      · rw [← e1] at e2; simpa using e2.symm
      · exact absurd (List.mem_map.2 ⟨_, h2, by rw [← e1]⟩) hn.1
    · rcases List.mem_cons.1 h2 with e2 | h2
      · exact absurd (List.mem_map.2 ⟨_, h1, by rw [← e2]⟩) hn.1
      · exact key_eq hn.2 h1 h2

theorem look_iff {A : AM} (hA : A.Ok) {q c m : Nat} : A.look (q : Int) = some (c, m) ↔ (q, c, m) ∈ A.taken := by
  constructor
  · intro h
    unfold look at h
    cases hf : A.taken.find? (fun t => decide ((t.1 : Int) = (q : Int))) with
    | none => rw [hf] at h; cases h
    | some t =>
      rw [hf] at h
      have h1 := List.find?_some hf
      have h2 := List.mem_of_find?_eq_some hf
      obtain ⟨q', c', m'⟩ := t
      simp at h h1
      obtain ⟨rfl, rfl⟩ := h
      obtain rfl : q' = q := by omega
      exact h2
  · intro h
    unfold look
    cases hf : A.taken.find? (fun t => decide ((t.1 : Int) = (q : Int))) with
    | none =>
      rw [List.find?_eq_none] at hf
      have := hf _ h
      simp at this
    | some t =>
      have h1 := List.find?_some hf
      have h2 := List.mem_of_find?_eq_some hf
      obtain ⟨q', c', m'⟩ := t
      simp at h1
      obtain rfl : q' = q := by omega
      have hn := hA.nodup
      have : (q', c', m') = (q', c, m) := by
        rw [key_eq hn h h2]
      simp at this
      simp [this]
theorem look_none {A : AM} {p : Int} : A.look p = none ↔ ∀ t ∈ A.taken, (t.1 : Int) ≠ p := by
  unfold look
  simp only [Option.map_eq_none_iff, List.find?_eq_none, decide_eq_true_eq]

theorem sum_filter (f : Nat × Nat × Nat → Nat) : ∀ (l : List (Nat × Nat × Nat)) (t : Nat × Nat × Nat), (l.map (·.1)).Nodup → t ∈ l → ((l.filter fun u => decide (u.1 ≠ t.1)).map f).sum + f t = (l.map f).sum
  | [], _, _, h => by cases h
  | u :: l, t, hn, h => by
    simp only [List.map_cons, List.nodup_cons] at hn
    rcases List.mem_cons.1 h with e0 | h
    · subst e0
      have hl : (l.filter fun u => decide (u.1 ≠ t.1)) = l := by
        rw [List.filter_eq_self]
        intro a ha
        simp only [ne_eq, decide_not, Bool.not_eq_eq_eq_not, Bool.not_true, decide_eq_false_iff_not]
        intro he
        exact hn.1 (List.mem_map.2 ⟨a, ha, he⟩)
      simp only [List.filter_cons, ne_eq, not_true_eq_false, decide_false, Bool.false_eq_true, if_false, List.map_cons, List.sum_cons]
      simp only [ne_eq] at hl
      rw [hl]; omega
    · have hne : u.1 ≠ t.1 := fun he => hn.1 (List.mem_map.2 ⟨t, h, he.symm⟩)
      have ih := sum_filter f l t hn.2 h
      simp only [List.filter_cons, hne, ne_eq, not_false_eq_true, decide_true, if_true, List.map_cons, List.sum_cons]
      simp only [ne_eq] at ih
      omega

theorem give_top (A : AM) (p c : Nat) : (A.give p c).top = A.top := rfl
theorem give_ok {A : AM} (hA : A.Ok) {q c m : Nat} (h : (q, c, m) ∈ A.taken) : (A.give q c).Ok ∧ (A.give q c).used + pw c = A.used := by
  obtain ⟨t1, t2, t3, t4⟩ := hA.taken _ h
  simp only at t1 t2 t3 t4
  have hs := sum_filter (fun t => pw t.2.1) A.taken _ hA.nodup h
  simp only at hs
  have hu := hA.usedS
  unfold takenSum at hu
  have hus : (A.give q c).used + pw c = A.used := by
    show A.used - pw c + pw c = A.used
    omega
  have hfs : (A.give q c).freeSum = A.freeSum + pw c := by
    rw [← freeSum_push A c (q - 1) t2]
    exact freeSum_congr (A := A.give q c) (B := A.push c (q - 1)) rfl
  have hsum := hA.sum
  refine ⟨⟨hA.size, hA.quota, hA.top, ?_, ?_, ?_, ?_, ?_, ?_, ?_⟩, hus⟩
  · have := hA.usedq
    show (A.give q c).used ≤ A.quota
    omega
  · rw [give_top]; omega
  · show A.used - pw c = _
    unfold takenSum
    show A.used - pw c = ((A.taken.filter fun t => decide (t.1 ≠ q)).map fun t => pw t.2.1).sum
    omega
  · intro k hk x hx
    rw [give_top]
    by_cases hkc : k = c
    · subst hkc
      simp only [give, push, setFree, updF_same, List.mem_append, List.mem_singleton] at hx
      rcases hx with hx | rfl
      · exact hA.free k hk x hx
      · exact t4
    · simp only [give, push, setFree, updF_other _ _ hkc] at hx
      exact hA.free k hk x hx
  · intro t ht
    exact hA.taken t (List.mem_filter.1 ht).1
  · exact ((List.filter_sublist (l := A.taken) (p := fun t => decide (t.1 ≠ q))).map (·.1)).nodup hA.nodup
  · intro x
    have h1 := freeCov_push A x c (q - 1) t2
    have h2 : (A.give q c).freeCov x = (A.push c (q - 1)).freeCov x := freeCov_congr (A := A.give q c) (B := A.push c (q - 1)) rfl x
    have h3 := sum_filter (fun t => cov (t.1 - 1) (pw t.2.1) x) A.taken _ hA.nodup h
    have h4 := hA.tiles x
    unfold takenCov at h4 ⊢
    rw [give_top]
    show (A.give q c).freeCov x + ((A.taken.filter fun t => decide (t.1 ≠ q)).map fun t => cov (t.1 - 1) (pw t.2.1) x).sum = _
    simp only at h3
    omega

theorem setWord_top (A : AM) (i : Nat) (v : Int) : (A.setWord i v).top = A.top := by simp [setWord, top]
theorem setWord_ok {A : AM} (hA : A.Ok) (i : Nat) (v : Int) : (A.setWord i v).Ok := by
  have e1 : (A.setWord i v).freeSum = A.freeSum := freeSum_congr (A := A.setWord i v) (B := A) rfl
  have e2 : (A.setWord i v).takenSum = A.takenSum := by unfold takenSum; rfl
  refine ⟨hA.size, hA.quota, ?_, hA.usedq, ?_, by rw [e2]; exact hA.usedS, ?_, ?_, hA.nodup, ?_⟩
  · rw [setWord_top]; exact hA.top
  · rw [setWord_top, e1]; exact hA.sum
  · intro k hk p hp; rw [setWord_top]; exact hA.free k hk p hp
  · intro t ht; rw [setWord_top]; exact hA.taken t ht
  · intro x; rw [setWord_top, freeCov_congr (A := A.setWord i v) (B := A) rfl, takenCov_congr (A := A.setWord i v) (B := A) rfl]; exact hA.tiles x
end AM
end Go.Tx

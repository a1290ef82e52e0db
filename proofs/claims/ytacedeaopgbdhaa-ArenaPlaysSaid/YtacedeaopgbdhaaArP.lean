/-
  The arena, in plain words: taking, giving back, and what holds of it always.
-/
import Derived.Test.YtacedeaopgbdhaaArM
namespace Go.Tx
namespace AM

theorem freeSum_congr {A B : AM} (h : A.free = B.free) : A.freeSum = B.freeSum := by unfold freeSum; rw [h]
theorem freeCov_congr {A B : AM} (h : A.free = B.free) (x : Nat) : A.freeCov x = B.freeCov x := by unfold freeCov; rw [h]
theorem takenCov_congr {A B : AM} (h : A.taken = B.taken) (x : Nat) : A.takenCov x = B.takenCov x := by unfold takenCov; rw [h]
theorem cov_half (p c x : Nat) : cov p (pw (c + 1)) x = cov p (pw c) x + cov (p + pw c) (pw c) x := by
  have := pw_succ c
  have := pw_pos c
  unfold cov
  repeat' split
  all_goals omega
theorem cov_at (p m x : Nat) (h1 : p ≤ x) (h2 : x < p + m) : cov p m x = 1 := by unfold cov; rw [if_pos ⟨h1, h2⟩]
theorem under_le (x t : Nat) : under x t ≤ 1 := by unfold under; split <;> omega
theorem halves_props (p c : Nat) : ∀ (d : Nat) (A : AM), c + d ≤ 22 →
    (halves p c d A).size = A.size ∧ (halves p c d A).quota = A.quota ∧ (halves p c d A).words = A.words ∧ (halves p c d A).taken = A.taken ∧ (halves p c d A).used = A.used ∧
    (halves p c d A).freeSum + pw c = A.freeSum + pw (c + d) ∧ (∀ x, (halves p c d A).freeCov x + cov p (pw c) x = A.freeCov x + cov p (pw (c + d)) x) ∧ ∀ k, k < 22 → ∀ q ∈ (halves p c d A).free k, q ∈ A.free k ∨ q + pw k ≤ p + pw (c + d)
  | 0, A, _ => ⟨rfl, rfl, rfl, rfl, rfl, rfl, fun _ => rfl, fun _ _ q hq => .inl hq⟩
  | d + 1, A, h => by
    obtain ⟨h1, h2, h3, h4, h5, h6, h8, h7⟩ := halves_props p c d (A.push (c + d) (p + pw (c + d))) (by omega)
    have hs := freeSum_push A (c + d) (p + pw (c + d)) (by omega)
    have hp : pw (c + (d + 1)) = 2 * pw (c + d) := pw_succ (c + d)
    refine ⟨h1, h2, h3, h4, h5, ?_, fun x => ?_, fun k hk q hq => ?_⟩
    · show (halves p c d (A.push (c + d) (p + pw (c + d)))).freeSum + pw c = _
      omega
    · show (halves p c d (A.push (c + d) (p + pw (c + d)))).freeCov x + cov p (pw c) x = _
      have := h8 x
      have := freeCov_push A x (c + d) (p + pw (c + d)) (by omega)
      have := cov_half p (c + d) x
      rw [show c + (d + 1) = c + d + 1 from rfl]
      omega
    · rcases h7 k hk q hq with hq | hq
      · by_cases hkc : k = c + d
        · subst hkc
          simp only [push, setFree, updF_same, List.mem_append, List.mem_singleton] at hq
          rcases hq with hq | rfl
          · exact .inl hq
          · exact .inr (by omega)
        · simp only [push, setFree, updF_other _ _ hkc] at hq
          exact .inl hq
      · exact .inr (by omega)

theorem last_mem {l : List Nat} (h : l ≠ []) : last l ∈ l := by
  unfold last
  rw [List.getLastD_eq_getLast?, List.getLast?_eq_some_getLast h]
  exact List.getLast_mem h

/-- what holds behind a place has been taken, its block being neither free nor noted -/
structure Missing (A B : AM) (p c : Nat) : Prop where
  size : B.size = A.size
  quota : B.quota = A.quota
  used : B.used = A.used
  taken : B.taken = A.taken
  top : A.top ≤ B.top
  topS : B.top ≤ B.size
  place : p + pw c ≤ B.top
  sum : B.freeSum + A.used + pw c = B.top
  free : ∀ k, k < 22 → ∀ q ∈ B.free k, q + pw k ≤ B.top
  tiles : ∀ x, B.freeCov x + A.takenCov x + cov p (pw c) x = under x B.top

theorem take_missing {A B : AM} {c p : Nat} (hA : A.Ok) (hc : c < 22) (h : A.take c = (some p, B)) : Missing A B p c := by
  unfold take at h
  have hsum := hA.sum
  by_cases h1 : A.free c ≠ []
  · rw [if_pos h1] at h
    simp only [Prod.mk.injEq, Option.some.injEq] at h
    obtain ⟨rfl, rfl⟩ := h
    have hs := freeSum_pop A c hc h1
    refine ⟨rfl, rfl, rfl, rfl, Nat.le_refl _, hA.top, hA.free c hc _ (last_mem h1), ?_, fun k hk q hq => ?_, fun x => ?_⟩
    rotate_right
    · have := freeCov_pop A x c hc h1
      have := hA.tiles x
      show (A.pop c).freeCov x + A.takenCov x + cov (last (A.free c)) (pw c) x = under x A.top
      omega
    · show (A.pop c).freeSum + A.used + pw c = A.top; omega
    · show q + pw k ≤ A.top
      by_cases hkc : k = c
      · subst hkc
        simp only [pop, setFree, updF_same] at hq
        exact hA.free k hk q ((List.dropLast_sublist _).subset hq)
      · simp only [pop, setFree, updF_other _ _ hkc] at hq
        exact hA.free k hk q hq
  · rw [if_neg h1] at h
    by_cases h2 : A.top + pw c ≤ A.size
    · rw [if_pos h2] at h
      simp only [Prod.mk.injEq, Option.some.injEq] at h
      obtain ⟨rfl, rfl⟩ := h
      have ht : (A.grow c).top = A.top + pw c := by simp [grow, top]
      refine ⟨rfl, rfl, rfl, rfl, by omega, by rw [ht]; exact h2, by omega, ?_, fun k hk q hq => ?_, fun x => ?_⟩
      rotate_right
      · have h3 := hA.tiles x
        rw [freeCov_congr (A := A.grow c) (B := A) rfl, ht]
        revert h3
        unfold cov under
        repeat' split
        all_goals omega
      · rw [freeSum_congr (A := A.grow c) (B := A) rfl]; omega
      · have := hA.free k hk q hq; omega
    · rw [if_neg h2] at h
      cases hf : A.find (c + 1) with
      | none => rw [hf] at h; simp at h
      | some k =>
        rw [hf] at h
        simp only [Prod.mk.injEq, Option.some.injEq] at h
        obtain ⟨rfl, rfl⟩ := h
        obtain ⟨a1, a2, a3, _⟩ := find_some hf
        have hs := freeSum_pop A k a2 a3
        have hl := hA.free k a2 _ (last_mem a3)
        obtain ⟨b1, b2, b3, b4, b5, b6, b8, b7⟩ := halves_props (last (A.free k)) c (k - c) (A.pop k) (by omega)
        rw [show c + (k - c) = k from by omega] at b6 b7 b8
        have ht : (halves (last (A.free k)) c (k - c) (A.pop k)).top = A.top := by unfold top; rw [b3]; rfl
        have hm := pw_mono (show c ≤ k by omega)
        refine ⟨b1, b2, b5, b4, by omega, by rw [ht, b1]; exact hA.top, by omega, by omega, fun j hj q hq => ?_, fun x => ?_⟩
        rotate_right
        · have := b8 x
          have := freeCov_pop A x k a2 a3
          have := hA.tiles x
          rw [ht]; omega
        rcases b7 j hj q hq with hq | hq
        · have : q ∈ A.free j := by
            by_cases hjk : j = k
            · subst hjk
              simp only [pop, setFree, updF_same] at hq
              exact (List.dropLast_sublist _).subset hq
            · simp only [pop, setFree, updF_other _ _ hjk] at hq
              exact hq
          have := hA.free j hj q this
          omega
        · omega

theorem take_cls (A : AM) (c : Nat) : (∃ p B, A.take c = (some p, B)) ∨ A.take c = (none, A) := by
  unfold take
  by_cases h1 : A.free c ≠ []
  · rw [if_pos h1]; exact .inl ⟨_, _, rfl⟩
  · rw [if_neg h1]
    by_cases h2 : A.top + pw c ≤ A.size
    · rw [if_pos h2]; exact .inl ⟨_, _, rfl⟩
    · rw [if_neg h2]
      cases A.find (c + 1) with
      | none => exact .inr rfl
      | some k => exact .inl ⟨_, _, rfl⟩

theorem wipe_top (A : AM) (p m : Nat) (h : p + m ≤ A.top) : (A.wipe p m).top = A.top := by
  unfold wipe top at *
  simp; omega
theorem wipe_len (A : AM) (p m : Nat) (h : p + m ≤ A.top) : (A.wipe p m).words.length = A.top := wipe_top A p m h
theorem putTaken_new {l : List (Nat × Nat × Nat)} {t : Nat × Nat × Nat} (h : t.1 ∉ l.map (·.1)) : putTaken l t = l ++ [t] := by
  simp [putTaken, h]

theorem takenCov_mem {A : AM} {t : Nat × Nat × Nat} (h : t ∈ A.taken) (x : Nat) : cov (t.1 - 1) (pw t.2.1) x ≤ A.takenCov x := by
  unfold takenCov
  exact le_sum (List.mem_map.2 ⟨t, h, rfl⟩)
/-- a place that is taken anew is no taken block's -/
theorem Missing.new {A B : AM} {p c : Nat} (_ : A.Ok) (hm : Missing A B p c) : p + 1 ∉ A.taken.map (·.1) := by
  intro hmem
  obtain ⟨t, ht, he⟩ := List.mem_map.1 hmem
  have h1 := takenCov_mem ht p
  rw [cov_at _ _ _ (by omega) (by have := pw_pos t.2.1; omega)] at h1
  have h2 := hm.tiles p
  rw [cov_at p (pw c) p (Nat.le_refl _) (by have := pw_pos c; omega)] at h2
  have := under_le p B.top
  omega
/-- the arena behind a block was taken -/
theorem alloc_ok {A A' : AM} {n q : Nat} (hA : A.Ok) (hn : n ≤ 1048576) (h : A.alloc n = some (q, A')) :
    A'.Ok ∧ A'.size = A.size ∧ A'.quota = A.quota ∧ A'.used = A.used + pw (cls n) ∧ A'.taken = A.taken ++ [(q, cls n, n)] ∧ 1 ≤ q ∧ q - 1 + pw (cls n) ≤ A'.top ∧ A.top ≤ A'.top := by
  obtain ⟨c1, c2, c3, c4⟩ := cls_spec n hn
  unfold alloc at h
  by_cases hq : A.used + pw (cls n) > A.quota
  · rw [if_pos hq] at h; cases h
  · rw [if_neg hq] at h
    rcases take_cls A (cls n) with ⟨p, B, ht⟩ | ht
    · rw [ht] at h
      simp only [Option.some.injEq, Prod.mk.injEq] at h
      obtain ⟨rfl, rfl⟩ := h
      have hm := take_missing hA (by omega) ht
      have hnw := hm.new hA
      have htop : ((B.wipe p (pw (cls n))).note p (cls n) n).top = B.top := wipe_top B p _ hm.place
      have htk : ((B.wipe p (pw (cls n))).note p (cls n) n).taken = A.taken ++ [(p + 1, cls n, n)] := by
        show putTaken B.taken _ = _
        rw [hm.taken]; exact putTaken_new hnw
      have hus : ((B.wipe p (pw (cls n))).note p (cls n) n).used = A.used + pw (cls n) := by
        show B.used + _ = _
        rw [hm.used]
      have hu := hA.usedS
      refine ⟨⟨?_, ?_, ?_, ?_, ?_, ?_, ?_, ?_, ?_, ?_⟩, hm.size, hm.quota, hus, htk, by omega, ?_, by rw [htop]; exact hm.top⟩
      · show B.size ≤ _; rw [hm.size]; exact hA.size
      · show B.quota ≤ B.size; rw [hm.size, hm.quota]; exact hA.quota
      · rw [htop]; exact hm.topS
      · rw [hus]; show _ ≤ B.quota; rw [hm.quota]; omega
      · rw [htop, hus, freeSum_congr (A := (B.wipe p (pw (cls n))).note p (cls n) n) (B := B) rfl]
        have := hm.sum; omega
      · rw [hus]; unfold takenSum; rw [htk]; simp; unfold takenSum at hu; omega
      · intro k hk x hx; rw [htop]; exact hm.free k hk x hx
      · intro t ht'
        rw [htk] at ht'
        rw [htop]
        rcases List.mem_append.1 ht' with ht' | ht'
        · obtain ⟨a1, a2, a3, a4⟩ := hA.taken t ht'
          exact ⟨a1, a2, a3, by have := hm.top; omega⟩
        · simp at ht'; subst ht'
          exact ⟨by simp, by simp; omega, c3, by simpa using hm.place⟩
      · rw [htk, List.map_append, List.nodup_append]
        refine ⟨hA.nodup, by simp, ?_⟩
        intro a ha b hb he
        simp at hb; subst hb; subst he; exact hnw ha
      · intro x
        rw [htop, freeCov_congr (A := (B.wipe p (pw (cls n))).note p (cls n) n) (B := B) rfl]
        have h3 := hm.tiles x
        have h4 : ((B.wipe p (pw (cls n))).note p (cls n) n).takenCov x = A.takenCov x + cov p (pw (cls n)) x := by
          unfold takenCov; rw [htk]; simp
        omega
      · rw [htop]; simpa using hm.place
    · rw [ht] at h; simp at h

theorem new_ok {size quota : Nat} (h1 : size ≤ 1048576) (h2 : quota ≤ size) : (new size quota).Ok := by
  have hs : (new size quota).freeSum = 0 := by
    unfold freeSum new
    simp only [List.length_nil, Nat.mul_zero]
    decide
  have hc : ∀ x, (new size quota).freeCov x = 0 := by
    intro x
    unfold freeCov new
    simp only [List.map_nil, List.sum_nil]
    decide
  refine ⟨h1, h2, Nat.zero_le _, Nat.zero_le _, ?_, ?_, ?_, ?_, ?_, ?_⟩
  · rw [hs]; rfl
  · unfold takenSum; rfl
  · intro k _ p hp; simp [new] at hp
  · intro t ht; simp [new] at ht
  · simp [new]
  · intro x; rw [hc]; unfold takenCov under; simp [new, top]
end AM
end Go.Tx

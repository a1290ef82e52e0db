/-
  The law ArenaHalves in plain words: the blocks that come of one great block stand one behind the other.
-/
import Derived.Test.YtacedeaopgbdhaaArQ
namespace Go.Tx
namespace AM

/-- the free blocks of d classes from k on stand one behind the other, from p to e -/
def chain (f : Nat → List Nat) : Nat → Nat → Nat → Nat → Prop
  | _, 0, p, e => p = e
  | k, d + 1, p, e => (f k = [] ∧ chain f (k + 1) d p e) ∨ (f k = [p] ∧ chain f (k + 1) d (p + pw k) e)

theorem chain_congr {f g : Nat → List Nat} : ∀ (d k p e : Nat), (∀ j, k ≤ j → f j = g j) → chain f k d p e → chain g k d p e
  | 0, _, _, _, _, h => h
  | d + 1, k, p, e, hfg, h => by
    rcases h with ⟨h1, h2⟩ | ⟨h1, h2⟩
    · exact .inl ⟨by rw [← hfg k (Nat.le_refl _)]; exact h1, chain_congr d _ _ _ (fun j hj => hfg j (by omega)) h2⟩
    · exact .inr ⟨by rw [← hfg k (Nat.le_refl _)]; exact h1, chain_congr d _ _ _ (fun j hj => hfg j (by omega)) h2⟩
/-- the first block of a chain -/
theorem chain_first {f : Nat → List Nat} : ∀ (d k p e : Nat), p < e → chain f k d p e → ∃ j, k ≤ j ∧ j < k + d ∧ (∀ i, k ≤ i → i < j → f i = []) ∧ f j = [p] ∧ chain f (j + 1) (k + d - (j + 1)) (p + pw j) e
  | 0, _, p, e, hp, h => by unfold chain at h; omega
  | d + 1, k, p, e, hp, h => by
    rcases h with ⟨h1, h2⟩ | ⟨h1, h2⟩
    · obtain ⟨j, a1, a2, a3, a4, a5⟩ := chain_first d (k + 1) p e hp h2
      refine ⟨j, by omega, by omega, fun i hi hij => ?_, a4, by rw [show k + (d + 1) - (j + 1) = k + 1 + d - (j + 1) by omega]; exact a5⟩
      by_cases hik : i = k
      · subst hik; exact h1
      · exact a3 i (by omega) hij
    · exact ⟨k, Nat.le_refl _, by omega, fun i hi hij => by omega, h1, by rw [show k + (d + 1) - (k + 1) = d by omega]; exact h2⟩
theorem chain_last {f : Nat → List Nat} : ∀ (d k p e : Nat), chain f k d p e → p ≤ e
  | 0, _, _, _, h => by unfold chain at h; omega
  | d + 1, k, p, e, h => by
    rcases h with ⟨_, h2⟩ | ⟨_, h2⟩
    · exact chain_last d _ _ _ h2
    · have := chain_last d _ _ _ h2; omega
/-- the halves of a block, and the chain behind it -/
theorem chain_cut {f : Nat → List Nat} (p e : Nat) : ∀ (m s d : Nat), (∀ j, s ≤ j → j < s + m → f j = [p + pw j]) → f (s + m) = [] → chain f (s + m + 1) d (p + pw (s + m)) e → chain f s (m + 1 + d) (p + pw s) e
  | 0, s, d, _, h0, h => by
    rw [show 0 + 1 + d = d + 1 by omega]
    exact .inl ⟨h0, h⟩
  | m + 1, s, d, hf, h0, h => by
    rw [show m + 1 + 1 + d = (m + 1 + d) + 1 by omega]
    refine .inr ⟨hf s (Nat.le_refl _) (by omega), ?_⟩
    have := pw_succ s
    rw [show p + pw s + pw s = p + pw (s + 1) by omega]
    refine chain_cut p e m (s + 1) d (fun j hj hj2 => hf j (by omega) (by omega)) ?_ ?_
    · rw [show s + 1 + m = s + (m + 1) by omega]; exact h0
    · rw [show s + 1 + m = s + (m + 1) by omega]; exact h

theorem halves_free (p c : Nat) : ∀ (d : Nat) (A : AM) (j : Nat), (halves p c d A).free j = if c ≤ j ∧ j < c + d then A.free j ++ [p + pw j] else A.free j
  | 0, A, j => by rw [if_neg (by omega)]; rfl
  | d + 1, A, j => by
    show (halves p c d (A.push (c + d) (p + pw (c + d)))).free j = _
    rw [halves_free p c d]
    by_cases h1 : j = c + d
    · subst h1
      rw [if_neg (by omega), if_pos (by omega)]
      simp [push, setFree, updF_same]
    · have h2 : (A.push (c + d) (p + pw (c + d))).free j = A.free j := by simp [push, setFree, updF_other _ _ h1]
      rw [h2]
      by_cases h3 : c ≤ j ∧ j < c + d
      · rw [if_pos h3, if_pos (by omega)]
      · rw [if_neg h3, if_neg (by omega)]

/-- so many small blocks were taken of one great one, which ends at e -/
structure Half (A : AM) (s c p e : Nat) : Prop where
  ok : A.Ok
  size : A.size = e
  quota : A.quota = e
  top : A.top = e
  used : A.used = p
  chain : chain A.free s (c + 1 - s) p e

theorem Half.alloc {A : AM} {s c p e n : Nat} (h : Half A s c p e) (hc : c < 22) (hs : 1 ≤ s) (hsc : s ≤ c) (hn : n ≤ 1048576) (hcls : cls n = s) (hp : p + pw s ≤ e) :
    ∃ B, A.alloc n = some (p + 1, B) ∧ Half B s c (p + pw s) e := by
  have hp0 := pw_pos s
  obtain ⟨j, a1, a2, a3, a4, a5⟩ := chain_first _ _ _ _ (by omega) h.chain
  have hlast : last (A.free j) = p := by rw [a4]; unfold last; rfl
  have htk : ∃ B, A.take s = (some p, B) ∧ B.words = A.words ∧ AM.chain B.free s (c + 1 - s) (p + pw s) e := by
    unfold take
    by_cases hjs : j = s
    · subst hjs
      rw [if_pos (by rw [a4]; simp), hlast]
      refine ⟨_, rfl, rfl, ?_⟩
      have := chain_cut (f := (A.pop j).free) p e 0 j (c + 1 - j - 1) (fun i hi hi2 => by omega) (by simp [pop, setFree, updF_same, a4]) (chain_congr (f := A.free) _ _ _ _ (fun i hi => by simp [pop, setFree, updF_other _ _ (show i ≠ j by omega)]) (by rw [show c + 1 - j - 1 = j + (c + 1 - j) - (j + 1) by omega]; exact a5))
      rw [show 0 + 1 + (c + 1 - j - 1) = c + 1 - j by omega] at this
      exact this
    · rw [if_neg (by rw [a3 s (Nat.le_refl _) (by omega)]; simp), if_neg (by rw [h.size, h.top]; omega), find_eq (j := j) (by omega) (by omega) (by rw [a4]; simp) (fun i hi hij => a3 i (by omega) hij)]
      simp only [hlast]
      refine ⟨_, rfl, (halves_props p s (j - s) (A.pop j) (by omega)).2.2.1, ?_⟩
      have hf : ∀ i, (halves p s (j - s) (A.pop j)).free i = if s ≤ i ∧ i < j then A.free i ++ [p + pw i] else if i = j then [] else A.free i := by
        intro i
        rw [halves_free, show s + (j - s) = j by omega]
        by_cases hi : i = j
        · subst hi; simp [pop, setFree, updF_same, a4]
        · simp [pop, setFree, updF_other _ _ hi, hi]
      have := chain_cut (f := (halves p s (j - s) (A.pop j)).free) p e (j - s) s (c - j) (fun i hi hi2 => by rw [hf, if_pos (by omega), a3 i hi (by omega)]; rfl) (by rw [hf, show s + (j - s) = j by omega, if_neg (by omega), if_pos rfl])
        (by rw [show s + (j - s) = j by omega]; exact chain_congr _ _ _ _ (fun i hi => by rw [hf, if_neg (by omega), if_neg (by omega)]) (by rw [show c - j = s + (c + 1 - s) - (j + 1) by omega]; exact a5))
      rw [show j - s + 1 + (c - j) = c + 1 - s by omega] at this
      exact this
  obtain ⟨B, htk, hw, hch⟩ := htk
  have hm := take_missing h.ok (by omega) htk
  have ha : A.alloc n = some (p + 1, (B.wipe p (pw s)).note p s n) := by
    unfold AM.alloc
    rw [hcls, if_neg (by rw [h.quota, h.used]; omega), htk]
  obtain ⟨b1, b2, b3, b4, b5, b6, b7⟩ := alloc_ok h.ok hn ha
  refine ⟨_, ha, b1, b2.trans h.size, b3.trans h.quota, ?_, by rw [b4, h.used, hcls], hch⟩
  have ht : ((B.wipe p (pw s)).note p s n).top = B.top := wipe_top B p _ hm.place
  rw [ht]
  show B.words.length = e
  rw [hw]; exact h.top

/-- the great block, taken and given back -/
theorem half_new {s c : Nat} (hc : c < 20) (hs : 1 ≤ s) (hsc : s ≤ c) : ∃ A, (new (pw c) (pw c)).alloc (pw c - 1) = some (1, A) ∧ A.Ok ∧ (1, c, pw c - 1) ∈ A.taken ∧ Half (A.give 1 c) s c 0 (pw c) := by
  have hp := pw_pos c
  have h1 : pw c ≤ pw 20 := pw_mono (by omega)
  have h20 : pw 20 = 1048576 := by unfold pw; rfl
  have hcl : cls (pw c - 1) = c := cls_unique _ _ (by omega) (by omega) (by omega) (fun hc1 => by
    have := pw_lt (show c - 1 < c by omega); omega)
  have hN := new_ok (size := pw c) (quota := pw c) (by omega) (Nat.le_refl _)
  have ht0 : (new (pw c) (pw c)).top = 0 := rfl
  have ha : (new (pw c) (pw c)).alloc (pw c - 1) = some (1, (((new (pw c) (pw c)).grow c).wipe 0 (pw c)).note 0 c (pw c - 1)) := by
    unfold alloc take
    rw [hcl, if_neg (by show ¬ 0 + pw c > pw c; omega), if_neg (by simp [new]), if_pos (by rw [ht0]; show 0 + pw c ≤ pw c; omega)]
    rw [ht0]
  obtain ⟨b1, b2, b3, b4, b5, b6, b7, b8⟩ := alloc_ok hN (by omega) ha
  have hmem : (1, c, pw c - 1) ∈ ((((new (pw c) (pw c)).grow c).wipe 0 (pw c)).note 0 c (pw c - 1)).taken := by rw [b5, hcl]; simp
  generalize hA : (((new (pw c) (pw c)).grow c).wipe 0 (pw c)).note 0 c (pw c - 1) = A at *
  have hf : ∀ j, A.free j = [] := by intro j; rw [← hA]; rfl
  refine ⟨A, ha, b1, hmem, ?_⟩
  obtain ⟨c1, c2⟩ := give_ok b1 hmem
  have hu : (A.give 1 c).used = 0 := by
    have : A.used = 0 + pw c := by rw [b4, hcl]; rfl
    omega
  have htop : A.top = pw c := by
    rw [← hA]
    have h2 : ((new (pw c) (pw c)).grow c).top = pw c := by simp [grow, top, new]
    exact (wipe_top _ 0 (pw c) (by omega)).trans h2
  refine ⟨c1, b2, b3, htop, hu, ?_⟩
  have hg : ∀ j, (A.give 1 c).free j = if j = c then [0] else [] := by
    intro j
    by_cases hj : j = c
    · subst hj; simp [AM.give, push, setFree, updF_same, hf]
    · simp [AM.give, push, setFree, updF_other _ _ hj, hf, hj]
  have : ∀ (m k : Nat), k + m = c → AM.chain (A.give 1 c).free k (m + 1) 0 (pw c) := by
    intro m
    induction m with
    | zero =>
      intro k hk
      refine .inr ⟨by rw [hg, if_pos (by omega)], ?_⟩
      show 0 + pw k = pw c
      rw [show k = c by omega]; omega
    | succ m ih =>
      intro k hk
      exact .inl ⟨by rw [hg, if_neg (by omega)], ih (k + 1) (by omega)⟩
  have h3 := this (c - s) s (by omega)
  rw [show c - s + 1 = c + 1 - s by omega] at h3
  exact h3
theorem Half.full {A : AM} {s c e : Nat} (h : Half A s c e e) : A.alloc 0 = none := by
  have := pw_pos (cls 0)
  unfold AM.alloc
  rw [if_pos (by rw [h.used, h.quota]; omega)]
end AM
end Go.Tx

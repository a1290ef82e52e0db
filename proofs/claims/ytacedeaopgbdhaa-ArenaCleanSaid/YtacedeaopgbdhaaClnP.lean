/-
  The law ArenaClean in plain words: one block at a time is always there, and its words are 0.
-/
import Derived.Test.YtacedeaopgbdhaaArQ
namespace Go.Tx
namespace AM
theorem sum_le (f g : Nat → Nat) : ∀ (l : List Nat), (∀ k ∈ l, f k ≤ g k) → (l.map f).sum ≤ (l.map g).sum
  | [], _ => by simp
  | x :: l, h => by
    have h1 := sum_le f g l fun k hk => h k (List.mem_cons_of_mem _ hk)
    have h2 := h x (List.mem_cons_self ..)
    simp only [List.map_cons, List.sum_cons]
    omega
/-- at most one free block of each class from 1 to 7, of others none -/
def lim (k : Nat) : Nat := if 1 ≤ k ∧ k ≤ 7 then 1 else 0
theorem lim_sum : ((List.range 22).map fun k => pw k * lim k).sum = 254 := by unfold pw; rfl

/-- no block is taken; at most one is free of each class -/
structure One (A : AM) : Prop where
  ok : A.Ok
  size : A.size = 500
  quota : A.quota = 500
  taken : A.taken = []
  free : ∀ k, k < 22 → (A.free k).length ≤ lim k
/-- one block is taken, of which words were set up to k -/
structure OneTaken (B : AM) (q c n k : Nat) : Prop where
  ok : B.Ok
  size : B.size = 500
  quota : B.quota = 500
  taken : B.taken = [(q, c, n)]
  cls : 1 ≤ c ∧ c ≤ 7
  free : ∀ j, j < 22 → (B.free j).length ≤ if j = c then 0 else lim j
  zero : ∀ j, k ≤ j → j < n → B.words.getD (q + j) 0 = 0

theorem one_new : One (new 500 500) := ⟨new_ok (by decide) (by decide), rfl, rfl, rfl, fun k _ => Nat.zero_le _⟩
theorem freeSum_le {A : AM} (h : ∀ k, k < 22 → (A.free k).length ≤ lim k) : A.freeSum ≤ 254 := by
  rw [← lim_sum]
  unfold freeSum
  exact sum_le _ _ _ fun k hk => Nat.mul_le_mul_left _ (h k (List.mem_range.1 hk))
theorem cls_small {n : Nat} (h : n ≤ 99) : 1 ≤ Go.Tx.cls n ∧ Go.Tx.cls n ≤ 7 := by
  obtain ⟨h1, h2, h3, h4⟩ := cls_spec n (by omega)
  refine ⟨h1, ?_⟩
  apply Decidable.byContradiction
  intro hc
  have h5 := h4 (by omega)
  have h6 := pw_mono (show 7 ≤ Go.Tx.cls n - 1 by omega)
  have h7 : pw 7 = 128 := by unfold pw; rfl
  omega
theorem wipe_zero (B : AM) (p m j : Nat) (h : p + m ≤ B.top) (h1 : p ≤ j) (h2 : j < p + m) : (B.wipe p m).words.getD j 0 = 0 := by
  unfold wipe top at *
  show (B.words.take p ++ List.replicate m 0 ++ B.words.drop (p + m)).getD j 0 = 0
  have hl : (B.words.take p).length = p := by simp; omega
  rw [List.getD_eq_getElem?_getD, List.append_assoc, List.getElem?_append_right (by omega), hl, List.getElem?_append_left (by simp; omega)]
  simp [List.getElem?_replicate, show j - p < m by omega]
theorem One.alloc {A : AM} (h : One A) {n : Nat} (hn : n ≤ 99) : ∃ q B c, A.alloc n = some (q, B) ∧ OneTaken B q c n 0 := by
  obtain ⟨c1, c2⟩ := cls_small hn
  obtain ⟨d1, d2, d3, d4⟩ := cls_spec n (by omega)
  have hu : A.used = 0 := by rw [h.ok.usedS]; unfold takenSum; rw [h.taken]; rfl
  have ht : A.top ≤ 254 := by have := h.ok.sum; have := freeSum_le h.free; omega
  have hp : pw (Go.Tx.cls n) ≤ 128 := Nat.le_trans (pw_mono c2) (by unfold pw; decide)
  have htk : ∃ p B, A.take (Go.Tx.cls n) = (some p, B) ∧ ∀ j, j < 22 → (B.free j).length ≤ if j = Go.Tx.cls n then 0 else lim j := by
    unfold take
    by_cases hf : A.free (Go.Tx.cls n) ≠ []
    · rw [if_pos hf]
      refine ⟨_, _, rfl, fun j hj => ?_⟩
      by_cases hjc : j = Go.Tx.cls n
      · subst hjc
        rw [if_pos rfl]
        have := h.free _ hj
        simp only [pop, setFree, updF_same, List.length_dropLast]
        unfold lim at this
        split at this <;> omega
      · rw [if_neg hjc]
        simp only [pop, setFree, updF_other _ _ hjc]
        exact h.free j hj
    · rw [if_neg hf, if_pos (by rw [h.size]; omega)]
      refine ⟨_, _, rfl, fun j hj => ?_⟩
      show (A.free j).length ≤ _
      by_cases hjc : j = Go.Tx.cls n
      · subst hjc
        simp at hf
        simp [hf]
      · rw [if_neg hjc]; exact h.free j hj
  obtain ⟨p, B, htk, hfr⟩ := htk
  have hm := take_missing h.ok (by omega) htk
  have ha : A.alloc n = some (p + 1, (B.wipe p (pw (Go.Tx.cls n))).note p (Go.Tx.cls n) n) := by
    unfold AM.alloc
    rw [if_neg (by rw [h.quota]; omega), htk]
  obtain ⟨a1, a2, a3, _, a4, _⟩ := alloc_ok h.ok (by omega) ha
  refine ⟨_, _, Go.Tx.cls n, ha, a1, a2.trans h.size, a3.trans h.quota, by rw [a4, h.taken]; rfl, ⟨c1, c2⟩, hfr, fun j _ hj => ?_⟩
  exact wipe_zero B p _ _ hm.place (by omega) (by omega)
theorem OneTaken.set {B : AM} {q c n k : Nat} (h : OneTaken B q c n k) (v : Int) : OneTaken (B.setWord (q + k) v) q c n (k + 1) := by
  refine ⟨setWord_ok h.ok _ _, h.size, h.quota, h.taken, h.cls, h.free, fun j hj hjn => ?_⟩
  show (B.words.set (q + k) v).getD (q + j) 0 = 0
  rw [List.getD_eq_getElem?_getD, List.getElem?_set_ne (by omega), ← List.getD_eq_getElem?_getD]
  exact h.zero j (by omega) hjn
theorem OneTaken.give {B : AM} {q c n k : Nat} (h : OneTaken B q c n k) : One (B.give q c) := by
  have hm : (q, c, n) ∈ B.taken := by rw [h.taken]; simp
  refine ⟨(give_ok h.ok hm).1, h.size, h.quota, ?_, fun j hj => ?_⟩
  · show (B.taken.filter fun t => decide (t.1 ≠ q)) = []
    rw [h.taken]; simp
  · have := h.free j hj
    by_cases hjc : j = c
    · subst hjc
      rw [if_pos rfl] at this
      simp only [AM.give, push, setFree, updF_same, List.length_append, List.length_cons, List.length_nil]
      unfold lim
      rw [if_pos h.cls]; omega
    · rw [if_neg hjc] at this
      simp only [AM.give, push, setFree, updF_other _ _ hjc]
      exact this
theorem OneTaken.look {B : AM} {q c n k : Nat} (h : OneTaken B q c n k) : B.look (q : Int) = some (c, n) := (look_iff h.ok).2 (by rw [h.taken]; simp)
end AM
end Go.Tx

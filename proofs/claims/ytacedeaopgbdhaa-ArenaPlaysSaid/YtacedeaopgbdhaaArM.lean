/-
  The arena, in plain words: places, free blocks by class, blocks that are taken. No program here.
-/
import GoSem.Core.World
namespace Go.Tx

/-- 2 to the c, as a name that nothing opens by itself -/
def pw (c : Nat) : Nat := 2 ^ c
theorem pw_pos (c : Nat) : 0 < pw c := Nat.two_pow_pos c
theorem pw_succ (c : Nat) : pw (c + 1) = 2 * pw c := by unfold pw; rw [Nat.pow_succ]; omega
theorem pw_mono {a b : Nat} (h : a ≤ b) : pw a ≤ pw b := Nat.pow_le_pow_right (by omega) h
theorem pw_lt {a b : Nat} (h : a < b) : pw a < pw b := Nat.pow_lt_pow_right (by omega) h
theorem pw_21 {c : Nat} (h : c ≤ 21) : pw c ≤ 2097152 := Nat.le_trans (pw_mono h) (by decide)

/-- the class of a block for n words -/
def clsGo : Nat → Nat → Nat → Nat
  | 0, _, c => c
  | f + 1, n, c => if pw c < n + 1 then clsGo f n (c + 1) else c
def cls (n : Nat) : Nat := clsGo 25 n 1

theorem clsGo_spec (n : Nat) : ∀ f c, n + 1 ≤ pw (c + f) → c ≤ clsGo f n c ∧ clsGo f n c ≤ c + f ∧ n + 1 ≤ pw (clsGo f n c) ∧ (c < clsGo f n c → pw (clsGo f n c - 1) < n + 1) := by
  intro f
  induction f with
  | zero => intro c h; exact ⟨Nat.le_refl _, Nat.le_refl _, h, fun h => absurd h (Nat.lt_irrefl _)⟩
  | succ f ih =>
    intro c h
    unfold clsGo
    by_cases hp : pw c < n + 1
    · rw [if_pos hp]
      obtain ⟨h1, h2, h3, h4⟩ := ih (c + 1) (by rw [show c + 1 + f = c + (f + 1) from by omega]; exact h)
      refine ⟨by omega, by omega, h3, fun _ => ?_⟩
      by_cases he : c + 1 < clsGo f n (c + 1)
      · exact h4 he
      · have : clsGo f n (c + 1) = c + 1 := by omega
        rw [this]; simpa using hp
    · rw [if_neg hp]; exact ⟨Nat.le_refl _, by omega, by omega, fun h => absurd h (Nat.lt_irrefl _)⟩

theorem cls_spec (n : Nat) (h : n ≤ 1048576) : 1 ≤ cls n ∧ cls n ≤ 21 ∧ n + 1 ≤ pw (cls n) ∧ (1 < cls n → pw (cls n - 1) < n + 1) := by
  have h26 : n + 1 ≤ pw (1 + 25) := by have : pw (1 + 25) = 67108864 := by decide
                                       omega
  obtain ⟨h1, h2, h3, h4⟩ := clsGo_spec n 25 1 h26
  refine ⟨h1, ?_, h3, h4⟩
  apply Decidable.byContradiction
  intro hc
  have h5 := h4 (by unfold cls at hc; omega)
  have h6 : pw 21 ≤ pw (cls n - 1) := pw_mono (by omega)
  have : pw 21 = 2097152 := by decide
  unfold cls at h6
  omega
/-- the class is the least that does -/
theorem cls_unique (n c : Nat) (h : n ≤ 1048576) (h1 : 1 ≤ c) (h2 : n + 1 ≤ pw c) (h3 : 1 < c → pw (c - 1) < n + 1) : cls n = c := by
  obtain ⟨a1, a2, a3, a4⟩ := cls_spec n h
  rcases Nat.lt_trichotomy (cls n) c with hl | he | hg
  · have := h3 (by omega)
    have := pw_mono (show cls n ≤ c - 1 by omega)
    omega
  · exact he
  · have := a4 (by omega)
    have := pw_mono (show c ≤ cls n - 1 by omega)
    omega

/-- an arena -/
structure AM where
  size : Nat
  quota : Nat
  words : List Int
  free : Nat → List Nat
  taken : List (Nat × Nat × Nat)      -- name, class, words
  used : Nat

namespace AM
def top (A : AM) : Nat := A.words.length
def updF (f : Nat → List Nat) (k : Nat) (l : List Nat) : Nat → List Nat := fun j => if j = k then l else f j
def setFree (A : AM) (k : Nat) (l : List Nat) : AM := { A with free := updF A.free k l }
def push (A : AM) (k p : Nat) : AM := A.setFree k (A.free k ++ [p])
def pop (A : AM) (k : Nat) : AM := A.setFree k (A.free k).dropLast
def grow (A : AM) (c : Nat) : AM := { A with words := A.words ++ List.replicate (pw c) 0 }
/-- halves of a block of class c + d, put back down to class c -/
def halves (p c : Nat) : Nat → AM → AM
  | 0, A => A
  | d + 1, A => halves p c d (A.push (c + d) (p + pw (c + d)))
theorem halves_step (p c j : Nat) (B : AM) (h : c ≤ j) : halves p c (j + 1 - c) B = halves p c (j - c) (B.push j (p + pw j)) := by
  obtain ⟨d, rfl⟩ : ∃ d, j = c + d := ⟨j - c, by omega⟩
  rw [show c + d + 1 - c = d + 1 from by omega, show c + d - c = d from by omega]
  rfl
theorem halves_one (p c : Nat) (B : AM) : halves p c (c + 1 - c) B = B.push c (p + pw c) := by
  rw [halves_step p c c B (Nat.le_refl _), Nat.sub_self]; rfl
/-- the least class from k on, below 22, with a free block -/
def find (A : AM) (k : Nat) : Option Nat := (List.range' k (22 - k)).find? fun j => decide (A.free j ≠ [])
def last (l : List Nat) : Nat := l.getLastD 0

def new (size quota : Nat) : AM := ⟨size, quota, [], fun _ => [], [], 0⟩

/-- the sum of the classes of what is free, of what is taken -/
def freeSum (A : AM) : Nat := ((List.range 22).map fun k => pw k * (A.free k).length).sum
def takenSum (A : AM) : Nat := (A.taken.map fun t => pw t.2.1).sum

/-- does the block of m places at p cover the place x? -/
def cov (p m x : Nat) : Nat := if p ≤ x ∧ x < p + m then 1 else 0
def freeCov (A : AM) (x : Nat) : Nat := ((List.range 22).map fun k => ((A.free k).map fun p => cov p (pw k) x).sum).sum
def takenCov (A : AM) (x : Nat) : Nat := (A.taken.map fun t => cov (t.1 - 1) (pw t.2.1) x).sum
/-- is a place below the top? -/
def under (x top : Nat) : Nat := if x < top then 1 else 0

structure Ok (A : AM) : Prop where
  size : A.size ≤ 1048576
  quota : A.quota ≤ A.size
  top : A.top ≤ A.size
  usedq : A.used ≤ A.quota
  sum : A.freeSum + A.used = A.top
  usedS : A.used = A.takenSum
  free : ∀ k, k < 22 → ∀ p ∈ A.free k, p + pw k ≤ A.top
  taken : ∀ t ∈ A.taken, 1 ≤ t.1 ∧ t.2.1 < 22 ∧ t.2.2 + 1 ≤ pw t.2.1 ∧ t.1 - 1 + pw t.2.1 ≤ A.top
  nodup : (A.taken.map (·.1)).Nodup
  tiles : ∀ x, A.freeCov x + A.takenCov x = under x A.top

@[simp] theorem setFree_top (A : AM) (k : Nat) (l : List Nat) : (A.setFree k l).top = A.top := rfl
theorem updF_same (f : Nat → List Nat) (k : Nat) (l : List Nat) : updF f k l k = l := by simp [updF]
theorem updF_other (f : Nat → List Nat) {k j : Nat} (l : List Nat) (h : j ≠ k) : updF f k l j = f j := by simp [updF, h]

theorem sum_upd (g : Nat → List Nat → Nat) (f : Nat → List Nat) (k : Nat) (l : List Nat) : ∀ (n : Nat), k < n →
    ((List.range n).map fun j => g j (updF f k l j)).sum + g k (f k) = ((List.range n).map fun j => g j (f j)).sum + g k l := by
  intro n
  induction n with
  | zero => intro h; omega
  | succ n ih =>
    intro h
    rw [List.range_succ]
    simp only [List.map_append, List.map_cons, List.map_nil, List.sum_append, List.sum_cons, List.sum_nil, Nat.add_zero]
    by_cases hk : k = n
    · subst hk
      have : ((List.range k).map fun j => g j (updF f k l j)) = (List.range k).map fun j => g j (f j) :=
        List.map_congr_left fun j hj => by rw [updF_other _ _ (by have := List.mem_range.1 hj; omega)]
      rw [this, updF_same]
      omega
    · have := ih (by omega)
      rw [updF_other _ _ (fun e => hk e.symm)]
      omega
theorem freeSum_set (A : AM) (k : Nat) (l : List Nat) (h : k < 22) : (A.setFree k l).freeSum + pw k * (A.free k).length = A.freeSum + pw k * l.length := sum_upd (fun j m => pw j * m.length) A.free k l 22 h
theorem freeCov_set (A : AM) (x k : Nat) (l : List Nat) (h : k < 22) : (A.setFree k l).freeCov x + ((A.free k).map fun p => cov p (pw k) x).sum = A.freeCov x + (l.map fun p => cov p (pw k) x).sum := sum_upd (fun j m => (m.map fun p => cov p (pw j) x).sum) A.free k l 22 h
theorem freeSum_push (A : AM) (k p : Nat) (h : k < 22) : (A.push k p).freeSum = A.freeSum + pw k := by
  have := freeSum_set A k (A.free k ++ [p]) h
  simp only [List.length_append, List.length_cons, List.length_nil, Nat.mul_add, Nat.zero_add, Nat.mul_one] at this
  unfold push; omega
theorem freeSum_pop (A : AM) (k : Nat) (h : k < 22) (hne : A.free k ≠ []) : (A.pop k).freeSum + pw k = A.freeSum := by
  have := freeSum_set A k (A.free k).dropLast h
  have hl : (A.free k).length = (A.free k).dropLast.length + 1 := by
    have := List.length_pos_iff.2 hne
    simp; omega
  rw [hl, Nat.mul_add, Nat.mul_one] at this
  unfold pop; omega
theorem freeCov_push (A : AM) (x k p : Nat) (h : k < 22) : (A.push k p).freeCov x = A.freeCov x + cov p (pw k) x := by
  have := freeCov_set A x k (A.free k ++ [p]) h
  simp only [List.map_append, List.map_cons, List.map_nil, List.sum_append, List.sum_cons, List.sum_nil, Nat.add_zero] at this
  unfold push; omega
theorem freeCov_pop (A : AM) (x k : Nat) (h : k < 22) (hne : A.free k ≠ []) : (A.pop k).freeCov x + cov (last (A.free k)) (pw k) x = A.freeCov x := by
  have := freeCov_set A x k (A.free k).dropLast h
  have hl : A.free k = (A.free k).dropLast ++ [last (A.free k)] := by
    unfold last
    rw [List.getLastD_eq_getLast?, List.getLast?_eq_some_getLast hne]
    exact (List.dropLast_concat_getLast hne).symm
  have hs : ((A.free k).map fun p => cov p (pw k) x).sum = ((A.free k).dropLast.map fun p => cov p (pw k) x).sum + cov (last (A.free k)) (pw k) x := by
    conv => lhs; rw [hl]
    simp only [List.map_append, List.map_cons, List.map_nil, List.sum_append, List.sum_cons, List.sum_nil, Nat.add_zero]
  unfold pop; omega
theorem le_sum {l : List Nat} {x : Nat} (h : x ∈ l) : x ≤ l.sum := by
  induction l with
  | nil => cases h
  | cons y l ih =>
    rcases List.mem_cons.1 h with rfl | h
    · simp
    · have := ih h; simp; omega
theorem len_le (A : AM) (k : Nat) (h : k < 22) : (A.free k).length ≤ A.freeSum := by
  have h1 : pw k * (A.free k).length ≤ A.freeSum := by
    unfold freeSum
    exact le_sum (List.mem_map.2 ⟨k, List.mem_range.2 h, rfl⟩)
  exact Nat.le_trans (Nat.le_mul_of_pos_left _ (pw_pos k)) h1

theorem find_some {A : AM} {k j : Nat} (h : A.find k = some j) : k ≤ j ∧ j < 22 ∧ A.free j ≠ [] ∧ ∀ i, k ≤ i → i < j → A.free i = [] := by
  unfold find at h
  rw [List.find?_eq_some_iff_append] at h
  obtain ⟨h1, l1, l2, h2, h3⟩ := h
  have hj : j ∈ List.range' k (22 - k) := by rw [h2]; simp
  rw [List.mem_range'_1] at hj
  refine ⟨hj.1, by omega, by simpa using h1, fun i hi1 hi2 => ?_⟩
  have hi : i ∈ List.range' k (22 - k) := by rw [List.mem_range'_1]; omega
  rw [h2] at hi
  rcases List.mem_append.1 hi with hi | hi
  · simpa using h3 i hi
  · exfalso
    have hs : (l1 ++ j :: l2).Pairwise (· < ·) := by rw [← h2]; exact List.pairwise_lt_range'
    rw [List.pairwise_append] at hs
    rcases List.mem_cons.1 hi with rfl | hi
    · omega
    · have := (List.pairwise_cons.1 hs.2.1).1 i hi
      omega
theorem find_none {A : AM} {k : Nat} (h : A.find k = none) : ∀ i, k ≤ i → i < 22 → A.free i = [] := by
  unfold find at h
  rw [List.find?_eq_none] at h
  intro i h1 h2
  have := h i (by rw [List.mem_range'_1]; omega)
  simpa using this
theorem find_eq {A : AM} {k j : Nat} (h1 : k ≤ j) (h2 : j < 22) (h3 : A.free j ≠ []) (h4 : ∀ i, k ≤ i → i < j → A.free i = []) : A.find k = some j := by
  cases h : A.find k with
  | none => exact absurd (find_none h j h1 h2) h3
  | some i =>
    obtain ⟨a1, a2, a3, a4⟩ := find_some h
    rcases Nat.lt_trichotomy i j with hl | he | hg
    · exact absurd (h4 i a1 hl) a3
    · rw [he]
    · exact absurd (a4 j h1 hg) h3

/-- a block's place; none: there is none -/
def take (A : AM) (c : Nat) : Option Nat × AM :=
  if A.free c ≠ [] then (some (last (A.free c)), A.pop c)
  else if A.top + pw c ≤ A.size then (some A.top, A.grow c)
  else match A.find (c + 1) with
    | some k => (some (last (A.free k)), halves (last (A.free k)) c (k - c) (A.pop k))
    | none => (none, A)

/-- the words from p on, so many, put to 0 -/
def wipe (A : AM) (p m : Nat) : AM := { A with words := A.words.take p ++ List.replicate m 0 ++ A.words.drop (p + m) }
def putTaken (l : List (Nat × Nat × Nat)) (t : Nat × Nat × Nat) : List (Nat × Nat × Nat) := if t.1 ∈ l.map (·.1) then l.map fun u => if u.1 = t.1 then t else u else l ++ [t]
def note (A : AM) (p c n : Nat) : AM := { A with used := A.used + pw c, taken := putTaken A.taken (p + 1, c, n) }

/-- taking a block for n words (within the quota): its name, and the arena behind it -/
def alloc (A : AM) (n : Nat) : Option (Nat × AM) :=
  if A.used + pw (cls n) > A.quota then none
  else match A.take (cls n) with
    | (some p, B) => some (p + 1, (B.wipe p (pw (cls n))).note p (cls n) n)
    | (none, _) => none

/-- a taken block's class and words -/
def look (A : AM) (p : Int) : Option (Nat × Nat) := (A.taken.find? fun t => decide ((t.1 : Int) = p)).map (·.2)
def give (A : AM) (p c : Nat) : AM := { (A.push c (p - 1)) with used := A.used - pw c, taken := A.taken.filter fun t => decide (t.1 ≠ p) }
def setWord (A : AM) (i : Nat) (v : Int) : AM := { A with words := A.words.set i v }
end AM
attribute [irreducible] pw cls AM.cov AM.under AM.freeCov AM.takenCov AM.freeSum AM.takenSum AM.find AM.last
end Go.Tx

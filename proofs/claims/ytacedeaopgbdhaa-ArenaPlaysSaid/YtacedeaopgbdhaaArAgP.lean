/-
  The law ArenaAgain in plain words: blocks of one class; the one that was given back last is the next.
-/
import Derived.Test.YtacedeaopgbdhaaArQ
import Derived.Test.YtacedeaopgbdhaaArL
namespace Go.Tx
theorem AM.taken_len {A : AM} (h : A.Ok) : A.taken.length ≤ 1048576 := by
  have h1 : ∀ l : List (Nat × Nat × Nat), l.length ≤ (l.map fun t => pw t.2.1).sum := by
    intro l
    induction l with
    | nil => simp
    | cons t l ih => simp only [List.map_cons, List.sum_cons, List.length_cons]; have := pw_pos t.2.1; omega
  have h2 : A.taken.length ≤ A.takenSum := by unfold AM.takenSum; exact h1 _
  have h3 := h.usedS
  have h4 := h.usedq
  have h5 := h.quota
  have h6 := h.size
  omega
namespace AM
theorem sum_const {α : Type} {f : α → Nat} {x : Nat} : ∀ {l : List α}, (∀ t ∈ l, f t = x) → (l.map f).sum = l.length * x
  | [], _ => by simp
  | t :: l, h => by
    have h1 := sum_const (f := f) (x := x) fun u hu => h u (List.mem_cons_of_mem t hu)
    have h2 := h t (List.mem_cons_self ..)
    simp only [List.map_cons, List.sum_cons, List.length_cons, Nat.add_mul, Nat.one_mul]
    omega
theorem give_count {A : AM} (h : A.Ok) {q c m : Nat} (hm : (q, c, m) ∈ A.taken) : (A.give q c).taken.length + 1 = A.taken.length := by
  have := sum_filter (fun _ => 1) A.taken _ h.nodup hm
  rw [sum_const (x := 1) fun _ _ => rfl, sum_const (x := 1) fun _ _ => rfl] at this
  show (A.taken.filter fun t => decide (t.1 ≠ q)).length + 1 = _
  simpa using this
/-- so many blocks of one class, one behind the other -/
structure Rise (A : AM) (c k : Nat) (L : List Nat) : Prop where
  ok : A.Ok
  size : A.size = 2000
  quota : A.quota = 2000
  cls : ∀ t ∈ A.taken, t.2.1 = c
  free : A.free = fun _ => []
  top : A.top = k * pw c
  names : A.taken.map (·.1) = L
  count : L.length = k
/-- so many blocks of one class, those that are free in the order in which they were given back -/
structure Many (A : AM) (c k : Nat) (F : List Nat) : Prop where
  ok : A.Ok
  size : A.size = 2000
  quota : A.quota = 2000
  cls : ∀ t ∈ A.taken, t.2.1 = c
  free : A.free c = F.map (· - 1)
  pos : ∀ q ∈ F, 1 ≤ q
  count : A.taken.length + F.length = k
theorem rise_new (c : Nat) : Rise (new 2000 2000) c 0 [] := ⟨new_ok (by decide) (by decide), rfl, rfl, by simp [new], rfl, by simp [new, AM.top], rfl, rfl⟩
theorem pw_five {c : Nat} (h : c ≤ 5) : pw c ≤ 32 := Nat.le_trans (pw_mono h) (by unfold pw; decide)
theorem cls_five {n : Nat} (h : n ≤ 29) : 1 ≤ Go.Tx.cls n ∧ Go.Tx.cls n ≤ 5 := by
  obtain ⟨h1, h2, h3, h4⟩ := cls_spec n (by omega)
  refine ⟨h1, ?_⟩
  apply Decidable.byContradiction
  intro hc
  have h5 := h4 (by omega)
  have h6 := pw_mono (show 5 ≤ Go.Tx.cls n - 1 by omega)
  have h7 : pw 5 = 32 := by unfold pw; rfl
  omega
theorem Rise.alloc {A : AM} {c n k : Nat} {L : List Nat} (h : Rise A c k L) (hn : n ≤ 29) (hc : Go.Tx.cls n = c) (hk : k ≤ 19) : ∃ q B, A.alloc n = some (q, B) ∧ Rise B c (k + 1) (L ++ [q]) := by
  have c5 : c ≤ 5 := by rw [← hc]; exact (cls_five hn).2
  have hp := pw_five c5
  have hm : k * pw c ≤ 19 * 32 := Nat.mul_le_mul hk hp
  have hs := h.ok.sum
  have ht := h.top
  have hq := h.quota
  have hz := h.size
  have ha := alloc_top hc (A := A) (by omega) (by rw [h.free]) (by omega)
  refine ⟨_, _, ha, ?_⟩
  obtain ⟨a1, a2, a3, a4, a5, a6, a7, a8⟩ := alloc_ok h.ok (by omega) ha
  rw [hc] at a5
  refine ⟨a1, a2.trans hz, a3.trans hq, ?_, ?_, ?_, ?_, ?_⟩
  · intro t ht'
    rw [a5] at ht'
    rcases List.mem_append.1 ht' with h1 | h1
    · exact h.cls t h1
    · simp at h1; subst h1; rfl
  · exact h.free
  · rw [grown_top, ht, Nat.add_mul]; omega
  · rw [a5, List.map_append, h.names]; rfl
  · rw [List.length_append, h.count]; rfl
theorem Rise.many {A : AM} {c k : Nat} {L : List Nat} (h : Rise A c k L) : Many A c k [] :=
  ⟨h.ok, h.size, h.quota, h.cls, by rw [h.free]; rfl, by simp, by have := h.count; rw [← h.names, List.length_map] at this; simpa using this⟩
theorem Many.give {A : AM} {c k q c' m : Nat} {F : List Nat} (h : Many A c k F) (hm : (q, c', m) ∈ A.taken) : c' = c ∧ Many (A.give q c) c k (F ++ [q]) := by
  obtain rfl : c' = c := h.cls _ hm
  refine ⟨rfl, (give_ok h.ok hm).1, h.size, h.quota, fun t ht => h.cls t (List.mem_filter.1 ht).1, ?_, ?_, ?_⟩
  · show updF A.free c' (A.free c' ++ [q - 1]) c' = _
    rw [updF_same, h.free]
    simp
  · intro x hx
    rcases List.mem_append.1 hx with h1 | h1
    · exact h.pos x h1
    · simp at h1; subst h1; exact (h.ok.taken _ hm).1
  · have := give_count h.ok hm
    have := h.count
    rw [List.length_append, List.length_singleton]
    omega
theorem Many.alloc {A : AM} {c n k q : Nat} {F : List Nat} (h : Many A c k (F ++ [q])) (hn : n ≤ 29) (hc : Go.Tx.cls n = c) (hk : k ≤ 20) : ∃ B, A.alloc n = some (q, B) ∧ Many B c k F := by
  have c5 : c ≤ 5 := by rw [← hc]; exact (cls_five hn).2
  have hp := pw_five c5
  have hcn := h.count
  rw [List.length_append, List.length_singleton] at hcn
  have hu : A.used = A.taken.length * pw c := by
    rw [h.ok.usedS]; unfold takenSum
    exact sum_const fun t ht => by rw [h.cls t ht]
  have hm : A.taken.length * pw c ≤ 19 * 32 := Nat.mul_le_mul (by omega) hp
  have hq := h.quota
  have hq1 : 1 ≤ q := h.pos q (by simp)
  have hf : A.free c = F.map (· - 1) ++ [q - 1] := by rw [h.free, List.map_append]; rfl
  have ht : A.take c = (some (q - 1), A.pop c) := by
    unfold take
    rw [if_pos (by rw [hf]; simp), hf]
    unfold last
    simp
  have ha : A.alloc n = some (q, ((A.pop c).wipe (q - 1) (pw c)).note (q - 1) c n) := by
    unfold AM.alloc
    rw [hc, if_neg (by omega), ht]
    simp only
    rw [show q - 1 + 1 = q by omega]
  refine ⟨_, ha, ?_⟩
  obtain ⟨a1, a2, a3, a4, a5, a6, a7, a8⟩ := alloc_ok h.ok (by omega) ha
  rw [hc] at a5
  refine ⟨a1, a2.trans h.size, a3.trans hq, ?_, ?_, fun x hx => h.pos x (List.mem_append_left _ hx), ?_⟩
  · intro t ht'
    rw [a5] at ht'
    rcases List.mem_append.1 ht' with h1 | h1
    · exact h.cls t h1
    · simp at h1; subst h1; rfl
  · show updF A.free c (A.free c).dropLast c = _
    rw [updF_same, hf]
    simp
  · rw [a5, List.length_append, List.length_singleton]; omega
end AM
end Go.Tx

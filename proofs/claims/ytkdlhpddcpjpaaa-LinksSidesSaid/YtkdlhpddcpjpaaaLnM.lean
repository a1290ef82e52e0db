/-
  Links and monitors, in plain words: pairs, references; who is linked, who watches. No program here.
-/
import GoSem.Core.World
namespace Go.Tx

/-- a link's key: the lower one first -/
def pairK (a b : Int) : Int × Int := if a ≤ b then (a, b) else (b, a)
theorem pairK_comm (a b : Int) : pairK a b = pairK b a := by
  unfold pairK
  split <;> split <;> first | rfl | (have : a = b := by omega); subst this; rfl | omega
theorem pairK_lt {a b : Int} (h : a ≠ b) : (pairK a b).1 < (pairK a b).2 := by
  unfold pairK; split <;> simp <;> omega
theorem pairK_mem {p : Int × Int} {a b : Int} (h : p.1 < p.2) : p = pairK a b ↔ (p.1 = a ∧ p.2 = b) ∨ (p.1 = b ∧ p.2 = a) := by
  obtain ⟨x, y⟩ := p
  unfold pairK
  simp only at h
  split <;> simp only [Prod.mk.injEq] <;> omega

def sortI (l : List Int) : List Int := l.mergeSort fun x y => decide (x ≤ y)
theorem sortI_perm (l : List Int) : (sortI l).Perm l := List.mergeSort_perm _ _
theorem sortI_of_perm {l l' : List Int} (h : l.Perm l') : sortI l = sortI l' := by
  have tr : ∀ a b c : Int, decide (a ≤ b) = true → decide (b ≤ c) = true → decide (a ≤ c) = true := fun a b c h1 h2 => by simp only [decide_eq_true_eq] at *; omega
  have to : ∀ a b : Int, (decide (a ≤ b) || decide (b ≤ a)) = true := fun a b => by simp only [Bool.or_eq_true, decide_eq_true_eq]; omega
  refine List.Perm.eq_of_pairwise (le := fun a b => decide (a ≤ b) = true) (fun a b _ _ h1 h2 => ?_) (List.pairwise_mergeSort tr to l) (List.pairwise_mergeSort tr to l') (((List.mergeSort_perm l _).trans h).trans (List.mergeSort_perm l' _).symm)
  simp only [decide_eq_true_eq] at h1 h2
  omega
theorem sortI_pairwise (l : List Int) : (sortI l).Pairwise (· ≤ ·) := by
  have tr : ∀ a b c : Int, decide (a ≤ b) = true → decide (b ≤ c) = true → decide (a ≤ c) = true := fun a b c h1 h2 => by simp only [decide_eq_true_eq] at *; omega
  have to : ∀ a b : Int, (decide (a ≤ b) || decide (b ≤ a)) = true := fun a b => by simp only [Bool.or_eq_true, decide_eq_true_eq]; omega
  exact (List.pairwise_mergeSort tr to l).imp fun h => by simpa using h
/-- a rising list with the same numbers is the sorted one -/
theorem sortI_eq {l m : List Int} (h : l.Perm m) (hm : m.Pairwise (· ≤ ·)) : sortI l = m := by
  refine List.Perm.eq_of_pairwise (le := fun a b => a ≤ b) (fun a b _ _ h1 h2 => by omega) (sortI_pairwise l) hm ((sortI_perm l).trans h)
theorem sortI_length (l : List Int) : (sortI l).length = l.length := (sortI_perm l).length_eq
theorem mem_sortI {l : List Int} {x : Int} : x ∈ sortI l ↔ x ∈ l := (sortI_perm l).mem_iff

/-- links and monitors -/
structure NM where
  ls : List (Int × Int)
  ws : List (Int × Int × Int)      -- reference, who, whom
  next : Nat
namespace NM
/-- the other side of a link -/
def other (a : Int) (p : Int × Int) : Option Int := if p.1 = a then some p.2 else if p.2 = a then some p.1 else none
def seen (a : Int) (t : Int × Int × Int) : Option Int := if t.2.2 = a then some t.1 else none
def part (a : Int) (t : Int × Int × Int) : Option Int := if t.2.1 = a ∨ t.2.2 = a then some t.1 else none
structure Ok (N : NM) : Prop where
  lt : ∀ p ∈ N.ls, p.1 < p.2
  nodup : N.ls.Nodup
  refs : ∀ t ∈ N.ws, 0 ≤ t.1 ∧ t.1 < N.next
  wnodup : (N.ws.map (·.1)).Nodup
def new : NM := ⟨[], [], 0⟩
theorem new_ok : new.Ok := ⟨by simp [new], by simp [new], by simp [new], by simp [new]⟩
def linked (N : NM) (a : Int) : List Int := sortI (N.ls.filterMap (other a))
def watchers (N : NM) (a : Int) : List Int := sortI (N.ws.filterMap (seen a))
/-- would a link be a new one? -/
def fits (N : NM) (a b : Int) : Bool := decide (pairK a b ∉ N.ls ∧ a ≠ b)
def link (N : NM) (a b : Int) : NM := if N.fits a b = true then { N with ls := N.ls ++ [pairK a b] } else N
def there (N : NM) (a b : Int) : Bool := decide (pairK a b ∈ N.ls)
def unlink (N : NM) (a b : Int) : NM := { N with ls := N.ls.filter fun p => decide (p ≠ pairK a b) }
def monitor (N : NM) (who whom : Int) : NM := { N with ws := N.ws ++ [((N.next : Int), who, whom)], next := N.next + 1 }
def ended (N : NM) (a : Int) : NM := { N with ls := N.ls.filter fun p => decide (p.1 ≠ a ∧ p.2 ≠ a), ws := N.ws.filter fun t => decide (t.2.1 ≠ a ∧ t.2.2 ≠ a) }

theorem link_ok {N : NM} (h : N.Ok) (a b : Int) : (N.link a b).Ok := by
  unfold link
  split
  · rename_i hf
    simp only [fits, decide_eq_true_eq] at hf
    refine ⟨fun p hp => ?_, ?_, h.refs, h.wnodup⟩
    · rcases List.mem_append.1 hp with hp | hp
      · exact h.lt p hp
      · simp at hp; subst hp; exact pairK_lt hf.2
    · rw [List.nodup_append]
      refine ⟨h.nodup, by simp, fun x hx y hy e => ?_⟩
      simp at hy; subst hy; subst e; exact hf.1 hx
  · exact h
theorem unlink_ok {N : NM} (h : N.Ok) (a b : Int) : (N.unlink a b).Ok :=
  ⟨fun p hp => h.lt p (List.mem_filter.1 hp).1, h.nodup.sublist List.filter_sublist, h.refs, h.wnodup⟩
theorem monitor_ok {N : NM} (h : N.Ok) (who whom : Int) : (N.monitor who whom).Ok := by
  refine ⟨h.lt, h.nodup, fun t ht => ?_, ?_⟩
  · rcases List.mem_append.1 ht with ht | ht
    · have := h.refs t ht; simp only [monitor]; omega
    · simp at ht; subst ht; simp only [monitor]; omega
  · simp only [monitor, List.map_append, List.map_cons, List.map_nil]
    rw [List.nodup_append]
    refine ⟨h.wnodup, by simp, fun x hx y hy e => ?_⟩
    simp at hy; subst hy; subst e
    obtain ⟨t, ht, e⟩ := List.mem_map.1 hx
    have := (h.refs t ht).2
    rw [e] at this; omega
theorem ended_ok {N : NM} (h : N.Ok) (a : Int) : (N.ended a).Ok :=
  ⟨fun p hp => h.lt p (List.mem_filter.1 hp).1, h.nodup.sublist List.filter_sublist, fun t ht => h.refs t (List.mem_filter.1 ht).1, h.wnodup.sublist (List.filter_sublist.map _)⟩

theorem mem_linked {N : NM} (h : N.Ok) {a b : Int} : b ∈ N.linked a ↔ pairK a b ∈ N.ls ∧ a ≠ b := by
  unfold linked
  rw [mem_sortI, List.mem_filterMap]
  constructor
  · rintro ⟨p, hp, ho⟩
    have hlt := h.lt p hp
    unfold other at ho
    split at ho
    · rename_i h1
      simp at ho
      have : p = pairK a b := (pairK_mem hlt).2 (.inl ⟨h1, ho⟩)
      exact ⟨this ▸ hp, by omega⟩
    · split at ho
      · rename_i h1 h2
        simp at ho
        have : p = pairK a b := (pairK_mem hlt).2 (.inr ⟨ho, h2⟩)
        exact ⟨this ▸ hp, by omega⟩
      · cases ho
  · rintro ⟨hp, hne⟩
    refine ⟨_, hp, ?_⟩
    have hlt := pairK_lt hne
    rcases (pairK_mem hlt).1 rfl with ⟨h1, h2⟩ | ⟨h1, h2⟩
    · unfold other; rw [if_pos h1, h2]
    · unfold other; rw [if_neg (by omega), if_pos h2, h1]
theorem other_inj {a b : Int} {p q : Int × Int} (h1 : p.1 < p.2) (h2 : q.1 < q.2) (hb : other a p = some b) (ho : other a q = some b) : p = q := by
  obtain ⟨p1, p2⟩ := p
  obtain ⟨q1, q2⟩ := q
  simp only [other] at hb ho h1 h2
  by_cases e1 : p1 = a <;> by_cases e2 : p2 = a <;> by_cases e3 : q1 = a <;> by_cases e4 : q2 = a <;> simp only [e1, e2, e3, e4, if_true, if_false, Option.some.injEq, reduceCtorEq] at hb ho <;> simp only [Prod.mk.injEq] <;> omega
theorem linked_nodup {N : NM} (h : N.Ok) (a : Int) : (N.linked a).Nodup := by
  unfold linked
  rw [(sortI_perm _).nodup_iff]
  have hl := h.lt
  have hn := h.nodup
  generalize N.ls = l at hl hn
  induction l with
  | nil => simp
  | cons p l ih =>
    have ih' := ih (fun q hq => hl q (List.mem_cons_of_mem _ hq)) (List.nodup_cons.1 hn).2
    rw [List.filterMap_cons]
    split
    · exact ih'
    · rename_i b hb
      rw [List.nodup_cons]
      refine ⟨fun hm => ?_, ih'⟩
      obtain ⟨q, hq, ho⟩ := List.mem_filterMap.1 hm
      have h1 := hl p (List.mem_cons_self ..)
      have h2 := hl q (List.mem_cons_of_mem _ hq)
      have : p = q := other_inj h1 h2 hb ho
      subst this
      exact (List.nodup_cons.1 hn).1 hq
theorem mem_watchers {N : NM} {a r : Int} : r ∈ N.watchers a ↔ ∃ w, (r, w, a) ∈ N.ws := by
  unfold watchers
  rw [mem_sortI, List.mem_filterMap]
  constructor
  · rintro ⟨t, ht, ho⟩
    unfold seen at ho
    split at ho
    · rename_i h1
      simp at ho
      obtain ⟨t1, t2, t3⟩ := t
      simp at ho h1
      exact ⟨t2, by rw [← ho, ← h1]; exact ht⟩
    · cases ho
  · rintro ⟨w, hw⟩
    exact ⟨_, hw, by simp [seen]⟩
theorem linked_ended (N : NM) (a : Int) : (N.ended a).linked a = [] := by
  have : (N.ended a).ls.filterMap (other a) = [] := by
    rw [List.filterMap_eq_nil_iff]
    intro p hp
    have := (List.mem_filter.1 hp).2
    simp only [decide_eq_true_eq] at this
    unfold other
    rw [if_neg this.1, if_neg this.2]
  unfold linked
  rw [this]; simp [sortI]
theorem watchers_ended (N : NM) (a : Int) : (N.ended a).watchers a = [] := by
  have : (N.ended a).ws.filterMap (seen a) = [] := by
    rw [List.filterMap_eq_nil_iff]
    intro p hp
    have := (List.mem_filter.1 hp).2
    simp only [decide_eq_true_eq] at this
    unfold seen
    rw [if_neg this.2]
  unfold watchers
  rw [this]; simp [sortI]
/-- a reference's monitor -/
def watch (N : NM) (r : Int) : Option (Int × Int) := (N.ws.find? fun t => decide (t.1 = r)).map (·.2)
theorem watch_mem {N : NM} {r : Int} {p : Int × Int} (h : N.watch r = some p) : (r, p) ∈ N.ws := by
  unfold watch at h
  rw [Option.map_eq_some_iff] at h
  obtain ⟨t, h1, h2⟩ := h
  have h3 := List.find?_some h1
  have h4 := List.mem_of_find?_eq_some h1
  simp only [decide_eq_true_eq] at h3
  obtain ⟨t1, t2⟩ := t
  simp only at h2 h3
  subst h2 h3
  exact h4
end NM
end Go.Tx

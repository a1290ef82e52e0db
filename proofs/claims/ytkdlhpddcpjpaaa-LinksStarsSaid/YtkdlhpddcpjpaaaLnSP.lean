/-
  The law LinksStars, in plain words: one that is linked to many.
-/
import Derived.Test.YtkdlhpddcpjpaaaLnM
namespace Go.Tx
theorem pairK_inj {c a b : Int} (h : pairK c a = pairK c b) : a = b := by
  unfold pairK at h
  split at h <;> split at h <;> simp only [Prod.mk.injEq] at h <;> omega
theorem length_filterMap_all {α β : Type} {f : α → Option β} : ∀ {l : List α}, (∀ x ∈ l, (f x).isSome = true) → (l.filterMap f).length = l.length
  | [], _ => rfl
  | x :: l, h => by
    have h1 := h x (List.mem_cons_self ..)
    have h2 := length_filterMap_all (f := f) (l := l) fun y hy => h y (List.mem_cons_of_mem _ hy)
    rw [List.filterMap_cons]
    cases hf : f x with
    | none => rw [hf] at h1; cases h1
    | some y => simp [h2]
namespace NM
theorem linked_eq {N : NM} (h : N.Ok) {a : Int} {m : List Int} (hs : m.Pairwise (· < ·)) (hm : ∀ b, b ∈ m ↔ b ∈ N.linked a) : N.linked a = m := by
  have hnd : m.Nodup := hs.imp fun h => by omega
  have hp : (N.linked a).Perm m := (List.perm_ext_iff_of_nodup (linked_nodup h a) hnd).2 fun x => (hm x).symm
  refine sortI_eq ((sortI_perm _).symm.trans hp) (hs.imp fun h => by omega)
/-- links of 7 to those that are on, and nothing else -/
structure Star (N : NM) (on : List Bool) : Prop where
  ok : N.Ok
  ws : N.ws = []
  len : on.length = 50
  seven : on[7]? = some false
  mem : ∀ p, p ∈ N.ls ↔ ∃ k : Nat, on[k]? = some true ∧ p = pairK 7 k
theorem star_new : Star new (List.replicate 50 false) := by
  refine ⟨new_ok, rfl, rfl, rfl, fun p => ?_⟩
  constructor
  · intro h; cases h
  · rintro ⟨k, h, _⟩
    rw [List.getElem?_replicate] at h
    split at h <;> cases h
theorem Star.lt {N : NM} {on : List Bool} (h : N.Star on) {k : Nat} {v : Bool} (hk : on[k]? = some v) : k < 50 := by
  have := (List.getElem?_eq_some_iff.1 hk).1
  rw [h.len] at this; exact this
theorem Star.there {N : NM} {on : List Bool} (h : N.Star on) {k : Nat} {v : Bool} (hk : on[k]? = some v) : decide (pairK 7 k ∈ N.ls) = v := by
  cases v with
  | true => exact decide_eq_true ((h.mem _).2 ⟨k, hk, rfl⟩)
  | false =>
    refine decide_eq_false fun hm => ?_
    obtain ⟨j, hj, e⟩ := (h.mem _).1 hm
    have : (k : Int) = j := pairK_inj e
    have : k = j := by omega
    subst this
    rw [hk] at hj; cases hj
theorem Star.fits {N : NM} {on : List Bool} (h : N.Star on) {k : Nat} {v : Bool} (hk : on[k]? = some v) (h7 : k ≠ 7) : N.fits 7 k = !v := by
  have h1 := h.there hk
  unfold NM.fits
  have h2 : (7 : Int) ≠ (k : Int) := by omega
  cases v with
  | true =>
    have := of_decide_eq_true h1
    simp [this]
  | false =>
    have := of_decide_eq_false h1
    simp [this, h2]
theorem Star.linked_on {N : NM} {on : List Bool} (h : N.Star on) {k : Nat} (hk : k < 50) (h7 : k ≠ 7) : (N.link 7 k).Star (on.set k true) := by
  have hkl : k < on.length := by rw [h.len]; exact hk
  refine ⟨link_ok h.ok _ _, ?_, by rw [List.length_set]; exact h.len, by rw [List.getElem?_set_ne (by omega)]; exact h.seven, fun p => ?_⟩
  · unfold link; split <;> exact h.ws
  · have hset : ∀ j : Nat, (on.set k true)[j]? = some true ↔ (j = k ∨ on[j]? = some true) := fun j => by
      by_cases e : k = j
      · subst e; simp [hkl]
      · rw [List.getElem?_set_ne e]
        constructor
        · exact .inr
        · rintro (h | h)
          · exact absurd h.symm e
          · exact h
    have hmem : p ∈ (N.link 7 k).ls ↔ p ∈ N.ls ∨ p = pairK 7 k := by
      unfold link
      split
      · simp
      · rename_i hf
        constructor
        · exact .inl
        · rintro (h1 | rfl)
          · exact h1
          · simp only [NM.fits, decide_eq_true_eq, not_and, Decidable.not_not] at hf
            apply Decidable.byContradiction
            intro hc
            have := hf hc
            omega
    rw [hmem, h.mem]
    constructor
    · rintro (⟨j, hj, rfl⟩ | rfl)
      · exact ⟨j, (hset j).2 (.inr hj), rfl⟩
      · exact ⟨k, (hset k).2 (.inl rfl), rfl⟩
    · rintro ⟨j, hj, rfl⟩
      rcases (hset j).1 hj with rfl | hj
      · exact .inr rfl
      · exact .inl ⟨j, hj, rfl⟩
theorem Star.unlinked {N : NM} {on : List Bool} (h : N.Star on) (k : Nat) : (N.unlink k 7).Star (on.set k false) := by
  refine ⟨unlink_ok h.ok _ _, h.ws, by rw [List.length_set]; exact h.len, ?_, fun p => ?_⟩
  · by_cases e : k = 7
    · subst e; rw [List.getElem?_set_self (by rw [h.len]; decide)]
    · rw [List.getElem?_set_ne e]; exact h.seven
  · have hset : ∀ j : Nat, (on.set k false)[j]? = some true ↔ (j ≠ k ∧ on[j]? = some true) := fun j => by
      by_cases e : k = j
      · subst e
        simp only [ne_eq, not_true, false_and, iff_false]
        rw [List.getElem?_set]
        simp only [if_true]
        split <;> simp
      · rw [List.getElem?_set_ne e]
        exact ⟨fun h => ⟨fun h2 => e h2.symm, h⟩, fun h => h.2⟩
    simp only [unlink, List.mem_filter, decide_eq_true_eq]
    rw [h.mem, pairK_comm (k : Int) 7]
    constructor
    · rintro ⟨⟨j, hj, rfl⟩, hne⟩
      exact ⟨j, (hset j).2 ⟨fun e => hne (by rw [e]), hj⟩, rfl⟩
    · rintro ⟨j, hj, rfl⟩
      obtain ⟨h1, h2⟩ := (hset j).1 hj
      exact ⟨⟨j, h2, rfl⟩, fun e => h1 (by have := pairK_inj e; omega)⟩
theorem Star.there_back {N : NM} {on : List Bool} (h : N.Star on) {k : Nat} {v : Bool} (hk : on[k]? = some v) : N.there k 7 = v := by
  unfold NM.there
  rw [pairK_comm]
  exact h.there hk
/-- those that are on, below a number -/
def wantL (on : List Bool) (n : Nat) : List Int := ((List.range n).filter fun j => on[j]?.getD false).map fun j : Nat => (j : Int)
theorem wantL_zero (on : List Bool) : wantL on 0 = [] := rfl
theorem wantL_on {on : List Bool} {n : Nat} (h : on[n]? = some true) : wantL on (n + 1) = wantL on n ++ [(n : Int)] := by
  unfold wantL
  rw [List.range_succ, List.filter_append]
  simp [h]
theorem wantL_off {on : List Bool} {n : Nat} (h : on[n]? = some false) : wantL on (n + 1) = wantL on n := by
  unfold wantL
  rw [List.range_succ, List.filter_append]
  simp [h]
theorem wantL_length (on : List Bool) (n : Nat) : (wantL on n).length ≤ n := by
  unfold wantL
  rw [List.length_map]
  have := List.length_filter_le (fun j => on[j]?.getD false) (List.range n)
  rw [List.length_range] at this
  exact this
theorem Star.linked {N : NM} {on : List Bool} (h : N.Star on) : N.linked 7 = wantL on 50 := by
  refine linked_eq h.ok ?_ fun b => ?_
  · unfold wantL
    rw [List.pairwise_map]
    exact (List.pairwise_lt_range.filter _).imp fun h => by omega
  · rw [mem_linked h.ok, h.mem]
    unfold wantL
    simp only [List.mem_map, List.mem_filter, List.mem_range]
    constructor
    · rintro ⟨j, ⟨_, hj⟩, rfl⟩
      have hj2 : on[j]? = some true := by
        cases e : on[j]? with
        | none => rw [e] at hj; cases hj
        | some v => rw [e] at hj; simp at hj; rw [hj]
      refine ⟨⟨j, hj2, rfl⟩, fun e => ?_⟩
      have : j = 7 := by omega
      subst this
      rw [h.seven] at hj2; cases hj2
    · rintro ⟨⟨j, hj, e⟩, _⟩
      exact ⟨j, ⟨h.lt hj, by rw [hj]; rfl⟩, (pairK_inj e).symm⟩
theorem Star.side {N : NM} {on : List Bool} (h : N.Star on) : ∀ p ∈ N.ls, p.1 = 7 ∨ p.2 = 7 := fun p hp => by
  obtain ⟨k, _, e⟩ := (h.mem p).1 hp
  rcases (pairK_mem (h.ok.lt p hp)).1 e with ⟨e, _⟩ | ⟨_, e⟩
  · exact .inl e
  · exact .inr e
theorem Star.short {N : NM} {on : List Bool} (h : N.Star on) : N.ls.length ≤ 50 := by
  have h1 : (N.ls.filterMap (other 7)).length = N.ls.length := length_filterMap_all fun p hp => by
    unfold other
    rcases h.side p hp with e | e
    · rw [if_pos e]; rfl
    · by_cases e1 : p.1 = 7
      · rw [if_pos e1]; rfl
      · rw [if_neg e1, if_pos e]; rfl
  have h2 : (N.linked 7).length = (N.ls.filterMap (other 7)).length := sortI_length _
  rw [h.linked] at h2
  have := wantL_length on 50
  omega
theorem Star.watchers {N : NM} {on : List Bool} (h : N.Star on) (a : Int) : N.watchers a = [] := by
  unfold NM.watchers
  rw [h.ws]
  simp [sortI]
theorem Star.ended_ls {N : NM} {on : List Bool} (h : N.Star on) : (N.ended 7).ls = [] := by
  unfold ended
  simp only [List.filter_eq_nil_iff, decide_eq_true_eq, not_and, Decidable.not_not]
  intro p hp h1
  rcases h.side p hp with e | e
  · exact absurd e h1
  · exact e
theorem Star.ended_ws {N : NM} {on : List Bool} (h : N.Star on) : (N.ended 7).ws = [] := by
  unfold ended
  simp [h.ws]
end NM
end Go.Tx

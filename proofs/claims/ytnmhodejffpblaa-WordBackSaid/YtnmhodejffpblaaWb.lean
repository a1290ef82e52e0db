/-
  Words told back: which terms have the same word, as plain data.
-/
import Derived.Test.YtnmhodejffpblaaSs
import Derived.Test.YtnmhodejffpblaaWpl
import Derived.Test.YtnmhodejffpblaaCo
namespace Go.Tx
open Go Go.RowKit
/-- a term without parts, and its word, in a table -/
def LeafW (l : List ByteArray) (k n : Int) (s : ByteArray) (x : Int) : Prop :=
  (k = 1 ∧ s = ⟨#[]⟩ ∧ -1152921504606846976 ≤ n ∧ n < 1152921504606846976 ∧ x = n * 8 % 18446744073709551616) ∨
  (k = 2 ∧ n = 0 ∧ ∃ j : Nat, j < 1024 ∧ l[j]? = some s ∧ x = 1 + (j : Int) * 8) ∨
  (k = 3 ∧ s = ⟨#[]⟩ ∧ 0 ≤ n ∧ n < 1152921504606846976 ∧ x = 3 + n * 8) ∨
  (k = 4 ∧ s = ⟨#[]⟩ ∧ 0 ≤ n ∧ n < 1152921504606846976 ∧ x = 2 + n * 8) ∨
  (k = 6 ∧ s = ⟨#[]⟩ ∧ n = 0 ∧ x = 4)
theorem ask_at {l l2 : List ByteArray} {s : ByteArray} {i : Int} (h : askName l s = (i, none, l2)) (hl : l2.length ≤ 1024) : ∃ j : Nat, i = j ∧ j < 1024 ∧ l2[j]? = some s ∧ l <+: l2 := by
  unfold askName at h
  split at h
  · cases h
  · split at h
    · next j hj =>
      cases h
      have hp := placeOf_some hj
      have := (List.getElem?_eq_some_iff.1 hp).1
      exact ⟨j, rfl, by omega, hp, List.prefix_refl _⟩
    · split at h
      · cases h
      · cases h
        rw [List.length_append] at hl
        exact ⟨l.length, rfl, by simp at hl; omega, by simp, List.prefix_append _ _⟩
theorem prefix_get {l l2 : List ByteArray} (h : l <+: l2) {j : Nat} {s : ByteArray} (hs : l[j]? = some s) : l2[j]? = some s := by
  obtain ⟨r, rfl⟩ := h
  rw [List.getElem?_append_left (List.getElem?_eq_some_iff.1 hs).1]
  exact hs
theorem LeafW.more {l l2 : List ByteArray} {k n : Int} {s : ByteArray} {x : Int} (h : LeafW l k n s x) (hp : l <+: l2) : LeafW l2 k n s x := by
  rcases h with h | ⟨h1, h2, j, h3, h4, h5⟩ | h
  · exact .inl h
  · exact .inr (.inl ⟨h1, h2, j, h3, prefix_get hp h4, h5⟩)
  · exact .inr (.inr h)
theorem ask_prefix {l : List ByteArray} {s : ByteArray} {i : Int} {er : ErrO} {l2 : List ByteArray} (h : askName l s = (i, er, l2)) : l <+: l2 := by
  unfold askName at h
  split at h
  · cases h; exact List.prefix_refl _
  · split at h
    · cases h; exact List.prefix_refl _
    · split at h
      · cases h; exact List.prefix_refl _
      · cases h; exact List.prefix_append _ _
theorem small_prefix (l : List ByteArray) (t : Tm) : l <+: (smallOf l t).2 := by
  unfold smallOf
  split
  · exact List.prefix_refl _
  · unfold smallK
    split
    · split <;> exact List.prefix_refl _
    split
    · split
      · next h => exact ask_prefix h
      · next h => exact ask_prefix h
    split
    · exact List.prefix_refl _
    split
    · exact List.prefix_refl _
    split <;> exact List.prefix_refl _
theorem ok_1 {n : Int} {s : ByteArray} {is rs : List Tm} {bs : ByteArray} (h : (Tm.mk 1 n s is rs bs).okB = true) : s.size = 0 ∧ is.length = 0 ∧ rs.length = 0 ∧ bs.size = 0 := of_decide_eq_true h
theorem ok_2 {n : Int} {s : ByteArray} {is rs : List Tm} {bs : ByteArray} (h : (Tm.mk 2 n s is rs bs).okB = true) : n = 0 ∧ 1 ≤ s.size ∧ s.size ≤ 255 ∧ is.length = 0 ∧ rs.length = 0 ∧ bs.size = 0 := of_decide_eq_true h
theorem ok_3 {n : Int} {s : ByteArray} {is rs : List Tm} {bs : ByteArray} (h : (Tm.mk 3 n s is rs bs).okB = true) : 0 ≤ n ∧ n < 1152921504606846976 ∧ s.size = 0 ∧ is.length = 0 ∧ rs.length = 0 ∧ bs.size = 0 := of_decide_eq_true h
theorem ok_4 {n : Int} {s : ByteArray} {is rs : List Tm} {bs : ByteArray} (h : (Tm.mk 4 n s is rs bs).okB = true) : 0 ≤ n ∧ n < 1152921504606846976 ∧ s.size = 0 ∧ is.length = 0 ∧ rs.length = 0 ∧ bs.size = 0 := of_decide_eq_true h
theorem ok_6 {n : Int} {s : ByteArray} {is rs : List Tm} {bs : ByteArray} (h : (Tm.mk 6 n s is rs bs).okB = true) : n = 0 ∧ s.size = 0 ∧ is.length = 0 ∧ rs.length = 0 ∧ bs.size = 0 := of_decide_eq_true h
/-- a term that fits in a word -/
theorem small_true {l l2 : List ByteArray} {t : Tm} {x : Int} {er : ErrO} (h : smallOf l t = ((x, true, er), l2)) (hl : l2.length ≤ 1024) : er = none ∧ t.items = [] ∧ t.rest = [] ∧ t.bytes = ⟨#[]⟩ ∧ LeafW l2 t.kind t.n t.name x := by
  unfold smallOf at h
  split at h
  · cases h
  · next hr =>
    have hok := right_none hr
    obtain ⟨k, n, s, is, rs, bs⟩ := t
    clear hr
    change smallK l k n s = _ at h
    change er = none ∧ is = [] ∧ rs = [] ∧ bs = ⟨#[]⟩ ∧ LeafW l2 k n s x
    unfold smallK at h
    split at h
    · next hk =>
      subst hk
      obtain ⟨h1, h2, h3, h4⟩ := ok_1 hok
      split at h
      · next hb =>
        cases h
        exact ⟨rfl, List.length_eq_zero_iff.1 h2, List.length_eq_zero_iff.1 h3, size_nil h4, .inl ⟨rfl, size_nil h1, hb.1, hb.2, rfl⟩⟩
      · cases h
    · split at h
      · next hk =>
        subst hk
        obtain ⟨h0, h1, h2, h3, h4, h5⟩ := ok_2 hok
        split at h
        · next i l3 ha =>
          cases h
          obtain ⟨j, rfl, hj, hs, _⟩ := ask_at ha hl
          exact ⟨rfl, List.length_eq_zero_iff.1 h3, List.length_eq_zero_iff.1 h4, size_nil h5, .inr (.inl ⟨rfl, h0, j, hj, hs, by omega⟩)⟩
        · cases h
      · split at h
        · next hk =>
          subst hk
          obtain ⟨a1, a2, h1, h2, h3, h4⟩ := ok_3 hok
          cases h
          exact ⟨rfl, List.length_eq_zero_iff.1 h2, List.length_eq_zero_iff.1 h3, size_nil h4, .inr (.inr (.inl ⟨rfl, size_nil h1, a1, a2, by omega⟩))⟩
        · split at h
          · next hk =>
            subst hk
            obtain ⟨a1, a2, h1, h2, h3, h4⟩ := ok_4 hok
            cases h
            exact ⟨rfl, List.length_eq_zero_iff.1 h2, List.length_eq_zero_iff.1 h3, size_nil h4, .inr (.inr (.inr (.inl ⟨rfl, size_nil h1, a1, a2, by omega⟩)))⟩
          · split at h
            · next hk =>
              subst hk
              obtain ⟨a1, h1, h2, h3, h4⟩ := ok_6 hok
              cases h
              exact ⟨rfl, List.length_eq_zero_iff.1 h2, List.length_eq_zero_iff.1 h3, size_nil h4, .inr (.inr (.inr (.inr ⟨rfl, size_nil h1, a1, rfl⟩)))⟩
            · cases h
theorem LeafW.range {l : List ByteArray} {k n : Int} {s : ByteArray} {x : Int} (h : LeafW l k n s x) : 0 ≤ x ∧ x < 18446744073709551616 := by
  rcases h with ⟨_, _, _, _, rfl⟩ | ⟨_, _, j, hj, _, rfl⟩ | ⟨_, _, _, _, rfl⟩ | ⟨_, _, _, _, rfl⟩ | ⟨_, _, _, rfl⟩ <;> omega
/-- the word tells the term -/
theorem plain_back {l : List ByteArray} {k n : Int} {s : ByteArray} {x : Int} (h : LeafW l k n s x) : plainOf l x = ((k, n, s), true, none) := by
  unfold plainOf
  rcases h with ⟨rfl, rfl, h1, h2, rfl⟩ | ⟨rfl, rfl, j, hj, hs, rfl⟩ | ⟨rfl, rfl, h1, h2, rfl⟩ | ⟨rfl, rfl, h1, h2, rfl⟩ | ⟨rfl, rfl, rfl, rfl⟩
  · rw [if_pos (by omega)]
    have e : wrap64 (n * 8 % 18446744073709551616) / 8 = n := by unfold wrap64; omega
    rw [e]
  · rw [if_neg (by omega), if_pos (by omega)]
    have e : ((1 + (j : Int) * 8) / 8).toNat = j := by omega
    rw [e, hs]
  · rw [if_neg (by omega), if_neg (by omega), if_neg (by omega), if_pos (by omega)]
    have e : (3 + n * 8) / 8 = n := by omega
    rw [e, if_pos h2]
  · rw [if_neg (by omega), if_neg (by omega), if_pos (by omega)]
    have e : (2 + n * 8) / 8 = n := by omega
    rw [e, if_pos h2]
  · rfl
/-- unlike terms have unlike words -/
theorem word_iff {l : List ByteArray} {k n k2 n2 : Int} {s s2 : ByteArray} {x y : Int} (h : LeafW l k n s x) (h2 : LeafW l k2 n2 s2 y) (hnd : l.Nodup) : x = y ↔ (k = k2 ∧ n = n2 ∧ s = s2) := by
  constructor
  · intro e
    have a := plain_back h
    have b := plain_back h2
    rw [e, b] at a
    simp only [Prod.mk.injEq] at a
    obtain ⟨⟨a1, a2, a3⟩, _⟩ := a
    exact ⟨a1.symm, a2.symm, a3.symm⟩
  · rintro ⟨rfl, rfl, rfl⟩
    rcases h with ⟨rfl, _, _, _, rfl⟩ | ⟨rfl, _, j, hj, hs, rfl⟩ | ⟨rfl, _, _, _, rfl⟩ | ⟨rfl, _, _, _, rfl⟩ | ⟨rfl, _, _, rfl⟩ <;>
      rcases h2 with ⟨e, _, _, _, rfl⟩ | ⟨e, _, j2, hj2, hs2, rfl⟩ | ⟨e, _, _, _, rfl⟩ | ⟨e, _, _, _, rfl⟩ | ⟨e, _, _, rfl⟩ <;> first | rfl | (exfalso; omega) | skip
    have hjj : j = j2 := by
      obtain ⟨a1, a2⟩ := List.getElem?_eq_some_iff.1 hs
      obtain ⟨b1, b2⟩ := List.getElem?_eq_some_iff.1 hs2
      exact (List.getElem_inj hnd).1 (a2.trans b2.symm)
    subst hjj
    rfl
end Go.Tx
namespace Go.Proofs.Ytnmhodejffpblaa
open Go.RowKit Go.Tx
theorem cmp_leaf (w : World) {l : List ByteArray} {k n k2 n2 x y : Int} {s s2 : ByteArray} (h : LeafW l k n s x) (h2 : LeafW l k2 n2 s2 y) (ai ar ab bi br bb : Option Addr) (ci cr cb di dr db : Nat) :
    Calls Try.prog 32 #[.agg #[.int .i64 k, .int .i64 n, .string s, .slice ai 0 ci, .slice ar 0 cr, .slice ab 0 cb], .agg #[.int .i64 k2, .int .i64 n2, .string s2, .slice bi 0 di, .slice br 0 dr, .slice bb 0 db]] w (ZeroIff (k = k2 ∧ n = n2 ∧ s = s2) w) := by
  by_cases hk : k = k2
  · subst hk
    rcases h with ⟨rfl, rfl, _⟩ | ⟨rfl, rfl, _⟩ | ⟨rfl, rfl, _⟩ | ⟨rfl, rfl, _⟩ | ⟨rfl, rfl, rfl, _⟩ <;>
      rcases h2 with ⟨e, hs, _⟩ | ⟨e, hn, _⟩ | ⟨e, hs, _⟩ | ⟨e, hs, _⟩ | ⟨e, hs, hn, _⟩ <;> first | (exfalso; omega) | skip
    · subst hs
      exact (cmp_1 w _ _ _ _ _ _ _ _ _ _ _ _ _ _ _ _).mono fun e w' ⟨r, he, hr, hkk⟩ => ⟨r, he, hr.trans ⟨fun h => ⟨rfl, h, rfl⟩, fun h => h.2.1⟩, hkk⟩
    · subst hn
      exact (cmp_2 w _ _ _ _ _ _ _ _ _ _ _ _ _ _ _ _).mono fun e w' ⟨r, he, hr, hkk⟩ => ⟨r, he, hr.trans ⟨fun h => ⟨rfl, rfl, h⟩, fun h => h.2.2⟩, hkk⟩
    · subst hs
      exact (cmp_3 w _ _ _ _ _ _ _ _ _ _ _ _ _ _ _ _).mono fun e w' ⟨r, he, hr, hkk⟩ => ⟨r, he, hr.trans ⟨fun h => ⟨rfl, h, rfl⟩, fun h => h.2.1⟩, hkk⟩
    · subst hs
      exact (cmp_4 w _ _ _ _ _ _ _ _ _ _ _ _ _ _ _ _).mono fun e w' ⟨r, he, hr, hkk⟩ => ⟨r, he, hr.trans ⟨fun h => ⟨rfl, h, rfl⟩, fun h => h.2.1⟩, hkk⟩
    · subst hs hn
      exact (cmp_6 w _ _ _ _ _ _ _ _ _ _ _ _ _ _ _ _).mono fun e w' ⟨r, he, hr, hkk⟩ => ⟨r, he, hr.trans ⟨fun _ => ⟨rfl, rfl, rfl⟩, fun _ => trivial⟩, hkk⟩
  · exact (cmp_kinds w k k2 _ _ _ _ _ _ _ _ _ _ _ _ _ _ _ _ (by simpa using hk)).mono fun e w' ⟨r, he, hr, hkk⟩ => ⟨r, he, hr.trans ⟨False.elim, fun h => hk h.1⟩, hkk⟩
end Go.Proofs.Ytnmhodejffpblaa

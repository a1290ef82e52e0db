/-
  Tables of atoms: plain laws on asking; two tables apart from each other.
-/
import Derived.Test.YtnmhodejffpblaaBo
namespace Go.Tx
open Go Go.RowKit
def bad (s : ByteArray) : Prop := s.size < 1 ∨ 255 < s.size
instance (s : ByteArray) : Decidable (bad s) := inferInstanceAs (Decidable (_ ∨ _))
/-- what a table says of a name that it was asked for -/
def Num (l : List ByteArray) (s : ByteArray) (z : Int) : Prop := (bad s ∧ z = -1) ∨ (¬ bad s ∧ ∃ k : Nat, placeOf s l = some k ∧ z = k)
theorem placeOf_append {s : ByteArray} {m : List ByteArray} : ∀ {l : List ByteArray} {k : Nat}, placeOf s l = some k → placeOf s (l ++ m) = some k
  | [], k, h => by simp [placeOf] at h
  | t :: l, k, h => by
    unfold placeOf at h
    rw [List.cons_append]
    unfold placeOf
    by_cases ht : t = s
    · rw [if_pos ht] at h ⊢; exact h
    · rw [if_neg ht] at h ⊢
      cases hp : placeOf s l with
      | none => rw [hp] at h; cases h
      | some j => rw [hp] at h; rw [placeOf_append hp]; exact h
theorem placeOf_last {s : ByteArray} : ∀ {l : List ByteArray}, placeOf s l = none → placeOf s (l ++ [s]) = some l.length
  | [], _ => by simp [placeOf]
  | t :: l, h => by
    unfold placeOf at h
    rw [List.cons_append]
    unfold placeOf
    by_cases ht : t = s
    · rw [if_pos ht] at h; cases h
    · rw [if_neg ht] at h ⊢
      rw [Option.map_eq_none_iff] at h
      rw [placeOf_last h]
      rfl
theorem Num.append {l m : List ByteArray} {s : ByteArray} {z : Int} (h : Num l s z) : Num (l ++ m) s z := by
  rcases h with h | ⟨h1, k, h2, h3⟩
  · exact .inl h
  · exact .inr ⟨h1, k, placeOf_append h2, h3⟩
/-- asking for the first time, in a table with room -/
theorem ask_num {l : List ByteArray} (s : ByteArray) (hl : l.length < 1024) : ∃ z er m, askName l s = (z, er, l ++ m) ∧ m.length ≤ 1 ∧ Num (l ++ m) s z ∧ -1 ≤ z ∧ z ≤ 1024 := by
  unfold askName
  by_cases hb : bad s
  · rw [if_pos (show s.size < 1 ∨ 255 < s.size from hb)]
    exact ⟨_, _, [], by rw [List.append_nil], by simp, .inl ⟨hb, rfl⟩, by omega, by omega⟩
  · rw [if_neg (show ¬ (s.size < 1 ∨ 255 < s.size) from hb)]
    cases hp : placeOf s l with
    | some i =>
      have := (List.getElem?_eq_some_iff.1 (placeOf_some hp)).1
      exact ⟨_, _, [], by rw [List.append_nil], by simp, by rw [List.append_nil]; exact .inr ⟨hb, i, hp, rfl⟩, by omega, by omega⟩
    | none =>
      simp only [show ¬ 1024 ≤ l.length from by omega, if_false]
      exact ⟨_, _, [s], rfl, by simp, .inr ⟨hb, l.length, placeOf_last hp, rfl⟩, by omega, by omega⟩
/-- asking again -/
theorem ask_again {l : List ByteArray} {s : ByteArray} {z : Int} (h : Num l s z) : (bad s ∧ z = -1 ∧ askName l s = (-1, some ([(⟨#[97, 116, 111, 109]⟩, (s.size : Int))], 1), l)) ∨ (¬ bad s ∧ ∃ k : Nat, z = k ∧ l[k]? = some s ∧ askName l s = ((k : Int), none, l)) := by
  unfold askName
  rcases h with ⟨h1, h2⟩ | ⟨h1, k, h2, h3⟩
  · exact .inl ⟨h1, h2, if_pos h1⟩
  · refine .inr ⟨h1, k, h3, placeOf_some h2, ?_⟩
    unfold bad at h1
    rw [if_neg h1, h2]
theorem num_apart {l : List ByteArray} {s t : ByteArray} {z y : Int} (h : Num l s z) (hs : ¬ bad s) (h' : Num l t y) (hn : ¬ s = t) : ¬ z = y := by
  intro e
  rcases h with h | ⟨_, k, h2, h3⟩
  · exact hs h.1
  rcases h' with h' | ⟨_, k', h2', h3'⟩
  · omega
  · have : k = k' := by omega
    subst this
    have a := placeOf_some h2
    rw [placeOf_some h2'] at a
    exact hn (Option.some.inj a).symm
/-- two of the program's tables, apart from each other and from what was there -/
structure Two (w0 w : World) (a b : Nat) (Ea Eb : Nat → Prop) (la lb : List ByteArray) : Prop where
  ha : IsAtoms w a Ea la
  hb : IsAtoms w b Eb lb
  apart : ∀ x, Ea x → ¬ Eb x
  fa : ∀ x, Ea x → w0.heap.size ≤ x
  fb : ∀ x, Eb x → w0.heap.size ≤ x
  keeps : Keeps (fun _ => False) w0 w
theorem Two.askA {w0 w w2 : World} {a b : Nat} {Ea Eb : Nat → Prop} {la lb la' : List ByteArray} (h : Two w0 w a b Ea Eb la lb) (h2 : IsAtoms w2 a (Wider Ea w w2) la') (k2 : Keeps Ea w w2) : Two w0 w2 a b (Wider Ea w w2) Eb la' lb := by
  have s0 := h.keeps.size
  refine ⟨h2, h.hb.keeps k2 fun x hx he => h.apart x he hx, fun x hx he => ?_, fun x hx => hx.elim (h.fa x) fun hx => Nat.le_trans s0 hx.1, h.fb, h.keeps.trans k2 fun x hb hx => by have := h.fa x hx; omega⟩
  rcases hx with hx | hx
  · exact h.apart x hx he
  · have := h.hb.lt x he; have := hx.1; omega
theorem Two.askB {w0 w w2 : World} {a b : Nat} {Ea Eb : Nat → Prop} {la lb lb' : List ByteArray} (h : Two w0 w a b Ea Eb la lb) (h2 : IsAtoms w2 b (Wider Eb w w2) lb') (k2 : Keeps Eb w w2) : Two w0 w2 a b Ea (Wider Eb w w2) la lb' := by
  have s0 := h.keeps.size
  refine ⟨h.ha.keeps k2 fun x hx he => h.apart x hx he, h2, fun x hx he => ?_, h.fa, fun x hx => hx.elim (h.fb x) fun hx => Nat.le_trans s0 hx.1, h.keeps.trans k2 fun x hb hx => by have := h.fb x hx; omega⟩
  rcases he with he | he
  · exact h.apart x hx he
  · have := h.ha.lt x hx; have := he.1; omega
theorem Two.other {w0 w w2 : World} {a b : Nat} {Ea Eb T : Nat → Prop} {la lb : List ByteArray} (h : Two w0 w a b Ea Eb la lb) (k2 : Keeps T w w2) (hT : ∀ x, T x → w0.heap.size ≤ x ∧ ¬ Ea x ∧ ¬ Eb x) : Two w0 w2 a b Ea Eb la lb :=
  ⟨h.ha.keeps k2 fun x hx he => (hT x he).2.1 hx, h.hb.keeps k2 fun x hx he => (hT x he).2.2 hx, h.apart, h.fa, h.fb, h.keeps.trans k2 fun x hb hx => by have := (hT x hx).1; omega⟩
/-- a row of numbers apart from both tables -/
structure Nums (w0 w : World) (Ea Eb : Nat → Prop) (v : Value) (zs : List Int) : Prop where
  row : Row w 3 1 v zs.length (zs.map (Value.int .i64 ·))
  own : ∀ g, v.ownBlock = some g → w0.heap.size ≤ g ∧ ¬ Ea g ∧ ¬ Eb g
theorem Nums.askA {w0 w w2 : World} {a b : Nat} {Ea Eb : Nat → Prop} {la lb : List ByteArray} {v : Value} {zs : List Int} (h : Nums w0 w Ea Eb v zs) (_ : Two w0 w a b Ea Eb la lb) (k2 : Keeps Ea w w2) : Nums w0 w2 (Wider Ea w w2) Eb v zs :=
  ⟨h.row.keeps k2 fun g hg => (h.own g hg).2.1, fun g hg => ⟨(h.own g hg).1, fun hw => hw.elim (h.own g hg).2.1 fun hw => by have := h.row.lt hg; have := hw.1; omega, (h.own g hg).2.2⟩⟩
theorem Nums.askB {w0 w w2 : World} {Ea Eb : Nat → Prop} {v : Value} {zs : List Int} (h : Nums w0 w Ea Eb v zs) (k2 : Keeps Eb w w2) : Nums w0 w2 Ea (Wider Eb w w2) v zs :=
  ⟨h.row.keeps k2 fun g hg => (h.own g hg).2.2, fun g hg => ⟨(h.own g hg).1, (h.own g hg).2.1, fun hw => hw.elim (h.own g hg).2.2 fun hw => by have := h.row.lt hg; have := hw.1; omega⟩⟩
theorem Nums.still {w0 w w2 : World} {Ea Eb : Nat → Prop} {v : Value} {zs : List Int} (h : Nums w0 w Ea Eb v zs) (k2 : Keeps (fun _ => False) w w2) : Nums w0 w2 Ea Eb v zs :=
  ⟨h.row.keeps k2 fun _ _ h => h, h.own⟩
theorem Two.still {w0 w w' : World} {a b : Nat} {Ea Eb : Nat → Prop} {la lb : List ByteArray} (h : Two w0 w a b Ea Eb la lb) (k : Keeps (fun _ => False) w w') : Two w0 w' a b Ea Eb la lb := h.other k fun _ h => h.elim
theorem nums_push {w0 w wa w4 : World} {a b : Nat} {Ea Eb : Nat → Prop} {la lb : List ByteArray} {v v' : Value} {zs : List Int} {z : Int} (h : Nums w0 w Ea Eb v zs) (ht : Two w0 w a b Ea Eb la lb) (k : Keeps (fun _ => False) w wa) (ha : Appended wa w4 3 1 v v' (zs.length + 1) (zs.map (Value.int .i64 ·) ++ [.int .i64 z])) :
    Nums w0 w4 Ea Eb v' (zs ++ [z]) ∧ Two w0 w4 a b Ea Eb la lb := by
  have k4 : Keeps (Own v) w w4 := (k.mono fun _ _ h => h.elim).trans ha.keeps fun _ _ h => h
  refine ⟨⟨?_, fun g hg => ?_⟩, ht.other k4 fun g hg => h.own g hg⟩
  · rw [List.length_append, List.map_append]; exact ha.row
  · rcases ha.own with e | ⟨e, _⟩
    · exact h.own g (e ▸ hg)
    · rw [e] at hg; cases hg
      have := k.size
      have := ht.keeps.size
      exact ⟨by omega, fun he => by have := ht.ha.lt _ he; omega, fun he => by have := ht.hb.lt _ he; omega⟩
end Go.Tx

/-
  A table of atoms: as plain data; where it lies.
-/
import Derived.Test.YtnmhodejffpblaaTm
import Derived.Test.YtnmhodejffpblaaRf
import Derived.Test.YtnmhodejffpblaaBlk
namespace Go.Tx
open Go Go.RowKit
/-- a name's place in a list of names -/
def placeOf (s : ByteArray) : List ByteArray → Option Nat
  | [] => none
  | t :: l => if t = s then some 0 else (placeOf s l).map (· + 1)
/-- asking a table for a name's number: the number, what is wrong, the table behind it -/
def askName (l : List ByteArray) (s : ByteArray) : Int × ErrO × List ByteArray :=
  if s.size < 1 ∨ 255 < s.size then (-1, some ([(⟨#[97, 116, 111, 109]⟩, (s.size : Int))], 1), l)
  else match placeOf s l with
    | some i => (i, none, l)
    | none => if 1024 ≤ l.length then (-1, some ([(⟨#[97, 116, 111, 109]⟩, (s.size : Int))], 2), l) else (l.length, none, l ++ [s])
theorem placeOf_none {s : ByteArray} : ∀ {l : List ByteArray}, placeOf s l = none ↔ s ∉ l
  | [] => by simp [placeOf]
  | t :: l => by
    unfold placeOf
    by_cases h : t = s
    · simp [h]
    · rw [if_neg h, Option.map_eq_none_iff, placeOf_none, List.mem_cons, not_or]
      exact ⟨fun h1 => ⟨fun e => h e.symm, h1⟩, fun h1 => h1.2⟩
theorem placeOf_some {s : ByteArray} : ∀ {l : List ByteArray} {i : Nat}, placeOf s l = some i → l[i]? = some s
  | [], i, h => by simp [placeOf] at h
  | t :: l, i, h => by
    unfold placeOf at h
    by_cases ht : t = s
    · rw [if_pos ht] at h; cases h; simp [ht]
    · rw [if_neg ht] at h
      cases hp : placeOf s l with
      | none => rw [hp] at h; cases h
      | some j => rw [hp] at h; cases h; simpa using placeOf_some hp
/-- the map of a table -/
def numbered : List ByteArray → Nat → List (ByteArray × Value)
  | [], _ => []
  | s :: l, n => (s, .int .i64 n) :: numbered l (n + 1)
theorem numbered_keys : ∀ (l : List ByteArray) (n : Nat), (numbered l n).map (·.1) = l
  | [], _ => rfl
  | s :: l, n => by simp [numbered, numbered_keys l]
theorem numbered_append : ∀ (l : List ByteArray) (s : ByteArray) (n : Nat), numbered (l ++ [s]) n = numbered l n ++ [(s, .int .i64 ((n + l.length : Nat) : Int))]
  | [], s, n => by simp [numbered]
  | t :: l, s, n => by simp only [List.cons_append, numbered, numbered_append l, List.length_cons]; congr 5; omega
theorem numbered_get (s : ByteArray) : ∀ (l : List ByteArray) (n : Nat), kvGet (numbered l n) s = (placeOf s l).map fun i => Value.int .i64 ((n + i : Nat) : Int)
  | [], n => rfl
  | t :: l, n => by
    have ih := numbered_get s l (n + 1)
    unfold kvGet at ih ⊢
    unfold numbered placeOf
    by_cases h : t = s
    · simp [h]
    · rw [List.find?_cons_of_neg (by simpa using h), ih, if_neg h, Option.map_map]
      congr 1
      funext i
      simp only [Function.comp]
      congr 2
      omega
theorem numbered_put {s : ByteArray} {l : List ByteArray} (h : s ∉ l) : kvPut (numbered l 0) s (.int .i64 l.length) = numbered (l ++ [s]) 0 := by
  unfold kvPut
  rw [numbered_keys, if_neg h, numbered_append]
  simp
def atomsCells (done : Int) (m l : Value) : List Value := [.int .u32 done, .int .i32 0, .int .u32 0, m, l]
def nameCells (l : List ByteArray) : List Value := l.map Value.string
/-- the program's table -/
structure IsAtoms (w : World) (b : Nat) (E : Nat → Prop) (l : List ByteArray) : Prop where
  few : l.length ≤ 1024
  once : l.Nodup
  own : E b
  lt : ∀ x, E x → x < w.heap.size
  at_ : (l = [] ∧ Blk w b 107 (atomsCells 0 (.map none) (.slice none 0 0))) ∨
    ∃ m lv, Blk w b 107 (atomsCells 1 (.map (some m)) lv) ∧ MapIs Value.string w m (numbered l 0) ∧ Row w 9 1 lv l.length (nameCells l) ∧ E m ∧ ∀ g, lv.ownBlock = some g → E g
/-- the document's table -/
structure IsNames (w : World) (b : Nat) (E : Nat → Prop) (l : List ByteArray) : Prop where
  few : l.length ≤ 1024
  own : E b
  lt : ∀ x, E x → x < w.heap.size
  at_ : ∃ lv, Blk w b 43 [lv] ∧ Row w 9 1 lv l.length (nameCells l) ∧ ∀ g, lv.ownBlock = some g → E g
theorem IsAtoms.keeps {w w' : World} {b : Nat} {E T : Nat → Prop} {l : List ByteArray} (h : IsAtoms w b E l) (hk : Keeps T w w') (hs : ∀ x, E x → ¬ T x) : IsAtoms w' b E l := by
  refine ⟨h.few, h.once, h.own, fun x hx => Nat.lt_of_lt_of_le (h.lt x hx) hk.size, ?_⟩
  rcases h.at_ with ⟨h1, h2⟩ | ⟨m, lv, h1, h2, h3, h4, h5⟩
  · exact .inl ⟨h1, h2.keeps hk (hs _ h.own)⟩
  · exact .inr ⟨m, lv, h1.keeps hk (hs _ h.own), h2.keeps hk (hs _ h4), h3.keeps hk fun g hg => hs g (h5 g hg), h4, h5⟩
theorem IsNames.keeps {w w' : World} {b : Nat} {E T : Nat → Prop} {l : List ByteArray} (h : IsNames w b E l) (hk : Keeps T w w') (hs : ∀ x, E x → ¬ T x) : IsNames w' b E l := by
  refine ⟨h.few, h.own, fun x hx => Nat.lt_of_lt_of_le (h.lt x hx) hk.size, ?_⟩
  obtain ⟨lv, h1, h3, h5⟩ := h.at_
  exact ⟨lv, h1.keeps hk (hs _ h.own), h3.keeps hk fun g hg => hs g (h5 g hg), h5⟩
theorem one_cell (w : World) (u : Value) (e : TypeId) : (w.alloc (.cells #[u] e)).cell? ⟨w.heap.size, 0, none⟩ = some u := (Blk.new w [u] e).cell (i := 0) rfl
/-- wider: what is new belongs to it -/
def Wider (E : Nat → Prop) (w w' : World) (x : Nat) : Prop := E x ∨ Fresh w w' x
theorem IsAtoms.wider {w : World} {b : Nat} {E E' : Nat → Prop} {l : List ByteArray} (h : IsAtoms w b E l) (he : ∀ x, E x → E' x) (hl : ∀ x, E' x → x < w.heap.size) : IsAtoms w b E' l := by
  refine ⟨h.few, h.once, he _ h.own, hl, ?_⟩
  rcases h.at_ with h1 | ⟨m, lv, h1, h2, h3, h4, h5⟩
  · exact .inl h1
  · exact .inr ⟨m, lv, h1, h2, h3, he _ h4, fun g hg => he _ (h5 g hg)⟩
theorem IsNames.wider {w : World} {b : Nat} {E E' : Nat → Prop} {l : List ByteArray} (h : IsNames w b E l) (he : ∀ x, E x → E' x) (hl : ∀ x, E' x → x < w.heap.size) : IsNames w b E' l := by
  refine ⟨h.few, he _ h.own, hl, ?_⟩
  obtain ⟨lv, h1, h3, h5⟩ := h.at_
  exact ⟨lv, h1, h3, fun g hg => he _ (h5 g hg)⟩
theorem atoms_push {w w3 w0 w4 : World} {b m : Nat} {E : Nat → Prop} {l : List ByteArray} {s : ByteArray} {lv v' : Value} (hE : E b) (hlt : ∀ x, E x → x < w.heap.size) (hw3 : Keeps E w w3) (hB : Blk w3 b 107 (atomsCells 1 (.map (some m)) lv))
    (hM : MapIs Value.string w3 m (numbered (l ++ [s]) 0)) (hR : Row w3 9 1 lv l.length (nameCells l)) (hm : E m ∨ w.heap.size ≤ m) (ho : ∀ g, lv.ownBlock = some g → E g) (hfew : l.length < 1024) (hnd : l.Nodup) (hs : s ∉ l)
    (k0 : Keeps (fun _ => False) w3 w0) (ha : Appended w0 w4 9 1 lv v' (l.length + 1) (nameCells l ++ [.string s])) :
    IsAtoms (w4.setCell ⟨b, 4, none⟩ v') b (Wider E w (w4.setCell ⟨b, 4, none⟩ v')) (l ++ [s]) ∧ Keeps E w (w4.setCell ⟨b, 4, none⟩ v') ∧ w4.cell? ⟨b, 4, none⟩ = some lv ∧ w4.frozen? ⟨b, 4, none⟩ = false ∧ Keeps (Own lv) w3 w4 := by
  have hbm := hB.ne_map hM
  have hbl : ∀ g, lv.ownBlock = some g → b ≠ g := fun g hg => hB.ne_row hR (by decide) hg
  have hml := row_ne_map hR hM
  have K04 : Keeps (Own lv) w3 w4 := (k0.mono fun _ _ h => h.elim).trans ha.keeps fun _ _ h => h
  have hB4 := hB.keeps K04 fun h => hbl b h rfl
  have hM4 := hM.keeps K04 hml
  have hlt3 := hB.lt
  have h30 := k0.size
  have hv : ∀ g, v'.ownBlock = some g → g ≠ b ∧ (E g ∨ w.heap.size ≤ g) ∧ g < w4.heap.size := by
    intro g hg
    refine ⟨?_, ?_, ha.row.lt hg⟩
    · rcases ha.own with h | ⟨h, _⟩
      · exact (hbl g (h ▸ hg)).symm
      · rw [h] at hg; cases hg; omega
    · rcases ha.own with h | ⟨h, _⟩
      · exact .inl (ho g (h ▸ hg))
      · rw [h] at hg; cases hg; exact .inr (by have := hw3.size; omega)
  have hsz : (w4.setCell ⟨b, 4, none⟩ v').heap.size = w4.heap.size := World.size_setCell ..
  have h34 := K04.size
  have hw3s := hw3.size
  refine ⟨⟨by simp; omega, ?_, .inl hE, fun x hx => hx.elim (fun h => by have := hlt x h; omega) fun h => h.2, .inr ⟨m, v', hB4.set 4 v', hM4.setCell (a := ⟨b, 4, none⟩) (Ne.symm hbm) v', ?_, ?_, ?_⟩⟩, ?_, hB4.cell (i := 4) rfl, hB4.free 4, K04⟩
  · rw [List.nodup_append]
    exact ⟨hnd, by simp, fun x hx y hy => by simp at hy; subst hy; exact fun e => hs (e ▸ hx)⟩
  · have := ha.row.setCell_other (a := ⟨b, 4, none⟩) (fun h => (hv b h).1 rfl) v'
    rw [show (l ++ [s]).length = l.length + 1 from by simp, show nameCells (l ++ [s]) = nameCells l ++ [.string s] from by simp [nameCells]]
    exact this
  · exact hm.imp id fun h => ⟨h, by have := hM4.lt; omega⟩
  · exact fun g hg => (hv g hg).2.1.imp id fun h => ⟨h, by have := (hv g hg).2.2; omega⟩
  · exact (hw3.trans K04 fun x _ hx => ho x hx).setCell (p := ⟨b, 4, none⟩) (fun _ => hE) v'
theorem names_push {w w0 w4 : World} {b : Nat} {E : Nat → Prop} {l : List ByteArray} {s : ByteArray} {lv v' : Value} (hE : E b) (hlt : ∀ x, E x → x < w.heap.size) (hB : Blk w b 43 [lv])
    (hR : Row w 9 1 lv l.length (nameCells l)) (ho : ∀ g, lv.ownBlock = some g → E g) (hfew : l.length < 1024)
    (k0 : Keeps (fun _ => False) w w0) (ha : Appended w0 w4 9 1 lv v' (l.length + 1) (nameCells l ++ [.string s])) :
    IsNames (w4.setCell ⟨b, 0, none⟩ v') b (Wider E w (w4.setCell ⟨b, 0, none⟩ v')) (l ++ [s]) ∧ Keeps E w (w4.setCell ⟨b, 0, none⟩ v') ∧ w4.cell? ⟨b, 0, none⟩ = some lv ∧ w4.frozen? ⟨b, 0, none⟩ = false ∧ b < w4.heap.size := by
  have hbl : ∀ g, lv.ownBlock = some g → b ≠ g := fun g hg => hB.ne_row hR (by decide) hg
  have K04 : Keeps (Own lv) w w4 := (k0.mono fun _ _ h => h.elim).trans ha.keeps fun _ _ h => h
  have hB4 := hB.keeps K04 fun h => hbl b h rfl
  have hlt3 := hB.lt
  have h30 := k0.size
  have hv : ∀ g, v'.ownBlock = some g → g ≠ b ∧ (E g ∨ w.heap.size ≤ g) ∧ g < w4.heap.size := by
    intro g hg
    refine ⟨?_, ?_, ha.row.lt hg⟩
    · rcases ha.own with h | ⟨h, _⟩
      · exact (hbl g (h ▸ hg)).symm
      · rw [h] at hg; cases hg; omega
    · rcases ha.own with h | ⟨h, _⟩
      · exact .inl (ho g (h ▸ hg))
      · rw [h] at hg; cases hg; exact .inr (by omega)
  have hsz : (w4.setCell ⟨b, 0, none⟩ v').heap.size = w4.heap.size := World.size_setCell ..
  have h34 := K04.size
  refine ⟨⟨by simp; omega, .inl hE, fun x hx => hx.elim (fun h => by have := hlt x h; omega) fun h => h.2, v', hB4.set 0 v', ?_, ?_⟩, ?_, hB4.cell (i := 0) rfl, hB4.free 0, hB4.lt⟩
  · have := ha.row.setCell_other (a := ⟨b, 0, none⟩) (fun h => (hv b h).1 rfl) v'
    rw [show (l ++ [s]).length = l.length + 1 from by simp, show nameCells (l ++ [s]) = nameCells l ++ [.string s] from by simp [nameCells]]
    exact this
  · exact fun g hg => (hv g hg).2.1.imp id fun h => ⟨h, by have := (hv g hg).2.2; omega⟩
  · exact (K04.mono fun x _ hx => ho x hx).setCell (p := ⟨b, 0, none⟩) (fun _ => hE) v'
theorem placeOf_at {s : ByteArray} : ∀ {l : List ByteArray} {i : Nat}, s ∉ l.take i → l[i]? = some s → placeOf s l = some i
  | [], i, _, h => by simp at h
  | t :: l, 0, _, h => by simp at h; simp [placeOf, h]
  | t :: l, i + 1, hn, h => by
    simp only [List.take_succ_cons, List.mem_cons, not_or] at hn
    simp only [List.getElem?_cons_succ] at h
    unfold placeOf
    rw [if_neg (fun e => hn.1 e.symm), placeOf_at hn.2 h]
    rfl
/-- before each look at a name -/
def NamesAt (w : World) (l : List ByteArray) (s : ByteArray) (v : Value) (wr : World) : Prop := ∃ i : Nat, v = .int .i64 i ∧ i ≤ l.length ∧ s ∉ l.take i ∧ Keeps (fun _ => False) w wr
end Go.Tx

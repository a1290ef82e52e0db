/-
  A table of atoms: a number's name; how many there are; a new table: both tables.
-/
import Derived.Test.YtnmhodejffpblaaAo
namespace Go.Tx
open Go Go.RowKit
/-- a number's name -/
def nameAt (l : List ByteArray) (n : Int) : ByteArray × ErrO :=
  if n < 0 ∨ (l.length : Int) ≤ n then (⟨#[]⟩, some ([(⟨#[97, 116, 111, 109]⟩, n)], 3)) else (l.getD n.toNat ⟨#[]⟩, none)
theorem IsAtoms.list {w : World} {b : Nat} {E : Nat → Prop} {l : List ByteArray} (h : IsAtoms w b E l) : ∃ la lc, w.cell? ⟨b, 4, none⟩ = some (.slice la l.length lc) ∧ Row w 9 1 (.slice la l.length lc) l.length (nameCells l) := by
  rcases h.at_ with ⟨rfl, h2⟩ | ⟨m, lv, h1, _, h3, _, _⟩
  · exact ⟨none, 0, h2.cell (i := 4) rfl, World.ownsRow_nil _ _ _ _⟩
  · obtain ⟨la, lc, rfl, _⟩ := h3.len
    exact ⟨la, lc, h1.cell (i := 4) rfl, h3⟩
theorem IsNames.list {w : World} {b : Nat} {E : Nat → Prop} {l : List ByteArray} (h : IsNames w b E l) : ∃ la lc, w.cell? ⟨b, 0, none⟩ = some (.slice la l.length lc) ∧ Row w 9 1 (.slice la l.length lc) l.length (nameCells l) := by
  obtain ⟨lv, h1, h3, _⟩ := h.at_
  obtain ⟨la, lc, rfl, _⟩ := h3.len
  exact ⟨la, lc, h1.cell (i := 0) rfl, h3⟩
/-- behind a question for a number's name -/
def NamePost (r : ByteArray × ErrO) (w : World) (e : Ending) (w' : World) : Prop := ∃ v, e = .returned (.tuple #[.string r.1, v]) ∧ IsErrO w' (Fresh w w') v r.2 ∧ Keeps (fun _ => False) w w'
def NameXPost (r : ByteArray × ErrO) (w : World) (e : Ending) (w' : World) : Prop := ∃ v, e = .returned (.tuple #[.string r.1, v]) ∧ IsXO w' (Fresh w w') v r.2 ∧ Keeps (fun _ => False) w w'
end Go.Tx
namespace Go.Proofs.Ytnmhodejffpblaa
open Go.RowKit Go.Tx
set_option maxRecDepth 100000 in
set_option maxHeartbeats 400000 in
theorem name_low {w : World} {b : Nat} {E : Nat → Prop} {l : List ByteArray} (n : Int) (h : IsAtoms w b E l) (h1 : n < 0) :
    Calls Try.prog 27 #[.pointer (some ⟨b, 0, none⟩), .int .i64 n] w (NamePost (⟨#[]⟩, some ([(⟨#[97, 116, 111, 109]⟩, n)], 3)) w) := by
  obtain ⟨la, lc, c4, hr⟩ := h.list
  have hbw := h.lt b h.own
  have HR := Lib.hid hr
  have g1 : decide (n < 0) = true := decide_eq_true h1
  clear h hr h1
  go_enter Try.func27, Try.ntmps27
  go_wp2_with (first | (with_reducible refine wp_region_text (by kernel_rfl) (by kernel_rfl) ?_) | (with_reducible refine text_fin (by kernel_rfl) ?_) | (go_at_call 35; refine (at_any _ _ _ _ _).mono ?_; rintro e w3 ⟨rfl, rfl⟩))
  go_ret2
  exact ⟨_, rfl, ⟨(isErr_new w ⟨#[97, 116, 111, 109]⟩ n (.iface 53 (.int .i64 3)) [] 3 (fun _ => False) rfl).mono (fun x hx => by rcases hx with rfl | hx; exact ⟨Nat.le_refl _, by rw [World.size_alloc]; omega⟩; exact hx.elim), by simp⟩, (Keeps.refl _ w).alloc _⟩
set_option maxRecDepth 100000 in
set_option maxHeartbeats 400000 in
theorem name_high {w : World} {b : Nat} {E : Nat → Prop} {l : List ByteArray} (n : Int) (h : IsAtoms w b E l) (h1 : 0 ≤ n) (h2 : (l.length : Int) ≤ n) :
    Calls Try.prog 27 #[.pointer (some ⟨b, 0, none⟩), .int .i64 n] w (NamePost (⟨#[]⟩, some ([(⟨#[97, 116, 111, 109]⟩, n)], 3)) w) := by
  obtain ⟨la, lc, c4, hr⟩ := h.list
  have hbw := h.lt b h.own
  have HR := Lib.hid hr
  have g1 : decide (n < 0) = false := decide_eq_false (by omega)
  have g2 : decide ((l.length : Int) ≤ n) = true := decide_eq_true h2
  clear h hr h1 h2
  go_enter Try.func27, Try.ntmps27
  go_wp2_with (first | (with_reducible refine wp_region_text (by kernel_rfl) (by kernel_rfl) ?_) | (with_reducible refine text_fin (by kernel_rfl) ?_) | (go_at_call 35; refine (at_any _ _ _ _ _).mono ?_; rintro e w3 ⟨rfl, rfl⟩))
  go_ret2
  exact ⟨_, rfl, ⟨(isErr_new w ⟨#[97, 116, 111, 109]⟩ n (.iface 53 (.int .i64 3)) [] 3 (fun _ => False) rfl).mono (fun x hx => by rcases hx with rfl | hx; exact ⟨Nat.le_refl _, by rw [World.size_alloc]; omega⟩; exact hx.elim), by simp⟩, (Keeps.refl _ w).alloc _⟩
set_option maxRecDepth 100000 in
set_option maxHeartbeats 400000 in
theorem name_some {w : World} {b : Nat} {E : Nat → Prop} {l : List ByteArray} (n : Int) (h : IsAtoms w b E l) (i : Nat) (hn : n = i) (t : ByteArray) (ht : l[i]? = some t) :
    Calls Try.prog 27 #[.pointer (some ⟨b, 0, none⟩), .int .i64 n] w (NamePost (t, none) w) := by
  obtain ⟨la, lc, c4, hr⟩ := h.list
  have hbw := h.lt b h.own
  have HR := Lib.hid hr
  subst hn
  have hil : i < l.length := (List.getElem?_eq_some_iff.1 ht).1
  have g1 : decide ((i : Int) < 0) = false := decide_eq_false (by omega)
  have g2 : decide ((l.length : Int) ≤ (i : Int)) = false := decide_eq_false (by omega)
  obtain ⟨g, c2, e1, _, _⟩ := hr.form (by omega)
  obtain ⟨rfl, rfl⟩ : la = some ⟨g, 0, none⟩ ∧ lc = c2 := by cases e1; exact ⟨rfl, rfl⟩
  have d0 := hr.cell3 (i := i) (v := .string t) (by simp [nameCells, ht])
  clear h hr e1 ht
  go_enter Try.func27, Try.ntmps27
  go_wp2_with (first | (with_reducible refine wp_region_text (by kernel_rfl) (by kernel_rfl) ?_) | (with_reducible refine text_fin (by kernel_rfl) ?_))
  go_ret2
  exact ⟨_, rfl, rfl, Keeps.refl _ _⟩
theorem name_ask {w : World} {b : Nat} {E : Nat → Prop} {l : List ByteArray} (n : Int) (h : IsAtoms w b E l) :
    Calls Try.prog 27 #[.pointer (some ⟨b, 0, none⟩), .int .i64 n] w (NamePost (nameAt l n) w) := by
  unfold nameAt
  by_cases h1 : n < 0
  · rw [if_pos (.inl h1)]; exact name_low n h h1
  · by_cases h2 : (l.length : Int) ≤ n
    · rw [if_pos (.inr h2)]; exact name_high n h (by omega) h2
    · rw [if_neg (by omega)]
      have hi : n.toNat < l.length := by omega
      rw [List.getD_eq_getElem?_getD, List.getElem?_eq_getElem hi]
      exact name_some n h n.toNat (by omega) _ (List.getElem?_eq_getElem hi)
set_option maxRecDepth 100000 in
set_option maxHeartbeats 400000 in
theorem rname_low {w : World} {b : Nat} {E : Nat → Prop} {l : List ByteArray} (n : Int) (h : IsNames w b E l) (h1 : n < 0) :
    Calls Try.prog 28 #[.pointer (some ⟨b, 0, none⟩), .int .i64 n] w (NameXPost (⟨#[]⟩, some ([(⟨#[97, 116, 111, 109]⟩, n)], 3)) w) := by
  obtain ⟨la, lc, c4, hr⟩ := h.list
  have hbw := h.lt b h.own
  have HR := Lib.hid hr
  have g1 : decide (n < 0) = true := decide_eq_true h1
  clear h hr h1
  go_enter Try.func28, Try.ntmps28
  go_wp2_with (first | (with_reducible refine wp_region_text (by kernel_rfl) (by kernel_rfl) ?_) | (with_reducible refine text_fin (by kernel_rfl) ?_) | (go_at_call 46; refine (K_any _ _).mono ?_; rintro e w1 ⟨rfl, rfl⟩) | (go_at_call 45; refine (f4_any _ _ _ _).mono ?_; rintro e w2 ⟨rfl, rfl⟩))
  go_ret2
  obtain ⟨v, he, h1, h2⟩ := isX_one (w := w) (op := ⟨#[97, 116, 111, 109]⟩) (n := n) (k := 3) (f := (.tuple #[.string ⟨#[]⟩, ·])) rfl rfl
  exact ⟨v, he, ⟨h1, by simp⟩, h2⟩
set_option maxRecDepth 100000 in
set_option maxHeartbeats 400000 in
theorem rname_high {w : World} {b : Nat} {E : Nat → Prop} {l : List ByteArray} (n : Int) (h : IsNames w b E l) (h1 : 0 ≤ n) (h2 : (l.length : Int) ≤ n) :
    Calls Try.prog 28 #[.pointer (some ⟨b, 0, none⟩), .int .i64 n] w (NameXPost (⟨#[]⟩, some ([(⟨#[97, 116, 111, 109]⟩, n)], 3)) w) := by
  obtain ⟨la, lc, c4, hr⟩ := h.list
  have hbw := h.lt b h.own
  have HR := Lib.hid hr
  have g1 : decide (n < 0) = false := decide_eq_false (by omega)
  have g2 : decide ((l.length : Int) ≤ n) = true := decide_eq_true h2
  clear h hr h1 h2
  go_enter Try.func28, Try.ntmps28
  go_wp2_with (first | (with_reducible refine wp_region_text (by kernel_rfl) (by kernel_rfl) ?_) | (with_reducible refine text_fin (by kernel_rfl) ?_) | (go_at_call 46; refine (K_any _ _).mono ?_; rintro e w1 ⟨rfl, rfl⟩) | (go_at_call 45; refine (f4_any _ _ _ _).mono ?_; rintro e w2 ⟨rfl, rfl⟩))
  go_ret2
  obtain ⟨v, he, h1, h2⟩ := isX_one (w := w) (op := ⟨#[97, 116, 111, 109]⟩) (n := n) (k := 3) (f := (.tuple #[.string ⟨#[]⟩, ·])) rfl rfl
  exact ⟨v, he, ⟨h1, by simp⟩, h2⟩
set_option maxRecDepth 100000 in
set_option maxHeartbeats 400000 in
theorem rname_some {w : World} {b : Nat} {E : Nat → Prop} {l : List ByteArray} (n : Int) (h : IsNames w b E l) (i : Nat) (hn : n = i) (t : ByteArray) (ht : l[i]? = some t) :
    Calls Try.prog 28 #[.pointer (some ⟨b, 0, none⟩), .int .i64 n] w (NameXPost (t, none) w) := by
  obtain ⟨la, lc, c4, hr⟩ := h.list
  have hbw := h.lt b h.own
  have HR := Lib.hid hr
  subst hn
  have hil : i < l.length := (List.getElem?_eq_some_iff.1 ht).1
  have g1 : decide ((i : Int) < 0) = false := decide_eq_false (by omega)
  have g2 : decide ((l.length : Int) ≤ (i : Int)) = false := decide_eq_false (by omega)
  obtain ⟨g, c2, e1, _, _⟩ := hr.form (by omega)
  obtain ⟨rfl, rfl⟩ : la = some ⟨g, 0, none⟩ ∧ lc = c2 := by cases e1; exact ⟨rfl, rfl⟩
  have d0 := hr.cell3 (i := i) (v := .string t) (by simp [nameCells, ht])
  clear h hr e1 ht
  go_enter Try.func28, Try.ntmps28
  go_wp2_with (first | (with_reducible refine wp_region_text (by kernel_rfl) (by kernel_rfl) ?_) | (with_reducible refine text_fin (by kernel_rfl) ?_))
  go_ret2
  exact ⟨_, rfl, rfl, Keeps.refl _ _⟩
theorem rname_ask {w : World} {b : Nat} {E : Nat → Prop} {l : List ByteArray} (n : Int) (h : IsNames w b E l) :
    Calls Try.prog 28 #[.pointer (some ⟨b, 0, none⟩), .int .i64 n] w (NameXPost (nameAt l n) w) := by
  unfold nameAt
  by_cases h1 : n < 0
  · rw [if_pos (.inl h1)]; exact rname_low n h h1
  · by_cases h2 : (l.length : Int) ≤ n
    · rw [if_pos (.inr h2)]; exact rname_high n h (by omega) h2
    · rw [if_neg (by omega)]
      have hi : n.toNat < l.length := by omega
      rw [List.getD_eq_getElem?_getD, List.getElem?_eq_getElem hi]
      exact rname_some n h n.toNat (by omega) _ (List.getElem?_eq_getElem hi)
set_option maxHeartbeats 400000 in
theorem len_any {w : World} {b : Nat} {E : Nat → Prop} {l : List ByteArray} (h : IsAtoms w b E l) :
    Calls Try.prog 16 #[.pointer (some ⟨b, 0, none⟩)] w fun e w' => e = .returned (.int .i64 l.length) ∧ w' = w := by
  obtain ⟨la, lc, c4, _⟩ := h.list
  have hbw := h.lt b h.own
  clear h
  go_enter Try.func16, Try.ntmps16
  go_wp2
  go_ret
  exact ⟨rfl, rfl⟩
set_option maxHeartbeats 400000 in
theorem newAtoms_any (w : World) : Calls Try.prog 18 #[] w fun e w' => e = .returned (.pointer (some ⟨w.heap.size, 0, none⟩)) ∧ IsAtoms w' w.heap.size (fun x => x = w.heap.size) [] ∧ Keeps (fun _ => False) w w' ∧ w'.heap.size = w.heap.size + 1 := by
  go_enter Try.func18, Try.ntmps18
  go_wp2
  go_ret
  exact ⟨rfl, ⟨by simp, by simp, rfl, fun x hx => by rw [World.size_alloc]; omega, .inl ⟨rfl, Blk.new w _ _⟩⟩, (Keeps.refl _ w).alloc _, World.size_alloc ..⟩
end Go.Proofs.Ytnmhodejffpblaa

/-
  Which term a word is: what the Go code does (word.Plain), way by way.
-/
import Derived.Test.YtnmhodejffpblaaSm
import Derived.Test.YtnmhodejffpblaaBo
namespace Go.Tx
open Go Go.RowKit
/-- an answer: a term without parts, whether, what is wrong -/
abbrev LeafO := (Int × Int × ByteArray) × Bool × ErrO
def LeafPost (r : LeafO) (w : World) (e : Ending) (w' : World) : Prop := ∃ v, e = .returned (.tuple #[leaf r.1.1 r.1.2.1 r.1.2.2, .bool r.2.1, v]) ∧ IsErrO w' (Fresh w w') v r.2.2 ∧ Keeps (fun _ => False) w w'
def LeafXPost (r : LeafO) (w : World) (e : Ending) (w' : World) : Prop := ∃ v, e = .returned (.tuple #[leaf r.1.1 r.1.2.1 r.1.2.2, .bool r.2.1, v]) ∧ IsXO w' (Fresh w w') v r.2.2 ∧ Keeps (fun _ => False) w w'
def plainErr (r k : Int) : LeafO := ((0, 0, ⟨#[]⟩), false, some ([(⟨#[112, 108, 97, 105, 110]⟩, r)], k))
def cell6 (k n : Int) (s : ByteArray) : Obj := .cells #[.int .i64 k, .int .i64 n, .string s, .slice none 0 0, .slice none 0 0, .slice none 0 0] 26
def leafCells (k n : Int) (s : ByteArray) : List Value := [.int .i64 k, .int .i64 n, .string s, .slice none 0 0, .slice none 0 0, .slice none 0 0]
end Go.Tx
namespace Go.Proofs.Ytnmhodejffpblaa
open Go.RowKit Go.Tx
theorem plain_err (w : World) (o : Obj) (r k : Int) (g : Nat) (hg : g = w.heap.size + 1) : IsErrO ((w.alloc o).alloc (.cells #[.string ⟨#[112, 108, 97, 105, 110]⟩, .int .i64 r, .iface 53 (.int .i64 k)] 55)) (Fresh w ((w.alloc o).alloc (.cells #[.string ⟨#[112, 108, 97, 105, 110]⟩, .int .i64 r, .iface 53 (.int .i64 k)] 55))) (.iface 52 (.pointer (some ⟨g, 0, none⟩))) (some ([(⟨#[112, 108, 97, 105, 110]⟩, r)], k)) := by
  subst hg
  have h := isErr_new (w.alloc o) ⟨#[112, 108, 97, 105, 110]⟩ r (.iface 53 (.int .i64 k)) [] k (fun _ => False) rfl
  rw [World.size_alloc] at h
  refine ⟨h.mono fun x hx => ?_, by simp⟩
  rcases hx with rfl | hx
  · exact ⟨by omega, by rw [World.size_alloc, World.size_alloc]; omega⟩
  · exact hx.elim
set_option maxRecDepth 100000 in
set_option maxHeartbeats 400000 in
theorem name_same {w : World} {b : Nat} {E : Nat → Prop} {l : List ByteArray} (h : IsAtoms w b E l) (i : Nat) (t : ByteArray) (ht : l[i]? = some t) :
    Calls Try.prog 27 #[.pointer (some ⟨b, 0, none⟩), .int .i64 i] w fun e w' => e = .returned (.tuple #[.string t, .nilIface]) ∧ w' = w := by
  obtain ⟨la, lc, c4, hr⟩ := h.list
  have hbw := h.lt b h.own
  have hil : i < l.length := (List.getElem?_eq_some_iff.1 ht).1
  have g1 : decide ((i : Int) < 0) = false := decide_eq_false (by omega)
  have g2 : decide ((l.length : Int) ≤ (i : Int)) = false := decide_eq_false (by omega)
  obtain ⟨g, c2, e1, _, _⟩ := hr.form (by omega)
  obtain ⟨rfl, rfl⟩ : la = some ⟨g, 0, none⟩ ∧ lc = c2 := by cases e1; exact ⟨rfl, rfl⟩
  have d0 := hr.cell3 (i := i) (v := .string t) (by simp [nameCells, ht])
  clear h hr e1 ht
  go_enter Try.func27, Try.ntmps27
  go_wp2_with (first | (with_reducible refine wp_region_text (by kernel_rfl) (by kernel_rfl) ?_) | (with_reducible refine text_fin (by kernel_rfl) ?_))
  go_ret2
  exact ⟨rfl, rfl⟩
set_option maxRecDepth 100000 in
set_option maxHeartbeats 800000 in
theorem plain0 {w : World} {b : Nat} {E : Nat → Prop} {l : List ByteArray} (h : IsAtoms w b E l) (x n : Int) (h0 : 0 ≤ x) (h1 : x < 18446744073709551616) (hn : wrap64 x / 8 = n) (hr : x % 8 = 0)  :
    Calls Try.prog 29 #[.int .u64 x, .pointer (some ⟨b, 0, none⟩)] w (LeafPost ((1, n, ⟨#[]⟩), true, none) w) := by
  have a7 := u64_and7 x h0 h1
  rw [hr] at a7
  have HA : Hid (∀ o, IsAtoms (w.alloc o) b E l) := Lib.hid fun o => h.keeps ((Keeps.refl (fun _ => False) w).alloc o) fun _ _ h => h
  clear h h0 h1 hr
  go_enter Try.func29, Try.ntmps29
  go_wp2_with (first | (with_reducible refine wp_region_text (by kernel_rfl) (by kernel_rfl) ?_) | (with_reducible refine text_fin (by kernel_rfl) ?_) | (go_at_call 35; refine (at_any _ _ _ _ _).mono ?_; rintro e w3 ⟨rfl, rfl⟩))
  exact bodyPost_ret (results_cellN rfl _ ⟨w.heap.size, 0, none⟩ rfl (leaf 1 n ⟨#[]⟩) (load_at (Blk.new w (leafCells 1 n ⟨#[]⟩) _))) rfl ⟨_, rfl, rfl, (Keeps.refl _ w).alloc _⟩
set_option maxRecDepth 100000 in
set_option maxHeartbeats 800000 in
theorem plain1n {w : World} {b : Nat} {E : Nat → Prop} {l : List ByteArray} (h : IsAtoms w b E l) (x n : Int) (h0 : 0 ≤ x) (h1 : x < 18446744073709551616) (hn : wrap64 x / 8 = n) (hr : x % 8 = 1) (hl : n < 0) :
    Calls Try.prog 29 #[.int .u64 x, .pointer (some ⟨b, 0, none⟩)] w (LeafPost (plainErr 1 3) w) := by
  have a7 := u64_and7 x h0 h1
  rw [hr] at a7
  have HA : Hid (∀ o, IsAtoms (w.alloc o) b E l) := Lib.hid fun o => h.keeps ((Keeps.refl (fun _ => False) w).alloc o) fun _ _ h => h
  have g1 : decide (n < 0) = true := decide_eq_true hl
  have g2 : decide (0 ≤ n) = false := decide_eq_false (by omega)
  clear hl
  clear h h0 h1 hr
  go_enter Try.func29, Try.ntmps29
  go_wp2_with (first | (with_reducible refine wp_region_text (by kernel_rfl) (by kernel_rfl) ?_) | (with_reducible refine text_fin (by kernel_rfl) ?_) | (go_at_call 35; refine (at_any _ _ _ _ _).mono ?_; rintro e w3 ⟨rfl, rfl⟩))
  exact bodyPost_ret (results_cellN rfl _ ⟨w.heap.size, 0, none⟩ rfl (leaf 0 0 ⟨#[]⟩) (load_at ((Blk.new w (leafCells 0 0 ⟨#[]⟩) _).alloc _))) rfl ⟨_, rfl, plain_err w _ _ _ _ rfl, ((Keeps.refl _ w).alloc _).alloc _⟩
set_option maxRecDepth 100000 in
set_option maxHeartbeats 800000 in
theorem plain1h {w : World} {b : Nat} {E : Nat → Prop} {l : List ByteArray} (h : IsAtoms w b E l) (x n : Int) (h0 : 0 ≤ x) (h1 : x < 18446744073709551616) (hn : wrap64 x / 8 = n) (hr : x % 8 = 1) (hl : 0 ≤ n) (hm : (l.length : Int) ≤ n) :
    Calls Try.prog 29 #[.int .u64 x, .pointer (some ⟨b, 0, none⟩)] w (LeafPost (plainErr 1 3) w) := by
  have a7 := u64_and7 x h0 h1
  rw [hr] at a7
  have HA : Hid (∀ o, IsAtoms (w.alloc o) b E l) := Lib.hid fun o => h.keeps ((Keeps.refl (fun _ => False) w).alloc o) fun _ _ h => h
  have g1 : decide (n < 0) = false := decide_eq_false (by omega)
  have g2 : decide (0 ≤ n) = true := decide_eq_true hl
  clear hl
  have g3 : decide ((l.length : Int) ≤ n) = true := decide_eq_true hm
  clear hm
  clear h h0 h1 hr
  go_enter Try.func29, Try.ntmps29
  go_wp2_with (first | (go_at_call 16; refine (len_any (HA.out _)).mono ?_; rintro e w2 ⟨rfl, rfl⟩) | (with_reducible refine wp_region_text (by kernel_rfl) (by kernel_rfl) ?_) | (with_reducible refine text_fin (by kernel_rfl) ?_) | (go_at_call 35; refine (at_any _ _ _ _ _).mono ?_; rintro e w3 ⟨rfl, rfl⟩))
  exact bodyPost_ret (results_cellN rfl _ ⟨w.heap.size, 0, none⟩ rfl (leaf 0 0 ⟨#[]⟩) (load_at ((Blk.new w (leafCells 0 0 ⟨#[]⟩) _).alloc _))) rfl ⟨_, rfl, plain_err w _ _ _ _ rfl, ((Keeps.refl _ w).alloc _).alloc _⟩
set_option maxRecDepth 100000 in
set_option maxHeartbeats 800000 in
theorem plain1s {w : World} {b : Nat} {E : Nat → Prop} {l : List ByteArray} (h : IsAtoms w b E l) (x : Int) (h0 : 0 ≤ x) (h1 : x < 18446744073709551616) (i : Nat) (t : ByteArray) (hn : wrap64 x / 8 = (i : Int)) (hr : x % 8 = 1) (ht : l[i]? = some t) :
    Calls Try.prog 29 #[.int .u64 x, .pointer (some ⟨b, 0, none⟩)] w (LeafPost ((2, 0, t), true, none) w) := by
  have a7 := u64_and7 x h0 h1
  rw [hr] at a7
  have HA : Hid (∀ o, IsAtoms (w.alloc o) b E l) := Lib.hid fun o => h.keeps ((Keeps.refl (fun _ => False) w).alloc o) fun _ _ h => h
  have hil : i < l.length := (List.getElem?_eq_some_iff.1 ht).1
  have hfew := h.few
  have hw : wrap64 (i : Int) = i := by unfold wrap64; omega
  have g1 : decide ((i : Int) < 0) = false := decide_eq_false (by omega)
  have g3 : decide ((l.length : Int) ≤ (i : Int)) = false := decide_eq_false (by omega)
  have g4 : decide (l.length ≤ i) = false := decide_eq_false (by omega)
  have g5 : l.length ≤ i ↔ False := ⟨fun h => by omega, False.elim⟩
  have HT := Lib.hid ht
  clear ht hil hfew
  clear h h0 h1 hr
  go_enter Try.func29, Try.ntmps29
  go_wp2_with (first | (go_at_call 16; refine (len_any (HA.out _)).mono ?_; rintro e w2 ⟨rfl, rfl⟩) | (go_at_call 27; refine (name_same (HA.out _) i t HT.out).mono ?_; rintro e w2 ⟨rfl, rfl⟩) | (with_reducible refine wp_region_text (by kernel_rfl) (by kernel_rfl) ?_) | (with_reducible refine text_fin (by kernel_rfl) ?_) | (go_at_call 35; refine (at_any _ _ _ _ _).mono ?_; rintro e w3 ⟨rfl, rfl⟩))
  exact bodyPost_ret (results_cellN rfl _ ⟨w.heap.size, 0, none⟩ rfl (leaf 2 0 t) (load_at (Blk.new w (leafCells 2 0 t) _))) rfl ⟨_, rfl, rfl, (Keeps.refl _ w).alloc _⟩
set_option maxRecDepth 100000 in
set_option maxHeartbeats 800000 in
theorem plain2n {w : World} {b : Nat} {E : Nat → Prop} {l : List ByteArray} (h : IsAtoms w b E l) (x n : Int) (h0 : 0 ≤ x) (h1 : x < 18446744073709551616) (hn : wrap64 x / 8 = n) (hr : x % 8 = 2) (hl : n < 0) :
    Calls Try.prog 29 #[.int .u64 x, .pointer (some ⟨b, 0, none⟩)] w (LeafPost (plainErr 2 1) w) := by
  have a7 := u64_and7 x h0 h1
  rw [hr] at a7
  have HA : Hid (∀ o, IsAtoms (w.alloc o) b E l) := Lib.hid fun o => h.keeps ((Keeps.refl (fun _ => False) w).alloc o) fun _ _ h => h
  have g1 : decide (n < 0) = true := decide_eq_true hl
  have g2 : decide (0 ≤ n) = false := decide_eq_false (by omega)
  clear hl
  clear h h0 h1 hr
  go_enter Try.func29, Try.ntmps29
  go_wp2_with (first | (with_reducible refine wp_region_text (by kernel_rfl) (by kernel_rfl) ?_) | (with_reducible refine text_fin (by kernel_rfl) ?_) | (go_at_call 35; refine (at_any _ _ _ _ _).mono ?_; rintro e w3 ⟨rfl, rfl⟩))
  exact bodyPost_ret (results_cellN rfl _ ⟨w.heap.size, 0, none⟩ rfl (leaf 0 0 ⟨#[]⟩) (load_at ((Blk.new w (leafCells 0 0 ⟨#[]⟩) _).alloc _))) rfl ⟨_, rfl, plain_err w _ _ _ _ rfl, ((Keeps.refl _ w).alloc _).alloc _⟩
set_option maxRecDepth 100000 in
set_option maxHeartbeats 800000 in
theorem plain2p {w : World} {b : Nat} {E : Nat → Prop} {l : List ByteArray} (h : IsAtoms w b E l) (x n : Int) (h0 : 0 ≤ x) (h1 : x < 18446744073709551616) (hn : wrap64 x / 8 = n) (hr : x % 8 = 2) (hl : 0 ≤ n) :
    Calls Try.prog 29 #[.int .u64 x, .pointer (some ⟨b, 0, none⟩)] w (LeafPost ((4, n, ⟨#[]⟩), true, none) w) := by
  have a7 := u64_and7 x h0 h1
  rw [hr] at a7
  have HA : Hid (∀ o, IsAtoms (w.alloc o) b E l) := Lib.hid fun o => h.keeps ((Keeps.refl (fun _ => False) w).alloc o) fun _ _ h => h
  have g1 : decide (n < 0) = false := decide_eq_false (by omega)
  have g2 : decide (0 ≤ n) = true := decide_eq_true hl
  clear hl
  clear h h0 h1 hr
  go_enter Try.func29, Try.ntmps29
  go_wp2_with (first | (with_reducible refine wp_region_text (by kernel_rfl) (by kernel_rfl) ?_) | (with_reducible refine text_fin (by kernel_rfl) ?_) | (go_at_call 35; refine (at_any _ _ _ _ _).mono ?_; rintro e w3 ⟨rfl, rfl⟩))
  exact bodyPost_ret (results_cellN rfl _ ⟨w.heap.size, 0, none⟩ rfl (leaf 4 n ⟨#[]⟩) (load_at (Blk.new w (leafCells 4 n ⟨#[]⟩) _))) rfl ⟨_, rfl, rfl, (Keeps.refl _ w).alloc _⟩
set_option maxRecDepth 100000 in
set_option maxHeartbeats 800000 in
theorem plain3n {w : World} {b : Nat} {E : Nat → Prop} {l : List ByteArray} (h : IsAtoms w b E l) (x n : Int) (h0 : 0 ≤ x) (h1 : x < 18446744073709551616) (hn : wrap64 x / 8 = n) (hr : x % 8 = 3) (hl : n < 0) :
    Calls Try.prog 29 #[.int .u64 x, .pointer (some ⟨b, 0, none⟩)] w (LeafPost (plainErr 3 1) w) := by
  have a7 := u64_and7 x h0 h1
  rw [hr] at a7
  have HA : Hid (∀ o, IsAtoms (w.alloc o) b E l) := Lib.hid fun o => h.keeps ((Keeps.refl (fun _ => False) w).alloc o) fun _ _ h => h
  have g1 : decide (n < 0) = true := decide_eq_true hl
  have g2 : decide (0 ≤ n) = false := decide_eq_false (by omega)
  clear hl
  clear h h0 h1 hr
  go_enter Try.func29, Try.ntmps29
  go_wp2_with (first | (with_reducible refine wp_region_text (by kernel_rfl) (by kernel_rfl) ?_) | (with_reducible refine text_fin (by kernel_rfl) ?_) | (go_at_call 35; refine (at_any _ _ _ _ _).mono ?_; rintro e w3 ⟨rfl, rfl⟩))
  exact bodyPost_ret (results_cellN rfl _ ⟨w.heap.size, 0, none⟩ rfl (leaf 0 0 ⟨#[]⟩) (load_at ((Blk.new w (leafCells 0 0 ⟨#[]⟩) _).alloc _))) rfl ⟨_, rfl, plain_err w _ _ _ _ rfl, ((Keeps.refl _ w).alloc _).alloc _⟩
set_option maxRecDepth 100000 in
set_option maxHeartbeats 800000 in
theorem plain3p {w : World} {b : Nat} {E : Nat → Prop} {l : List ByteArray} (h : IsAtoms w b E l) (x n : Int) (h0 : 0 ≤ x) (h1 : x < 18446744073709551616) (hn : wrap64 x / 8 = n) (hr : x % 8 = 3) (hl : 0 ≤ n) :
    Calls Try.prog 29 #[.int .u64 x, .pointer (some ⟨b, 0, none⟩)] w (LeafPost ((3, n, ⟨#[]⟩), true, none) w) := by
  have a7 := u64_and7 x h0 h1
  rw [hr] at a7
  have HA : Hid (∀ o, IsAtoms (w.alloc o) b E l) := Lib.hid fun o => h.keeps ((Keeps.refl (fun _ => False) w).alloc o) fun _ _ h => h
  have g1 : decide (n < 0) = false := decide_eq_false (by omega)
  have g2 : decide (0 ≤ n) = true := decide_eq_true hl
  clear hl
  clear h h0 h1 hr
  go_enter Try.func29, Try.ntmps29
  go_wp2_with (first | (with_reducible refine wp_region_text (by kernel_rfl) (by kernel_rfl) ?_) | (with_reducible refine text_fin (by kernel_rfl) ?_) | (go_at_call 35; refine (at_any _ _ _ _ _).mono ?_; rintro e w3 ⟨rfl, rfl⟩))
  exact bodyPost_ret (results_cellN rfl _ ⟨w.heap.size, 0, none⟩ rfl (leaf 3 n ⟨#[]⟩) (load_at (Blk.new w (leafCells 3 n ⟨#[]⟩) _))) rfl ⟨_, rfl, rfl, (Keeps.refl _ w).alloc _⟩
set_option maxRecDepth 100000 in
set_option maxHeartbeats 800000 in
theorem plain4z {w : World} {b : Nat} {E : Nat → Prop} {l : List ByteArray} (h : IsAtoms w b E l) (x : Int) (h0 : 0 ≤ x) (h1 : x < 18446744073709551616) (hn : wrap64 x / 8 = 0) (hr : x % 8 = 4)  :
    Calls Try.prog 29 #[.int .u64 x, .pointer (some ⟨b, 0, none⟩)] w (LeafPost ((6, 0, ⟨#[]⟩), true, none) w) := by
  have a7 := u64_and7 x h0 h1
  rw [hr] at a7
  have HA : Hid (∀ o, IsAtoms (w.alloc o) b E l) := Lib.hid fun o => h.keeps ((Keeps.refl (fun _ => False) w).alloc o) fun _ _ h => h
  clear h h0 h1 hr
  go_enter Try.func29, Try.ntmps29
  go_wp2_with (first | (with_reducible refine wp_region_text (by kernel_rfl) (by kernel_rfl) ?_) | (with_reducible refine text_fin (by kernel_rfl) ?_) | (go_at_call 35; refine (at_any _ _ _ _ _).mono ?_; rintro e w3 ⟨rfl, rfl⟩))
  exact bodyPost_ret (results_cellN rfl _ ⟨w.heap.size, 0, none⟩ rfl (leaf 6 0 ⟨#[]⟩) (load_at (Blk.new w (leafCells 6 0 ⟨#[]⟩) _))) rfl ⟨_, rfl, rfl, (Keeps.refl _ w).alloc _⟩
set_option maxRecDepth 100000 in
set_option maxHeartbeats 800000 in
theorem plain4x {w : World} {b : Nat} {E : Nat → Prop} {l : List ByteArray} (h : IsAtoms w b E l) (x n : Int) (h0 : 0 ≤ x) (h1 : x < 18446744073709551616) (hn : wrap64 x / 8 = n) (hr : x % 8 = 4) (hl : n ≠ 0) :
    Calls Try.prog 29 #[.int .u64 x, .pointer (some ⟨b, 0, none⟩)] w (LeafPost (plainErr 4 1) w) := by
  have a7 := u64_and7 x h0 h1
  rw [hr] at a7
  have HA : Hid (∀ o, IsAtoms (w.alloc o) b E l) := Lib.hid fun o => h.keeps ((Keeps.refl (fun _ => False) w).alloc o) fun _ _ h => h
  have g1 : (n == 0) = false := by simpa using hl
  clear hl
  clear h h0 h1 hr
  go_enter Try.func29, Try.ntmps29
  go_wp2_with (first | (with_reducible refine wp_region_text (by kernel_rfl) (by kernel_rfl) ?_) | (with_reducible refine text_fin (by kernel_rfl) ?_) | (go_at_call 35; refine (at_any _ _ _ _ _).mono ?_; rintro e w3 ⟨rfl, rfl⟩))
  exact bodyPost_ret (results_cellN rfl _ ⟨w.heap.size, 0, none⟩ rfl (leaf 0 0 ⟨#[]⟩) (load_at ((Blk.new w (leafCells 0 0 ⟨#[]⟩) _).alloc _))) rfl ⟨_, rfl, plain_err w _ _ _ _ rfl, ((Keeps.refl _ w).alloc _).alloc _⟩
set_option maxRecDepth 100000 in
set_option maxHeartbeats 800000 in
theorem plain5 {w : World} {b : Nat} {E : Nat → Prop} {l : List ByteArray} (h : IsAtoms w b E l) (x n : Int) (h0 : 0 ≤ x) (h1 : x < 18446744073709551616) (hn : wrap64 x / 8 = n) (hr : x % 8 = 5)  :
    Calls Try.prog 29 #[.int .u64 x, .pointer (some ⟨b, 0, none⟩)] w (LeafPost ((0, 0, ⟨#[]⟩), false, none) w) := by
  have a7 := u64_and7 x h0 h1
  rw [hr] at a7
  have HA : Hid (∀ o, IsAtoms (w.alloc o) b E l) := Lib.hid fun o => h.keeps ((Keeps.refl (fun _ => False) w).alloc o) fun _ _ h => h
  clear h h0 h1 hr
  go_enter Try.func29, Try.ntmps29
  go_wp2_with (first | (with_reducible refine wp_region_text (by kernel_rfl) (by kernel_rfl) ?_) | (with_reducible refine text_fin (by kernel_rfl) ?_) | (go_at_call 35; refine (at_any _ _ _ _ _).mono ?_; rintro e w3 ⟨rfl, rfl⟩))
  exact bodyPost_ret (results_cellN rfl _ ⟨w.heap.size, 0, none⟩ rfl (leaf 0 0 ⟨#[]⟩) (load_at (Blk.new w (leafCells 0 0 ⟨#[]⟩) _))) rfl ⟨_, rfl, rfl, (Keeps.refl _ w).alloc _⟩
set_option maxRecDepth 100000 in
set_option maxHeartbeats 800000 in
theorem plain6 {w : World} {b : Nat} {E : Nat → Prop} {l : List ByteArray} (h : IsAtoms w b E l) (x n : Int) (h0 : 0 ≤ x) (h1 : x < 18446744073709551616) (hn : wrap64 x / 8 = n) (hr : x % 8 = 6)  :
    Calls Try.prog 29 #[.int .u64 x, .pointer (some ⟨b, 0, none⟩)] w (LeafPost ((0, 0, ⟨#[]⟩), false, none) w) := by
  have a7 := u64_and7 x h0 h1
  rw [hr] at a7
  have HA : Hid (∀ o, IsAtoms (w.alloc o) b E l) := Lib.hid fun o => h.keeps ((Keeps.refl (fun _ => False) w).alloc o) fun _ _ h => h
  clear h h0 h1 hr
  go_enter Try.func29, Try.ntmps29
  go_wp2_with (first | (with_reducible refine wp_region_text (by kernel_rfl) (by kernel_rfl) ?_) | (with_reducible refine text_fin (by kernel_rfl) ?_) | (go_at_call 35; refine (at_any _ _ _ _ _).mono ?_; rintro e w3 ⟨rfl, rfl⟩))
  exact bodyPost_ret (results_cellN rfl _ ⟨w.heap.size, 0, none⟩ rfl (leaf 0 0 ⟨#[]⟩) (load_at (Blk.new w (leafCells 0 0 ⟨#[]⟩) _))) rfl ⟨_, rfl, rfl, (Keeps.refl _ w).alloc _⟩
set_option maxRecDepth 100000 in
set_option maxHeartbeats 800000 in
theorem plain7 {w : World} {b : Nat} {E : Nat → Prop} {l : List ByteArray} (h : IsAtoms w b E l) (x n : Int) (h0 : 0 ≤ x) (h1 : x < 18446744073709551616) (hn : wrap64 x / 8 = n) (hr : x % 8 = 7)  :
    Calls Try.prog 29 #[.int .u64 x, .pointer (some ⟨b, 0, none⟩)] w (LeafPost ((0, 0, ⟨#[]⟩), false, none) w) := by
  have a7 := u64_and7 x h0 h1
  rw [hr] at a7
  have HA : Hid (∀ o, IsAtoms (w.alloc o) b E l) := Lib.hid fun o => h.keeps ((Keeps.refl (fun _ => False) w).alloc o) fun _ _ h => h
  clear h h0 h1 hr
  go_enter Try.func29, Try.ntmps29
  go_wp2_with (first | (with_reducible refine wp_region_text (by kernel_rfl) (by kernel_rfl) ?_) | (with_reducible refine text_fin (by kernel_rfl) ?_) | (go_at_call 35; refine (at_any _ _ _ _ _).mono ?_; rintro e w3 ⟨rfl, rfl⟩))
  exact bodyPost_ret (results_cellN rfl _ ⟨w.heap.size, 0, none⟩ rfl (leaf 0 0 ⟨#[]⟩) (load_at (Blk.new w (leafCells 0 0 ⟨#[]⟩) _))) rfl ⟨_, rfl, rfl, (Keeps.refl _ w).alloc _⟩
end Go.Proofs.Ytnmhodejffpblaa

/-
  Whether a term has just the fields that its kind has: what tree.fields does.
-/
import Derived.Test.YtnmhodejffpblaaTm
import Derived.Deep.DeepCutAuto
namespace Go.Tx
open Go Go.RowKit
section
variable (n : Int) (sl il rl bl : Nat) (rk : Int)
theorem okF_1 : okF 1 n sl il rl bl rk = decide (sl = 0 ∧ il = 0 ∧ rl = 0 ∧ bl = 0) := rfl
theorem okF_2 : okF 2 n sl il rl bl rk = decide (n = 0 ∧ 1 ≤ sl ∧ sl ≤ 255 ∧ il = 0 ∧ rl = 0 ∧ bl = 0) := rfl
theorem okF_3 : okF 3 n sl il rl bl rk = decide (0 ≤ n ∧ n < 1152921504606846976 ∧ sl = 0 ∧ il = 0 ∧ rl = 0 ∧ bl = 0) := rfl
theorem okF_4 : okF 4 n sl il rl bl rk = decide (0 ≤ n ∧ n < 1152921504606846976 ∧ sl = 0 ∧ il = 0 ∧ rl = 0 ∧ bl = 0) := rfl
theorem okF_5 : okF 5 n sl il rl bl rk = decide (n = 0 ∧ sl = 0 ∧ rl = 0 ∧ bl = 0) := rfl
theorem okF_6 : okF 6 n sl il rl bl rk = decide (n = 0 ∧ sl = 0 ∧ il = 0 ∧ rl = 0 ∧ bl = 0) := rfl
theorem okF_7 : okF 7 n sl il rl bl rk = decide (n = 0 ∧ sl = 0 ∧ bl = 0 ∧ il ≠ 0 ∧ rl ≤ 1 ∧ (rl = 1 → rk ≠ 7 ∧ rk ≠ 6)) := rfl
theorem okF_8 : okF 8 n sl il rl bl rk = decide (n = 0 ∧ sl = 0 ∧ il = 0 ∧ rl = 0) := rfl
end
end Go.Tx
namespace Go.Proofs.Ytnmhodejffpblaa
open Go.RowKit Go.Tx
set_option maxRecDepth 100000 in
set_option maxHeartbeats 400000 in
theorem fields_1 (w : World) (n : Int) (s : ByteArray) (ai ar ab : Option Addr) (il rl bl ci cr cb : Nat) (rk : Int) (hil : il ≤ 140737488355328) (hrl : rl ≤ 140737488355328) (hbl : bl ≤ 140737488355328) :
    Calls Try.prog 56 #[.agg #[.int .i64 1, .int .i64 n, .string s, .slice ai il ci, .slice ar rl cr, .slice ab bl cb]] w fun e w' => e = .returned (.bool (okF 1 n s.size il rl bl rk)) ∧ Keeps (fun _ => False) w w' := by
  have HK : Hid (∀ o, Keeps (fun _ => False) w (w.alloc o)) := Lib.hid fun o => (Keeps.refl _ w).alloc o
  by_cases h0 : s.size = 0
  · obtain rfl := size_nil h0
    clear h0
    go_enter Try.func56, Try.ntmps56
    go_wp2_with (first | (with_reducible refine wp_region_text (by kernel_rfl) (by kernel_rfl) ?_) | (with_reducible refine text_fin (by kernel_rfl) ?_))
    all_goals
      go_ret
      refine ⟨?_, (HK.out _).drew⟩
      refine congrArg (fun b => Ending.returned (Value.bool b)) ?_
      rw [okF_1, Bool.eq_iff_iff]
      try simp only [beq_iff_eq, decide_eq_true_eq, Bool.false_eq_true, empty_size, true_and, and_true]
      exact ⟨fun h => by first | exact h.elim | omega, fun h => by first | exact h.elim | omega⟩
  · have h1 : ¬ s.toList = [] := fun h => h0 (toList_nil.1 h)
    go_enter Try.func56, Try.ntmps56
    go_wp2_with (first | (with_reducible refine wp_region_text (by kernel_rfl) (by kernel_rfl) ?_) | (with_reducible refine text_fin (by kernel_rfl) ?_))
    all_goals
      go_ret
      refine ⟨?_, (HK.out _).drew⟩
      refine congrArg (fun b => Ending.returned (Value.bool b)) ?_
      rw [okF_1, Bool.eq_iff_iff]
      try simp only [beq_iff_eq, decide_eq_true_eq, Bool.false_eq_true, empty_size, true_and, and_true]
      exact ⟨fun h => by first | exact h.elim | omega, fun h => by first | exact h.elim | omega⟩
set_option maxRecDepth 100000 in
set_option maxHeartbeats 400000 in
theorem fields_2 (w : World) (n : Int) (s : ByteArray) (ai ar ab : Option Addr) (il rl bl ci cr cb : Nat) (rk : Int) (hil : il ≤ 140737488355328) (hrl : rl ≤ 140737488355328) (hbl : bl ≤ 140737488355328) :
    Calls Try.prog 56 #[.agg #[.int .i64 2, .int .i64 n, .string s, .slice ai il ci, .slice ar rl cr, .slice ab bl cb]] w fun e w' => e = .returned (.bool (okF 2 n s.size il rl bl rk)) ∧ Keeps (fun _ => False) w w' := by
  have HK : Hid (∀ o, Keeps (fun _ => False) w (w.alloc o)) := Lib.hid fun o => (Keeps.refl _ w).alloc o
  by_cases h0 : s.size = 0
  · obtain rfl := size_nil h0
    clear h0
    go_enter Try.func56, Try.ntmps56
    go_wp2_with (first | (with_reducible refine wp_region_text (by kernel_rfl) (by kernel_rfl) ?_) | (with_reducible refine text_fin (by kernel_rfl) ?_))
    all_goals
      go_ret
      refine ⟨?_, (HK.out _).drew⟩
      refine congrArg (fun b => Ending.returned (Value.bool b)) ?_
      rw [okF_2, Bool.eq_iff_iff]
      try simp only [beq_iff_eq, decide_eq_true_eq, Bool.false_eq_true, empty_size, true_and, and_true]
      exact ⟨fun h => by first | exact h.elim | omega, fun h => by first | exact h.elim | omega⟩
  · have h1 : ¬ s.toList = [] := fun h => h0 (toList_nil.1 h)
    go_enter Try.func56, Try.ntmps56
    go_wp2_with (first | (with_reducible refine wp_region_text (by kernel_rfl) (by kernel_rfl) ?_) | (with_reducible refine text_fin (by kernel_rfl) ?_))
    all_goals
      go_ret
      refine ⟨?_, (HK.out _).drew⟩
      refine congrArg (fun b => Ending.returned (Value.bool b)) ?_
      rw [okF_2, Bool.eq_iff_iff]
      try simp only [beq_iff_eq, decide_eq_true_eq, Bool.false_eq_true, empty_size, true_and, and_true]
      exact ⟨fun h => by first | exact h.elim | omega, fun h => by first | exact h.elim | omega⟩
set_option maxRecDepth 100000 in
set_option maxHeartbeats 400000 in
theorem fields_3 (w : World) (n : Int) (s : ByteArray) (ai ar ab : Option Addr) (il rl bl ci cr cb : Nat) (rk : Int) (hil : il ≤ 140737488355328) (hrl : rl ≤ 140737488355328) (hbl : bl ≤ 140737488355328) :
    Calls Try.prog 56 #[.agg #[.int .i64 3, .int .i64 n, .string s, .slice ai il ci, .slice ar rl cr, .slice ab bl cb]] w fun e w' => e = .returned (.bool (okF 3 n s.size il rl bl rk)) ∧ Keeps (fun _ => False) w w' := by
  have HK : Hid (∀ o, Keeps (fun _ => False) w (w.alloc o)) := Lib.hid fun o => (Keeps.refl _ w).alloc o
  by_cases h0 : s.size = 0
  · obtain rfl := size_nil h0
    clear h0
    go_enter Try.func56, Try.ntmps56
    go_wp2_with (first | (with_reducible refine wp_region_text (by kernel_rfl) (by kernel_rfl) ?_) | (with_reducible refine text_fin (by kernel_rfl) ?_))
    all_goals
      go_ret
      refine ⟨?_, (HK.out _).drew⟩
      refine congrArg (fun b => Ending.returned (Value.bool b)) ?_
      rw [okF_3, Bool.eq_iff_iff]
      try simp only [beq_iff_eq, decide_eq_true_eq, Bool.false_eq_true, empty_size, true_and, and_true]
      exact ⟨fun h => by first | exact h.elim | omega, fun h => by first | exact h.elim | omega⟩
  · have h1 : ¬ s.toList = [] := fun h => h0 (toList_nil.1 h)
    go_enter Try.func56, Try.ntmps56
    go_wp2_with (first | (with_reducible refine wp_region_text (by kernel_rfl) (by kernel_rfl) ?_) | (with_reducible refine text_fin (by kernel_rfl) ?_))
    all_goals
      go_ret
      refine ⟨?_, (HK.out _).drew⟩
      refine congrArg (fun b => Ending.returned (Value.bool b)) ?_
      rw [okF_3, Bool.eq_iff_iff]
      try simp only [beq_iff_eq, decide_eq_true_eq, Bool.false_eq_true, empty_size, true_and, and_true]
      exact ⟨fun h => by first | exact h.elim | omega, fun h => by first | exact h.elim | omega⟩
set_option maxRecDepth 100000 in
set_option maxHeartbeats 400000 in
theorem fields_4 (w : World) (n : Int) (s : ByteArray) (ai ar ab : Option Addr) (il rl bl ci cr cb : Nat) (rk : Int) (hil : il ≤ 140737488355328) (hrl : rl ≤ 140737488355328) (hbl : bl ≤ 140737488355328) :
    Calls Try.prog 56 #[.agg #[.int .i64 4, .int .i64 n, .string s, .slice ai il ci, .slice ar rl cr, .slice ab bl cb]] w fun e w' => e = .returned (.bool (okF 4 n s.size il rl bl rk)) ∧ Keeps (fun _ => False) w w' := by
  have HK : Hid (∀ o, Keeps (fun _ => False) w (w.alloc o)) := Lib.hid fun o => (Keeps.refl _ w).alloc o
  by_cases h0 : s.size = 0
  · obtain rfl := size_nil h0
    clear h0
    go_enter Try.func56, Try.ntmps56
    go_wp2_with (first | (with_reducible refine wp_region_text (by kernel_rfl) (by kernel_rfl) ?_) | (with_reducible refine text_fin (by kernel_rfl) ?_))
    all_goals
      go_ret
      refine ⟨?_, (HK.out _).drew⟩
      refine congrArg (fun b => Ending.returned (Value.bool b)) ?_
      rw [okF_4, Bool.eq_iff_iff]
      try simp only [beq_iff_eq, decide_eq_true_eq, Bool.false_eq_true, empty_size, true_and, and_true]
      exact ⟨fun h => by first | exact h.elim | omega, fun h => by first | exact h.elim | omega⟩
  · have h1 : ¬ s.toList = [] := fun h => h0 (toList_nil.1 h)
    go_enter Try.func56, Try.ntmps56
    go_wp2_with (first | (with_reducible refine wp_region_text (by kernel_rfl) (by kernel_rfl) ?_) | (with_reducible refine text_fin (by kernel_rfl) ?_))
    all_goals
      go_ret
      refine ⟨?_, (HK.out _).drew⟩
      refine congrArg (fun b => Ending.returned (Value.bool b)) ?_
      rw [okF_4, Bool.eq_iff_iff]
      try simp only [beq_iff_eq, decide_eq_true_eq, Bool.false_eq_true, empty_size, true_and, and_true]
      exact ⟨fun h => by first | exact h.elim | omega, fun h => by first | exact h.elim | omega⟩
set_option maxRecDepth 100000 in
set_option maxHeartbeats 400000 in
theorem fields_5 (w : World) (n : Int) (s : ByteArray) (ai ar ab : Option Addr) (il rl bl ci cr cb : Nat) (rk : Int) (hil : il ≤ 140737488355328) (hrl : rl ≤ 140737488355328) (hbl : bl ≤ 140737488355328) :
    Calls Try.prog 56 #[.agg #[.int .i64 5, .int .i64 n, .string s, .slice ai il ci, .slice ar rl cr, .slice ab bl cb]] w fun e w' => e = .returned (.bool (okF 5 n s.size il rl bl rk)) ∧ Keeps (fun _ => False) w w' := by
  have HK : Hid (∀ o, Keeps (fun _ => False) w (w.alloc o)) := Lib.hid fun o => (Keeps.refl _ w).alloc o
  by_cases h0 : s.size = 0
  · obtain rfl := size_nil h0
    clear h0
    go_enter Try.func56, Try.ntmps56
    go_wp2_with (first | (with_reducible refine wp_region_text (by kernel_rfl) (by kernel_rfl) ?_) | (with_reducible refine text_fin (by kernel_rfl) ?_))
    all_goals
      go_ret
      refine ⟨?_, (HK.out _).drew⟩
      refine congrArg (fun b => Ending.returned (Value.bool b)) ?_
      rw [okF_5, Bool.eq_iff_iff]
      try simp only [beq_iff_eq, decide_eq_true_eq, Bool.false_eq_true, empty_size, true_and, and_true]
      exact ⟨fun h => by first | exact h.elim | omega, fun h => by first | exact h.elim | omega⟩
  · have h1 : ¬ s.toList = [] := fun h => h0 (toList_nil.1 h)
    go_enter Try.func56, Try.ntmps56
    go_wp2_with (first | (with_reducible refine wp_region_text (by kernel_rfl) (by kernel_rfl) ?_) | (with_reducible refine text_fin (by kernel_rfl) ?_))
    all_goals
      go_ret
      refine ⟨?_, (HK.out _).drew⟩
      refine congrArg (fun b => Ending.returned (Value.bool b)) ?_
      rw [okF_5, Bool.eq_iff_iff]
      try simp only [beq_iff_eq, decide_eq_true_eq, Bool.false_eq_true, empty_size, true_and, and_true]
      exact ⟨fun h => by first | exact h.elim | omega, fun h => by first | exact h.elim | omega⟩
set_option maxRecDepth 100000 in
set_option maxHeartbeats 400000 in
theorem fields_6 (w : World) (n : Int) (s : ByteArray) (ai ar ab : Option Addr) (il rl bl ci cr cb : Nat) (rk : Int) (hil : il ≤ 140737488355328) (hrl : rl ≤ 140737488355328) (hbl : bl ≤ 140737488355328) :
    Calls Try.prog 56 #[.agg #[.int .i64 6, .int .i64 n, .string s, .slice ai il ci, .slice ar rl cr, .slice ab bl cb]] w fun e w' => e = .returned (.bool (okF 6 n s.size il rl bl rk)) ∧ Keeps (fun _ => False) w w' := by
  have HK : Hid (∀ o, Keeps (fun _ => False) w (w.alloc o)) := Lib.hid fun o => (Keeps.refl _ w).alloc o
  by_cases h0 : s.size = 0
  · obtain rfl := size_nil h0
    clear h0
    go_enter Try.func56, Try.ntmps56
    go_wp2_with (first | (with_reducible refine wp_region_text (by kernel_rfl) (by kernel_rfl) ?_) | (with_reducible refine text_fin (by kernel_rfl) ?_))
    all_goals
      go_ret
      refine ⟨?_, (HK.out _).drew⟩
      refine congrArg (fun b => Ending.returned (Value.bool b)) ?_
      rw [okF_6, Bool.eq_iff_iff]
      try simp only [beq_iff_eq, decide_eq_true_eq, Bool.false_eq_true, empty_size, true_and, and_true]
      exact ⟨fun h => by first | exact h.elim | omega, fun h => by first | exact h.elim | omega⟩
  · have h1 : ¬ s.toList = [] := fun h => h0 (toList_nil.1 h)
    go_enter Try.func56, Try.ntmps56
    go_wp2_with (first | (with_reducible refine wp_region_text (by kernel_rfl) (by kernel_rfl) ?_) | (with_reducible refine text_fin (by kernel_rfl) ?_))
    all_goals
      go_ret
      refine ⟨?_, (HK.out _).drew⟩
      refine congrArg (fun b => Ending.returned (Value.bool b)) ?_
      rw [okF_6, Bool.eq_iff_iff]
      try simp only [beq_iff_eq, decide_eq_true_eq, Bool.false_eq_true, empty_size, true_and, and_true]
      exact ⟨fun h => by first | exact h.elim | omega, fun h => by first | exact h.elim | omega⟩
set_option maxRecDepth 100000 in
set_option maxHeartbeats 400000 in
theorem fields_8 (w : World) (n : Int) (s : ByteArray) (ai ar ab : Option Addr) (il rl bl ci cr cb : Nat) (rk : Int) (hil : il ≤ 140737488355328) (hrl : rl ≤ 140737488355328) (hbl : bl ≤ 140737488355328) :
    Calls Try.prog 56 #[.agg #[.int .i64 8, .int .i64 n, .string s, .slice ai il ci, .slice ar rl cr, .slice ab bl cb]] w fun e w' => e = .returned (.bool (okF 8 n s.size il rl bl rk)) ∧ Keeps (fun _ => False) w w' := by
  have HK : Hid (∀ o, Keeps (fun _ => False) w (w.alloc o)) := Lib.hid fun o => (Keeps.refl _ w).alloc o
  by_cases h0 : s.size = 0
  · obtain rfl := size_nil h0
    clear h0
    go_enter Try.func56, Try.ntmps56
    go_wp2_with (first | (with_reducible refine wp_region_text (by kernel_rfl) (by kernel_rfl) ?_) | (with_reducible refine text_fin (by kernel_rfl) ?_))
    all_goals
      go_ret
      refine ⟨?_, (HK.out _).drew⟩
      refine congrArg (fun b => Ending.returned (Value.bool b)) ?_
      rw [okF_8, Bool.eq_iff_iff]
      try simp only [beq_iff_eq, decide_eq_true_eq, Bool.false_eq_true, empty_size, true_and, and_true]
      exact ⟨fun h => by first | exact h.elim | omega, fun h => by first | exact h.elim | omega⟩
  · have h1 : ¬ s.toList = [] := fun h => h0 (toList_nil.1 h)
    go_enter Try.func56, Try.ntmps56
    go_wp2_with (first | (with_reducible refine wp_region_text (by kernel_rfl) (by kernel_rfl) ?_) | (with_reducible refine text_fin (by kernel_rfl) ?_))
    all_goals
      go_ret
      refine ⟨?_, (HK.out _).drew⟩
      refine congrArg (fun b => Ending.returned (Value.bool b)) ?_
      rw [okF_8, Bool.eq_iff_iff]
      try simp only [beq_iff_eq, decide_eq_true_eq, Bool.false_eq_true, empty_size, true_and, and_true]
      exact ⟨fun h => by first | exact h.elim | omega, fun h => by first | exact h.elim | omega⟩
set_option maxRecDepth 100000 in
set_option maxHeartbeats 400000 in
theorem fields_other (w : World) (k n : Int) (s : ByteArray) (ai ar ab : Option Addr) (il rl bl ci cr cb : Nat) (rk : Int) (hk : ¬ (k = 1 ∨ k = 2 ∨ k = 3 ∨ k = 4 ∨ k = 5 ∨ k = 6 ∨ k = 7 ∨ k = 8)) :
    Calls Try.prog 56 #[.agg #[.int .i64 k, .int .i64 n, .string s, .slice ai il ci, .slice ar rl cr, .slice ab bl cb]] w fun e w' => e = .returned (.bool (okF k n s.size il rl bl rk)) ∧ Keeps (fun _ => False) w w' := by
  have HK : Hid (∀ o, Keeps (fun _ => False) w (w.alloc o)) := Lib.hid fun o => (Keeps.refl _ w).alloc o
  obtain ⟨k1, k2, k3, k4, k5, k6, k7, k8⟩ : k ≠ 1 ∧ k ≠ 2 ∧ k ≠ 3 ∧ k ≠ 4 ∧ k ≠ 5 ∧ k ≠ 6 ∧ k ≠ 7 ∧ k ≠ 8 := by omega
  have e : okF k n s.size il rl bl rk = false := by simp only [okF, k1, k2, k3, k4, k5, k6, k7, k8, if_false]
  rw [e]
  clear hk e
  have d : ∀ j : Int, k ≠ j → (k == j) = false := fun j h => by simpa using h
  replace k1 := d _ k1
  replace k2 := d _ k2
  replace k3 := d _ k3
  replace k4 := d _ k4
  replace k5 := d _ k5
  replace k6 := d _ k6
  replace k7 := d _ k7
  replace k8 := d _ k8
  clear d
  go_enter Try.func56, Try.ntmps56
  go_wp2_with (first | (with_reducible refine wp_region_text (by kernel_rfl) (by kernel_rfl) ?_) | (with_reducible refine text_fin (by kernel_rfl) ?_))
  go_ret
  exact ⟨rfl, (HK.out _).drew⟩
end Go.Proofs.Ytnmhodejffpblaa

import Derived.Test.YtgmieehheoknbaaDoorGe
import Derived.Deep.DeepCutAuto
section
/-
  Whether a term has just the fields that its kind has: what tree.fields does.
-/
namespace Go.Tx
open Go Go.RowKit
section
variable (n : Int) (sl il rl bl : Nat) (rk : Int)
theorem okF_1 : okF 1 n sl il rl bl rk = decide (sl = 0 ∧ il = 0 ∧ rl = 0 ∧ bl = 0) := rfl
theorem okF_2 : okF 2 n sl il rl bl rk = decide (n = 0 ∧ 1 ≤ sl ∧ sl ≤ 255 ∧ il = 0 ∧ rl = 0 ∧ bl = 0) := rfl
theorem okF_3 : okF 3 n sl il rl bl rk = decide (0 ≤ n ∧ n < 1152921504606846976 ∧ sl = 0 ∧ il = 0 ∧ rl = 0 ∧ bl = 0) := rfl
theorem okF_4 : okF 4 n sl il rl bl rk = decide (0 ≤ n ∧ n < 1152921504606846976 ∧ sl = 0 ∧ il = 0 ∧ rl = 0 ∧ bl = 0) := rfl
theorem okF_5 : okF 5 n sl il rl bl rk = decide (n = 0 ∧ sl = 0 ∧ rl = 0 ∧ bl = 0) := rfl
theorem okF_6 : okF 6 n sl il rl bl rk = decide (n = 0 ∧ sl = 0 ∧ il = 0 ∧ rl = 0 ∧ bl = 0) := rfl
theorem okF_7 : okF 7 n sl il rl bl rk = decide (n = 0 ∧ sl = 0 ∧ bl = 0 ∧ il ≠ 0 ∧ rl ≤ 1 ∧ (rl = 1 → rk ≠ 7 ∧ rk ≠ 6)) := rfl
theorem okF_8 : okF 8 n sl il rl bl rk = decide (n = 0 ∧ sl = 0 ∧ il = 0 ∧ rl = 0) := rfl
end
end Go.Tx
namespace Go.Proofs.YtgmieehheoknbaaDoor
open Go.RowKit Go.Tx
set_option maxRecDepth 100000 in
set_option maxHeartbeats 400000 in
theorem fields_1 (w : World) (n : Int) (s : ByteArray) (ai ar ab : Option Addr) (il rl bl ci cr cb : Nat) (rk : Int) (hil : il ≤ 140737488355328) (hrl : rl ≤ 140737488355328) (hbl : bl ≤ 140737488355328) :
    Calls Tryd.prog 44 #[.agg #[.int .i64 1, .int .i64 n, .string s, .slice ai il ci, .slice ar rl cr, .slice ab bl cb]] w fun e w' => e = .returned (.bool (okF 1 n s.size il rl bl rk)) ∧ Keeps (fun _ => False) w w' := by
  have HK : Hid (∀ o, Keeps (fun _ => False) w (w.alloc o)) := Lib.hid fun o => (Keeps.refl _ w).alloc o
  by_cases h0 : s.size = 0
  · obtain rfl := size_nil h0
    clear h0
    go_enter Tryd.func44, Tryd.ntmps44
    go_wp2_with (first | (with_reducible refine wp_region_text (by kernel_rfl) (by kernel_rfl) ?_) | (with_reducible refine text_fin (by kernel_rfl) ?_))
    all_goals
      go_ret
      refine ⟨?_, (HK.out _).drew⟩
      refine congrArg (fun b => Ending.returned (Value.bool b)) ?_
      rw [okF_1, Bool.eq_iff_iff]
      try simp only [beq_iff_eq, decide_eq_true_eq, Bool.false_eq_true, empty_size, true_and, and_true]
      exact ⟨fun h => by first | exact h.elim | omega, fun h => by first | exact h.elim | omega⟩
  · have h1 : ¬ s.toList = [] := fun h => h0 (toList_nil.1 h)
    go_enter Tryd.func44, Tryd.ntmps44
    go_wp2_with (first | (with_reducible refine wp_region_text (by kernel_rfl) (by kernel_rfl) ?_) | (with_reducible refine text_fin (by kernel_rfl) ?_))
    all_goals
      go_ret
      refine ⟨?_, (HK.out _).drew⟩
      refine congrArg (fun b => Ending.returned (Value.bool b)) ?_
      rw [okF_1, Bool.eq_iff_iff]
      try simp only [beq_iff_eq, decide_eq_true_eq, Bool.false_eq_true, empty_size, true_and, and_true]
      exact ⟨fun h => by first | exact h.elim | omega, fun h => by first | exact h.elim | omega⟩
set_option maxRecDepth 100000 in
set_option maxHeartbeats 400000 in
theorem fields_2 (w : World) (n : Int) (s : ByteArray) (ai ar ab : Option Addr) (il rl bl ci cr cb : Nat) (rk : Int) (hil : il ≤ 140737488355328) (hrl : rl ≤ 140737488355328) (hbl : bl ≤ 140737488355328) :
    Calls Tryd.prog 44 #[.agg #[.int .i64 2, .int .i64 n, .string s, .slice ai il ci, .slice ar rl cr, .slice ab bl cb]] w fun e w' => e = .returned (.bool (okF 2 n s.size il rl bl rk)) ∧ Keeps (fun _ => False) w w' := by
  have HK : Hid (∀ o, Keeps (fun _ => False) w (w.alloc o)) := Lib.hid fun o => (Keeps.refl _ w).alloc o
  by_cases h0 : s.size = 0
  · obtain rfl := size_nil h0
    clear h0
    go_enter Tryd.func44, Tryd.ntmps44
    go_wp2_with (first | (with_reducible refine wp_region_text (by kernel_rfl) (by kernel_rfl) ?_) | (with_reducible refine text_fin (by kernel_rfl) ?_))
    all_goals
      go_ret
      refine ⟨?_, (HK.out _).drew⟩
      refine congrArg (fun b => Ending.returned (Value.bool b)) ?_
      rw [okF_2, Bool.eq_iff_iff]
      try simp only [beq_iff_eq, decide_eq_true_eq, Bool.false_eq_true, empty_size, true_and, and_true]
      exact ⟨fun h => by first | exact h.elim | omega, fun h => by first | exact h.elim | omega⟩
  · have h1 : ¬ s.toList = [] := fun h => h0 (toList_nil.1 h)
    go_enter Tryd.func44, Tryd.ntmps44
    go_wp2_with (first | (with_reducible refine wp_region_text (by kernel_rfl) (by kernel_rfl) ?_) | (with_reducible refine text_fin (by kernel_rfl) ?_))
    all_goals
      go_ret
      refine ⟨?_, (HK.out _).drew⟩
      refine congrArg (fun b => Ending.returned (Value.bool b)) ?_
      rw [okF_2, Bool.eq_iff_iff]
      try simp only [beq_iff_eq, decide_eq_true_eq, Bool.false_eq_true, empty_size, true_and, and_true]
      exact ⟨fun h => by first | exact h.elim | omega, fun h => by first | exact h.elim | omega⟩
set_option maxRecDepth 100000 in
set_option maxHeartbeats 400000 in
theorem fields_3 (w : World) (n : Int) (s : ByteArray) (ai ar ab : Option Addr) (il rl bl ci cr cb : Nat) (rk : Int) (hil : il ≤ 140737488355328) (hrl : rl ≤ 140737488355328) (hbl : bl ≤ 140737488355328) :
    Calls Tryd.prog 44 #[.agg #[.int .i64 3, .int .i64 n, .string s, .slice ai il ci, .slice ar rl cr, .slice ab bl cb]] w fun e w' => e = .returned (.bool (okF 3 n s.size il rl bl rk)) ∧ Keeps (fun _ => False) w w' := by
  have HK : Hid (∀ o, Keeps (fun _ => False) w (w.alloc o)) := Lib.hid fun o => (Keeps.refl _ w).alloc o
  by_cases h0 : s.size = 0
  · obtain rfl := size_nil h0
    clear h0
    go_enter Tryd.func44, Tryd.ntmps44
    go_wp2_with (first | (with_reducible refine wp_region_text (by kernel_rfl) (by kernel_rfl) ?_) | (with_reducible refine text_fin (by kernel_rfl) ?_))
    all_goals
      go_ret
      refine ⟨?_, (HK.out _).drew⟩
      refine congrArg (fun b => Ending.returned (Value.bool b)) ?_
      rw [okF_3, Bool.eq_iff_iff]
      try simp only [beq_iff_eq, decide_eq_true_eq, Bool.false_eq_true, empty_size, true_and, and_true]
      exact ⟨fun h => by first | exact h.elim | omega, fun h => by first | exact h.elim | omega⟩
  · have h1 : ¬ s.toList = [] := fun h => h0 (toList_nil.1 h)
    go_enter Tryd.func44, Tryd.ntmps44
    go_wp2_with (first | (with_reducible refine wp_region_text (by kernel_rfl) (by kernel_rfl) ?_) | (with_reducible refine text_fin (by kernel_rfl) ?_))
    all_goals
      go_ret
      refine ⟨?_, (HK.out _).drew⟩
      refine congrArg (fun b => Ending.returned (Value.bool b)) ?_
      rw [okF_3, Bool.eq_iff_iff]
      try simp only [beq_iff_eq, decide_eq_true_eq, Bool.false_eq_true, empty_size, true_and, and_true]
      exact ⟨fun h => by first | exact h.elim | omega, fun h => by first | exact h.elim | omega⟩
set_option maxRecDepth 100000 in
set_option maxHeartbeats 400000 in
theorem fields_4 (w : World) (n : Int) (s : ByteArray) (ai ar ab : Option Addr) (il rl bl ci cr cb : Nat) (rk : Int) (hil : il ≤ 140737488355328) (hrl : rl ≤ 140737488355328) (hbl : bl ≤ 140737488355328) :
    Calls Tryd.prog 44 #[.agg #[.int .i64 4, .int .i64 n, .string s, .slice ai il ci, .slice ar rl cr, .slice ab bl cb]] w fun e w' => e = .returned (.bool (okF 4 n s.size il rl bl rk)) ∧ Keeps (fun _ => False) w w' := by
  have HK : Hid (∀ o, Keeps (fun _ => False) w (w.alloc o)) := Lib.hid fun o => (Keeps.refl _ w).alloc o
  by_cases h0 : s.size = 0
  · obtain rfl := size_nil h0
    clear h0
    go_enter Tryd.func44, Tryd.ntmps44
    go_wp2_with (first | (with_reducible refine wp_region_text (by kernel_rfl) (by kernel_rfl) ?_) | (with_reducible refine text_fin (by kernel_rfl) ?_))
    all_goals
      go_ret
      refine ⟨?_, (HK.out _).drew⟩
      refine congrArg (fun b => Ending.returned (Value.bool b)) ?_
      rw [okF_4, Bool.eq_iff_iff]
      try simp only [beq_iff_eq, decide_eq_true_eq, Bool.false_eq_true, empty_size, true_and, and_true]
      exact ⟨fun h => by first | exact h.elim | omega, fun h => by first | exact h.elim | omega⟩
  · have h1 : ¬ s.toList = [] := fun h => h0 (toList_nil.1 h)
    go_enter Tryd.func44, Tryd.ntmps44
    go_wp2_with (first | (with_reducible refine wp_region_text (by kernel_rfl) (by kernel_rfl) ?_) | (with_reducible refine text_fin (by kernel_rfl) ?_))
    all_goals
      go_ret
      refine ⟨?_, (HK.out _).drew⟩
      refine congrArg (fun b => Ending.returned (Value.bool b)) ?_
      rw [okF_4, Bool.eq_iff_iff]
      try simp only [beq_iff_eq, decide_eq_true_eq, Bool.false_eq_true, empty_size, true_and, and_true]
      exact ⟨fun h => by first | exact h.elim | omega, fun h => by first | exact h.elim | omega⟩
set_option maxRecDepth 100000 in
set_option maxHeartbeats 400000 in
theorem fields_5 (w : World) (n : Int) (s : ByteArray) (ai ar ab : Option Addr) (il rl bl ci cr cb : Nat) (rk : Int) (hil : il ≤ 140737488355328) (hrl : rl ≤ 140737488355328) (hbl : bl ≤ 140737488355328) :
    Calls Tryd.prog 44 #[.agg #[.int .i64 5, .int .i64 n, .string s, .slice ai il ci, .slice ar rl cr, .slice ab bl cb]] w fun e w' => e = .returned (.bool (okF 5 n s.size il rl bl rk)) ∧ Keeps (fun _ => False) w w' := by
  have HK : Hid (∀ o, Keeps (fun _ => False) w (w.alloc o)) := Lib.hid fun o => (Keeps.refl _ w).alloc o
  by_cases h0 : s.size = 0
  · obtain rfl := size_nil h0
    clear h0
    go_enter Tryd.func44, Tryd.ntmps44
    go_wp2_with (first | (with_reducible refine wp_region_text (by kernel_rfl) (by kernel_rfl) ?_) | (with_reducible refine text_fin (by kernel_rfl) ?_))
    all_goals
      go_ret
      refine ⟨?_, (HK.out _).drew⟩
      refine congrArg (fun b => Ending.returned (Value.bool b)) ?_
      rw [okF_5, Bool.eq_iff_iff]
      try simp only [beq_iff_eq, decide_eq_true_eq, Bool.false_eq_true, empty_size, true_and, and_true]
      exact ⟨fun h => by first | exact h.elim | omega, fun h => by first | exact h.elim | omega⟩
  · have h1 : ¬ s.toList = [] := fun h => h0 (toList_nil.1 h)
    go_enter Tryd.func44, Tryd.ntmps44
    go_wp2_with (first | (with_reducible refine wp_region_text (by kernel_rfl) (by kernel_rfl) ?_) | (with_reducible refine text_fin (by kernel_rfl) ?_))
    all_goals
      go_ret
      refine ⟨?_, (HK.out _).drew⟩
      refine congrArg (fun b => Ending.returned (Value.bool b)) ?_
      rw [okF_5, Bool.eq_iff_iff]
      try simp only [beq_iff_eq, decide_eq_true_eq, Bool.false_eq_true, empty_size, true_and, and_true]
      exact ⟨fun h => by first | exact h.elim | omega, fun h => by first | exact h.elim | omega⟩
set_option maxRecDepth 100000 in
set_option maxHeartbeats 400000 in
theorem fields_6 (w : World) (n : Int) (s : ByteArray) (ai ar ab : Option Addr) (il rl bl ci cr cb : Nat) (rk : Int) (hil : il ≤ 140737488355328) (hrl : rl ≤ 140737488355328) (hbl : bl ≤ 140737488355328) :
    Calls Tryd.prog 44 #[.agg #[.int .i64 6, .int .i64 n, .string s, .slice ai il ci, .slice ar rl cr, .slice ab bl cb]] w fun e w' => e = .returned (.bool (okF 6 n s.size il rl bl rk)) ∧ Keeps (fun _ => False) w w' := by
  have HK : Hid (∀ o, Keeps (fun _ => False) w (w.alloc o)) := Lib.hid fun o => (Keeps.refl _ w).alloc o
  by_cases h0 : s.size = 0
  · obtain rfl := size_nil h0
    clear h0
    go_enter Tryd.func44, Tryd.ntmps44
    go_wp2_with (first | (with_reducible refine wp_region_text (by kernel_rfl) (by kernel_rfl) ?_) | (with_reducible refine text_fin (by kernel_rfl) ?_))
    all_goals
      go_ret
      refine ⟨?_, (HK.out _).drew⟩
      refine congrArg (fun b => Ending.returned (Value.bool b)) ?_
      rw [okF_6, Bool.eq_iff_iff]
      try simp only [beq_iff_eq, decide_eq_true_eq, Bool.false_eq_true, empty_size, true_and, and_true]
      exact ⟨fun h => by first | exact h.elim | omega, fun h => by first | exact h.elim | omega⟩
  · have h1 : ¬ s.toList = [] := fun h => h0 (toList_nil.1 h)
    go_enter Tryd.func44, Tryd.ntmps44
    go_wp2_with (first | (with_reducible refine wp_region_text (by kernel_rfl) (by kernel_rfl) ?_) | (with_reducible refine text_fin (by kernel_rfl) ?_))
    all_goals
      go_ret
      refine ⟨?_, (HK.out _).drew⟩
      refine congrArg (fun b => Ending.returned (Value.bool b)) ?_
      rw [okF_6, Bool.eq_iff_iff]
      try simp only [beq_iff_eq, decide_eq_true_eq, Bool.false_eq_true, empty_size, true_and, and_true]
      exact ⟨fun h => by first | exact h.elim | omega, fun h => by first | exact h.elim | omega⟩
set_option maxRecDepth 100000 in
set_option maxHeartbeats 400000 in
theorem fields_8 (w : World) (n : Int) (s : ByteArray) (ai ar ab : Option Addr) (il rl bl ci cr cb : Nat) (rk : Int) (hil : il ≤ 140737488355328) (hrl : rl ≤ 140737488355328) (hbl : bl ≤ 140737488355328) :
    Calls Tryd.prog 44 #[.agg #[.int .i64 8, .int .i64 n, .string s, .slice ai il ci, .slice ar rl cr, .slice ab bl cb]] w fun e w' => e = .returned (.bool (okF 8 n s.size il rl bl rk)) ∧ Keeps (fun _ => False) w w' := by
  have HK : Hid (∀ o, Keeps (fun _ => False) w (w.alloc o)) := Lib.hid fun o => (Keeps.refl _ w).alloc o
  by_cases h0 : s.size = 0
  · obtain rfl := size_nil h0
    clear h0
    go_enter Tryd.func44, Tryd.ntmps44
    go_wp2_with (first | (with_reducible refine wp_region_text (by kernel_rfl) (by kernel_rfl) ?_) | (with_reducible refine text_fin (by kernel_rfl) ?_))
    all_goals
      go_ret
      refine ⟨?_, (HK.out _).drew⟩
      refine congrArg (fun b => Ending.returned (Value.bool b)) ?_
      rw [okF_8, Bool.eq_iff_iff]
      try simp only [beq_iff_eq, decide_eq_true_eq, Bool.false_eq_true, empty_size, true_and, and_true]
      exact ⟨fun h => by first | exact h.elim | omega, fun h => by first | exact h.elim | omega⟩
  · have h1 : ¬ s.toList = [] := fun h => h0 (toList_nil.1 h)
    go_enter Tryd.func44, Tryd.ntmps44
    go_wp2_with (first | (with_reducible refine wp_region_text (by kernel_rfl) (by kernel_rfl) ?_) | (with_reducible refine text_fin (by kernel_rfl) ?_))
    all_goals
      go_ret
      refine ⟨?_, (HK.out _).drew⟩
      refine congrArg (fun b => Ending.returned (Value.bool b)) ?_
      rw [okF_8, Bool.eq_iff_iff]
      try simp only [beq_iff_eq, decide_eq_true_eq, Bool.false_eq_true, empty_size, true_and, and_true]
      exact ⟨fun h => by first | exact h.elim | omega, fun h => by first | exact h.elim | omega⟩
set_option maxRecDepth 100000 in
set_option maxHeartbeats 400000 in
theorem fields_other (w : World) (k n : Int) (s : ByteArray) (ai ar ab : Option Addr) (il rl bl ci cr cb : Nat) (rk : Int) (hk : ¬ (k = 1 ∨ k = 2 ∨ k = 3 ∨ k = 4 ∨ k = 5 ∨ k = 6 ∨ k = 7 ∨ k = 8)) :
    Calls Tryd.prog 44 #[.agg #[.int .i64 k, .int .i64 n, .string s, .slice ai il ci, .slice ar rl cr, .slice ab bl cb]] w fun e w' => e = .returned (.bool (okF k n s.size il rl bl rk)) ∧ Keeps (fun _ => False) w w' := by
  have HK : Hid (∀ o, Keeps (fun _ => False) w (w.alloc o)) := Lib.hid fun o => (Keeps.refl _ w).alloc o
  obtain ⟨k1, k2, k3, k4, k5, k6, k7, k8⟩ : k ≠ 1 ∧ k ≠ 2 ∧ k ≠ 3 ∧ k ≠ 4 ∧ k ≠ 5 ∧ k ≠ 6 ∧ k ≠ 7 ∧ k ≠ 8 := by omega
  have e : okF k n s.size il rl bl rk = false := by simp only [okF, k1, k2, k3, k4, k5, k6, k7, k8, if_false]
  rw [e]
  clear hk e
  have d : ∀ j : Int, k ≠ j → (k == j) = false := fun j h => by simpa using h
  replace k1 := d _ k1
  replace k2 := d _ k2
  replace k3 := d _ k3
  replace k4 := d _ k4
  replace k5 := d _ k5
  replace k6 := d _ k6
  replace k7 := d _ k7
  replace k8 := d _ k8
  clear d
  go_enter Tryd.func44, Tryd.ntmps44
  go_wp2_with (first | (with_reducible refine wp_region_text (by kernel_rfl) (by kernel_rfl) ?_) | (with_reducible refine text_fin (by kernel_rfl) ?_))
  go_ret
  exact ⟨rfl, (HK.out _).drew⟩
end Go.Proofs.YtgmieehheoknbaaDoor
end
section
/-
  Whether a term has just the fields that its kind has, at lists: what tree.fields does.
-/
namespace Go.Proofs.YtgmieehheoknbaaDoor
open Go.RowKit Go.Tx
set_option maxRecDepth 100000 in
set_option maxHeartbeats 1600000 in
theorem fields_7i (w : World) (n : Int) (s : ByteArray) (ai ar ab : Option Addr) (il rl bl ci cr cb : Nat) (rk : Int) (hil : il ≤ 140737488355328) (hrl : rl ≤ 140737488355328) (hbl : bl ≤ 140737488355328) (hi0 : il = 0) :
    Calls Tryd.prog 44 #[.agg #[.int .i64 7, .int .i64 n, .string s, .slice ai il ci, .slice ar rl cr, .slice ab bl cb]] w fun e w' => e = .returned (.bool (okF 7 n s.size il rl bl rk)) ∧ Keeps (fun _ => False) w w' := by
  have HK : Hid (∀ o, Keeps (fun _ => False) w (w.alloc o)) := Lib.hid fun o => (Keeps.refl _ w).alloc o
  subst hi0
  go_enter Tryd.func44, Tryd.ntmps44
  go_wp2_with (first | (with_reducible refine wp_region_text (by kernel_rfl) (by kernel_rfl) ?_) | (with_reducible refine text_fin (by kernel_rfl) ?_))
  all_goals
    go_ret
    refine ⟨?_, (HK.out _).drew⟩
    refine congrArg (fun b => Ending.returned (Value.bool b)) ?_
    skip
    rw [okF_7, Bool.eq_iff_iff]
    try simp only [beq_iff_eq, decide_eq_true_eq, Bool.false_eq_true, empty_size, true_and, and_true]
    exact ⟨fun h => by first | exact h.elim | omega | (simp at h), fun h => by first | exact h.elim | omega | (simp at h)⟩
set_option maxRecDepth 100000 in
set_option maxHeartbeats 1600000 in
theorem fields_7r (w : World) (n : Int) (s : ByteArray) (ai ar ab : Option Addr) (il rl bl ci cr cb : Nat) (rk : Int) (hil : il ≤ 140737488355328) (hrl : rl ≤ 140737488355328) (hbl : bl ≤ 140737488355328) (hi0 : ¬ il = 0) (hr1 : 1 < rl) :
    Calls Tryd.prog 44 #[.agg #[.int .i64 7, .int .i64 n, .string s, .slice ai il ci, .slice ar rl cr, .slice ab bl cb]] w fun e w' => e = .returned (.bool (okF 7 n s.size il rl bl rk)) ∧ Keeps (fun _ => False) w w' := by
  have HK : Hid (∀ o, Keeps (fun _ => False) w (w.alloc o)) := Lib.hid fun o => (Keeps.refl _ w).alloc o
  have fil : (((il : Nat) : Int) == 0) = false := by simpa using hi0
  have frl : decide (1 < ((rl : Nat) : Int)) = true := decide_eq_true (by omega)
  have HI0 := Lib.hid hi0
  clear hi0
  go_enter Tryd.func44, Tryd.ntmps44
  go_wp2_with (first | (with_reducible refine wp_region_text (by kernel_rfl) (by kernel_rfl) ?_) | (with_reducible refine text_fin (by kernel_rfl) ?_))
  all_goals
    go_ret
    refine ⟨?_, (HK.out _).drew⟩
    refine congrArg (fun b => Ending.returned (Value.bool b)) ?_
    have hi0 := HI0.out
    skip
    rw [okF_7, Bool.eq_iff_iff]
    try simp only [beq_iff_eq, decide_eq_true_eq, Bool.false_eq_true, empty_size, true_and, and_true]
    exact ⟨fun h => by first | exact h.elim | omega | (simp at h), fun h => by first | exact h.elim | omega | (simp at h)⟩
set_option maxRecDepth 100000 in
set_option maxHeartbeats 1600000 in
theorem fields_7k (w : World) (n : Int) (s : ByteArray) (ai ar ab : Option Addr) (il rl bl ci cr cb : Nat) (rk : Int) (hil : il ≤ 140737488355328) (hrl : rl ≤ 140737488355328) (hbl : bl ≤ 140737488355328) (b o : Nat) (har : ar = some ⟨b, o, none⟩) (hbw : b < w.heap.size) (hrk : w.cell? ⟨b, o, none⟩ = some (.int .i64 rk)) (hr1 : rl = 1) (hi0 : ¬ il = 0) (hk7 : rk = 7) :
    Calls Tryd.prog 44 #[.agg #[.int .i64 7, .int .i64 n, .string s, .slice ai il ci, .slice ar rl cr, .slice ab bl cb]] w fun e w' => e = .returned (.bool (okF 7 n s.size il rl bl rk)) ∧ Keeps (fun _ => False) w w' := by
  have HK : Hid (∀ o, Keeps (fun _ => False) w (w.alloc o)) := Lib.hid fun o => (Keeps.refl _ w).alloc o
  subst har
  have fr1 : (((rl : Nat) : Int) == 1) = true := by simp [hr1]
  have fr2 : decide (1 < ((rl : Nat) : Int)) = false := decide_eq_false (by omega)
  have fil : (((il : Nat) : Int) == 0) = false := by simpa using hi0
  have HI0 := Lib.hid hi0
  clear hi0
  subst hk7
  go_enter Tryd.func44, Tryd.ntmps44
  go_wp2_with (first | (with_reducible refine wp_region_text (by kernel_rfl) (by kernel_rfl) ?_) | (with_reducible refine text_fin (by kernel_rfl) ?_))
  all_goals
    go_ret
    refine ⟨?_, (HK.out _).drew⟩
    refine congrArg (fun b => Ending.returned (Value.bool b)) ?_
    have hi0 := HI0.out
    skip
    rw [okF_7, Bool.eq_iff_iff]
    try simp only [beq_iff_eq, decide_eq_true_eq, Bool.false_eq_true, empty_size, true_and, and_true]
    exact ⟨fun h => by first | exact h.elim | omega | (simp at h), fun h => by first | exact h.elim | omega | (simp at h)⟩
set_option maxRecDepth 100000 in
set_option maxHeartbeats 1600000 in
theorem fields_7l (w : World) (n : Int) (s : ByteArray) (ai ar ab : Option Addr) (il rl bl ci cr cb : Nat) (rk : Int) (hil : il ≤ 140737488355328) (hrl : rl ≤ 140737488355328) (hbl : bl ≤ 140737488355328) (b o : Nat) (har : ar = some ⟨b, o, none⟩) (hbw : b < w.heap.size) (hrk : w.cell? ⟨b, o, none⟩ = some (.int .i64 rk)) (hr1 : rl = 1) (hi0 : ¬ il = 0) (hk6 : rk = 6) :
    Calls Tryd.prog 44 #[.agg #[.int .i64 7, .int .i64 n, .string s, .slice ai il ci, .slice ar rl cr, .slice ab bl cb]] w fun e w' => e = .returned (.bool (okF 7 n s.size il rl bl rk)) ∧ Keeps (fun _ => False) w w' := by
  have HK : Hid (∀ o, Keeps (fun _ => False) w (w.alloc o)) := Lib.hid fun o => (Keeps.refl _ w).alloc o
  subst har
  have fr1 : (((rl : Nat) : Int) == 1) = true := by simp [hr1]
  have fr2 : decide (1 < ((rl : Nat) : Int)) = false := decide_eq_false (by omega)
  have fil : (((il : Nat) : Int) == 0) = false := by simpa using hi0
  have HI0 := Lib.hid hi0
  clear hi0
  subst hk6
  go_enter Tryd.func44, Tryd.ntmps44
  go_wp2_with (first | (with_reducible refine wp_region_text (by kernel_rfl) (by kernel_rfl) ?_) | (with_reducible refine text_fin (by kernel_rfl) ?_))
  all_goals
    go_ret
    refine ⟨?_, (HK.out _).drew⟩
    refine congrArg (fun b => Ending.returned (Value.bool b)) ?_
    have hi0 := HI0.out
    skip
    rw [okF_7, Bool.eq_iff_iff]
    try simp only [beq_iff_eq, decide_eq_true_eq, Bool.false_eq_true, empty_size, true_and, and_true]
    exact ⟨fun h => by first | exact h.elim | omega | (simp at h), fun h => by first | exact h.elim | omega | (simp at h)⟩
set_option maxRecDepth 100000 in
set_option maxHeartbeats 1600000 in
theorem fields_7na (w : World) (n : Int) (s : ByteArray) (ai ar ab : Option Addr) (il rl bl ci cr cb : Nat) (rk : Int) (hil : il ≤ 140737488355328) (hrl : rl ≤ 140737488355328) (hbl : bl ≤ 140737488355328) (b o : Nat) (har : ar = some ⟨b, o, none⟩) (hbw : b < w.heap.size) (hrk : w.cell? ⟨b, o, none⟩ = some (.int .i64 rk)) (hr1 : rl = 1) (hi0 : ¬ il = 0) (hk7 : (rk == 7) = false) (hk6 : (rk == 6) = false) (hn : (n == 0) = false) :
    Calls Tryd.prog 44 #[.agg #[.int .i64 7, .int .i64 n, .string s, .slice ai il ci, .slice ar rl cr, .slice ab bl cb]] w fun e w' => e = .returned (.bool (okF 7 n s.size il rl bl rk)) ∧ Keeps (fun _ => False) w w' := by
  have HK : Hid (∀ o, Keeps (fun _ => False) w (w.alloc o)) := Lib.hid fun o => (Keeps.refl _ w).alloc o
  subst har
  have fr1 : (((rl : Nat) : Int) == 1) = true := by simp [hr1]
  have fr2 : decide (1 < ((rl : Nat) : Int)) = false := decide_eq_false (by omega)
  have fil : (((il : Nat) : Int) == 0) = false := by simpa using hi0
  have HI0 := Lib.hid hi0
  clear hi0
  go_enter Tryd.func44, Tryd.ntmps44
  go_wp2_with (first | (with_reducible refine wp_region_text (by kernel_rfl) (by kernel_rfl) ?_) | (with_reducible refine text_fin (by kernel_rfl) ?_))
  all_goals
    go_ret
    refine ⟨?_, (HK.out _).drew⟩
    refine congrArg (fun b => Ending.returned (Value.bool b)) ?_
    have hi0 := HI0.out
    skip
    have k7 : ¬ rk = 7 := by simpa using hk7
    have k6 : ¬ rk = 6 := by simpa using hk6
    have hn' : ¬ n = 0 := by simpa using hn
    rw [okF_7, Bool.eq_iff_iff]
    try simp only [beq_iff_eq, decide_eq_true_eq, Bool.false_eq_true, empty_size, true_and, and_true]
    exact ⟨fun h => by first | exact h.elim | omega | (simp at h), fun h => by first | exact h.elim | omega | (simp at h)⟩
set_option maxRecDepth 100000 in
set_option maxHeartbeats 1600000 in
theorem fields_7sa (w : World) (n : Int) (s : ByteArray) (ai ar ab : Option Addr) (il rl bl ci cr cb : Nat) (rk : Int) (hil : il ≤ 140737488355328) (hrl : rl ≤ 140737488355328) (hbl : bl ≤ 140737488355328) (b o : Nat) (har : ar = some ⟨b, o, none⟩) (hbw : b < w.heap.size) (hrk : w.cell? ⟨b, o, none⟩ = some (.int .i64 rk)) (hr1 : rl = 1) (hi0 : ¬ il = 0) (hk7 : (rk == 7) = false) (hk6 : (rk == 6) = false) (hn : n = 0) (hs : s.size ≠ 0) :
    Calls Tryd.prog 44 #[.agg #[.int .i64 7, .int .i64 n, .string s, .slice ai il ci, .slice ar rl cr, .slice ab bl cb]] w fun e w' => e = .returned (.bool (okF 7 n s.size il rl bl rk)) ∧ Keeps (fun _ => False) w w' := by
  have HK : Hid (∀ o, Keeps (fun _ => False) w (w.alloc o)) := Lib.hid fun o => (Keeps.refl _ w).alloc o
  subst har
  have fr1 : (((rl : Nat) : Int) == 1) = true := by simp [hr1]
  have fr2 : decide (1 < ((rl : Nat) : Int)) = false := decide_eq_false (by omega)
  have fil : (((il : Nat) : Int) == 0) = false := by simpa using hi0
  have HI0 := Lib.hid hi0
  clear hi0
  subst hn
  have h1 : ¬ s.toList = [] := fun h => hs (toList_nil.1 h)
  go_enter Tryd.func44, Tryd.ntmps44
  go_wp2_with (first | (with_reducible refine wp_region_text (by kernel_rfl) (by kernel_rfl) ?_) | (with_reducible refine text_fin (by kernel_rfl) ?_))
  all_goals
    go_ret
    refine ⟨?_, (HK.out _).drew⟩
    refine congrArg (fun b => Ending.returned (Value.bool b)) ?_
    have hi0 := HI0.out
    skip
    have k7 : ¬ rk = 7 := by simpa using hk7
    have k6 : ¬ rk = 6 := by simpa using hk6
    rw [okF_7, Bool.eq_iff_iff]
    try simp only [beq_iff_eq, decide_eq_true_eq, Bool.false_eq_true, empty_size, true_and, and_true]
    exact ⟨fun h => by first | exact h.elim | omega | (simp at h), fun h => by first | exact h.elim | omega | (simp at h)⟩
set_option maxRecDepth 100000 in
set_option maxHeartbeats 1600000 in
theorem fields_7za (w : World) (n : Int) (s : ByteArray) (ai ar ab : Option Addr) (il rl bl ci cr cb : Nat) (rk : Int) (hil : il ≤ 140737488355328) (hrl : rl ≤ 140737488355328) (hbl : bl ≤ 140737488355328) (b o : Nat) (har : ar = some ⟨b, o, none⟩) (hbw : b < w.heap.size) (hrk : w.cell? ⟨b, o, none⟩ = some (.int .i64 rk)) (hr1 : rl = 1) (hi0 : ¬ il = 0) (hk7 : (rk == 7) = false) (hk6 : (rk == 6) = false) (hn : n = 0) (hs : s.size = 0) :
    Calls Tryd.prog 44 #[.agg #[.int .i64 7, .int .i64 n, .string s, .slice ai il ci, .slice ar rl cr, .slice ab bl cb]] w fun e w' => e = .returned (.bool (okF 7 n s.size il rl bl rk)) ∧ Keeps (fun _ => False) w w' := by
  have HK : Hid (∀ o, Keeps (fun _ => False) w (w.alloc o)) := Lib.hid fun o => (Keeps.refl _ w).alloc o
  subst har
  have fr1 : (((rl : Nat) : Int) == 1) = true := by simp [hr1]
  have fr2 : decide (1 < ((rl : Nat) : Int)) = false := decide_eq_false (by omega)
  have fil : (((il : Nat) : Int) == 0) = false := by simpa using hi0
  have HI0 := Lib.hid hi0
  clear hi0
  subst hn
  obtain rfl := size_nil hs
  clear hs
  go_enter Tryd.func44, Tryd.ntmps44
  go_wp2_with (first | (with_reducible refine wp_region_text (by kernel_rfl) (by kernel_rfl) ?_) | (with_reducible refine text_fin (by kernel_rfl) ?_))
  all_goals
    go_ret
    refine ⟨?_, (HK.out _).drew⟩
    refine congrArg (fun b => Ending.returned (Value.bool b)) ?_
    have hi0 := HI0.out
    skip
    have k7 : ¬ rk = 7 := by simpa using hk7
    have k6 : ¬ rk = 6 := by simpa using hk6
    rw [okF_7, Bool.eq_iff_iff]
    try simp only [beq_iff_eq, decide_eq_true_eq, Bool.false_eq_true, empty_size, true_and, and_true]
    exact ⟨fun h => by first | exact h.elim | omega | (simp at h), fun h => by first | exact h.elim | omega | (simp at h)⟩
set_option maxRecDepth 100000 in
set_option maxHeartbeats 1600000 in
theorem fields_7nb (w : World) (n : Int) (s : ByteArray) (ai ar ab : Option Addr) (il rl bl ci cr cb : Nat) (rk : Int) (hil : il ≤ 140737488355328) (hrl : rl ≤ 140737488355328) (hbl : bl ≤ 140737488355328) (hi0 : ¬ il = 0) (hr0 : rl = 0) (hn : (n == 0) = false) :
    Calls Tryd.prog 44 #[.agg #[.int .i64 7, .int .i64 n, .string s, .slice ai il ci, .slice ar rl cr, .slice ab bl cb]] w fun e w' => e = .returned (.bool (okF 7 n s.size il rl bl rk)) ∧ Keeps (fun _ => False) w w' := by
  have HK : Hid (∀ o, Keeps (fun _ => False) w (w.alloc o)) := Lib.hid fun o => (Keeps.refl _ w).alloc o
  have fr1 : (((rl : Nat) : Int) == 1) = false := by simp [hr0]
  have fr2 : decide (1 < ((rl : Nat) : Int)) = false := decide_eq_false (by omega)
  have HR0 := Lib.hid hr0
  clear hr0
  have fil : (((il : Nat) : Int) == 0) = false := by simpa using hi0
  have HI0 := Lib.hid hi0
  clear hi0
  go_enter Tryd.func44, Tryd.ntmps44
  go_wp2_with (first | (with_reducible refine wp_region_text (by kernel_rfl) (by kernel_rfl) ?_) | (with_reducible refine text_fin (by kernel_rfl) ?_))
  all_goals
    go_ret
    refine ⟨?_, (HK.out _).drew⟩
    refine congrArg (fun b => Ending.returned (Value.bool b)) ?_
    have hi0 := HI0.out
    have hr0 := HR0.out
    have hn' : ¬ n = 0 := by simpa using hn
    rw [okF_7, Bool.eq_iff_iff]
    try simp only [beq_iff_eq, decide_eq_true_eq, Bool.false_eq_true, empty_size, true_and, and_true]
    exact ⟨fun h => by first | exact h.elim | omega | (simp at h), fun h => by first | exact h.elim | omega | (simp at h)⟩
set_option maxRecDepth 100000 in
set_option maxHeartbeats 1600000 in
theorem fields_7sb (w : World) (n : Int) (s : ByteArray) (ai ar ab : Option Addr) (il rl bl ci cr cb : Nat) (rk : Int) (hil : il ≤ 140737488355328) (hrl : rl ≤ 140737488355328) (hbl : bl ≤ 140737488355328) (hi0 : ¬ il = 0) (hr0 : rl = 0) (hn : n = 0) (hs : s.size ≠ 0) :
    Calls Tryd.prog 44 #[.agg #[.int .i64 7, .int .i64 n, .string s, .slice ai il ci, .slice ar rl cr, .slice ab bl cb]] w fun e w' => e = .returned (.bool (okF 7 n s.size il rl bl rk)) ∧ Keeps (fun _ => False) w w' := by
  have HK : Hid (∀ o, Keeps (fun _ => False) w (w.alloc o)) := Lib.hid fun o => (Keeps.refl _ w).alloc o
  have fr1 : (((rl : Nat) : Int) == 1) = false := by simp [hr0]
  have fr2 : decide (1 < ((rl : Nat) : Int)) = false := decide_eq_false (by omega)
  have HR0 := Lib.hid hr0
  clear hr0
  have fil : (((il : Nat) : Int) == 0) = false := by simpa using hi0
  have HI0 := Lib.hid hi0
  clear hi0
  subst hn
  have h1 : ¬ s.toList = [] := fun h => hs (toList_nil.1 h)
  go_enter Tryd.func44, Tryd.ntmps44
  go_wp2_with (first | (with_reducible refine wp_region_text (by kernel_rfl) (by kernel_rfl) ?_) | (with_reducible refine text_fin (by kernel_rfl) ?_))
  all_goals
    go_ret
    refine ⟨?_, (HK.out _).drew⟩
    refine congrArg (fun b => Ending.returned (Value.bool b)) ?_
    have hi0 := HI0.out
    have hr0 := HR0.out
    rw [okF_7, Bool.eq_iff_iff]
    try simp only [beq_iff_eq, decide_eq_true_eq, Bool.false_eq_true, empty_size, true_and, and_true]
    exact ⟨fun h => by first | exact h.elim | omega | (simp at h), fun h => by first | exact h.elim | omega | (simp at h)⟩
set_option maxRecDepth 100000 in
set_option maxHeartbeats 1600000 in
theorem fields_7zb (w : World) (n : Int) (s : ByteArray) (ai ar ab : Option Addr) (il rl bl ci cr cb : Nat) (rk : Int) (hil : il ≤ 140737488355328) (hrl : rl ≤ 140737488355328) (hbl : bl ≤ 140737488355328) (hi0 : ¬ il = 0) (hr0 : rl = 0) (hn : n = 0) (hs : s.size = 0) :
    Calls Tryd.prog 44 #[.agg #[.int .i64 7, .int .i64 n, .string s, .slice ai il ci, .slice ar rl cr, .slice ab bl cb]] w fun e w' => e = .returned (.bool (okF 7 n s.size il rl bl rk)) ∧ Keeps (fun _ => False) w w' := by
  have HK : Hid (∀ o, Keeps (fun _ => False) w (w.alloc o)) := Lib.hid fun o => (Keeps.refl _ w).alloc o
  have fr1 : (((rl : Nat) : Int) == 1) = false := by simp [hr0]
  have fr2 : decide (1 < ((rl : Nat) : Int)) = false := decide_eq_false (by omega)
  have HR0 := Lib.hid hr0
  clear hr0
  have fil : (((il : Nat) : Int) == 0) = false := by simpa using hi0
  have HI0 := Lib.hid hi0
  clear hi0
  subst hn
  obtain rfl := size_nil hs
  clear hs
  go_enter Tryd.func44, Tryd.ntmps44
  go_wp2_with (first | (with_reducible refine wp_region_text (by kernel_rfl) (by kernel_rfl) ?_) | (with_reducible refine text_fin (by kernel_rfl) ?_))
  all_goals
    go_ret
    refine ⟨?_, (HK.out _).drew⟩
    refine congrArg (fun b => Ending.returned (Value.bool b)) ?_
    have hi0 := HI0.out
    have hr0 := HR0.out
    rw [okF_7, Bool.eq_iff_iff]
    try simp only [beq_iff_eq, decide_eq_true_eq, Bool.false_eq_true, empty_size, true_and, and_true]
    exact ⟨fun h => by first | exact h.elim | omega | (simp at h), fun h => by first | exact h.elim | omega | (simp at h)⟩
theorem fields_7 (w : World) (n : Int) (s : ByteArray) (ai ar ab : Option Addr) (il rl bl ci cr cb : Nat) (rk : Int) (hil : il ≤ 140737488355328) (hrl : rl ≤ 140737488355328) (hbl : bl ≤ 140737488355328)
    (hr : rl = 1 → ∃ b o, ar = some ⟨b, o, none⟩ ∧ b < w.heap.size ∧ w.cell? ⟨b, o, none⟩ = some (.int .i64 rk)) :
    Calls Tryd.prog 44 #[.agg #[.int .i64 7, .int .i64 n, .string s, .slice ai il ci, .slice ar rl cr, .slice ab bl cb]] w fun e w' => e = .returned (.bool (okF 7 n s.size il rl bl rk)) ∧ Keeps (fun _ => False) w w' := by
  by_cases hi0 : il = 0
  · exact fields_7i w n s ai ar ab il rl bl ci cr cb rk hil hrl hbl hi0
  have hn : n = 0 ∨ (n == 0) = false := by
    by_cases h : n = 0
    · exact .inl h
    · exact .inr (by simpa using h)
  by_cases h1 : 1 < rl
  · exact fields_7r w n s ai ar ab il rl bl ci cr cb rk hil hrl hbl hi0 h1
  by_cases h0 : rl = 0
  · rcases hn with hn | hn
    · by_cases hs : s.size = 0
      · exact fields_7zb w n s ai ar ab il rl bl ci cr cb rk hil hrl hbl hi0 h0 hn hs
      · exact fields_7sb w n s ai ar ab il rl bl ci cr cb rk hil hrl hbl hi0 h0 hn hs
    · exact fields_7nb w n s ai ar ab il rl bl ci cr cb rk hil hrl hbl hi0 h0 hn
  · have hr1 : rl = 1 := by omega
    obtain ⟨b, o, h2, h3, h4⟩ := hr hr1
    by_cases h7 : rk = 7
    · exact fields_7k w n s ai ar ab il rl bl ci cr cb rk hil hrl hbl b o h2 h3 h4 hr1 hi0 h7
    by_cases h6 : rk = 6
    · exact fields_7l w n s ai ar ab il rl bl ci cr cb rk hil hrl hbl b o h2 h3 h4 hr1 hi0 h6
    have k7 : (rk == 7) = false := by simpa using h7
    have k6 : (rk == 6) = false := by simpa using h6
    rcases hn with hn | hn
    · by_cases hs : s.size = 0
      · exact fields_7za w n s ai ar ab il rl bl ci cr cb rk hil hrl hbl b o h2 h3 h4 hr1 hi0 k7 k6 hn hs
      · exact fields_7sa w n s ai ar ab il rl bl ci cr cb rk hil hrl hbl b o h2 h3 h4 hr1 hi0 k7 k6 hn hs
    · exact fields_7na w n s ai ar ab il rl bl ci cr cb rk hil hrl hbl b o h2 h3 h4 hr1 hi0 k7 k6 hn
end Go.Proofs.YtgmieehheoknbaaDoor
end
section
/-
  Whether a term has just the fields that its kind has, all kinds: what tree.fields does.
-/
namespace Go.Proofs.YtgmieehheoknbaaDoor
open Go.RowKit Go.Tx
theorem fields_core (w : World) (k n : Int) (s : ByteArray) (ai ar ab : Option Addr) (il rl bl ci cr cb : Nat) (rk : Int)
    (hil : il ≤ 140737488355328) (hrl : rl ≤ 140737488355328) (hbl : bl ≤ 140737488355328)
    (hr : rl = 1 → ∃ b o, ar = some ⟨b, o, none⟩ ∧ b < w.heap.size ∧ w.cell? ⟨b, o, none⟩ = some (.int .i64 rk)) :
    Calls Tryd.prog 44 #[.agg #[.int .i64 k, .int .i64 n, .string s, .slice ai il ci, .slice ar rl cr, .slice ab bl cb]] w fun e w' => e = .returned (.bool (okF k n s.size il rl bl rk)) ∧ Keeps (fun _ => False) w w' := by
  by_cases hk : k = 1 ∨ k = 2 ∨ k = 3 ∨ k = 4 ∨ k = 5 ∨ k = 6 ∨ k = 7 ∨ k = 8
  · rcases hk with rfl | rfl | rfl | rfl | rfl | rfl | rfl | rfl
    · exact fields_1 w n s ai ar ab il rl bl ci cr cb rk hil hrl hbl
    · exact fields_2 w n s ai ar ab il rl bl ci cr cb rk hil hrl hbl
    · exact fields_3 w n s ai ar ab il rl bl ci cr cb rk hil hrl hbl
    · exact fields_4 w n s ai ar ab il rl bl ci cr cb rk hil hrl hbl
    · exact fields_5 w n s ai ar ab il rl bl ci cr cb rk hil hrl hbl
    · exact fields_6 w n s ai ar ab il rl bl ci cr cb rk hil hrl hbl
    · exact fields_7 w n s ai ar ab il rl bl ci cr cb rk hil hrl hbl hr
    · exact fields_8 w n s ai ar ab il rl bl ci cr cb rk hil hrl hbl
  · exact fields_other w k n s ai ar ab il rl bl ci cr cb rk hk
theorem fields_any {w : World} {S : Nat → Prop} {d : Nat} {t : Tm} {vi vr vb : Value} (h : TmD w S d (t.val vi vr vb) t) :
    Calls Tryd.prog 44 #[t.val vi vr vb] w fun e w' => e = .returned (.bool t.okB) ∧ Keeps (fun _ => False) w w' := by
  cases d with
  | zero => exact h.elim
  | succ d =>
    obtain ⟨vi', vr', vb', he, hf, hs, ⟨hil, ai, ci, rfl, _⟩, ⟨hrl, ar, cr, rfl, _, _, hr⟩, ⟨hbl, ab, cb, rfl, _⟩⟩ := h
    obtain ⟨rfl, rfl, rfl⟩ : vi = .slice ai t.items.length ci ∧ vr = .slice ar t.rest.length cr ∧ vb = .slice ab t.bytes.size cb := by
      simp [Tm.val] at he; exact ⟨he.1, he.2.1, he.2.2⟩
    refine fields_core w t.kind t.n t.name ai ar ab _ _ _ ci cr cb (headKind t.rest) hil hrl hbl fun h1 => ?_
    match hrs : t.rest, h1 with
    | [x], _ =>
      rw [hrs] at hr
      obtain ⟨b, o, _, _, _, e, _, ⟨c0, _⟩, _⟩ := hr 0 x rfl
      exact ⟨b, o, e, lt_cell c0, by simpa [headKind] using c0⟩
end Go.Proofs.YtgmieehheoknbaaDoor
end
section
/-
  Whether a term is one that may be: what the Go code of tree.Right does.
-/
namespace Go.Tx
open Go Go.RowKit
/-- behind a look at a term -/
def ChkPost (g : Nat) (r : Except (Int × Int) (Int × Int)) (w : World) (e : Ending) (w' : World) : Prop :=
  Keeps (fun x => x = g) w w' ∧ match r with
  | .ok st => e = .returned .nilIface ∧ Blk w' g 79 [.int .i64 st.1, .int .i64 st.2] ∧ 0 ≤ st.1 ∧ 0 ≤ st.2 ∧ st.1 + st.2 ≤ 65536
  | .error x => ∃ E, e = .returned E ∧ IsErr w' (Fresh w w') E [(⟨#[116, 101, 114, 109]⟩, x.1)] x.2
/-- before each part -/
def PartsAt (w : World) (g : Nat) (l : List Tm) (dep : Int) (r : Except (Int × Int) (Int × Int)) (v : Value) (wr : World) : Prop :=
  ∃ (i : Nat) (p b : Int), v = .int .i64 i ∧ i ≤ l.length ∧ chks (l.drop i) dep (p, b) = r ∧ 0 ≤ p ∧ 0 ≤ b ∧ p + b ≤ 65536 ∧ Blk wr g 79 [.int .i64 p, .int .i64 b] ∧ Keeps (fun x => x = g) w wr
theorem Fresh.mono {w w1 w2 w' : World} {x : Nat} (h1 : w.heap.size ≤ w1.heap.size) (h2 : w2.heap.size ≤ w'.heap.size) (h : Fresh w1 w2 x) : Fresh w w' x := ⟨by have := h.1; omega, by have := h.2; omega⟩
theorem chkPost_drew {w w2 : World} {g : Nat} {r : Except (Int × Int) (Int × Int)} {e : Ending} (h : ChkPost g r w e w2) : ChkPost g r w e w2.drew := by
  obtain ⟨h1, h2⟩ := h
  refine ⟨h1.drew, ?_⟩
  cases r with
  | ok st => exact ⟨h2.1, h2.2.1.drew, h2.2.2⟩
  | error x =>
    obtain ⟨E, he, hE⟩ := h2
    exact ⟨E, he, (hE.keeps ((Keeps.refl (fun _ => False) _).drew) fun _ _ h => h).mono fun x hx => hx⟩
theorem chkPost_err {w w1 w2 : World} {g : Nat} {r : Except (Int × Int) (Int × Int)} {n k : Int} {E : Value} (hr : r = .error (n, k)) (hk : Keeps (fun x => x = g) w w2)
    (hE : IsErr w2 (Fresh w1 w2) E [(⟨#[116, 101, 114, 109]⟩, n)] k) (hs : w.heap.size ≤ w1.heap.size) : ChkPost g r w (.returned E) w2 := by
  subst hr
  exact ⟨hk, E, rfl, hE.mono fun x hx => ⟨by have := hx.1; omega, hx.2⟩⟩
theorem chk_new {w W : World} {g x : Nat} {r : Except (Int × Int) (Int × Int)} {n k : Int} (hr : r = .error (n, k)) (hk : Keeps (fun x => x = g) w W) (hx : x = W.heap.size) :
    ChkPost g r w (.returned (.iface 40 (.pointer (some ⟨x, 0, none⟩)))) (W.alloc (.cells #[.string ⟨#[116, 101, 114, 109]⟩, .int .i64 n, .iface 41 (.int .i64 k)] 43)).drew := by
  subst hr hx
  have h1 := isErr_new W ⟨#[116, 101, 114, 109]⟩ n (.iface 41 (.int .i64 k)) [] k (fun _ => False) rfl
  refine ⟨(hk.alloc _).drew, _, rfl, (h1.keeps ((Keeps.refl (fun _ => False) _).drew) fun _ _ h => h).mono fun x hx => ?_⟩
  rcases hx with rfl | hx
  · exact ⟨hk.size, by show _ < (W.alloc _).heap.size; rw [World.size_alloc]; omega⟩
  · exact hx.elim
theorem chk_new' {w W : World} {g x : Nat} {r : Except (Int × Int) (Int × Int)} {n k : Int} (hr : r = .error (n, k)) (hk : Keeps (fun x => x = g) w W) (hx : x = W.heap.size) :
    ChkPost g r w (.returned (.iface 40 (.pointer (some ⟨x, 0, none⟩)))) (W.alloc (.cells #[.string ⟨#[116, 101, 114, 109]⟩, .int .i64 n, .iface 41 (.int .i64 k)] 43)) := by
  subst hr hx
  have h1 := isErr_new W ⟨#[116, 101, 114, 109]⟩ n (.iface 41 (.int .i64 k)) [] k (fun _ => False) rfl
  refine ⟨hk.alloc _, _, rfl, h1.mono fun x hx => ?_⟩
  rcases hx with rfl | hx
  · exact ⟨hk.size, by rw [World.size_alloc]; omega⟩
  · exact hx.elim
theorem chk_new2 {w W : World} {g x : Nat} {r : Except (Int × Int) (Int × Int)} {n k : Int} (hr : r = .error (n, k)) (hk : Keeps (fun x => x = g) w W) (hx : x = W.heap.size) :
    ChkPost g r w (.returned (.iface 40 (.pointer (some ⟨x, 0, none⟩)))) (W.alloc (.cells #[.string ⟨#[116, 101, 114, 109]⟩, .int .i64 n, .iface 41 (.int .i64 k)] 43)).drew.drew := chkPost_drew (chk_new hr hk hx)
theorem chkPost_ok {w w2 : World} {g : Nat} {r : Except (Int × Int) (Int × Int)} {p b : Int} (hr : r = .ok (p, b)) (hk : Keeps (fun x => x = g) w w2)
    (hb : Blk w2 g 79 [.int .i64 p, .int .i64 b]) (h1 : 0 ≤ p) (h2 : 0 ≤ b) (h3 : p + b ≤ 65536) : ChkPost g r w (.returned .nilIface) w2 := by
  subst hr
  exact ⟨hk, rfl, hb, h1, h2, h3⟩
theorem TmD.forms {w : World} {S : Nat → Prop} {d : Nat} {t : Tm} {vi vr vb : Value} (h : TmD w S d (t.val vi vr vb) t) :
    ∃ a3 k3 a4 k4 a5 k5, vi = .slice a3 t.items.length k3 ∧ vr = .slice a4 t.rest.length k4 ∧ vb = .slice a5 t.bytes.size k5 := by
  cases d with
  | zero => exact h.elim
  | succ d =>
    obtain ⟨vi', vr', vb', he, hf, hs, ⟨hil, ai, ci, rfl, _⟩, ⟨hrl, ar, cr, rfl, _, _, hr⟩, ⟨hbl, ab, cb, rfl, _⟩⟩ := h
    simp [Tm.val] at he
    exact ⟨ai, ci, ar, cr, ab, cb, he.1, he.2.1, he.2.2⟩
theorem RowD.at {w : World} {S : Nat → Prop} {R : Value → Tm → Prop} {a : Option Addr} {len cap i : Nat} {l : List Tm} {t : Tm} (h : RowD w S R (.slice a len cap) l) (ht : l[i]? = some t) :
    ∃ b o vi vr vb, a = some ⟨b, o, none⟩ ∧ S b ∧
    (w.cell? ⟨b, o + i * 6, none⟩ = some (.int .i64 t.kind) ∧ w.cell? ⟨b, o + i * 6 + 1, none⟩ = some (.int .i64 t.n) ∧ w.cell? ⟨b, o + i * 6 + 2, none⟩ = some (.string t.name) ∧
      w.cell? ⟨b, o + i * 6 + 3, none⟩ = some vi ∧ w.cell? ⟨b, o + i * 6 + 4, none⟩ = some vr ∧ w.cell? ⟨b, o + i * 6 + 5, none⟩ = some vb) ∧ R (t.val vi vr vb) t := by
  obtain ⟨_, a9, c9, he, _, _, hrow⟩ := h
  cases he
  exact hrow i t ht
theorem exc_ok {ε α β : Type} (a : α) (f : α → Except ε β) : (Except.ok a : Except ε α).bind f = f a := rfl
theorem exc_err {ε α β : Type} (e : ε) (f : α → Except ε β) : (Except.error e : Except ε α).bind f = .error e := rfl
theorem drop_cons {α : Type} {l : List α} {i : Nat} {t : α} (h : l[i]? = some t) : l.drop i = t :: l.drop (i + 1) := by
  obtain ⟨hi, he⟩ := List.getElem?_eq_some_iff.1 h
  rw [← he]
  exact List.drop_eq_getElem_cons hi
end Go.Tx
namespace Go.Proofs.YtgmieehheoknbaaDoor
open Go.RowKit Go.Tx
/-- what a look at a term at most d deep does -/
def TermSpec (d : Nat) : Prop := ∀ (w : World) (S : Nat → Prop) (v : Value) (t : Tm) (g : Nat) (p b dep : Int), TmD w S d v t → (∀ x, S x → ¬ x = g) → Blk w g 79 [.int .i64 p, .int .i64 b] → 0 ≤ p → 0 ≤ b → p + b ≤ 65536 → 1 ≤ dep → dep ≤ 201 →
    Calls Tryd.prog 30 #[.pointer (some ⟨g, 0, none⟩), v, .int .i64 dep] w (ChkPost g (chk t dep (p, b)) w)
end Go.Proofs.YtgmieehheoknbaaDoor
end

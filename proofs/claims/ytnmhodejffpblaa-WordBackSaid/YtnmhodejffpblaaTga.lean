/-
  Whether a term has just the fields that its kind has, at lists: what tree.fields does.
-/
import Derived.Test.YtnmhodejffpblaaTf
namespace Go.Proofs.Ytnmhodejffpblaa
open Go.RowKit Go.Tx
set_option maxRecDepth 100000 in
set_option maxHeartbeats 1600000 in
theorem fields_7i (w : World) (n : Int) (s : ByteArray) (ai ar ab : Option Addr) (il rl bl ci cr cb : Nat) (rk : Int) (hil : il ≤ 140737488355328) (hrl : rl ≤ 140737488355328) (hbl : bl ≤ 140737488355328) (hi0 : il = 0) :
    Calls Try.prog 56 #[.agg #[.int .i64 7, .int .i64 n, .string s, .slice ai il ci, .slice ar rl cr, .slice ab bl cb]] w fun e w' => e = .returned (.bool (okF 7 n s.size il rl bl rk)) ∧ Keeps (fun _ => False) w w' := by
  have HK : Hid (∀ o, Keeps (fun _ => False) w (w.alloc o)) := Lib.hid fun o => (Keeps.refl _ w).alloc o
  subst hi0
  go_enter Try.func56, Try.ntmps56
  go_wp2_with (first | (with_reducible refine wp_region_text (by kernel_rfl) (by kernel_rfl) ?_) | (with_reducible refine text_fin (by kernel_rfl) ?_))
  all_goals
    go_ret
    refine ⟨?_, (HK.out _).drew⟩
    refine congrArg (fun b => Ending.returned (Value.bool b)) ?_
    skip
    rw [okF_7, Bool.eq_iff_iff]
    try simp only [beq_iff_eq, decide_eq_true_eq, Bool.false_eq_true, empty_size, true_and, and_true]
    exact ⟨fun h => by first | exact h.elim | omega | (simp at h), fun h => by first | exact h.elim | omega | (simp at h)⟩
set_option maxRecDepth 100000 in
set_option maxHeartbeats 1600000 in
theorem fields_7r (w : World) (n : Int) (s : ByteArray) (ai ar ab : Option Addr) (il rl bl ci cr cb : Nat) (rk : Int) (hil : il ≤ 140737488355328) (hrl : rl ≤ 140737488355328) (hbl : bl ≤ 140737488355328) (hi0 : ¬ il = 0) (hr1 : 1 < rl) :
    Calls Try.prog 56 #[.agg #[.int .i64 7, .int .i64 n, .string s, .slice ai il ci, .slice ar rl cr, .slice ab bl cb]] w fun e w' => e = .returned (.bool (okF 7 n s.size il rl bl rk)) ∧ Keeps (fun _ => False) w w' := by
  have HK : Hid (∀ o, Keeps (fun _ => False) w (w.alloc o)) := Lib.hid fun o => (Keeps.refl _ w).alloc o
  have fil : (((il : Nat) : Int) == 0) = false := by simpa using hi0
  have frl : decide (1 < ((rl : Nat) : Int)) = true := decide_eq_true (by omega)
  have HI0 := Lib.hid hi0
  clear hi0
  go_enter Try.func56, Try.ntmps56
  go_wp2_with (first | (with_reducible refine wp_region_text (by kernel_rfl) (by kernel_rfl) ?_) | (with_reducible refine text_fin (by kernel_rfl) ?_))
  all_goals
    go_ret
    refine ⟨?_, (HK.out _).drew⟩
    refine congrArg (fun b => Ending.returned (Value.bool b)) ?_
    have hi0 := HI0.out
    skip
    rw [okF_7, Bool.eq_iff_iff]
    try simp only [beq_iff_eq, decide_eq_true_eq, Bool.false_eq_true, empty_size, true_and, and_true]
    exact ⟨fun h => by first | exact h.elim | omega | (simp at h), fun h => by first | exact h.elim | omega | (simp at h)⟩
set_option maxRecDepth 100000 in
set_option maxHeartbeats 1600000 in
theorem fields_7k (w : World) (n : Int) (s : ByteArray) (ai ar ab : Option Addr) (il rl bl ci cr cb : Nat) (rk : Int) (hil : il ≤ 140737488355328) (hrl : rl ≤ 140737488355328) (hbl : bl ≤ 140737488355328) (b o : Nat) (har : ar = some ⟨b, o, none⟩) (hbw : b < w.heap.size) (hrk : w.cell? ⟨b, o, none⟩ = some (.int .i64 rk)) (hr1 : rl = 1) (hi0 : ¬ il = 0) (hk7 : rk = 7) :
    Calls Try.prog 56 #[.agg #[.int .i64 7, .int .i64 n, .string s, .slice ai il ci, .slice ar rl cr, .slice ab bl cb]] w fun e w' => e = .returned (.bool (okF 7 n s.size il rl bl rk)) ∧ Keeps (fun _ => False) w w' := by
  have HK : Hid (∀ o, Keeps (fun _ => False) w (w.alloc o)) := Lib.hid fun o => (Keeps.refl _ w).alloc o
  subst har
  have fr1 : (((rl : Nat) : Int) == 1) = true := by simp [hr1]
  have fr2 : decide (1 < ((rl : Nat) : Int)) = false := decide_eq_false (by omega)
  have fil : (((il : Nat) : Int) == 0) = false := by simpa using hi0
  have HI0 := Lib.hid hi0
  clear hi0
  subst hk7
  go_enter Try.func56, Try.ntmps56
  go_wp2_with (first | (with_reducible refine wp_region_text (by kernel_rfl) (by kernel_rfl) ?_) | (with_reducible refine text_fin (by kernel_rfl) ?_))
  all_goals
    go_ret
    refine ⟨?_, (HK.out _).drew⟩
    refine congrArg (fun b => Ending.returned (Value.bool b)) ?_
    have hi0 := HI0.out
    skip
    rw [okF_7, Bool.eq_iff_iff]
    try simp only [beq_iff_eq, decide_eq_true_eq, Bool.false_eq_true, empty_size, true_and, and_true]
    exact ⟨fun h => by first | exact h.elim | omega | (simp at h), fun h => by first | exact h.elim | omega | (simp at h)⟩
set_option maxRecDepth 100000 in
set_option maxHeartbeats 1600000 in
theorem fields_7l (w : World) (n : Int) (s : ByteArray) (ai ar ab : Option Addr) (il rl bl ci cr cb : Nat) (rk : Int) (hil : il ≤ 140737488355328) (hrl : rl ≤ 140737488355328) (hbl : bl ≤ 140737488355328) (b o : Nat) (har : ar = some ⟨b, o, none⟩) (hbw : b < w.heap.size) (hrk : w.cell? ⟨b, o, none⟩ = some (.int .i64 rk)) (hr1 : rl = 1) (hi0 : ¬ il = 0) (hk6 : rk = 6) :
    Calls Try.prog 56 #[.agg #[.int .i64 7, .int .i64 n, .string s, .slice ai il ci, .slice ar rl cr, .slice ab bl cb]] w fun e w' => e = .returned (.bool (okF 7 n s.size il rl bl rk)) ∧ Keeps (fun _ => False) w w' := by
  have HK : Hid (∀ o, Keeps (fun _ => False) w (w.alloc o)) := Lib.hid fun o => (Keeps.refl _ w).alloc o
  subst har
  have fr1 : (((rl : Nat) : Int) == 1) = true := by simp [hr1]
  have fr2 : decide (1 < ((rl : Nat) : Int)) = false := decide_eq_false (by omega)
  have fil : (((il : Nat) : Int) == 0) = false := by simpa using hi0
  have HI0 := Lib.hid hi0
  clear hi0
  subst hk6
  go_enter Try.func56, Try.ntmps56
  go_wp2_with (first | (with_reducible refine wp_region_text (by kernel_rfl) (by kernel_rfl) ?_) | (with_reducible refine text_fin (by kernel_rfl) ?_))
  all_goals
    go_ret
    refine ⟨?_, (HK.out _).drew⟩
    refine congrArg (fun b => Ending.returned (Value.bool b)) ?_
    have hi0 := HI0.out
    skip
    rw [okF_7, Bool.eq_iff_iff]
    try simp only [beq_iff_eq, decide_eq_true_eq, Bool.false_eq_true, empty_size, true_and, and_true]
    exact ⟨fun h => by first | exact h.elim | omega | (simp at h), fun h => by first | exact h.elim | omega | (simp at h)⟩
set_option maxRecDepth 100000 in
set_option maxHeartbeats 1600000 in
theorem fields_7na (w : World) (n : Int) (s : ByteArray) (ai ar ab : Option Addr) (il rl bl ci cr cb : Nat) (rk : Int) (hil : il ≤ 140737488355328) (hrl : rl ≤ 140737488355328) (hbl : bl ≤ 140737488355328) (b o : Nat) (har : ar = some ⟨b, o, none⟩) (hbw : b < w.heap.size) (hrk : w.cell? ⟨b, o, none⟩ = some (.int .i64 rk)) (hr1 : rl = 1) (hi0 : ¬ il = 0) (hk7 : (rk == 7) = false) (hk6 : (rk == 6) = false) (hn : (n == 0) = false) :
    Calls Try.prog 56 #[.agg #[.int .i64 7, .int .i64 n, .string s, .slice ai il ci, .slice ar rl cr, .slice ab bl cb]] w fun e w' => e = .returned (.bool (okF 7 n s.size il rl bl rk)) ∧ Keeps (fun _ => False) w w' := by
  have HK : Hid (∀ o, Keeps (fun _ => False) w (w.alloc o)) := Lib.hid fun o => (Keeps.refl _ w).alloc o
  subst har
  have fr1 : (((rl : Nat) : Int) == 1) = true := by simp [hr1]
  have fr2 : decide (1 < ((rl : Nat) : Int)) = false := decide_eq_false (by omega)
  have fil : (((il : Nat) : Int) == 0) = false := by simpa using hi0
  have HI0 := Lib.hid hi0
  clear hi0
  go_enter Try.func56, Try.ntmps56
  go_wp2_with (first | (with_reducible refine wp_region_text (by kernel_rfl) (by kernel_rfl) ?_) | (with_reducible refine text_fin (by kernel_rfl) ?_))
  all_goals
    go_ret
    refine ⟨?_, (HK.out _).drew⟩
    refine congrArg (fun b => Ending.returned (Value.bool b)) ?_
    have hi0 := HI0.out
    skip
    have k7 : ¬ rk = 7 := by simpa using hk7
    have k6 : ¬ rk = 6 := by simpa using hk6
    have hn' : ¬ n = 0 := by simpa using hn
    rw [okF_7, Bool.eq_iff_iff]
    try simp only [beq_iff_eq, decide_eq_true_eq, Bool.false_eq_true, empty_size, true_and, and_true]
    exact ⟨fun h => by first | exact h.elim | omega | (simp at h), fun h => by first | exact h.elim | omega | (simp at h)⟩
set_option maxRecDepth 100000 in
set_option maxHeartbeats 1600000 in
theorem fields_7sa (w : World) (n : Int) (s : ByteArray) (ai ar ab : Option Addr) (il rl bl ci cr cb : Nat) (rk : Int) (hil : il ≤ 140737488355328) (hrl : rl ≤ 140737488355328) (hbl : bl ≤ 140737488355328) (b o : Nat) (har : ar = some ⟨b, o, none⟩) (hbw : b < w.heap.size) (hrk : w.cell? ⟨b, o, none⟩ = some (.int .i64 rk)) (hr1 : rl = 1) (hi0 : ¬ il = 0) (hk7 : (rk == 7) = false) (hk6 : (rk == 6) = false) (hn : n = 0) (hs : s.size ≠ 0) :
    Calls Try.prog 56 #[.agg #[.int .i64 7, .int .i64 n, .string s, .slice ai il ci, .slice ar rl cr, .slice ab bl cb]] w fun e w' => e = .returned (.bool (okF 7 n s.size il rl bl rk)) ∧ Keeps (fun _ => False) w w' := by
  have HK : Hid (∀ o, Keeps (fun _ => False) w (w.alloc o)) := Lib.hid fun o => (Keeps.refl _ w).alloc o
  subst har
  have fr1 : (((rl : Nat) : Int) == 1) = true := by simp [hr1]
  have fr2 : decide (1 < ((rl : Nat) : Int)) = false := decide_eq_false (by omega)
  have fil : (((il : Nat) : Int) == 0) = false := by simpa using hi0
  have HI0 := Lib.hid hi0
  clear hi0
  subst hn
  have h1 : ¬ s.toList = [] := fun h => hs (toList_nil.1 h)
  go_enter Try.func56, Try.ntmps56
  go_wp2_with (first | (with_reducible refine wp_region_text (by kernel_rfl) (by kernel_rfl) ?_) | (with_reducible refine text_fin (by kernel_rfl) ?_))
  all_goals
    go_ret
    refine ⟨?_, (HK.out _).drew⟩
    refine congrArg (fun b => Ending.returned (Value.bool b)) ?_
    have hi0 := HI0.out
    skip
    have k7 : ¬ rk = 7 := by simpa using hk7
    have k6 : ¬ rk = 6 := by simpa using hk6
    rw [okF_7, Bool.eq_iff_iff]
    try simp only [beq_iff_eq, decide_eq_true_eq, Bool.false_eq_true, empty_size, true_and, and_true]
    exact ⟨fun h => by first | exact h.elim | omega | (simp at h), fun h => by first | exact h.elim | omega | (simp at h)⟩
set_option maxRecDepth 100000 in
set_option maxHeartbeats 1600000 in
theorem fields_7za (w : World) (n : Int) (s : ByteArray) (ai ar ab : Option Addr) (il rl bl ci cr cb : Nat) (rk : Int) (hil : il ≤ 140737488355328) (hrl : rl ≤ 140737488355328) (hbl : bl ≤ 140737488355328) (b o : Nat) (har : ar = some ⟨b, o, none⟩) (hbw : b < w.heap.size) (hrk : w.cell? ⟨b, o, none⟩ = some (.int .i64 rk)) (hr1 : rl = 1) (hi0 : ¬ il = 0) (hk7 : (rk == 7) = false) (hk6 : (rk == 6) = false) (hn : n = 0) (hs : s.size = 0) :
    Calls Try.prog 56 #[.agg #[.int .i64 7, .int .i64 n, .string s, .slice ai il ci, .slice ar rl cr, .slice ab bl cb]] w fun e w' => e = .returned (.bool (okF 7 n s.size il rl bl rk)) ∧ Keeps (fun _ => False) w w' := by
  have HK : Hid (∀ o, Keeps (fun _ => False) w (w.alloc o)) := Lib.hid fun o => (Keeps.refl _ w).alloc o
  subst har
  have fr1 : (((rl : Nat) : Int) == 1) = true := by simp [hr1]
  have fr2 : decide (1 < ((rl : Nat) : Int)) = false := decide_eq_false (by omega)
  have fil : (((il : Nat) : Int) == 0) = false := by simpa using hi0
  have HI0 := Lib.hid hi0
  clear hi0
  subst hn
  obtain rfl := size_nil hs
  clear hs
  go_enter Try.func56, Try.ntmps56
  go_wp2_with (first | (with_reducible refine wp_region_text (by kernel_rfl) (by kernel_rfl) ?_) | (with_reducible refine text_fin (by kernel_rfl) ?_))
  all_goals
    go_ret
    refine ⟨?_, (HK.out _).drew⟩
    refine congrArg (fun b => Ending.returned (Value.bool b)) ?_
    have hi0 := HI0.out
    skip
    have k7 : ¬ rk = 7 := by simpa using hk7
    have k6 : ¬ rk = 6 := by simpa using hk6
    rw [okF_7, Bool.eq_iff_iff]
    try simp only [beq_iff_eq, decide_eq_true_eq, Bool.false_eq_true, empty_size, true_and, and_true]
    exact ⟨fun h => by first | exact h.elim | omega | (simp at h), fun h => by first | exact h.elim | omega | (simp at h)⟩
set_option maxRecDepth 100000 in
set_option maxHeartbeats 1600000 in
theorem fields_7nb (w : World) (n : Int) (s : ByteArray) (ai ar ab : Option Addr) (il rl bl ci cr cb : Nat) (rk : Int) (hil : il ≤ 140737488355328) (hrl : rl ≤ 140737488355328) (hbl : bl ≤ 140737488355328) (hi0 : ¬ il = 0) (hr0 : rl = 0) (hn : (n == 0) = false) :
    Calls Try.prog 56 #[.agg #[.int .i64 7, .int .i64 n, .string s, .slice ai il ci, .slice ar rl cr, .slice ab bl cb]] w fun e w' => e = .returned (.bool (okF 7 n s.size il rl bl rk)) ∧ Keeps (fun _ => False) w w' := by
  have HK : Hid (∀ o, Keeps (fun _ => False) w (w.alloc o)) := Lib.hid fun o => (Keeps.refl _ w).alloc o
  have fr1 : (((rl : Nat) : Int) == 1) = false := by simp [hr0]
  have fr2 : decide (1 < ((rl : Nat) : Int)) = false := decide_eq_false (by omega)
  have HR0 := Lib.hid hr0
  clear hr0
  have fil : (((il : Nat) : Int) == 0) = false := by simpa using hi0
  have HI0 := Lib.hid hi0
  clear hi0
  go_enter Try.func56, Try.ntmps56
  go_wp2_with (first | (with_reducible refine wp_region_text (by kernel_rfl) (by kernel_rfl) ?_) | (with_reducible refine text_fin (by kernel_rfl) ?_))
  all_goals
    go_ret
    refine ⟨?_, (HK.out _).drew⟩
    refine congrArg (fun b => Ending.returned (Value.bool b)) ?_
    have hi0 := HI0.out
    have hr0 := HR0.out
    have hn' : ¬ n = 0 := by simpa using hn
    rw [okF_7, Bool.eq_iff_iff]
    try simp only [beq_iff_eq, decide_eq_true_eq, Bool.false_eq_true, empty_size, true_and, and_true]
    exact ⟨fun h => by first | exact h.elim | omega | (simp at h), fun h => by first | exact h.elim | omega | (simp at h)⟩
set_option maxRecDepth 100000 in
set_option maxHeartbeats 1600000 in
theorem fields_7sb (w : World) (n : Int) (s : ByteArray) (ai ar ab : Option Addr) (il rl bl ci cr cb : Nat) (rk : Int) (hil : il ≤ 140737488355328) (hrl : rl ≤ 140737488355328) (hbl : bl ≤ 140737488355328) (hi0 : ¬ il = 0) (hr0 : rl = 0) (hn : n = 0) (hs : s.size ≠ 0) :
    Calls Try.prog 56 #[.agg #[.int .i64 7, .int .i64 n, .string s, .slice ai il ci, .slice ar rl cr, .slice ab bl cb]] w fun e w' => e = .returned (.bool (okF 7 n s.size il rl bl rk)) ∧ Keeps (fun _ => False) w w' := by
  have HK : Hid (∀ o, Keeps (fun _ => False) w (w.alloc o)) := Lib.hid fun o => (Keeps.refl _ w).alloc o
  have fr1 : (((rl : Nat) : Int) == 1) = false := by simp [hr0]
  have fr2 : decide (1 < ((rl : Nat) : Int)) = false := decide_eq_false (by omega)
  have HR0 := Lib.hid hr0
  clear hr0
  have fil : (((il : Nat) : Int) == 0) = false := by simpa using hi0
  have HI0 := Lib.hid hi0
  clear hi0
  subst hn
  have h1 : ¬ s.toList = [] := fun h => hs (toList_nil.1 h)
  go_enter Try.func56, Try.ntmps56
  go_wp2_with (first | (with_reducible refine wp_region_text (by kernel_rfl) (by kernel_rfl) ?_) | (with_reducible refine text_fin (by kernel_rfl) ?_))
  all_goals
    go_ret
    refine ⟨?_, (HK.out _).drew⟩
    refine congrArg (fun b => Ending.returned (Value.bool b)) ?_
    have hi0 := HI0.out
    have hr0 := HR0.out
    rw [okF_7, Bool.eq_iff_iff]
    try simp only [beq_iff_eq, decide_eq_true_eq, Bool.false_eq_true, empty_size, true_and, and_true]
    exact ⟨fun h => by first | exact h.elim | omega | (simp at h), fun h => by first | exact h.elim | omega | (simp at h)⟩
set_option maxRecDepth 100000 in
set_option maxHeartbeats 1600000 in
theorem fields_7zb (w : World) (n : Int) (s : ByteArray) (ai ar ab : Option Addr) (il rl bl ci cr cb : Nat) (rk : Int) (hil : il ≤ 140737488355328) (hrl : rl ≤ 140737488355328) (hbl : bl ≤ 140737488355328) (hi0 : ¬ il = 0) (hr0 : rl = 0) (hn : n = 0) (hs : s.size = 0) :
    Calls Try.prog 56 #[.agg #[.int .i64 7, .int .i64 n, .string s, .slice ai il ci, .slice ar rl cr, .slice ab bl cb]] w fun e w' => e = .returned (.bool (okF 7 n s.size il rl bl rk)) ∧ Keeps (fun _ => False) w w' := by
  have HK : Hid (∀ o, Keeps (fun _ => False) w (w.alloc o)) := Lib.hid fun o => (Keeps.refl _ w).alloc o
  have fr1 : (((rl : Nat) : Int) == 1) = false := by simp [hr0]
  have fr2 : decide (1 < ((rl : Nat) : Int)) = false := decide_eq_false (by omega)
  have HR0 := Lib.hid hr0
  clear hr0
  have fil : (((il : Nat) : Int) == 0) = false := by simpa using hi0
  have HI0 := Lib.hid hi0
  clear hi0
  subst hn
  obtain rfl := size_nil hs
  clear hs
  go_enter Try.func56, Try.ntmps56
  go_wp2_with (first | (with_reducible refine wp_region_text (by kernel_rfl) (by kernel_rfl) ?_) | (with_reducible refine text_fin (by kernel_rfl) ?_))
  all_goals
    go_ret
    refine ⟨?_, (HK.out _).drew⟩
    refine congrArg (fun b => Ending.returned (Value.bool b)) ?_
    have hi0 := HI0.out
    have hr0 := HR0.out
    rw [okF_7, Bool.eq_iff_iff]
    try simp only [beq_iff_eq, decide_eq_true_eq, Bool.false_eq_true, empty_size, true_and, and_true]
    exact ⟨fun h => by first | exact h.elim | omega | (simp at h), fun h => by first | exact h.elim | omega | (simp at h)⟩
theorem fields_7 (w : World) (n : Int) (s : ByteArray) (ai ar ab : Option Addr) (il rl bl ci cr cb : Nat) (rk : Int) (hil : il ≤ 140737488355328) (hrl : rl ≤ 140737488355328) (hbl : bl ≤ 140737488355328)
    (hr : rl = 1 → ∃ b o, ar = some ⟨b, o, none⟩ ∧ b < w.heap.size ∧ w.cell? ⟨b, o, none⟩ = some (.int .i64 rk)) :
    Calls Try.prog 56 #[.agg #[.int .i64 7, .int .i64 n, .string s, .slice ai il ci, .slice ar rl cr, .slice ab bl cb]] w fun e w' => e = .returned (.bool (okF 7 n s.size il rl bl rk)) ∧ Keeps (fun _ => False) w w' := by
  by_cases hi0 : il = 0
  · exact fields_7i w n s ai ar ab il rl bl ci cr cb rk hil hrl hbl hi0
  have hn : n = 0 ∨ (n == 0) = false := by
    by_cases h : n = 0
    · exact .inl h
    · exact .inr (by simpa using h)
  by_cases h1 : 1 < rl
  · exact fields_7r w n s ai ar ab il rl bl ci cr cb rk hil hrl hbl hi0 h1
  by_cases h0 : rl = 0
  · rcases hn with hn | hn
    · by_cases hs : s.size = 0
      · exact fields_7zb w n s ai ar ab il rl bl ci cr cb rk hil hrl hbl hi0 h0 hn hs
      · exact fields_7sb w n s ai ar ab il rl bl ci cr cb rk hil hrl hbl hi0 h0 hn hs
    · exact fields_7nb w n s ai ar ab il rl bl ci cr cb rk hil hrl hbl hi0 h0 hn
  · have hr1 : rl = 1 := by omega
    obtain ⟨b, o, h2, h3, h4⟩ := hr hr1
    by_cases h7 : rk = 7
    · exact fields_7k w n s ai ar ab il rl bl ci cr cb rk hil hrl hbl b o h2 h3 h4 hr1 hi0 h7
    by_cases h6 : rk = 6
    · exact fields_7l w n s ai ar ab il rl bl ci cr cb rk hil hrl hbl b o h2 h3 h4 hr1 hi0 h6
    have k7 : (rk == 7) = false := by simpa using h7
    have k6 : (rk == 6) = false := by simpa using h6
    rcases hn with hn | hn
    · by_cases hs : s.size = 0
      · exact fields_7za w n s ai ar ab il rl bl ci cr cb rk hil hrl hbl b o h2 h3 h4 hr1 hi0 k7 k6 hn hs
      · exact fields_7sa w n s ai ar ab il rl bl ci cr cb rk hil hrl hbl b o h2 h3 h4 hr1 hi0 k7 k6 hn hs
    · exact fields_7na w n s ai ar ab il rl bl ci cr cb rk hil hrl hbl b o h2 h3 h4 hr1 hi0 k7 k6 hn
end Go.Proofs.Ytnmhodejffpblaa

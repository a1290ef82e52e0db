/-
  Which word a term is: what the document's code does (trouperef04.Small), way by way.
-/
import Derived.Test.YtnmhodejffpblaaSs
import Derived.Test.YtnmhodejffpblaaLr
namespace Go.Tx
open Go Go.RowKit
def SmallXPost (b : Nat) (E : Nat → Prop) (x : Int) (ok : Bool) (er : ErrO) (l : List ByteArray) (w : World) (e : Ending) (w' : World) : Prop :=
  ∃ v, e = .returned (.tuple #[.int .u64 x, .bool ok, v]) ∧ IsXO w' (Fresh w w') v er ∧ IsNames w' b (Wider E w w') l ∧ Keeps E w w'
theorem smallX_plain {w w' : World} {b : Nat} {E : Nat → Prop} {l : List ByteArray} (h : IsNames w b E l) (hk : Keeps (fun _ => False) w w') (x : Int) (ok : Bool) : SmallXPost b E x ok none l w (.returned (.tuple #[.int .u64 x, .bool ok, .pointer none])) w' :=
  ⟨_, rfl, rfl, h.later hk, hk.mono fun _ _ h => h.elim⟩
theorem IsX.around {w0 w w1 : World} {c : Nat} {l : List (ByteArray × Int)} {k : Int} (op : ByteArray) (n : Int) (h : IsX w (Fresh w0 w) (.pointer (some ⟨c, 0, none⟩)) l k) (hk : Keeps (fun _ => False) w w1) (h0 : w0.heap.size ≤ w.heap.size) :
    IsX (w1.alloc (.cells #[.string op, .int .i64 n, .pointer (some ⟨c, 0, none⟩), .int .i64 0] 125)) (Fresh w0 (w1.alloc (.cells #[.string op, .int .i64 n, .pointer (some ⟨c, 0, none⟩), .int .i64 0] 125))) (.pointer (some ⟨w1.heap.size, 0, none⟩)) ((op, n) :: l) k := by
  have hs := hk.size
  refine ⟨w1.heap.size, c, rfl, Blk.new w1 _ _, ⟨by omega, by simp⟩, ((h.keeps hk fun _ _ h => h).keeps ((Keeps.refl (fun _ => False) w1).alloc _) fun _ _ h => h).mono fun g hg => ⟨hg.1, by have := hg.2; simp; omega⟩⟩
theorem word_add (k n : Int) : IntKind.u64.wrap (IntKind.u64.wrap (IntKind.u64.wrap n * 8) + k) = (k + n * 8) % 18446744073709551616 := by
  rw [wrap_u64, wrap_u64, wrap_u64]; omega
theorem wordR_lt {E : Nat → Prop} {w w' : World} {b : Nat} {l : List ByteArray} (h : IsNames w b E l) (hs : w.heap.size ≤ w'.heap.size) : ∀ x, Wider E w w' x → x < w'.heap.size := fun x hx => hx.elim (fun hx => Nat.lt_of_lt_of_le (h.lt x hx) hs) fun hx => hx.2
end Go.Tx
namespace Go.Proofs.Ytnmhodejffpblaa
open Go.RowKit Go.Tx
set_option maxHeartbeats 400000 in
theorem F_some (op : ByteArray) (n : Int) (p : Addr) (w : World) : Calls Try.prog 39 #[.string op, .int .i64 n, .pointer (some p)] w fun r w' => r = .returned (.pointer (some ⟨w.heap.size, 0, none⟩)) ∧ w' = w.alloc (.cells #[.string op, .int .i64 n, .pointer (some p), .int .i64 0] 125) := by
  go_enter Try.func39, Try.ntmps39
  go_wp2_with (first | (with_reducible refine wp_region_text (by kernel_rfl) (by kernel_rfl) ?_) | (with_reducible refine text_fin (by kernel_rfl) ?_))
  go_ret
  exact ⟨rfl, rfl⟩
set_option maxRecDepth 100000 in
set_option maxHeartbeats 800000 in
theorem rsmall_1in {w : World} {b : Nat} {E : Nat → Prop} {l : List ByteArray} (h : IsNames w b E l) (n : Int) (s : ByteArray) (ai ar ab : Option Addr) (il rl bl ci cr cb : Nat) (hn1 : -1152921504606846976 ≤ n) (hn2 : n < 1152921504606846976)
    (HT : Hid (∀ W, Keeps (fun _ => False) w W → Calls Try.prog 38 #[.agg #[.int .i64 1, .int .i64 n, .string s, .slice ai il ci, .slice ar rl cr, .slice ab bl cb]] W fun e w' => e = .returned (.pointer none) ∧ Keeps (fun _ => False) W w')) :
    Calls Try.prog 14 #[.agg #[.int .i64 1, .int .i64 n, .string s, .slice ai il ci, .slice ar rl cr, .slice ab bl cb], .pointer (some ⟨b, 0, none⟩)] w (SmallXPost b E (n * 8 % 18446744073709551616) true none l w) := by
  have H := Lib.hid h
  have hbw := h.lt b h.own
  clear h
  go_enter Try.func14, Try.ntmps14
  go_wp2_with (go_at_call 38; refine Stop.out ?_)
  refine ⟨(HT.out _ ((Keeps.refl _ w).alloc _)).mono ?_⟩
  rintro e w2 ⟨rfl, hk2⟩
  have hbl : Blk w2 w.heap.size 26 [.int .i64 1, .int .i64 n, .string s, .slice ai il ci, .slice ar rl cr, .slice ab bl cb] := (Blk.new w _ _).keeps hk2 fun h => h
  have d0 : w2.cell? ⟨w.heap.size, 0, none⟩ = some (.int .i64 1) := hbl.cell (i := 0) rfl
  have d1 : w2.cell? ⟨w.heap.size, 1, none⟩ = some (.int .i64 n) := hbl.cell (i := 1) rfl
  have d2 : w2.cell? ⟨w.heap.size, 2, none⟩ = some (.string s) := hbl.cell (i := 2) rfl
  have HK2 : Hid (Keeps (fun _ => False) w w2) := Lib.hid (((Keeps.refl _ w).alloc _).trans hk2 fun _ _ h => h)
  clear hk2 hbl
  go_wp2
  rw [show IntKind.u64.wrap (IntKind.u64.wrap n * 8) = n * 8 % 18446744073709551616 by rw [wrap_u64, wrap_u64]; omega]
  all_goals
    go_ret3
    exact smallX_plain H.out HK2.out _ _
set_option maxRecDepth 100000 in
set_option maxHeartbeats 800000 in
theorem rsmall_1lo {w : World} {b : Nat} {E : Nat → Prop} {l : List ByteArray} (h : IsNames w b E l) (n : Int) (s : ByteArray) (ai ar ab : Option Addr) (il rl bl ci cr cb : Nat) (hn1 : n < -1152921504606846976)
    (HT : Hid (∀ W, Keeps (fun _ => False) w W → Calls Try.prog 38 #[.agg #[.int .i64 1, .int .i64 n, .string s, .slice ai il ci, .slice ar rl cr, .slice ab bl cb]] W fun e w' => e = .returned (.pointer none) ∧ Keeps (fun _ => False) W w')) :
    Calls Try.prog 14 #[.agg #[.int .i64 1, .int .i64 n, .string s, .slice ai il ci, .slice ar rl cr, .slice ab bl cb], .pointer (some ⟨b, 0, none⟩)] w (SmallXPost b E 0 false none l w) := by
  have H := Lib.hid h
  have hbw := h.lt b h.own
  clear h
  go_enter Try.func14, Try.ntmps14
  go_wp2_with (go_at_call 38; refine Stop.out ?_)
  refine ⟨(HT.out _ ((Keeps.refl _ w).alloc _)).mono ?_⟩
  rintro e w2 ⟨rfl, hk2⟩
  have hbl : Blk w2 w.heap.size 26 [.int .i64 1, .int .i64 n, .string s, .slice ai il ci, .slice ar rl cr, .slice ab bl cb] := (Blk.new w _ _).keeps hk2 fun h => h
  have d0 : w2.cell? ⟨w.heap.size, 0, none⟩ = some (.int .i64 1) := hbl.cell (i := 0) rfl
  have d1 : w2.cell? ⟨w.heap.size, 1, none⟩ = some (.int .i64 n) := hbl.cell (i := 1) rfl
  have d2 : w2.cell? ⟨w.heap.size, 2, none⟩ = some (.string s) := hbl.cell (i := 2) rfl
  have HK2 : Hid (Keeps (fun _ => False) w w2) := Lib.hid (((Keeps.refl _ w).alloc _).trans hk2 fun _ _ h => h)
  clear hk2 hbl
  go_wp2
  all_goals
    go_ret3
    exact smallX_plain H.out HK2.out _ _
set_option maxRecDepth 100000 in
set_option maxHeartbeats 800000 in
theorem rsmall_1hi {w : World} {b : Nat} {E : Nat → Prop} {l : List ByteArray} (h : IsNames w b E l) (n : Int) (s : ByteArray) (ai ar ab : Option Addr) (il rl bl ci cr cb : Nat) (hn1 : 1152921504606846976 ≤ n)
    (HT : Hid (∀ W, Keeps (fun _ => False) w W → Calls Try.prog 38 #[.agg #[.int .i64 1, .int .i64 n, .string s, .slice ai il ci, .slice ar rl cr, .slice ab bl cb]] W fun e w' => e = .returned (.pointer none) ∧ Keeps (fun _ => False) W w')) :
    Calls Try.prog 14 #[.agg #[.int .i64 1, .int .i64 n, .string s, .slice ai il ci, .slice ar rl cr, .slice ab bl cb], .pointer (some ⟨b, 0, none⟩)] w (SmallXPost b E 0 false none l w) := by
  have H := Lib.hid h
  have hbw := h.lt b h.own
  clear h
  go_enter Try.func14, Try.ntmps14
  go_wp2_with (go_at_call 38; refine Stop.out ?_)
  refine ⟨(HT.out _ ((Keeps.refl _ w).alloc _)).mono ?_⟩
  rintro e w2 ⟨rfl, hk2⟩
  have hbl : Blk w2 w.heap.size 26 [.int .i64 1, .int .i64 n, .string s, .slice ai il ci, .slice ar rl cr, .slice ab bl cb] := (Blk.new w _ _).keeps hk2 fun h => h
  have d0 : w2.cell? ⟨w.heap.size, 0, none⟩ = some (.int .i64 1) := hbl.cell (i := 0) rfl
  have d1 : w2.cell? ⟨w.heap.size, 1, none⟩ = some (.int .i64 n) := hbl.cell (i := 1) rfl
  have d2 : w2.cell? ⟨w.heap.size, 2, none⟩ = some (.string s) := hbl.cell (i := 2) rfl
  have HK2 : Hid (Keeps (fun _ => False) w w2) := Lib.hid (((Keeps.refl _ w).alloc _).trans hk2 fun _ _ h => h)
  clear hk2 hbl
  go_wp2
  all_goals
    go_ret3
    exact smallX_plain H.out HK2.out _ _
set_option maxRecDepth 100000 in
set_option maxHeartbeats 800000 in
theorem rsmall_3 {w : World} {b : Nat} {E : Nat → Prop} {l : List ByteArray} (h : IsNames w b E l) (n : Int) (s : ByteArray) (ai ar ab : Option Addr) (il rl bl ci cr cb : Nat) 
    (HT : Hid (∀ W, Keeps (fun _ => False) w W → Calls Try.prog 38 #[.agg #[.int .i64 3, .int .i64 n, .string s, .slice ai il ci, .slice ar rl cr, .slice ab bl cb]] W fun e w' => e = .returned (.pointer none) ∧ Keeps (fun _ => False) W w')) :
    Calls Try.prog 14 #[.agg #[.int .i64 3, .int .i64 n, .string s, .slice ai il ci, .slice ar rl cr, .slice ab bl cb], .pointer (some ⟨b, 0, none⟩)] w (SmallXPost b E (3 + n * 8 % 18446744073709551616) true none l w) := by
  have H := Lib.hid h
  have hbw := h.lt b h.own
  clear h
  go_enter Try.func14, Try.ntmps14
  go_wp2_with (go_at_call 38; refine Stop.out ?_)
  refine ⟨(HT.out _ ((Keeps.refl _ w).alloc _)).mono ?_⟩
  rintro e w2 ⟨rfl, hk2⟩
  have hbl : Blk w2 w.heap.size 26 [.int .i64 3, .int .i64 n, .string s, .slice ai il ci, .slice ar rl cr, .slice ab bl cb] := (Blk.new w _ _).keeps hk2 fun h => h
  have d0 : w2.cell? ⟨w.heap.size, 0, none⟩ = some (.int .i64 3) := hbl.cell (i := 0) rfl
  have d1 : w2.cell? ⟨w.heap.size, 1, none⟩ = some (.int .i64 n) := hbl.cell (i := 1) rfl
  have d2 : w2.cell? ⟨w.heap.size, 2, none⟩ = some (.string s) := hbl.cell (i := 2) rfl
  have HK2 : Hid (Keeps (fun _ => False) w w2) := Lib.hid (((Keeps.refl _ w).alloc _).trans hk2 fun _ _ h => h)
  clear hk2 hbl
  go_wp2
  rw [word_add 3 n, show (3 + n * 8) % 18446744073709551616 = 3 + n * 8 % 18446744073709551616 by omega]
  all_goals
    go_ret3
    exact smallX_plain H.out HK2.out _ _
set_option maxRecDepth 100000 in
set_option maxHeartbeats 800000 in
theorem rsmall_4 {w : World} {b : Nat} {E : Nat → Prop} {l : List ByteArray} (h : IsNames w b E l) (n : Int) (s : ByteArray) (ai ar ab : Option Addr) (il rl bl ci cr cb : Nat) 
    (HT : Hid (∀ W, Keeps (fun _ => False) w W → Calls Try.prog 38 #[.agg #[.int .i64 4, .int .i64 n, .string s, .slice ai il ci, .slice ar rl cr, .slice ab bl cb]] W fun e w' => e = .returned (.pointer none) ∧ Keeps (fun _ => False) W w')) :
    Calls Try.prog 14 #[.agg #[.int .i64 4, .int .i64 n, .string s, .slice ai il ci, .slice ar rl cr, .slice ab bl cb], .pointer (some ⟨b, 0, none⟩)] w (SmallXPost b E (2 + n * 8 % 18446744073709551616) true none l w) := by
  have H := Lib.hid h
  have hbw := h.lt b h.own
  clear h
  go_enter Try.func14, Try.ntmps14
  go_wp2_with (go_at_call 38; refine Stop.out ?_)
  refine ⟨(HT.out _ ((Keeps.refl _ w).alloc _)).mono ?_⟩
  rintro e w2 ⟨rfl, hk2⟩
  have hbl : Blk w2 w.heap.size 26 [.int .i64 4, .int .i64 n, .string s, .slice ai il ci, .slice ar rl cr, .slice ab bl cb] := (Blk.new w _ _).keeps hk2 fun h => h
  have d0 : w2.cell? ⟨w.heap.size, 0, none⟩ = some (.int .i64 4) := hbl.cell (i := 0) rfl
  have d1 : w2.cell? ⟨w.heap.size, 1, none⟩ = some (.int .i64 n) := hbl.cell (i := 1) rfl
  have d2 : w2.cell? ⟨w.heap.size, 2, none⟩ = some (.string s) := hbl.cell (i := 2) rfl
  have HK2 : Hid (Keeps (fun _ => False) w w2) := Lib.hid (((Keeps.refl _ w).alloc _).trans hk2 fun _ _ h => h)
  clear hk2 hbl
  go_wp2
  rw [word_add 2 n, show (2 + n * 8) % 18446744073709551616 = 2 + n * 8 % 18446744073709551616 by omega]
  all_goals
    go_ret3
    exact smallX_plain H.out HK2.out _ _
set_option maxRecDepth 100000 in
set_option maxHeartbeats 800000 in
theorem rsmall_6 {w : World} {b : Nat} {E : Nat → Prop} {l : List ByteArray} (h : IsNames w b E l) (n : Int) (s : ByteArray) (ai ar ab : Option Addr) (il rl bl ci cr cb : Nat) (hn0 : n = 0)
    (HT : Hid (∀ W, Keeps (fun _ => False) w W → Calls Try.prog 38 #[.agg #[.int .i64 6, .int .i64 n, .string s, .slice ai il ci, .slice ar rl cr, .slice ab bl cb]] W fun e w' => e = .returned (.pointer none) ∧ Keeps (fun _ => False) W w')) :
    Calls Try.prog 14 #[.agg #[.int .i64 6, .int .i64 n, .string s, .slice ai il ci, .slice ar rl cr, .slice ab bl cb], .pointer (some ⟨b, 0, none⟩)] w (SmallXPost b E 4 true none l w) := by
  have H := Lib.hid h
  have hbw := h.lt b h.own
  clear h
  subst hn0
  go_enter Try.func14, Try.ntmps14
  go_wp2_with (go_at_call 38; refine Stop.out ?_)
  refine ⟨(HT.out _ ((Keeps.refl _ w).alloc _)).mono ?_⟩
  rintro e w2 ⟨rfl, hk2⟩
  have hbl : Blk w2 w.heap.size 26 [.int .i64 6, .int .i64 0, .string s, .slice ai il ci, .slice ar rl cr, .slice ab bl cb] := (Blk.new w _ _).keeps hk2 fun h => h
  have d0 : w2.cell? ⟨w.heap.size, 0, none⟩ = some (.int .i64 6) := hbl.cell (i := 0) rfl
  have d1 : w2.cell? ⟨w.heap.size, 1, none⟩ = some (.int .i64 0) := hbl.cell (i := 1) rfl
  have d2 : w2.cell? ⟨w.heap.size, 2, none⟩ = some (.string s) := hbl.cell (i := 2) rfl
  have HK2 : Hid (Keeps (fun _ => False) w w2) := Lib.hid (((Keeps.refl _ w).alloc _).trans hk2 fun _ _ h => h)
  clear hk2 hbl
  go_wp2
  all_goals
    go_ret3
    exact smallX_plain H.out HK2.out _ _
set_option maxRecDepth 100000 in
set_option maxHeartbeats 800000 in
theorem rsmall_5 {w : World} {b : Nat} {E : Nat → Prop} {l : List ByteArray} (h : IsNames w b E l) (n : Int) (s : ByteArray) (ai ar ab : Option Addr) (il rl bl ci cr cb : Nat) 
    (HT : Hid (∀ W, Keeps (fun _ => False) w W → Calls Try.prog 38 #[.agg #[.int .i64 5, .int .i64 n, .string s, .slice ai il ci, .slice ar rl cr, .slice ab bl cb]] W fun e w' => e = .returned (.pointer none) ∧ Keeps (fun _ => False) W w')) :
    Calls Try.prog 14 #[.agg #[.int .i64 5, .int .i64 n, .string s, .slice ai il ci, .slice ar rl cr, .slice ab bl cb], .pointer (some ⟨b, 0, none⟩)] w (SmallXPost b E 0 false none l w) := by
  have H := Lib.hid h
  have hbw := h.lt b h.own
  clear h
  go_enter Try.func14, Try.ntmps14
  go_wp2_with (go_at_call 38; refine Stop.out ?_)
  refine ⟨(HT.out _ ((Keeps.refl _ w).alloc _)).mono ?_⟩
  rintro e w2 ⟨rfl, hk2⟩
  have hbl : Blk w2 w.heap.size 26 [.int .i64 5, .int .i64 n, .string s, .slice ai il ci, .slice ar rl cr, .slice ab bl cb] := (Blk.new w _ _).keeps hk2 fun h => h
  have d0 : w2.cell? ⟨w.heap.size, 0, none⟩ = some (.int .i64 5) := hbl.cell (i := 0) rfl
  have d1 : w2.cell? ⟨w.heap.size, 1, none⟩ = some (.int .i64 n) := hbl.cell (i := 1) rfl
  have d2 : w2.cell? ⟨w.heap.size, 2, none⟩ = some (.string s) := hbl.cell (i := 2) rfl
  have HK2 : Hid (Keeps (fun _ => False) w w2) := Lib.hid (((Keeps.refl _ w).alloc _).trans hk2 fun _ _ h => h)
  clear hk2 hbl
  go_wp2
  all_goals
    go_ret3
    exact smallX_plain H.out HK2.out _ _
set_option maxRecDepth 100000 in
set_option maxHeartbeats 800000 in
theorem rsmall_7 {w : World} {b : Nat} {E : Nat → Prop} {l : List ByteArray} (h : IsNames w b E l) (n : Int) (s : ByteArray) (ai ar ab : Option Addr) (il rl bl ci cr cb : Nat) 
    (HT : Hid (∀ W, Keeps (fun _ => False) w W → Calls Try.prog 38 #[.agg #[.int .i64 7, .int .i64 n, .string s, .slice ai il ci, .slice ar rl cr, .slice ab bl cb]] W fun e w' => e = .returned (.pointer none) ∧ Keeps (fun _ => False) W w')) :
    Calls Try.prog 14 #[.agg #[.int .i64 7, .int .i64 n, .string s, .slice ai il ci, .slice ar rl cr, .slice ab bl cb], .pointer (some ⟨b, 0, none⟩)] w (SmallXPost b E 0 false none l w) := by
  have H := Lib.hid h
  have hbw := h.lt b h.own
  clear h
  go_enter Try.func14, Try.ntmps14
  go_wp2_with (go_at_call 38; refine Stop.out ?_)
  refine ⟨(HT.out _ ((Keeps.refl _ w).alloc _)).mono ?_⟩
  rintro e w2 ⟨rfl, hk2⟩
  have hbl : Blk w2 w.heap.size 26 [.int .i64 7, .int .i64 n, .string s, .slice ai il ci, .slice ar rl cr, .slice ab bl cb] := (Blk.new w _ _).keeps hk2 fun h => h
  have d0 : w2.cell? ⟨w.heap.size, 0, none⟩ = some (.int .i64 7) := hbl.cell (i := 0) rfl
  have d1 : w2.cell? ⟨w.heap.size, 1, none⟩ = some (.int .i64 n) := hbl.cell (i := 1) rfl
  have d2 : w2.cell? ⟨w.heap.size, 2, none⟩ = some (.string s) := hbl.cell (i := 2) rfl
  have HK2 : Hid (Keeps (fun _ => False) w w2) := Lib.hid (((Keeps.refl _ w).alloc _).trans hk2 fun _ _ h => h)
  clear hk2 hbl
  go_wp2
  all_goals
    go_ret3
    exact smallX_plain H.out HK2.out _ _
set_option maxRecDepth 100000 in
set_option maxHeartbeats 800000 in
theorem rsmall_8 {w : World} {b : Nat} {E : Nat → Prop} {l : List ByteArray} (h : IsNames w b E l) (n : Int) (s : ByteArray) (ai ar ab : Option Addr) (il rl bl ci cr cb : Nat) 
    (HT : Hid (∀ W, Keeps (fun _ => False) w W → Calls Try.prog 38 #[.agg #[.int .i64 8, .int .i64 n, .string s, .slice ai il ci, .slice ar rl cr, .slice ab bl cb]] W fun e w' => e = .returned (.pointer none) ∧ Keeps (fun _ => False) W w')) :
    Calls Try.prog 14 #[.agg #[.int .i64 8, .int .i64 n, .string s, .slice ai il ci, .slice ar rl cr, .slice ab bl cb], .pointer (some ⟨b, 0, none⟩)] w (SmallXPost b E 0 false none l w) := by
  have H := Lib.hid h
  have hbw := h.lt b h.own
  clear h
  go_enter Try.func14, Try.ntmps14
  go_wp2_with (go_at_call 38; refine Stop.out ?_)
  refine ⟨(HT.out _ ((Keeps.refl _ w).alloc _)).mono ?_⟩
  rintro e w2 ⟨rfl, hk2⟩
  have hbl : Blk w2 w.heap.size 26 [.int .i64 8, .int .i64 n, .string s, .slice ai il ci, .slice ar rl cr, .slice ab bl cb] := (Blk.new w _ _).keeps hk2 fun h => h
  have d0 : w2.cell? ⟨w.heap.size, 0, none⟩ = some (.int .i64 8) := hbl.cell (i := 0) rfl
  have d1 : w2.cell? ⟨w.heap.size, 1, none⟩ = some (.int .i64 n) := hbl.cell (i := 1) rfl
  have d2 : w2.cell? ⟨w.heap.size, 2, none⟩ = some (.string s) := hbl.cell (i := 2) rfl
  have HK2 : Hid (Keeps (fun _ => False) w w2) := Lib.hid (((Keeps.refl _ w).alloc _).trans hk2 fun _ _ h => h)
  clear hk2 hbl
  go_wp2
  all_goals
    go_ret3
    exact smallX_plain H.out HK2.out _ _
set_option maxRecDepth 100000 in
set_option maxHeartbeats 800000 in
theorem rsmall_2 {w : World} {b : Nat} {E : Nat → Prop} {l : List ByteArray} (h : IsNames w b E l) (n : Int) (s : ByteArray) (ai ar ab : Option Addr) (il rl bl ci cr cb : Nat) (x : Int) (l2 : List ByteArray) (hn : askName l s = (x, none, l2))
    (HT : Hid (∀ W, Keeps (fun _ => False) w W → Calls Try.prog 38 #[.agg #[.int .i64 2, .int .i64 n, .string s, .slice ai il ci, .slice ar rl cr, .slice ab bl cb]] W fun e w' => e = .returned (.pointer none) ∧ Keeps (fun _ => False) W w')) :
    Calls Try.prog 14 #[.agg #[.int .i64 2, .int .i64 n, .string s, .slice ai il ci, .slice ar rl cr, .slice ab bl cb], .pointer (some ⟨b, 0, none⟩)] w (SmallXPost b E (1 + x * 8 % 18446744073709551616) true none l2 w) := by
  have H := Lib.hid h
  have hbw := h.lt b h.own
  clear h
  have HN : Hid (∀ W, IsNames W b E l → Calls Try.prog 33 #[.pointer (some ⟨b, 0, none⟩), .string s] W (AskXPost b E (x, none, l2) W)) := Lib.hid fun W hW => hn ▸ rnumber_ask s hW
  clear hn
  go_enter Try.func14, Try.ntmps14
  go_wp2_with (go_at_call 38; refine Stop.out ?_)
  refine ⟨(HT.out _ ((Keeps.refl _ w).alloc _)).mono ?_⟩
  rintro e w2 ⟨rfl, hk2⟩
  have hbl : Blk w2 w.heap.size 26 [.int .i64 2, .int .i64 n, .string s, .slice ai il ci, .slice ar rl cr, .slice ab bl cb] := (Blk.new w _ _).keeps hk2 fun h => h
  have d0 : w2.cell? ⟨w.heap.size, 0, none⟩ = some (.int .i64 2) := hbl.cell (i := 0) rfl
  have d1 : w2.cell? ⟨w.heap.size, 1, none⟩ = some (.int .i64 n) := hbl.cell (i := 1) rfl
  have d2 : w2.cell? ⟨w.heap.size, 2, none⟩ = some (.string s) := hbl.cell (i := 2) rfl
  have HK2 : Hid (Keeps (fun _ => False) w w2) := Lib.hid (((Keeps.refl _ w).alloc _).trans hk2 fun _ _ h => h)
  clear hk2 hbl
  go_wp2_with (go_at_call 33; refine Stop.out ?_)
  refine ⟨(HN.out _ (H.out.keeps HK2.out fun _ _ h => h)).mono ?_⟩
  rintro e w3 ⟨v3, rfl, rfl, ha3, hk3⟩
  have HA3 := Lib.hid ha3
  have HK3 := Lib.hid ((HK2.out.mono (T := E) fun _ _ h => h.elim).trans hk3 fun _ _ h => h)
  clear ha3 hk3 d0 d1 d2
  go_wp2
  rw [word_add 1 x, show (1 + x * 8) % 18446744073709551616 = 1 + x * 8 % 18446744073709551616 by omega]
  go_ret3
  exact ⟨_, rfl, rfl, HA3.out.wider (wider_more HK2.out.size) (wordR_lt H.out HK3.out.size), HK3.out⟩
set_option maxRecDepth 100000 in
set_option maxHeartbeats 800000 in
theorem rsmall_err {w : World} {b : Nat} {E : Nat → Prop} {l : List ByteArray} (h : IsNames w b E l) (k : Int) (n : Int) (s : ByteArray) (ai ar ab : Option Addr) (il rl bl ci cr cb : Nat) (c : List (ByteArray × Int)) (kd : Int) (hc : c.length < 9000)
    (HT : Hid (∀ W, Keeps (fun _ => False) w W → Calls Try.prog 38 #[.agg #[.int .i64 k, .int .i64 n, .string s, .slice ai il ci, .slice ar rl cr, .slice ab bl cb]] W (XOPost id (some (c, kd)) W))) :
    Calls Try.prog 14 #[.agg #[.int .i64 k, .int .i64 n, .string s, .slice ai il ci, .slice ar rl cr, .slice ab bl cb], .pointer (some ⟨b, 0, none⟩)] w (SmallXPost b E 0 false (some ((⟨#[115, 109, 97, 108, 108]⟩, 0) :: c, kd)) l w) := by
  have H := Lib.hid h
  have hbw := h.lt b h.own
  clear h
  go_enter Try.func14, Try.ntmps14
  go_wp2_with (go_at_call 38; refine Stop.out ?_)
  refine ⟨(HT.out _ ((Keeps.refl _ w).alloc _)).mono ?_⟩
  rintro e w2 ⟨v, rfl, ⟨he, hcl⟩, hk2⟩
  obtain ⟨g, rfl⟩ := he.ptr
  have HK2 : Hid (Keeps (fun _ => False) w w2) := Lib.hid (((Keeps.refl _ w).alloc _).trans hk2 fun _ _ h => h)
  have HE := Lib.hid (he.mono fun g hg => (⟨by have := hg.1; rw [World.size_alloc] at this; omega, hg.2⟩ : Fresh w w2 g))
  clear hk2 he hcl
  unfold id
  go_wp2_with (first | (go_at_call 39; refine (F_some _ _ _ _).mono ?_; rintro e w3 ⟨rfl, rfl⟩))
  go_ret3
  exact ⟨_, rfl, ⟨HE.out.around _ _ (Keeps.refl _ _) HK2.out.size, by simp; omega⟩, H.out.later (HK2.out.alloc _), (HK2.out.alloc _).mono fun _ _ h => h.elim⟩
set_option maxRecDepth 100000 in
set_option maxHeartbeats 800000 in
theorem rsmall_2e {w : World} {b : Nat} {E : Nat → Prop} {l : List ByteArray} (h : IsNames w b E l) (n : Int) (s : ByteArray) (ai ar ab : Option Addr) (il rl bl ci cr cb : Nat) (x : Int) (l2 : List ByteArray) (c : List (ByteArray × Int)) (kd : Int) (hc : c.length < 9000) (hn : askName l s = (x, some (c, kd), l2))
    (HT : Hid (∀ W, Keeps (fun _ => False) w W → Calls Try.prog 38 #[.agg #[.int .i64 2, .int .i64 n, .string s, .slice ai il ci, .slice ar rl cr, .slice ab bl cb]] W fun e w' => e = .returned (.pointer none) ∧ Keeps (fun _ => False) W w')) :
    Calls Try.prog 14 #[.agg #[.int .i64 2, .int .i64 n, .string s, .slice ai il ci, .slice ar rl cr, .slice ab bl cb], .pointer (some ⟨b, 0, none⟩)] w (SmallXPost b E 0 false (some ((⟨#[115, 109, 97, 108, 108]⟩, 0) :: c, kd)) l2 w) := by
  have H := Lib.hid h
  have hbw := h.lt b h.own
  clear h
  have HN : Hid (∀ W, IsNames W b E l → Calls Try.prog 33 #[.pointer (some ⟨b, 0, none⟩), .string s] W (AskXPost b E (x, some (c, kd), l2) W)) := Lib.hid fun W hW => hn ▸ rnumber_ask s hW
  clear hn
  go_enter Try.func14, Try.ntmps14
  go_wp2_with (go_at_call 38; refine Stop.out ?_)
  refine ⟨(HT.out _ ((Keeps.refl _ w).alloc _)).mono ?_⟩
  rintro e w2 ⟨rfl, hk2⟩
  have hbl : Blk w2 w.heap.size 26 [.int .i64 2, .int .i64 n, .string s, .slice ai il ci, .slice ar rl cr, .slice ab bl cb] := (Blk.new w _ _).keeps hk2 fun h => h
  have d0 : w2.cell? ⟨w.heap.size, 0, none⟩ = some (.int .i64 2) := hbl.cell (i := 0) rfl
  have d1 : w2.cell? ⟨w.heap.size, 1, none⟩ = some (.int .i64 n) := hbl.cell (i := 1) rfl
  have d2 : w2.cell? ⟨w.heap.size, 2, none⟩ = some (.string s) := hbl.cell (i := 2) rfl
  have HK2 : Hid (Keeps (fun _ => False) w w2) := Lib.hid (((Keeps.refl _ w).alloc _).trans hk2 fun _ _ h => h)
  clear hk2 hbl
  go_wp2_with (go_at_call 33; refine Stop.out ?_)
  refine ⟨(HN.out _ (H.out.keeps HK2.out fun _ _ h => h)).mono ?_⟩
  rintro e w3 ⟨v3, rfl, ⟨he, hcl⟩, ha3, hk3⟩
  obtain ⟨g, rfl⟩ := he.ptr
  have HE := Lib.hid (he.mono fun g hg => (⟨Nat.le_trans HK2.out.size hg.1, hg.2⟩ : Fresh w w3 g))
  have HA3 := Lib.hid ha3
  have HK3 : Hid (Keeps E w w3) := Lib.hid ((HK2.out.mono fun _ _ h => h.elim).trans hk3 fun _ _ h => h)
  clear ha3 hk3 d0 d1 d2 he hcl
  go_wp2_with (first | (go_at_call 39; refine (F_some _ _ _ _).mono ?_; rintro e w4 ⟨rfl, rfl⟩))
  go_ret3
  refine ⟨_, rfl, ⟨HE.out.around _ _ (Keeps.refl _ _) HK3.out.size, by simp; omega⟩, ?_, HK3.out.alloc _⟩
  exact (HA3.out.keeps ((Keeps.refl (fun _ => False) w3).alloc _) fun _ _ h => h).wider (fun x hx => hx.elim .inl fun hx => .inr ⟨Nat.le_trans HK2.out.size hx.1, Nat.lt_of_lt_of_le hx.2 (by simp)⟩) (wordR_lt H.out (HK3.out.alloc _).size)
theorem rsmall_any {w : World} {b : Nat} {E : Nat → Prop} {l : List ByteArray} {S : Nat → Prop} {d : Nat} {v : Value} {t : Tm} (h : IsNames w b E l) (ht : TmD w S d v t) (hS : ∀ x, S x → x < w.heap.size) :
    Calls Try.prog 14 #[v, .pointer (some ⟨b, 0, none⟩)] w (SmallXPost b E (smallOf l t).1.1 (smallOf l t).1.2.1 (smallOf l t).1.2.2 (smallOf l t).2 w) := by
  have HR : ∀ W, Keeps (fun _ => False) w W → Calls Try.prog 38 #[v] W (XOPost id (rightTm t) W) := fun W hk => rright_any (ht.keeps hk fun _ _ h => h) fun x hx => Nat.lt_of_lt_of_le (hS x hx) hk.size
  obtain ⟨y3, y4, y5, rfl, _⟩ := ht.form
  cases d with
  | zero => exact ht.elim
  | succ d =>
  obtain ⟨y3, y4, y5, e, hf, hn, h3, h4, h5⟩ := ht
  obtain ⟨ai, ci, rfl⟩ := h3.form
  obtain ⟨ar, cr, rfl⟩ := h4.form
  obtain ⟨ab, cb, rfl⟩ := h5.form
  rw [e] at HR
  rw [e]
  clear e
  obtain ⟨k, n, s, is, rs, bs⟩ := t
  simp only [Tm.val, Tm.kind, Tm.n, Tm.name, Tm.items, Tm.rest, Tm.bytes] at HR ⊢
  unfold smallOf
  cases hr : rightTm (.mk k n s is rs bs) with
  | some x =>
    obtain ⟨c, kd⟩ := x
    rw [hr] at HR
    exact rsmall_err h k n s ai ar ab _ _ _ ci cr cb c kd (right_some hr) (Lib.hid HR)
  | none =>
    rw [hr] at HR
    have HN : ∀ W, Keeps (fun _ => False) w W → Calls Try.prog 38 #[.agg #[.int .i64 k, .int .i64 n, .string s, .slice ai is.length ci, .slice ar rs.length cr, .slice ab bs.size cb]] W fun e w' => e = .returned (.pointer none) ∧ Keeps (fun _ => False) W w' := fun W hk => (HR W hk).mono fun e w' ⟨E, he, h1, h2⟩ => ⟨by rw [he, show E = (.pointer none) from h1]; rfl, h2⟩
    have hok := okB_kind (right_none hr)
    simp only [Tm.kind, Tm.n] at hok
    obtain ⟨hk, h6⟩ := hok
    show Calls _ _ _ w (SmallXPost b E (smallK l k n s).1.1 (smallK l k n s).1.2.1 (smallK l k n s).1.2.2 (smallK l k n s).2 w)
    unfold smallK
    by_cases k1 : k = 1
    · subst k1
      rw [if_pos rfl]
      by_cases hb : -1152921504606846976 ≤ n ∧ n < 1152921504606846976
      · rw [if_pos hb]; exact rsmall_1in h n s ai ar ab _ _ _ ci cr cb hb.1 hb.2 (Lib.hid HN)
      · rw [if_neg hb]
        by_cases hl : n < -1152921504606846976
        · exact rsmall_1lo h n s ai ar ab _ _ _ ci cr cb hl (Lib.hid HN)
        · exact rsmall_1hi h n s ai ar ab _ _ _ ci cr cb (by omega) (Lib.hid HN)
    rw [if_neg k1]
    by_cases k2 : k = 2
    · subst k2
      rw [if_pos rfl]
      split
      · next x l2 hq => exact rsmall_2 h n s ai ar ab _ _ _ ci cr cb x l2 hq (Lib.hid HN)
      · next x c kd l2 hq => exact rsmall_2e h n s ai ar ab _ _ _ ci cr cb x l2 c kd (ask_short hq) hq (Lib.hid HN)
    rw [if_neg k2]
    by_cases k3 : k = 3
    · subst k3
      rw [if_pos rfl]
      exact rsmall_3 h n s ai ar ab _ _ _ ci cr cb (Lib.hid HN)
    rw [if_neg k3]
    by_cases k4 : k = 4
    · subst k4
      rw [if_pos rfl]
      exact rsmall_4 h n s ai ar ab _ _ _ ci cr cb (Lib.hid HN)
    rw [if_neg k4]
    by_cases k6 : k = 6
    · subst k6
      rw [if_pos rfl]
      exact rsmall_6 h n s ai ar ab _ _ _ ci cr cb (h6 rfl) (Lib.hid HN)
    rw [if_neg k6]
    have hk : k = 5 ∨ k = 7 ∨ k = 8 := by omega
    rcases hk with rfl | rfl | rfl
    · exact rsmall_5 h n s ai ar ab _ _ _ ci cr cb (Lib.hid HN)
    · exact rsmall_7 h n s ai ar ab _ _ _ ci cr cb (Lib.hid HN)
    · exact rsmall_8 h n s ai ar ab _ _ _ ci cr cb (Lib.hid HN)
end Go.Proofs.Ytnmhodejffpblaa

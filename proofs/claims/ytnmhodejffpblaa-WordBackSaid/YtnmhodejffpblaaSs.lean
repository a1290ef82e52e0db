/-
  Which word a term is: what the Go code does (word.Small), way by way.
-/
import Derived.Test.YtnmhodejffpblaaBo
import Derived.Test.YtnmhodejffpblaaWdI
import Derived.Test.YtnmhodejffpblaaTt
import Derived.Test.YtnmhodejffpblaaCq
namespace Go.Tx
open Go Go.RowKit
def smallTxt : ByteArray := ⟨#[115, 109, 97, 108, 108]⟩
/-- an error with "small" around it -/
def aroundSmall : ErrO → ErrO
  | none => none
  | some (c, k) => some ((⟨#[115, 109, 97, 108, 108]⟩, 0) :: c, k)
/-- which word a term is, if it may be: the word, whether, what is wrong; the table behind -/
def smallK (l : List ByteArray) (k n : Int) (s : ByteArray) : (Int × Bool × ErrO) × List ByteArray :=
  if k = 1 then (if -1152921504606846976 ≤ n ∧ n < 1152921504606846976 then ((n * 8 % 18446744073709551616, true, none), l) else ((0, false, none), l))
  else if k = 2 then (match askName l s with
    | (x, none, l2) => ((1 + x * 8 % 18446744073709551616, true, none), l2)
    | (_, some (c, kd), l2) => ((0, false, some ((⟨#[115, 109, 97, 108, 108]⟩, 0) :: c, kd)), l2))
  else if k = 3 then ((3 + n * 8 % 18446744073709551616, true, none), l)
  else if k = 4 then ((2 + n * 8 % 18446744073709551616, true, none), l)
  else if k = 6 then ((4, true, none), l)
  else ((0, false, none), l)
/-- which word a term is -/
def smallOf (l : List ByteArray) (t : Tm) : (Int × Bool × ErrO) × List ByteArray :=
  match rightTm t with
  | some (c, k) => ((0, false, some ((⟨#[115, 109, 97, 108, 108]⟩, 0) :: c, k)), l)
  | none => smallK l t.kind t.n t.name
theorem chk_okB {t : Tm} {dep : Int} {st st' : Int × Int} (h : chk t dep st = .ok st') : t.okB = true := by
  obtain ⟨k, n, s, is, rs, bs⟩ := t
  unfold chk at h
  dsimp only at h
  split at h
  · cases h
  · split at h
    · cases h
    · next h1 => simpa using h1
theorem right_none {t : Tm} (h : rightTm t = none) : t.okB = true := by
  unfold rightTm at h
  cases hc : chk t 1 (0, 0) with
  | error x => rw [hc] at h; cases h
  | ok st => exact chk_okB hc
theorem right_some {t : Tm} {c : List (ByteArray × Int)} {k : Int} (h : rightTm t = some (c, k)) : c.length < 9000 := by
  unfold rightTm at h
  cases hc : chk t 1 (0, 0) with
  | ok x => rw [hc] at h; cases h
  | error st => rw [hc] at h; cases h; simp
theorem okB_kind {t : Tm} (h : t.okB = true) : (t.kind = 1 ∨ t.kind = 2 ∨ t.kind = 3 ∨ t.kind = 4 ∨ t.kind = 5 ∨ t.kind = 6 ∨ t.kind = 7 ∨ t.kind = 8) ∧ (t.kind = 6 → t.n = 0) := by
  unfold Tm.okB okF at h
  split at h
  · exact ⟨by omega, fun h6 => by omega⟩
  split at h
  · exact ⟨by omega, fun h6 => by omega⟩
  split at h
  · exact ⟨by omega, fun h6 => by omega⟩
  split at h
  · exact ⟨by omega, fun h6 => by omega⟩
  split at h
  · exact ⟨by omega, fun h6 => by omega⟩
  split at h
  · exact ⟨by omega, fun h6 => (of_decide_eq_true h).1⟩
  split at h
  · exact ⟨by omega, fun h6 => by omega⟩
  split at h
  · exact ⟨by omega, fun h6 => by omega⟩
  · cases h
theorem ask_short {l : List ByteArray} {s : ByteArray} {x : Int} {c : List (ByteArray × Int)} {k : Int} {l2 : List ByteArray} (h : askName l s = (x, some (c, k), l2)) : c.length < 9000 := by
  unfold askName at h
  split at h
  · cases h; simp
  · split at h
    · cases h
    · split at h
      · cases h; simp
      · cases h
def SmallPost (b : Nat) (E : Nat → Prop) (x : Int) (ok : Bool) (er : ErrO) (l : List ByteArray) (w : World) (e : Ending) (w' : World) : Prop :=
  ∃ v, e = .returned (.tuple #[.int .u64 x, .bool ok, v]) ∧ IsErrO w' (Fresh w w') v er ∧ IsAtoms w' b (Wider E w w') l ∧ Keeps E w w'
theorem IsAtoms.later {w w' : World} {b : Nat} {E : Nat → Prop} {l : List ByteArray} (h : IsAtoms w b E l) (hk : Keeps (fun _ => False) w w') : IsAtoms w' b (Wider E w w') l :=
  (h.keeps hk fun _ _ h => h).wider (fun _ h => .inl h) fun x hx => hx.elim (fun hx => Nat.lt_of_lt_of_le (h.lt x hx) hk.size) fun hx => hx.2
theorem IsNames.later {w w' : World} {b : Nat} {E : Nat → Prop} {l : List ByteArray} (h : IsNames w b E l) (hk : Keeps (fun _ => False) w w') : IsNames w' b (Wider E w w') l :=
  (h.keeps hk fun _ _ h => h).wider (fun _ h => .inl h) fun x hx => hx.elim (fun hx => Nat.lt_of_lt_of_le (h.lt x hx) hk.size) fun hx => hx.2
theorem small_plain {w w' : World} {b : Nat} {E : Nat → Prop} {l : List ByteArray} (h : IsAtoms w b E l) (hk : Keeps (fun _ => False) w w') (x : Int) (ok : Bool) : SmallPost b E x ok none l w (.returned (.tuple #[.int .u64 x, .bool ok, .nilIface])) w' :=
  ⟨_, rfl, rfl, h.later hk, hk.mono fun _ _ h => h.elim⟩
theorem IsErr.around {w0 w w1 : World} {v : Value} {c : List (ByteArray × Int)} {k : Int} (op : ByteArray) (n : Int) (h : IsErr w (Fresh w0 w) v c k) (hk : Keeps (fun _ => False) w w1) (h0 : w0.heap.size ≤ w.heap.size) :
    IsErr (w1.alloc (.cells #[.string op, .int .i64 n, v] 55)) (Fresh w0 (w1.alloc (.cells #[.string op, .int .i64 n, v] 55))) (.iface 52 (.pointer (some ⟨w1.heap.size, 0, none⟩))) ((op, n) :: c) k := by
  have hs := hk.size
  refine (isErr_new w1 op n v c k _ (h.keeps hk fun _ _ h => h)).mono fun g hg => ?_
  rcases hg with rfl | hg
  · exact ⟨by omega, by simp⟩
  · exact ⟨hg.1, by have := hg.2; simp; omega⟩
theorem IsErr.iface {w : World} {E : Nat → Prop} {v : Value} {c : List (ByteArray × Int)} {k : Int} (h : IsErr w E v c k) : ∃ t u, v = .iface t u := by
  cases c with
  | nil => exact ⟨_, _, h⟩
  | cons p c => obtain ⟨b, u, h1, _⟩ := h; exact ⟨_, _, h1⟩
end Go.Tx
namespace Go.Proofs.Ytnmhodejffpblaa
open Go.RowKit Go.Tx
set_option maxRecDepth 100000 in
set_option maxHeartbeats 800000 in
theorem small_1in {w : World} {b : Nat} {E : Nat → Prop} {l : List ByteArray} (h : IsAtoms w b E l) (n : Int) (s : ByteArray) (ai ar ab : Option Addr) (il rl bl ci cr cb : Nat) (hn1 : -1152921504606846976 ≤ n) (hn2 : n < 1152921504606846976)
    (HT : Hid (∀ W, Keeps (fun _ => False) w W → Calls Try.prog 34 #[.agg #[.int .i64 1, .int .i64 n, .string s, .slice ai il ci, .slice ar rl cr, .slice ab bl cb]] W fun e w' => e = .returned .nilIface ∧ Keeps (fun _ => False) W w')) :
    Calls Try.prog 12 #[.agg #[.int .i64 1, .int .i64 n, .string s, .slice ai il ci, .slice ar rl cr, .slice ab bl cb], .pointer (some ⟨b, 0, none⟩)] w (SmallPost b E (n * 8 % 18446744073709551616) true none l w) := by
  have H := Lib.hid h
  have hbw := h.lt b h.own
  clear h
  go_enter Try.func12, Try.ntmps12
  go_wp2_with (go_at_call 34; refine Stop.out ?_)
  refine ⟨(HT.out _ ((Keeps.refl _ w).alloc _)).mono ?_⟩
  rintro e w2 ⟨rfl, hk2⟩
  have hbl : Blk w2 w.heap.size 26 [.int .i64 1, .int .i64 n, .string s, .slice ai il ci, .slice ar rl cr, .slice ab bl cb] := (Blk.new w _ _).keeps hk2 fun h => h
  have d0 : w2.cell? ⟨w.heap.size, 0, none⟩ = some (.int .i64 1) := hbl.cell (i := 0) rfl
  have d1 : w2.cell? ⟨w.heap.size, 1, none⟩ = some (.int .i64 n) := hbl.cell (i := 1) rfl
  have d2 : w2.cell? ⟨w.heap.size, 2, none⟩ = some (.string s) := hbl.cell (i := 2) rfl
  have HK2 : Hid (Keeps (fun _ => False) w w2) := Lib.hid (((Keeps.refl _ w).alloc _).trans hk2 fun _ _ h => h)
  clear hk2 hbl
  go_wp2
  rw [word_or 0 n (by decide) (by decide), Int.zero_add]
  go_ret3
  exact small_plain H.out HK2.out _ _
set_option maxRecDepth 100000 in
set_option maxHeartbeats 800000 in
theorem small_1lo {w : World} {b : Nat} {E : Nat → Prop} {l : List ByteArray} (h : IsAtoms w b E l) (n : Int) (s : ByteArray) (ai ar ab : Option Addr) (il rl bl ci cr cb : Nat) (hn1 : n < -1152921504606846976)
    (HT : Hid (∀ W, Keeps (fun _ => False) w W → Calls Try.prog 34 #[.agg #[.int .i64 1, .int .i64 n, .string s, .slice ai il ci, .slice ar rl cr, .slice ab bl cb]] W fun e w' => e = .returned .nilIface ∧ Keeps (fun _ => False) W w')) :
    Calls Try.prog 12 #[.agg #[.int .i64 1, .int .i64 n, .string s, .slice ai il ci, .slice ar rl cr, .slice ab bl cb], .pointer (some ⟨b, 0, none⟩)] w (SmallPost b E 0 false none l w) := by
  have H := Lib.hid h
  have hbw := h.lt b h.own
  clear h
  go_enter Try.func12, Try.ntmps12
  go_wp2_with (go_at_call 34; refine Stop.out ?_)
  refine ⟨(HT.out _ ((Keeps.refl _ w).alloc _)).mono ?_⟩
  rintro e w2 ⟨rfl, hk2⟩
  have hbl : Blk w2 w.heap.size 26 [.int .i64 1, .int .i64 n, .string s, .slice ai il ci, .slice ar rl cr, .slice ab bl cb] := (Blk.new w _ _).keeps hk2 fun h => h
  have d0 : w2.cell? ⟨w.heap.size, 0, none⟩ = some (.int .i64 1) := hbl.cell (i := 0) rfl
  have d1 : w2.cell? ⟨w.heap.size, 1, none⟩ = some (.int .i64 n) := hbl.cell (i := 1) rfl
  have d2 : w2.cell? ⟨w.heap.size, 2, none⟩ = some (.string s) := hbl.cell (i := 2) rfl
  have HK2 : Hid (Keeps (fun _ => False) w w2) := Lib.hid (((Keeps.refl _ w).alloc _).trans hk2 fun _ _ h => h)
  clear hk2 hbl
  go_wp2
  go_ret3
  exact small_plain H.out HK2.out _ _
set_option maxRecDepth 100000 in
set_option maxHeartbeats 800000 in
theorem small_1hi {w : World} {b : Nat} {E : Nat → Prop} {l : List ByteArray} (h : IsAtoms w b E l) (n : Int) (s : ByteArray) (ai ar ab : Option Addr) (il rl bl ci cr cb : Nat) (hn1 : 1152921504606846976 ≤ n)
    (HT : Hid (∀ W, Keeps (fun _ => False) w W → Calls Try.prog 34 #[.agg #[.int .i64 1, .int .i64 n, .string s, .slice ai il ci, .slice ar rl cr, .slice ab bl cb]] W fun e w' => e = .returned .nilIface ∧ Keeps (fun _ => False) W w')) :
    Calls Try.prog 12 #[.agg #[.int .i64 1, .int .i64 n, .string s, .slice ai il ci, .slice ar rl cr, .slice ab bl cb], .pointer (some ⟨b, 0, none⟩)] w (SmallPost b E 0 false none l w) := by
  have H := Lib.hid h
  have hbw := h.lt b h.own
  clear h
  go_enter Try.func12, Try.ntmps12
  go_wp2_with (go_at_call 34; refine Stop.out ?_)
  refine ⟨(HT.out _ ((Keeps.refl _ w).alloc _)).mono ?_⟩
  rintro e w2 ⟨rfl, hk2⟩
  have hbl : Blk w2 w.heap.size 26 [.int .i64 1, .int .i64 n, .string s, .slice ai il ci, .slice ar rl cr, .slice ab bl cb] := (Blk.new w _ _).keeps hk2 fun h => h
  have d0 : w2.cell? ⟨w.heap.size, 0, none⟩ = some (.int .i64 1) := hbl.cell (i := 0) rfl
  have d1 : w2.cell? ⟨w.heap.size, 1, none⟩ = some (.int .i64 n) := hbl.cell (i := 1) rfl
  have d2 : w2.cell? ⟨w.heap.size, 2, none⟩ = some (.string s) := hbl.cell (i := 2) rfl
  have HK2 : Hid (Keeps (fun _ => False) w w2) := Lib.hid (((Keeps.refl _ w).alloc _).trans hk2 fun _ _ h => h)
  clear hk2 hbl
  go_wp2
  go_ret3
  exact small_plain H.out HK2.out _ _
set_option maxRecDepth 100000 in
set_option maxHeartbeats 800000 in
theorem small_3 {w : World} {b : Nat} {E : Nat → Prop} {l : List ByteArray} (h : IsAtoms w b E l) (n : Int) (s : ByteArray) (ai ar ab : Option Addr) (il rl bl ci cr cb : Nat) 
    (HT : Hid (∀ W, Keeps (fun _ => False) w W → Calls Try.prog 34 #[.agg #[.int .i64 3, .int .i64 n, .string s, .slice ai il ci, .slice ar rl cr, .slice ab bl cb]] W fun e w' => e = .returned .nilIface ∧ Keeps (fun _ => False) W w')) :
    Calls Try.prog 12 #[.agg #[.int .i64 3, .int .i64 n, .string s, .slice ai il ci, .slice ar rl cr, .slice ab bl cb], .pointer (some ⟨b, 0, none⟩)] w (SmallPost b E (3 + n * 8 % 18446744073709551616) true none l w) := by
  have H := Lib.hid h
  have hbw := h.lt b h.own
  clear h
  go_enter Try.func12, Try.ntmps12
  go_wp2_with (go_at_call 34; refine Stop.out ?_)
  refine ⟨(HT.out _ ((Keeps.refl _ w).alloc _)).mono ?_⟩
  rintro e w2 ⟨rfl, hk2⟩
  have hbl : Blk w2 w.heap.size 26 [.int .i64 3, .int .i64 n, .string s, .slice ai il ci, .slice ar rl cr, .slice ab bl cb] := (Blk.new w _ _).keeps hk2 fun h => h
  have d0 : w2.cell? ⟨w.heap.size, 0, none⟩ = some (.int .i64 3) := hbl.cell (i := 0) rfl
  have d1 : w2.cell? ⟨w.heap.size, 1, none⟩ = some (.int .i64 n) := hbl.cell (i := 1) rfl
  have d2 : w2.cell? ⟨w.heap.size, 2, none⟩ = some (.string s) := hbl.cell (i := 2) rfl
  have HK2 : Hid (Keeps (fun _ => False) w w2) := Lib.hid (((Keeps.refl _ w).alloc _).trans hk2 fun _ _ h => h)
  clear hk2 hbl
  go_wp2
  rw [word_or 3 n (by decide) (by decide)]
  go_ret3
  exact small_plain H.out HK2.out _ _
set_option maxRecDepth 100000 in
set_option maxHeartbeats 800000 in
theorem small_4 {w : World} {b : Nat} {E : Nat → Prop} {l : List ByteArray} (h : IsAtoms w b E l) (n : Int) (s : ByteArray) (ai ar ab : Option Addr) (il rl bl ci cr cb : Nat) 
    (HT : Hid (∀ W, Keeps (fun _ => False) w W → Calls Try.prog 34 #[.agg #[.int .i64 4, .int .i64 n, .string s, .slice ai il ci, .slice ar rl cr, .slice ab bl cb]] W fun e w' => e = .returned .nilIface ∧ Keeps (fun _ => False) W w')) :
    Calls Try.prog 12 #[.agg #[.int .i64 4, .int .i64 n, .string s, .slice ai il ci, .slice ar rl cr, .slice ab bl cb], .pointer (some ⟨b, 0, none⟩)] w (SmallPost b E (2 + n * 8 % 18446744073709551616) true none l w) := by
  have H := Lib.hid h
  have hbw := h.lt b h.own
  clear h
  go_enter Try.func12, Try.ntmps12
  go_wp2_with (go_at_call 34; refine Stop.out ?_)
  refine ⟨(HT.out _ ((Keeps.refl _ w).alloc _)).mono ?_⟩
  rintro e w2 ⟨rfl, hk2⟩
  have hbl : Blk w2 w.heap.size 26 [.int .i64 4, .int .i64 n, .string s, .slice ai il ci, .slice ar rl cr, .slice ab bl cb] := (Blk.new w _ _).keeps hk2 fun h => h
  have d0 : w2.cell? ⟨w.heap.size, 0, none⟩ = some (.int .i64 4) := hbl.cell (i := 0) rfl
  have d1 : w2.cell? ⟨w.heap.size, 1, none⟩ = some (.int .i64 n) := hbl.cell (i := 1) rfl
  have d2 : w2.cell? ⟨w.heap.size, 2, none⟩ = some (.string s) := hbl.cell (i := 2) rfl
  have HK2 : Hid (Keeps (fun _ => False) w w2) := Lib.hid (((Keeps.refl _ w).alloc _).trans hk2 fun _ _ h => h)
  clear hk2 hbl
  go_wp2
  rw [word_or 2 n (by decide) (by decide)]
  go_ret3
  exact small_plain H.out HK2.out _ _
set_option maxRecDepth 100000 in
set_option maxHeartbeats 800000 in
theorem small_6 {w : World} {b : Nat} {E : Nat → Prop} {l : List ByteArray} (h : IsAtoms w b E l) (n : Int) (s : ByteArray) (ai ar ab : Option Addr) (il rl bl ci cr cb : Nat) (hn0 : n = 0)
    (HT : Hid (∀ W, Keeps (fun _ => False) w W → Calls Try.prog 34 #[.agg #[.int .i64 6, .int .i64 n, .string s, .slice ai il ci, .slice ar rl cr, .slice ab bl cb]] W fun e w' => e = .returned .nilIface ∧ Keeps (fun _ => False) W w')) :
    Calls Try.prog 12 #[.agg #[.int .i64 6, .int .i64 n, .string s, .slice ai il ci, .slice ar rl cr, .slice ab bl cb], .pointer (some ⟨b, 0, none⟩)] w (SmallPost b E 4 true none l w) := by
  have H := Lib.hid h
  have hbw := h.lt b h.own
  clear h
  subst hn0
  go_enter Try.func12, Try.ntmps12
  go_wp2_with (go_at_call 34; refine Stop.out ?_)
  refine ⟨(HT.out _ ((Keeps.refl _ w).alloc _)).mono ?_⟩
  rintro e w2 ⟨rfl, hk2⟩
  have hbl : Blk w2 w.heap.size 26 [.int .i64 6, .int .i64 0, .string s, .slice ai il ci, .slice ar rl cr, .slice ab bl cb] := (Blk.new w _ _).keeps hk2 fun h => h
  have d0 : w2.cell? ⟨w.heap.size, 0, none⟩ = some (.int .i64 6) := hbl.cell (i := 0) rfl
  have d1 : w2.cell? ⟨w.heap.size, 1, none⟩ = some (.int .i64 0) := hbl.cell (i := 1) rfl
  have d2 : w2.cell? ⟨w.heap.size, 2, none⟩ = some (.string s) := hbl.cell (i := 2) rfl
  have HK2 : Hid (Keeps (fun _ => False) w w2) := Lib.hid (((Keeps.refl _ w).alloc _).trans hk2 fun _ _ h => h)
  clear hk2 hbl
  go_wp2
  go_ret3
  exact small_plain H.out HK2.out _ _
set_option maxRecDepth 100000 in
set_option maxHeartbeats 800000 in
theorem small_5 {w : World} {b : Nat} {E : Nat → Prop} {l : List ByteArray} (h : IsAtoms w b E l) (n : Int) (s : ByteArray) (ai ar ab : Option Addr) (il rl bl ci cr cb : Nat) 
    (HT : Hid (∀ W, Keeps (fun _ => False) w W → Calls Try.prog 34 #[.agg #[.int .i64 5, .int .i64 n, .string s, .slice ai il ci, .slice ar rl cr, .slice ab bl cb]] W fun e w' => e = .returned .nilIface ∧ Keeps (fun _ => False) W w')) :
    Calls Try.prog 12 #[.agg #[.int .i64 5, .int .i64 n, .string s, .slice ai il ci, .slice ar rl cr, .slice ab bl cb], .pointer (some ⟨b, 0, none⟩)] w (SmallPost b E 0 false none l w) := by
  have H := Lib.hid h
  have hbw := h.lt b h.own
  clear h
  go_enter Try.func12, Try.ntmps12
  go_wp2_with (go_at_call 34; refine Stop.out ?_)
  refine ⟨(HT.out _ ((Keeps.refl _ w).alloc _)).mono ?_⟩
  rintro e w2 ⟨rfl, hk2⟩
  have hbl : Blk w2 w.heap.size 26 [.int .i64 5, .int .i64 n, .string s, .slice ai il ci, .slice ar rl cr, .slice ab bl cb] := (Blk.new w _ _).keeps hk2 fun h => h
  have d0 : w2.cell? ⟨w.heap.size, 0, none⟩ = some (.int .i64 5) := hbl.cell (i := 0) rfl
  have d1 : w2.cell? ⟨w.heap.size, 1, none⟩ = some (.int .i64 n) := hbl.cell (i := 1) rfl
  have d2 : w2.cell? ⟨w.heap.size, 2, none⟩ = some (.string s) := hbl.cell (i := 2) rfl
  have HK2 : Hid (Keeps (fun _ => False) w w2) := Lib.hid (((Keeps.refl _ w).alloc _).trans hk2 fun _ _ h => h)
  clear hk2 hbl
  go_wp2
  go_ret3
  exact small_plain H.out HK2.out _ _
set_option maxRecDepth 100000 in
set_option maxHeartbeats 800000 in
theorem small_7 {w : World} {b : Nat} {E : Nat → Prop} {l : List ByteArray} (h : IsAtoms w b E l) (n : Int) (s : ByteArray) (ai ar ab : Option Addr) (il rl bl ci cr cb : Nat) 
    (HT : Hid (∀ W, Keeps (fun _ => False) w W → Calls Try.prog 34 #[.agg #[.int .i64 7, .int .i64 n, .string s, .slice ai il ci, .slice ar rl cr, .slice ab bl cb]] W fun e w' => e = .returned .nilIface ∧ Keeps (fun _ => False) W w')) :
    Calls Try.prog 12 #[.agg #[.int .i64 7, .int .i64 n, .string s, .slice ai il ci, .slice ar rl cr, .slice ab bl cb], .pointer (some ⟨b, 0, none⟩)] w (SmallPost b E 0 false none l w) := by
  have H := Lib.hid h
  have hbw := h.lt b h.own
  clear h
  go_enter Try.func12, Try.ntmps12
  go_wp2_with (go_at_call 34; refine Stop.out ?_)
  refine ⟨(HT.out _ ((Keeps.refl _ w).alloc _)).mono ?_⟩
  rintro e w2 ⟨rfl, hk2⟩
  have hbl : Blk w2 w.heap.size 26 [.int .i64 7, .int .i64 n, .string s, .slice ai il ci, .slice ar rl cr, .slice ab bl cb] := (Blk.new w _ _).keeps hk2 fun h => h
  have d0 : w2.cell? ⟨w.heap.size, 0, none⟩ = some (.int .i64 7) := hbl.cell (i := 0) rfl
  have d1 : w2.cell? ⟨w.heap.size, 1, none⟩ = some (.int .i64 n) := hbl.cell (i := 1) rfl
  have d2 : w2.cell? ⟨w.heap.size, 2, none⟩ = some (.string s) := hbl.cell (i := 2) rfl
  have HK2 : Hid (Keeps (fun _ => False) w w2) := Lib.hid (((Keeps.refl _ w).alloc _).trans hk2 fun _ _ h => h)
  clear hk2 hbl
  go_wp2
  go_ret3
  exact small_plain H.out HK2.out _ _
set_option maxRecDepth 100000 in
set_option maxHeartbeats 800000 in
theorem small_8 {w : World} {b : Nat} {E : Nat → Prop} {l : List ByteArray} (h : IsAtoms w b E l) (n : Int) (s : ByteArray) (ai ar ab : Option Addr) (il rl bl ci cr cb : Nat) 
    (HT : Hid (∀ W, Keeps (fun _ => False) w W → Calls Try.prog 34 #[.agg #[.int .i64 8, .int .i64 n, .string s, .slice ai il ci, .slice ar rl cr, .slice ab bl cb]] W fun e w' => e = .returned .nilIface ∧ Keeps (fun _ => False) W w')) :
    Calls Try.prog 12 #[.agg #[.int .i64 8, .int .i64 n, .string s, .slice ai il ci, .slice ar rl cr, .slice ab bl cb], .pointer (some ⟨b, 0, none⟩)] w (SmallPost b E 0 false none l w) := by
  have H := Lib.hid h
  have hbw := h.lt b h.own
  clear h
  go_enter Try.func12, Try.ntmps12
  go_wp2_with (go_at_call 34; refine Stop.out ?_)
  refine ⟨(HT.out _ ((Keeps.refl _ w).alloc _)).mono ?_⟩
  rintro e w2 ⟨rfl, hk2⟩
  have hbl : Blk w2 w.heap.size 26 [.int .i64 8, .int .i64 n, .string s, .slice ai il ci, .slice ar rl cr, .slice ab bl cb] := (Blk.new w _ _).keeps hk2 fun h => h
  have d0 : w2.cell? ⟨w.heap.size, 0, none⟩ = some (.int .i64 8) := hbl.cell (i := 0) rfl
  have d1 : w2.cell? ⟨w.heap.size, 1, none⟩ = some (.int .i64 n) := hbl.cell (i := 1) rfl
  have d2 : w2.cell? ⟨w.heap.size, 2, none⟩ = some (.string s) := hbl.cell (i := 2) rfl
  have HK2 : Hid (Keeps (fun _ => False) w w2) := Lib.hid (((Keeps.refl _ w).alloc _).trans hk2 fun _ _ h => h)
  clear hk2 hbl
  go_wp2
  go_ret3
  exact small_plain H.out HK2.out _ _
theorem wider_more {E : Nat → Prop} {w w2 w3 : World} (h : w.heap.size ≤ w2.heap.size) : ∀ x, Wider E w2 w3 x → Wider E w w3 x := fun x hx => hx.elim .inl fun hx => .inr ⟨Nat.le_trans h hx.1, hx.2⟩
theorem wider_lt {w w' : World} {b : Nat} {E : Nat → Prop} {l : List ByteArray} (h : IsAtoms w b E l) (hs : w.heap.size ≤ w'.heap.size) : ∀ x, Wider E w w' x → x < w'.heap.size := fun x hx => hx.elim (fun hx => Nat.lt_of_lt_of_le (h.lt x hx) hs) fun hx => hx.2
set_option maxRecDepth 100000 in
set_option maxHeartbeats 800000 in
theorem small_2 {w : World} {b : Nat} {E : Nat → Prop} {l : List ByteArray} (h : IsAtoms w b E l) (n : Int) (s : ByteArray) (ai ar ab : Option Addr) (il rl bl ci cr cb : Nat) (x : Int) (l2 : List ByteArray) (hn : askName l s = (x, none, l2))
    (HT : Hid (∀ W, Keeps (fun _ => False) w W → Calls Try.prog 34 #[.agg #[.int .i64 2, .int .i64 n, .string s, .slice ai il ci, .slice ar rl cr, .slice ab bl cb]] W fun e w' => e = .returned .nilIface ∧ Keeps (fun _ => False) W w')) :
    Calls Try.prog 12 #[.agg #[.int .i64 2, .int .i64 n, .string s, .slice ai il ci, .slice ar rl cr, .slice ab bl cb], .pointer (some ⟨b, 0, none⟩)] w (SmallPost b E (1 + x * 8 % 18446744073709551616) true none l2 w) := by
  have H := Lib.hid h
  have hbw := h.lt b h.own
  clear h
  have HN : Hid (∀ W, IsAtoms W b E l → Calls Try.prog 19 #[.pointer (some ⟨b, 0, none⟩), .string s] W (AskPost b E (x, none, l2) W)) := Lib.hid fun W hW => hn ▸ number_ask s hW
  clear hn
  go_enter Try.func12, Try.ntmps12
  go_wp2_with (go_at_call 34; refine Stop.out ?_)
  refine ⟨(HT.out _ ((Keeps.refl _ w).alloc _)).mono ?_⟩
  rintro e w2 ⟨rfl, hk2⟩
  have hbl : Blk w2 w.heap.size 26 [.int .i64 2, .int .i64 n, .string s, .slice ai il ci, .slice ar rl cr, .slice ab bl cb] := (Blk.new w _ _).keeps hk2 fun h => h
  have d0 : w2.cell? ⟨w.heap.size, 0, none⟩ = some (.int .i64 2) := hbl.cell (i := 0) rfl
  have d1 : w2.cell? ⟨w.heap.size, 1, none⟩ = some (.int .i64 n) := hbl.cell (i := 1) rfl
  have d2 : w2.cell? ⟨w.heap.size, 2, none⟩ = some (.string s) := hbl.cell (i := 2) rfl
  have HK2 : Hid (Keeps (fun _ => False) w w2) := Lib.hid (((Keeps.refl _ w).alloc _).trans hk2 fun _ _ h => h)
  clear hk2 hbl
  go_wp2_with (go_at_call 19; refine Stop.out ?_)
  refine ⟨(HN.out _ (H.out.keeps HK2.out fun _ _ h => h)).mono ?_⟩
  rintro e w3 ⟨v3, rfl, rfl, ha3, hk3⟩
  have HA3 := Lib.hid ha3
  have HK3 := Lib.hid hk3
  clear ha3 hk3 d0 d1 d2
  go_wp2
  rw [word_or 1 x (by decide) (by decide)]
  go_ret3
  exact ⟨_, rfl, rfl, HA3.out.wider (wider_more HK2.out.size) (wider_lt H.out ((HK2.out.mono fun _ _ h => h.elim).trans HK3.out fun _ _ h => h).size), (HK2.out.mono fun _ _ h => h.elim).trans HK3.out fun _ _ h => h⟩
set_option maxRecDepth 100000 in
set_option maxHeartbeats 800000 in
theorem small_err {w : World} {b : Nat} {E : Nat → Prop} {l : List ByteArray} (h : IsAtoms w b E l) (k : Int) (n : Int) (s : ByteArray) (ai ar ab : Option Addr) (il rl bl ci cr cb : Nat) (c : List (ByteArray × Int)) (kd : Int) (hc : c.length < 9000)
    (HT : Hid (∀ W, Keeps (fun _ => False) w W → Calls Try.prog 34 #[.agg #[.int .i64 k, .int .i64 n, .string s, .slice ai il ci, .slice ar rl cr, .slice ab bl cb]] W (ErrOPost id (some (c, kd)) W))) :
    Calls Try.prog 12 #[.agg #[.int .i64 k, .int .i64 n, .string s, .slice ai il ci, .slice ar rl cr, .slice ab bl cb], .pointer (some ⟨b, 0, none⟩)] w (SmallPost b E 0 false (some ((⟨#[115, 109, 97, 108, 108]⟩, 0) :: c, kd)) l w) := by
  have H := Lib.hid h
  have hbw := h.lt b h.own
  clear h
  go_enter Try.func12, Try.ntmps12
  go_wp2_with (go_at_call 34; refine Stop.out ?_)
  refine ⟨(HT.out _ ((Keeps.refl _ w).alloc _)).mono ?_⟩
  rintro e w2 ⟨v, rfl, ⟨he, hcl⟩, hk2⟩
  obtain ⟨tt, u, rfl⟩ := he.iface
  have HK2 : Hid (Keeps (fun _ => False) w w2) := Lib.hid (((Keeps.refl _ w).alloc _).trans hk2 fun _ _ h => h)
  have HE := Lib.hid (he.mono fun g hg => (⟨by have := hg.1; rw [World.size_alloc] at this; omega, hg.2⟩ : Fresh w w2 g))
  clear hk2 he hcl
  unfold id
  go_wp2_with (go_at_call 35; refine (at_any _ _ _ _ _).mono ?_; rintro e w3 ⟨rfl, rfl⟩)
  go_ret3
  exact ⟨_, rfl, ⟨HE.out.around _ _ (Keeps.refl _ _) HK2.out.size, by simp; omega⟩, H.out.later (HK2.out.alloc _), (HK2.out.alloc _).mono fun _ _ h => h.elim⟩
set_option maxRecDepth 100000 in
set_option maxHeartbeats 800000 in
theorem small_2e {w : World} {b : Nat} {E : Nat → Prop} {l : List ByteArray} (h : IsAtoms w b E l) (n : Int) (s : ByteArray) (ai ar ab : Option Addr) (il rl bl ci cr cb : Nat) (x : Int) (l2 : List ByteArray) (c : List (ByteArray × Int)) (kd : Int) (hc : c.length < 9000) (hn : askName l s = (x, some (c, kd), l2))
    (HT : Hid (∀ W, Keeps (fun _ => False) w W → Calls Try.prog 34 #[.agg #[.int .i64 2, .int .i64 n, .string s, .slice ai il ci, .slice ar rl cr, .slice ab bl cb]] W fun e w' => e = .returned .nilIface ∧ Keeps (fun _ => False) W w')) :
    Calls Try.prog 12 #[.agg #[.int .i64 2, .int .i64 n, .string s, .slice ai il ci, .slice ar rl cr, .slice ab bl cb], .pointer (some ⟨b, 0, none⟩)] w (SmallPost b E 0 false (some ((⟨#[115, 109, 97, 108, 108]⟩, 0) :: c, kd)) l2 w) := by
  have H := Lib.hid h
  have hbw := h.lt b h.own
  clear h
  have HN : Hid (∀ W, IsAtoms W b E l → Calls Try.prog 19 #[.pointer (some ⟨b, 0, none⟩), .string s] W (AskPost b E (x, some (c, kd), l2) W)) := Lib.hid fun W hW => hn ▸ number_ask s hW
  clear hn
  go_enter Try.func12, Try.ntmps12
  go_wp2_with (go_at_call 34; refine Stop.out ?_)
  refine ⟨(HT.out _ ((Keeps.refl _ w).alloc _)).mono ?_⟩
  rintro e w2 ⟨rfl, hk2⟩
  have hbl : Blk w2 w.heap.size 26 [.int .i64 2, .int .i64 n, .string s, .slice ai il ci, .slice ar rl cr, .slice ab bl cb] := (Blk.new w _ _).keeps hk2 fun h => h
  have d0 : w2.cell? ⟨w.heap.size, 0, none⟩ = some (.int .i64 2) := hbl.cell (i := 0) rfl
  have d1 : w2.cell? ⟨w.heap.size, 1, none⟩ = some (.int .i64 n) := hbl.cell (i := 1) rfl
  have d2 : w2.cell? ⟨w.heap.size, 2, none⟩ = some (.string s) := hbl.cell (i := 2) rfl
  have HK2 : Hid (Keeps (fun _ => False) w w2) := Lib.hid (((Keeps.refl _ w).alloc _).trans hk2 fun _ _ h => h)
  clear hk2 hbl
  go_wp2_with (go_at_call 19; refine Stop.out ?_)
  refine ⟨(HN.out _ (H.out.keeps HK2.out fun _ _ h => h)).mono ?_⟩
  rintro e w3 ⟨v3, rfl, ⟨he, hcl⟩, ha3, hk3⟩
  obtain ⟨tt, u, rfl⟩ := he.iface
  have HE := Lib.hid (he.mono fun g hg => (⟨Nat.le_trans HK2.out.size hg.1, hg.2⟩ : Fresh w w3 g))
  have HA3 := Lib.hid ha3
  have HK3 : Hid (Keeps E w w3) := Lib.hid ((HK2.out.mono fun _ _ h => h.elim).trans hk3 fun _ _ h => h)
  clear ha3 hk3 d0 d1 d2 he hcl
  go_wp2_with (go_at_call 35; refine (at_any _ _ _ _ _).mono ?_; rintro e w4 ⟨rfl, rfl⟩)
  go_ret3
  refine ⟨_, rfl, ⟨HE.out.around _ _ (Keeps.refl _ _) HK3.out.size, by simp; omega⟩, ?_, HK3.out.alloc _⟩
  exact (HA3.out.keeps ((Keeps.refl (fun _ => False) w3).alloc _) fun _ _ h => h).wider (fun x hx => hx.elim .inl fun hx => .inr ⟨Nat.le_trans HK2.out.size hx.1, Nat.lt_of_lt_of_le hx.2 (by simp)⟩) (wider_lt H.out (HK3.out.alloc _).size)
theorem small_any {w : World} {b : Nat} {E : Nat → Prop} {l : List ByteArray} {S : Nat → Prop} {d : Nat} {v : Value} {t : Tm} (h : IsAtoms w b E l) (ht : TmD w S d v t) (hS : ∀ x, S x → x < w.heap.size) :
    Calls Try.prog 12 #[v, .pointer (some ⟨b, 0, none⟩)] w (SmallPost b E (smallOf l t).1.1 (smallOf l t).1.2.1 (smallOf l t).1.2.2 (smallOf l t).2 w) := by
  have HR : ∀ W, Keeps (fun _ => False) w W → Calls Try.prog 34 #[v] W (ErrOPost id (rightTm t) W) := fun W hk => right_any (ht.keeps hk fun _ _ h => h) fun x hx => Nat.lt_of_lt_of_le (hS x hx) hk.size
  obtain ⟨y3, y4, y5, rfl, _⟩ := ht.form
  cases d with
  | zero => exact ht.elim
  | succ d =>
  obtain ⟨y3, y4, y5, e, hf, hn, h3, h4, h5⟩ := ht
  obtain ⟨ai, ci, rfl⟩ := h3.form
  obtain ⟨ar, cr, rfl⟩ := h4.form
  obtain ⟨ab, cb, rfl⟩ := h5.form
  rw [e] at HR
  rw [e]
  clear e
  obtain ⟨k, n, s, is, rs, bs⟩ := t
  simp only [Tm.val, Tm.kind, Tm.n, Tm.name, Tm.items, Tm.rest, Tm.bytes] at HR ⊢
  unfold smallOf
  cases hr : rightTm (.mk k n s is rs bs) with
  | some x =>
    obtain ⟨c, kd⟩ := x
    rw [hr] at HR
    exact small_err h k n s ai ar ab _ _ _ ci cr cb c kd (right_some hr) (Lib.hid HR)
  | none =>
    rw [hr] at HR
    have HN : ∀ W, Keeps (fun _ => False) w W → Calls Try.prog 34 #[.agg #[.int .i64 k, .int .i64 n, .string s, .slice ai is.length ci, .slice ar rs.length cr, .slice ab bs.size cb]] W fun e w' => e = .returned .nilIface ∧ Keeps (fun _ => False) W w' := fun W hk => (HR W hk).mono fun e w' ⟨E, he, h1, h2⟩ => ⟨by rw [he, show E = .nilIface from h1]; rfl, h2⟩
    have hok := okB_kind (right_none hr)
    simp only [Tm.kind, Tm.n] at hok
    obtain ⟨hk, h6⟩ := hok
    show Calls _ _ _ w (SmallPost b E (smallK l k n s).1.1 (smallK l k n s).1.2.1 (smallK l k n s).1.2.2 (smallK l k n s).2 w)
    unfold smallK
    by_cases k1 : k = 1
    · subst k1
      rw [if_pos rfl]
      by_cases hb : -1152921504606846976 ≤ n ∧ n < 1152921504606846976
      · rw [if_pos hb]; exact small_1in h n s ai ar ab _ _ _ ci cr cb hb.1 hb.2 (Lib.hid HN)
      · rw [if_neg hb]
        by_cases hl : n < -1152921504606846976
        · exact small_1lo h n s ai ar ab _ _ _ ci cr cb hl (Lib.hid HN)
        · exact small_1hi h n s ai ar ab _ _ _ ci cr cb (by omega) (Lib.hid HN)
    rw [if_neg k1]
    by_cases k2 : k = 2
    · subst k2
      rw [if_pos rfl]
      split
      · next x l2 hq => exact small_2 h n s ai ar ab _ _ _ ci cr cb x l2 hq (Lib.hid HN)
      · next x c kd l2 hq => exact small_2e h n s ai ar ab _ _ _ ci cr cb x l2 c kd (ask_short hq) hq (Lib.hid HN)
    rw [if_neg k2]
    by_cases k3 : k = 3
    · subst k3
      rw [if_pos rfl]
      exact small_3 h n s ai ar ab _ _ _ ci cr cb (Lib.hid HN)
    rw [if_neg k3]
    by_cases k4 : k = 4
    · subst k4
      rw [if_pos rfl]
      exact small_4 h n s ai ar ab _ _ _ ci cr cb (Lib.hid HN)
    rw [if_neg k4]
    by_cases k6 : k = 6
    · subst k6
      rw [if_pos rfl]
      exact small_6 h n s ai ar ab _ _ _ ci cr cb (h6 rfl) (Lib.hid HN)
    rw [if_neg k6]
    have hk : k = 5 ∨ k = 7 ∨ k = 8 := by omega
    rcases hk with rfl | rfl | rfl
    · exact small_5 h n s ai ar ab _ _ _ ci cr cb (Lib.hid HN)
    · exact small_7 h n s ai ar ab _ _ _ ci cr cb (Lib.hid HN)
    · exact small_8 h n s ai ar ab _ _ _ ci cr cb (Lib.hid HN)
end Go.Proofs.Ytnmhodejffpblaa

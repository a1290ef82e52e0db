/-
  Which of two terms without parts is less: what the document's code does (trouperef02.Compare).
-/
import Derived.Test.YtnmhodejffpblaaSl
import Derived.WalkLawsBesides
namespace Go.Tx
open Go Go.RowKit
def ZeroIff (p : Prop) (w : World) (e : Ending) (w' : World) : Prop := ∃ r : Int, e = .returned (.int .i64 r) ∧ (r = 0 ↔ p) ∧ Keeps (fun _ => False) w w'
theorem less_self : ∀ l : List UInt8, Op.bytesLess l l = false
  | [] => rfl
  | c :: l => by simp [Op.bytesLess, less_self l]
theorem ba_list {a b : ByteArray} (h : a.toList = b.toList) : a = b := by
  have e : ∀ x : ByteArray, x.toList = x.data.toList := fun x => by simp [ByteArray.toList_eq]
  rw [e, e] at h
  exact Go.WideShapes.bytes_inj h
end Go.Tx
namespace Go.Proofs.Ytnmhodejffpblaa
open Go.RowKit Go.Tx
set_option maxHeartbeats 400000 in
theorem sgn_any (w : World) (a b : Int) : Calls Try.prog 49 #[.int .i64 a, .int .i64 b] w (ZeroIff (a = b) w) := by
  by_cases h1 : a < b
  · go_enter Try.func49, Try.ntmps49
    go_wp2
    go_ret
    exact ⟨_, rfl, ⟨(fun h => by cases h), (fun h => by omega)⟩, Keeps.refl _ _⟩
  · by_cases h2 : b < a
    · go_enter Try.func49, Try.ntmps49
      go_wp2
      go_ret
      exact ⟨_, rfl, ⟨(fun h => by cases h), (fun h => by omega)⟩, Keeps.refl _ _⟩
    · go_enter Try.func49, Try.ntmps49
      go_wp2
      go_ret
      exact ⟨_, rfl, ⟨(fun _ => by omega), fun _ => rfl⟩, Keeps.refl _ _⟩
set_option maxHeartbeats 400000 in
theorem txt_any (w : World) (a b : ByteArray) : Calls Try.prog 50 #[.string a, .string b] w (ZeroIff (a = b) w) := by
  go_enter Try.func50, Try.ntmps50
  go_wp2
  · have hl : Op.bytesLess a.toList b.toList = true := by assumption
    go_ret
    exact ⟨_, rfl, ⟨(fun h => by cases h), (fun h => by subst h; rw [less_self] at hl; cases hl)⟩, Keeps.refl _ _⟩
  · have hl : (!a.toList == b.toList) = true := by assumption
    go_ret
    exact ⟨_, rfl, ⟨(fun h => by cases h), (fun h => by subst h; simp at hl)⟩, Keeps.refl _ _⟩
  · have hl : (!a.toList == b.toList) = false := by assumption
    go_ret
    exact ⟨_, rfl, ⟨(fun _ => ba_list (by simpa using hl)), fun _ => rfl⟩, Keeps.refl _ _⟩
set_option maxRecDepth 100000 in
set_option maxHeartbeats 800000 in
theorem cmp_kinds (w : World) (k k2 : Int) (n n2 : Int) (s s2 : ByteArray) (ai ar ab bi br bb : Option Addr) (ci cr cb di dr db : Nat) (hk : (k == k2) = false) : Calls Try.prog 32 #[.agg #[.int .i64 k, .int .i64 n, .string s, .slice ai 0 ci, .slice ar 0 cr, .slice ab 0 cb], .agg #[.int .i64 k2, .int .i64 n2, .string s2, .slice bi 0 di, .slice br 0 dr, .slice bb 0 db]] w (ZeroIff (False) w) := by
  have hb1 := Blk.new w [.int .i64 k, .int .i64 n, .string s, .slice ai 0 ci, .slice ar 0 cr, .slice ab 0 cb] 26
  have hb2 := Blk.new (w.alloc (.cells #[.int .i64 k, .int .i64 n, .string s, .slice ai 0 ci, .slice ar 0 cr, .slice ab 0 cb] 26)) [.int .i64 k2, .int .i64 n2, .string s2, .slice bi 0 di, .slice br 0 dr, .slice bb 0 db] 26
  clear hb1 hb2
  go_enter Try.func32, Try.ntmps32
  go_wp2_with (first | (go_at_call 49; refine (sgn_any _ _ _).mono ?_; rintro e w2 ⟨r, rfl, hr, hk⟩; have HR := Lib.hid hr; have HK := Lib.hid hk; clear hr hk))
  go_ret
  exact ⟨r, rfl, HR.out.trans ⟨(fun h => by subst h; simp at hk), False.elim⟩, (((Keeps.refl _ w).alloc _).alloc _).trans HK.out fun _ _ h => h⟩
set_option maxRecDepth 100000 in
set_option maxHeartbeats 800000 in
theorem cmp_1 (w : World) (n n2 : Int) (s s2 : ByteArray) (ai ar ab bi br bb : Option Addr) (ci cr cb di dr db : Nat)  : Calls Try.prog 32 #[.agg #[.int .i64 1, .int .i64 n, .string s, .slice ai 0 ci, .slice ar 0 cr, .slice ab 0 cb], .agg #[.int .i64 1, .int .i64 n2, .string s2, .slice bi 0 di, .slice br 0 dr, .slice bb 0 db]] w (ZeroIff (n = n2) w) := by
  have hb1 := Blk.new w [.int .i64 1, .int .i64 n, .string s, .slice ai 0 ci, .slice ar 0 cr, .slice ab 0 cb] 26
  have hb2 := Blk.new (w.alloc (.cells #[.int .i64 1, .int .i64 n, .string s, .slice ai 0 ci, .slice ar 0 cr, .slice ab 0 cb] 26)) [.int .i64 1, .int .i64 n2, .string s2, .slice bi 0 di, .slice br 0 dr, .slice bb 0 db] 26
  clear hb1 hb2
  go_enter Try.func32, Try.ntmps32
  go_wp2_with (first | (go_at_call 49; refine (sgn_any _ _ _).mono ?_; rintro e w2 ⟨r, rfl, hr, hk⟩; have HR := Lib.hid hr; have HK := Lib.hid hk; clear hr hk))
  go_ret
  exact ⟨r, rfl, HR.out, (((Keeps.refl _ w).alloc _).alloc _).trans HK.out fun _ _ h => h⟩
set_option maxRecDepth 100000 in
set_option maxHeartbeats 800000 in
theorem cmp_3 (w : World) (n n2 : Int) (s s2 : ByteArray) (ai ar ab bi br bb : Option Addr) (ci cr cb di dr db : Nat)  : Calls Try.prog 32 #[.agg #[.int .i64 3, .int .i64 n, .string s, .slice ai 0 ci, .slice ar 0 cr, .slice ab 0 cb], .agg #[.int .i64 3, .int .i64 n2, .string s2, .slice bi 0 di, .slice br 0 dr, .slice bb 0 db]] w (ZeroIff (n = n2) w) := by
  have hb1 := Blk.new w [.int .i64 3, .int .i64 n, .string s, .slice ai 0 ci, .slice ar 0 cr, .slice ab 0 cb] 26
  have hb2 := Blk.new (w.alloc (.cells #[.int .i64 3, .int .i64 n, .string s, .slice ai 0 ci, .slice ar 0 cr, .slice ab 0 cb] 26)) [.int .i64 3, .int .i64 n2, .string s2, .slice bi 0 di, .slice br 0 dr, .slice bb 0 db] 26
  clear hb1 hb2
  go_enter Try.func32, Try.ntmps32
  go_wp2_with (first | (go_at_call 49; refine (sgn_any _ _ _).mono ?_; rintro e w2 ⟨r, rfl, hr, hk⟩; have HR := Lib.hid hr; have HK := Lib.hid hk; clear hr hk))
  go_ret
  exact ⟨r, rfl, HR.out, (((Keeps.refl _ w).alloc _).alloc _).trans HK.out fun _ _ h => h⟩
set_option maxRecDepth 100000 in
set_option maxHeartbeats 800000 in
theorem cmp_4 (w : World) (n n2 : Int) (s s2 : ByteArray) (ai ar ab bi br bb : Option Addr) (ci cr cb di dr db : Nat)  : Calls Try.prog 32 #[.agg #[.int .i64 4, .int .i64 n, .string s, .slice ai 0 ci, .slice ar 0 cr, .slice ab 0 cb], .agg #[.int .i64 4, .int .i64 n2, .string s2, .slice bi 0 di, .slice br 0 dr, .slice bb 0 db]] w (ZeroIff (n = n2) w) := by
  have hb1 := Blk.new w [.int .i64 4, .int .i64 n, .string s, .slice ai 0 ci, .slice ar 0 cr, .slice ab 0 cb] 26
  have hb2 := Blk.new (w.alloc (.cells #[.int .i64 4, .int .i64 n, .string s, .slice ai 0 ci, .slice ar 0 cr, .slice ab 0 cb] 26)) [.int .i64 4, .int .i64 n2, .string s2, .slice bi 0 di, .slice br 0 dr, .slice bb 0 db] 26
  clear hb1 hb2
  go_enter Try.func32, Try.ntmps32
  go_wp2_with (first | (go_at_call 49; refine (sgn_any _ _ _).mono ?_; rintro e w2 ⟨r, rfl, hr, hk⟩; have HR := Lib.hid hr; have HK := Lib.hid hk; clear hr hk))
  go_ret
  exact ⟨r, rfl, HR.out, (((Keeps.refl _ w).alloc _).alloc _).trans HK.out fun _ _ h => h⟩
set_option maxRecDepth 100000 in
set_option maxHeartbeats 800000 in
theorem cmp_2 (w : World) (n n2 : Int) (s s2 : ByteArray) (ai ar ab bi br bb : Option Addr) (ci cr cb di dr db : Nat)  : Calls Try.prog 32 #[.agg #[.int .i64 2, .int .i64 n, .string s, .slice ai 0 ci, .slice ar 0 cr, .slice ab 0 cb], .agg #[.int .i64 2, .int .i64 n2, .string s2, .slice bi 0 di, .slice br 0 dr, .slice bb 0 db]] w (ZeroIff (s = s2) w) := by
  have hb1 := Blk.new w [.int .i64 2, .int .i64 n, .string s, .slice ai 0 ci, .slice ar 0 cr, .slice ab 0 cb] 26
  have hb2 := Blk.new (w.alloc (.cells #[.int .i64 2, .int .i64 n, .string s, .slice ai 0 ci, .slice ar 0 cr, .slice ab 0 cb] 26)) [.int .i64 2, .int .i64 n2, .string s2, .slice bi 0 di, .slice br 0 dr, .slice bb 0 db] 26
  clear hb1 hb2
  go_enter Try.func32, Try.ntmps32
  go_wp2_with (first | (go_at_call 50; refine (txt_any _ _ _).mono ?_; rintro e w2 ⟨r, rfl, hr, hk⟩; have HR := Lib.hid hr; have HK := Lib.hid hk; clear hr hk))
  go_ret
  exact ⟨r, rfl, HR.out, (((Keeps.refl _ w).alloc _).alloc _).trans HK.out fun _ _ h => h⟩
set_option maxRecDepth 100000 in
set_option maxHeartbeats 800000 in
theorem cmp_6 (w : World) (n n2 : Int) (s s2 : ByteArray) (ai ar ab bi br bb : Option Addr) (ci cr cb di dr db : Nat)  : Calls Try.prog 32 #[.agg #[.int .i64 6, .int .i64 n, .string s, .slice ai 0 ci, .slice ar 0 cr, .slice ab 0 cb], .agg #[.int .i64 6, .int .i64 n2, .string s2, .slice bi 0 di, .slice br 0 dr, .slice bb 0 db]] w (ZeroIff (True) w) := by
  have hb1 := Blk.new w [.int .i64 6, .int .i64 n, .string s, .slice ai 0 ci, .slice ar 0 cr, .slice ab 0 cb] 26
  have hb2 := Blk.new (w.alloc (.cells #[.int .i64 6, .int .i64 n, .string s, .slice ai 0 ci, .slice ar 0 cr, .slice ab 0 cb] 26)) [.int .i64 6, .int .i64 n2, .string s2, .slice bi 0 di, .slice br 0 dr, .slice bb 0 db] 26
  clear hb1 hb2
  go_enter Try.func32, Try.ntmps32
  go_wp2_with (first | fail)
  go_ret
  exact ⟨_, rfl, ⟨fun _ => trivial, fun _ => rfl⟩, ((Keeps.refl _ w).alloc _).alloc _⟩
end Go.Proofs.Ytnmhodejffpblaa

/-
  Words: the law WordInts: what the Go code does.
-/
import Derived.Test.YtnmhodejffpblaaWdL
namespace Go.Tx
open Go Go.RowKit
theorem wrap_i64 (n : Int) : IntKind.i64.wrap n = wrap64 n := by
  have h : (2 : Int) ^ 64 = 18446744073709551616 := by decide
  have h2 : (2 : Int) ^ 63 = 9223372036854775808 := by decide
  unfold IntKind.wrap wrap64
  simp [IntKind.signed, IntKind.bits]
  split <;> omega
theorem results_cell3 {P : Program} {fn : Func} {c u v : Tmp} {t : TypeId} {w : World} (h : fn.results = #[.cell c t, .tmp u, .tmp v]) (tmps : Array Value) (p : Addr) (hp : tmps.getD c undef = .pointer (some p)) (x : Value) (hl : (loadVar t p).run P w = .ok x w) :
    (results fn tmps).run P w = .ok (.tuple #[x, tmps.getD u undef, tmps.getD v undef]) w := by
  have hp' : tmps[c]?.getD undef = .pointer (some p) := by rw [← Array.getD_eq_getD_getElem?]; exact hp
  simp [results, h, asAddr, hp', hl]
theorem load_run {P : Program} {w : World} {b i : Nat} {v : Value} (h : w.cell? ⟨b, i, none⟩ = some v) : (load ⟨b, i, none⟩).run P w = .ok v w := by
  simp [h]
end Go.Tx
namespace Go.Proofs.Ytnmhodejffpblaa
open Go.RowKit Go.Tx
theorem info_term : (Try.prog.info? 26).map (·.size) = some 6 := by kernel_rfl
theorem add_at (g : Nat) (i : Nat) : (⟨g, 0, none⟩ : Addr).add i = ⟨g, i, none⟩ := by
  unfold Addr.add
  cases i with
  | zero => rfl
  | succ j => simp
theorem load_term {n : Int} (w0 : World) (w : World) (hb : Blk w w0.heap.size 26 [.int .i64 1, .int .i64 n, .string ⟨#[]⟩, .slice none 0 0, .slice none 0 0, .slice none 0 0]) :
    (loadVar 26 ⟨w0.heap.size, 0, none⟩).run Try.prog w = .ok (intTerm n) w := by
  cases hi : Try.prog.info? 26 with
  | none => have := info_term; rw [hi] at this; cases this
  | some i =>
    have hs : i.size = 6 := by have := info_term; rw [hi] at this; simpa using this
    unfold loadVar loadCells
    simp [loadCellsFrom, isAgg, sizeOf, typeInfo, Try.underlying26, hi, hs, add_at, hb.cell (i := 0) rfl, hb.cell (i := 1) rfl, hb.cell (i := 2) rfl, hb.cell (i := 3) rfl, hb.cell (i := 4) rfl, hb.cell (i := 5) rfl]
    rfl
set_option maxRecDepth 100000 in
set_option maxHeartbeats 400000 in
theorem plain_int (w : World) (n : Int) (a : Value) (h1 : -1152921504606846976 ≤ n) (h2 : n < 1152921504606846976) : Calls Try.prog 29 #[.int .u64 (n * 8 % 18446744073709551616), a] w fun e w' => e = .returned (.tuple #[intTerm n, .bool true, .nilIface]) ∧ Keeps (fun _ => False) w w' := by
  have a7 := u64_and7 (n * 8 % 18446744073709551616) (by omega) (by omega)
  have e8 : n * 8 % 18446744073709551616 % 8 = 0 := by omega
  rw [e8] at a7
  have e9 : wrap64 (n * 8 % 18446744073709551616) / 8 = n := by unfold wrap64; omega
  unfold intTerm
  clear e8
  go_enter Try.func29, Try.ntmps29
  go_wp2_with (first | (with_reducible refine wp_region_text (by kernel_rfl) (by kernel_rfl) ?_) | (with_reducible refine text_fin (by kernel_rfl) ?_))
  have hb := Blk.new w [.int .i64 1, .int .i64 n, .string ⟨#[]⟩, .slice none 0 0, .slice none 0 0, .slice none 0 0] 26
  refine bodyPost_ret (results_cell3 rfl _ ⟨w.heap.size, 0, none⟩ rfl (intTerm n) ?_) rfl ⟨rfl, (Keeps.refl _ w).alloc _⟩
  exact load_term w _ hb

set_option maxRecDepth 100000 in
set_option maxHeartbeats 400000 in
theorem ints_any (w : World) (n : Int) (h1 : -9223372036854775808 ≤ n) (h2 : n ≤ 9223372036854775807) : Calls Try.prog 10 #[.int .i64 n] w fun e w' => e = .returned (.bool true) ∧ Keeps (fun _ => False) w w' := by
  by_cases hn : -1152921504606846976 ≤ n ∧ n < 1152921504606846976
  · obtain ⟨hn1, hn2⟩ := hn
    have HS : Hid (∀ a w, Calls Try.prog 12 #[intTerm n, a] w fun e w' => e = .returned (.tuple #[.int .u64 ((n * 8) % 18446744073709551616), .bool true, .nilIface]) ∧ Keeps (fun _ => False) w w') := Lib.hid fun a w => (small_int w n a h1 h2).mono fun e w' ⟨he, hk⟩ => ⟨by rw [if_pos ⟨hn1, hn2⟩] at he; exact he, hk⟩
    have HP : Hid (∀ a w, Calls Try.prog 29 #[.int .u64 (n * 8 % 18446744073709551616), a] w fun e w' => e = .returned (.tuple #[intTerm n, .bool true, .nilIface]) ∧ Keeps (fun _ => False) w w') := Lib.hid fun a w => plain_int w n a hn1 hn2
    have e8 : n * 8 % 18446744073709551616 % 8 = 0 := by omega
    unfold intTerm at *
    go_enter Try.func10, Try.ntmps10
    go_wp2_with (first | (go_at_call 18; refine (atoms_new _).mono ?_; rintro e w1 ⟨rfl, hk1⟩; have K1 := Lib.hid hk1; clear hk1) | (go_at_call 12; refine (HS.out _ _).mono ?_; rintro e w2 ⟨rfl, hk2⟩; have K2 := Lib.hid hk2; clear hk2) | (go_at_call 29; refine (HP.out _ _).mono ?_; rintro e w3 ⟨rfl, hk3⟩; have K3 := Lib.hid hk3; clear hk3) | (go_at_call 17; refine (awake_any _).mono ?_; rintro e w5 ⟨rfl, hk5⟩; have K5 := Lib.hid hk5; clear hk5))
    go_ret
    exact ⟨rfl, ((((K1.out.trans K2.out fun _ _ h => h).trans K3.out fun _ _ h => h)).alloc _).trans K5.out fun _ _ h => h⟩
  · have HS : Hid (∀ a w, Calls Try.prog 12 #[intTerm n, a] w fun e w' => e = .returned (.tuple #[.int .u64 0, .bool false, .nilIface]) ∧ Keeps (fun _ => False) w w') := Lib.hid fun a w => (small_int w n a h1 h2).mono fun e w' ⟨he, hk⟩ => ⟨by rw [if_neg hn] at he; exact he, hk⟩
    unfold intTerm at *
    by_cases hn3 : n < -1152921504606846976
    · clear hn
      go_enter Try.func10, Try.ntmps10
      go_wp2_with (first | (go_at_call 18; refine (atoms_new _).mono ?_; rintro e w1 ⟨rfl, hk1⟩; have K1 := Lib.hid hk1; clear hk1) | (go_at_call 12; refine (HS.out _ _).mono ?_; rintro e w2 ⟨rfl, hk2⟩; have K2 := Lib.hid hk2; clear hk2) | (go_at_call 17; refine (awake_any _).mono ?_; rintro e w5 ⟨rfl, hk5⟩; have K5 := Lib.hid hk5; clear hk5))
      go_ret
      exact ⟨rfl, (K1.out.trans K2.out fun _ _ h => h).trans K5.out fun _ _ h => h⟩
    · have hn4 : 1152921504606846976 ≤ n := by omega
      clear hn hn3
      go_enter Try.func10, Try.ntmps10
      go_wp2_with (first | (go_at_call 18; refine (atoms_new _).mono ?_; rintro e w1 ⟨rfl, hk1⟩; have K1 := Lib.hid hk1; clear hk1) | (go_at_call 12; refine (HS.out _ _).mono ?_; rintro e w2 ⟨rfl, hk2⟩; have K2 := Lib.hid hk2; clear hk2) | (go_at_call 17; refine (awake_any _).mono ?_; rintro e w5 ⟨rfl, hk5⟩; have K5 := Lib.hid hk5; clear hk5))
      go_ret
      exact ⟨rfl, (K1.out.trans K2.out fun _ _ h => h).trans K5.out fun _ _ h => h⟩
end Go.Proofs.Ytnmhodejffpblaa

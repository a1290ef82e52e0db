/-
  Words: a term of a number: what the Go code does.
-/
import Derived.Test.YtnmhodejffpblaaRf
import Derived.Lib.EndianBits
import Derived.Laws.BitsAllLaws
namespace Go.Tx
open Go Go.RowKit
/-- a term of a number -/
def intTerm (n : Int) : Value := .agg #[.int .i64 1, .int .i64 n, .string ⟨#[]⟩, .slice none 0 0, .slice none 0 0, .slice none 0 0]
theorem wrap_u64 (n : Int) : IntKind.u64.wrap n = n % 18446744073709551616 := by simp [IntKind.wrap, IntKind.signed, IntKind.bits]
/-- a word's number above its kind -/
theorem word_or (k n : Int) (h0 : 0 ≤ k) (h8 : k < 8) : bits BinOp.or IntKind.u64 k (IntKind.u64.wrap (IntKind.u64.wrap n * 8)) = k + n * 8 % 18446744073709551616 := by
  rw [wrap_u64, wrap_u64]
  have h := bits_join_low .u64 64 (by decide) wraps_u64 3 k (n % 18446744073709551616 * 8 % 18446744073709551616) h0 (by omega) (by omega) (by omega) (by omega) (by omega)
  rw [h]; omega
end Go.Tx
namespace Go.Proofs.Ytnmhodejffpblaa
open Go.RowKit Go.Tx
set_option maxRecDepth 100000 in
set_option maxHeartbeats 400000 in
theorem fields_int (w : World) (n : Int) : Calls Try.prog 56 #[intTerm n] w fun e w' => e = .returned (.bool true) ∧ Keeps (fun _ => False) w w' := by
  have HK : Hid (∀ o, Keeps (fun _ => False) w (w.alloc o)) := Lib.hid fun o => (Keeps.refl _ w).alloc o
  unfold intTerm
  go_enter Try.func56, Try.ntmps56
  go_wp2_with (first | (with_reducible refine wp_region_text (by kernel_rfl) (by kernel_rfl) ?_) | (with_reducible refine text_fin (by kernel_rfl) ?_))
  go_ret
  exact ⟨rfl, (HK.out _).drew⟩
set_option maxRecDepth 100000 in
set_option maxHeartbeats 400000 in
theorem term_int (w : World) (n : Int) (g : Nat) (hb : Blk w g 118 [.int .i64 0, .int .i64 0]) : Calls Try.prog 52 #[.pointer (some ⟨g, 0, none⟩), intTerm n, .int .i64 1] w fun e w' => e = .returned .nilIface ∧ Keeps (fun x => x = g) w w' := by
  have c0 : w.cell? ⟨g, 0, none⟩ = some (.int .i64 0) := hb.cell (i := 0) rfl
  have c1 : w.cell? ⟨g, 1, none⟩ = some (.int .i64 0) := hb.cell (i := 1) rfl
  have f0 := hb.free 0
  have hg := hb.lt
  unfold intTerm
  go_enter Try.func52, Try.ntmps52
  go_wp2_with (first | (with_reducible refine wp_region_text (by kernel_rfl) (by kernel_rfl) ?_) | (with_reducible refine text_fin (by kernel_rfl) ?_) | (go_at_call 56; refine Stop.out ?_))
  refine ⟨(fields_int _ n).mono ?_⟩
  rintro e w2 ⟨rfl, hk2⟩
  have hbl : Blk w2 w.heap.size 26 [.int .i64 1, .int .i64 n, .string ⟨#[]⟩, .slice none 0 0, .slice none 0 0, .slice none 0 0] := by
    refine Blk.keeps ?_ hk2 (fun h => h)
    have := Blk.new (w.setCell ⟨g, 0, none⟩ (.int .i64 1)) [.int .i64 1, .int .i64 n, .string ⟨#[]⟩, .slice none 0 0, .slice none 0 0, .slice none 0 0] 26
    rw [World.size_setCell] at this
    exact this
  have d3 : w2.cell? ⟨w.heap.size, 3, none⟩ = some (.slice none 0 0) := hbl.cell (i := 3) rfl
  have d4 : w2.cell? ⟨w.heap.size, 4, none⟩ = some (.slice none 0 0) := hbl.cell (i := 4) rfl
  have HK2 : Hid (Keeps (fun x => x = g) w w2) := Lib.hid ((((Keeps.refl (fun x => x = g) w).setCell (p := ⟨g, 0, none⟩) (fun _ => rfl) (.int .i64 1)).alloc _).drew.trans (hk2.mono fun _ _ h => h.elim) fun _ _ h => h)
  clear hk2 hbl
  go_wp2
  refine wp_loop_rounds 3 ?_
  rw [rounds_succ]
  go_wp2
  refine wp_loop_rounds 1 ?_
  rw [rounds_succ]
  go_wp2
  rw [rounds_succ]
  go_wp2
  refine wp_loop_rounds 1 ?_
  rw [rounds_succ]
  go_wp2
  rw [rounds_succ]
  go_wp2
  go_ret
  exact ⟨rfl, HK2.out.alloc _⟩
set_option maxRecDepth 100000 in
set_option maxHeartbeats 400000 in
theorem right_int (w : World) (n : Int) : Calls Try.prog 34 #[intTerm n] w fun e w' => e = .returned .nilIface ∧ Keeps (fun _ => False) w w' := by
  have HT : Hid (∀ o, Calls Try.prog 52 #[.pointer (some ⟨w.heap.size + 1, 0, none⟩), intTerm n, .int .i64 1] ((w.alloc o).alloc (.cells #[.int .i64 0, .int .i64 0] 118)) fun e w' => e = .returned .nilIface ∧ Keeps (fun _ => False) w w') := Lib.hid fun o =>
    (term_int ((w.alloc o).alloc (.cells #[.int .i64 0, .int .i64 0] 118)) n (w.heap.size + 1) (by have := Blk.new (w.alloc o) [.int .i64 0, .int .i64 0] 118; rwa [World.size_alloc] at this)).mono fun e w' ⟨he, hk⟩ => ⟨he, (((Keeps.refl (fun _ => False) w).alloc o).alloc _).trans hk fun b hb hx => by omega⟩
  unfold intTerm at *
  go_enter Try.func34, Try.ntmps34
  go_wp2_with (go_at_call 52; refine (HT.out _).mono ?_; rintro e w2 ⟨rfl, hk2⟩; have HK2 := Lib.hid hk2; clear hk2)
  go_ret
  exact ⟨rfl, HK2.out⟩
set_option maxHeartbeats 400000 in
theorem small_int (w : World) (n : Int) (a : Value) (h1 : -9223372036854775808 ≤ n) (h2 : n ≤ 9223372036854775807) : Calls Try.prog 12 #[intTerm n, a] w fun e w' => e = .returned (if -1152921504606846976 ≤ n ∧ n < 1152921504606846976 then .tuple #[.int .u64 ((n * 8) % 18446744073709551616), .bool true, .nilIface] else .tuple #[.int .u64 0, .bool false, .nilIface]) ∧ Keeps (fun _ => False) w w' := by
  have HT : Hid (∀ w, Calls Try.prog 34 #[intTerm n] w fun e w' => e = .returned .nilIface ∧ Keeps (fun _ => False) w w') := Lib.hid fun w => right_int w n
  unfold intTerm at *
  go_enter Try.func12, Try.ntmps12
  go_wp2_with (go_at_call 34; refine Stop.out ?_)
  refine ⟨(HT.out _).mono ?_⟩
  rintro e w2 ⟨rfl, hk2⟩
  have hbl : Blk w2 w.heap.size 26 [.int .i64 1, .int .i64 n, .string ⟨#[]⟩, .slice none 0 0, .slice none 0 0, .slice none 0 0] := (Blk.new w _ _).keeps hk2 (fun h => h)
  have d0 : w2.cell? ⟨w.heap.size, 0, none⟩ = some (.int .i64 1) := hbl.cell (i := 0) rfl
  have d1 : w2.cell? ⟨w.heap.size, 1, none⟩ = some (.int .i64 n) := hbl.cell (i := 1) rfl
  have HK2 : Hid (Keeps (fun _ => False) w w2) := Lib.hid (((Keeps.refl _ w).alloc _).trans hk2 fun _ _ h => h)
  clear hk2 hbl
  by_cases hn : -1152921504606846976 ≤ n ∧ n < 1152921504606846976
  · have HN := Lib.hid hn
    obtain ⟨hn1, hn2⟩ := hn
    go_wp2
    rw [word_or 0 n (by decide) (by decide), Int.zero_add]
    go_ret3
    exact ⟨rfl, HK2.out⟩
  · have HN := Lib.hid hn
    clear hn
    have hn := HN.out
    by_cases hn3 : n < -1152921504606846976
    · clear hn
      go_wp2
      go_ret3
      exact ⟨rfl, HK2.out⟩
    · have hn4 : 1152921504606846976 ≤ n := by omega
      clear hn
      go_wp2
      go_ret3
      exact ⟨rfl, HK2.out⟩
end Go.Proofs.Ytnmhodejffpblaa

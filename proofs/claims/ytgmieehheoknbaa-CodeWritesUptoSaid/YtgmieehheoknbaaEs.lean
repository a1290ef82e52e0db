/-
  A module's bytes: signed numbers, texts; the document's numbers: what the Go code does.
-/
import Derived.Test.YtgmieehheoknbaaEn
namespace Go.Tx
open Go Go.RowKit
theorem xor_zero (a : Int) (h0 : 0 ≤ a) (h1 : a < 18446744073709551616) : bits BinOp.xor IntKind.u64 a 0 = a := by
  show IntKind.u64.wrap ((BitVec.ofInt 64 a ^^^ BitVec.ofInt 64 0).toNat : Int) = a
  have h : BitVec.ofInt 64 0 = 0#64 := rfl
  rw [h, BitVec.xor_zero, BitVec.toNat_ofInt]
  have hw : ∀ n, IntKind.u64.wrap n = n % 18446744073709551616 := fun n => by simp [IntKind.wrap, IntKind.signed, IntKind.bits]
  rw [hw]
  omega
theorem xor_ones (a : Int) (h0 : 0 ≤ a) (h1 : a < 18446744073709551616) : bits BinOp.xor IntKind.u64 a 18446744073709551615 = 18446744073709551615 - a := by
  show IntKind.u64.wrap ((BitVec.ofInt 64 a ^^^ BitVec.ofInt 64 18446744073709551615).toNat : Int) = _
  have h : BitVec.ofInt 64 18446744073709551615 = BitVec.allOnes 64 := rfl
  rw [h, BitVec.xor_allOnes, BitVec.toNat_not, BitVec.toNat_ofInt]
  have hw : ∀ n, IntKind.u64.wrap n = n % 18446744073709551616 := fun n => by simp [IntKind.wrap, IntKind.signed, IntKind.bits]
  rw [hw]
  omega
theorem zig_pos {x : Int} (h0 : 0 ≤ x) (h1 : x ≤ 9223372036854775807) : bits BinOp.xor IntKind.u64 (x * 2) 0 = (zig x : Nat) := by
  rw [xor_zero _ (by omega) (by omega)]
  unfold zig
  rw [if_neg (by omega)]
  omega
theorem zig_neg {x : Int} (h0 : x < 0) (h1 : -9223372036854775808 ≤ x) : bits BinOp.xor IntKind.u64 (IntKind.u64.wrap (IntKind.u64.wrap x * 2)) (IntKind.u64.wrap (-1)) = (zig x : Nat) := by
  have hw : ∀ n, IntKind.u64.wrap n = n % 18446744073709551616 := fun n => by simp [IntKind.wrap, IntKind.signed, IntKind.bits]
  rw [hw, hw, hw, show (-1 : Int) % 18446744073709551616 = 18446744073709551615 by decide, xor_ones _ (by omega) (by omega)]
  unfold zig
  rw [if_pos h0]
  omega
end Go.Tx
namespace Go.Proofs.Ytgmieehheoknbaa
open Go.RowKit Go.Tx
set_option maxRecDepth 100000 in
set_option maxHeartbeats 800000 in
theorem sign_pos {w : World} {v : Value} {l : List UInt8} (x : Int) (h0 : 0 ≤ x) (h1 : x ≤ 9223372036854775807) (h : Bytes w v l) (hl : l.length ≤ 70368744177664) :
    Calls Try.prog 15 #[v, .int .i64 x] w (AppPost l (encS x) v w) := by
  have e1 : x / 9223372036854775808 = 0 := by omega
  have H := Lib.hid h
  obtain ⟨a, c, rfl⟩ := h.form
  clear h
  go_enter Try.func15, Try.ntmps15
  go_wp2_with (first | (go_at_call 9; refine Stop.out ?_))
  refine ⟨?_⟩
  rw [zig_pos h0 h1]
  refine (number_any (zig x) (zig_lt (by omega) (by omega)) H.out hl).mono ?_
  rintro e w2 ⟨v', q, rfl, hq, h2, h3⟩
  have H2 := Lib.hid h2
  have H3 := Lib.hid h3
  have HQ := Lib.hid hq
  clear h2 h3 hq
  go_wp2
  go_ret
  exact ⟨_, q, rfl, HQ.out, H2.out, H3.out⟩
set_option maxRecDepth 100000 in
set_option maxHeartbeats 800000 in
theorem sign_neg {w : World} {v : Value} {l : List UInt8} (x : Int) (h0 : x < 0) (h1 : -9223372036854775808 ≤ x) (h : Bytes w v l) (hl : l.length ≤ 70368744177664) :
    Calls Try.prog 15 #[v, .int .i64 x] w (AppPost l (encS x) v w) := by
  have e1 : x / 9223372036854775808 = -1 := by omega
  have H := Lib.hid h
  obtain ⟨a, c, rfl⟩ := h.form
  clear h
  go_enter Try.func15, Try.ntmps15
  go_wp2_with (first | (go_at_call 9; refine Stop.out ?_))
  refine ⟨?_⟩
  rw [zig_neg h0 h1]
  refine (number_any (zig x) (zig_lt (by omega) (by omega)) H.out hl).mono ?_
  rintro e w2 ⟨v', q, rfl, hq, h2, h3⟩
  have H2 := Lib.hid h2
  have H3 := Lib.hid h3
  have HQ := Lib.hid hq
  clear h2 h3 hq
  go_wp2
  go_ret
  exact ⟨_, q, rfl, HQ.out, H2.out, H3.out⟩
set_option maxRecDepth 100000 in
set_option maxHeartbeats 800000 in
theorem text_full {w : World} {v : Value} {l : List UInt8} (s : ByteArray) (hs : s.size ≤ 70368744177664) (h : BytesF w v l) (hl : l.length ≤ 70368744177600) (hls : l.length + s.size ≤ 70368744177600) :
    Calls Try.prog 10 #[v, .string s] w (AppPost l (encB s) v w) := by
  have H := Lib.hid h
  obtain ⟨a, c, rfl⟩ := h.form
  clear h
  go_enter Try.func10, Try.ntmps10
  go_wp2_with (first | (go_at_call 9; refine Stop.out ?_))
  refine ⟨?_⟩
  refine (number_full s.size (by omega) H.out (by omega)).mono ?_
  rintro e w2 ⟨v', q, rfl, hq, h2, h3⟩
  have hql : q.length ≤ l.length + 10 := by
    have := encN_ten (n := s.size) (by omega)
    rw [hq, List.length_append]
    omega
  obtain ⟨a2, c2, rfl⟩ := h2.form
  have H2 := Lib.hid h2
  have H3 := Lib.hid h3
  have HQ := Lib.hid hq
  clear h2 h3 hq
  go_wp2_with (first | (at_builtin; go_must (refine wpList_append_row _ rfl _ _ 26 9 rfl 5 .string 1 1 (.int .u8 0) info_u8 Try.underlying26 Try.underlying9 (by intro k h; cases h) rfl (.slice a2 q.length c2) q.length (byteV q) rfl H2.out _ s.size (byteCells s) rfl (by rw [byteCells_length, Nat.mul_one]) (lenOf_string _) (fun W _ => firstCells_string _ W) (byteV_one s.data.toList) (by unfold maxLen; omega) (by omega) ?_); intro v' w4 ha; obtain ⟨va, vc, rfl, _, _⟩ := ha.row.len; have HA := Lib.hid ha; clear ha))
  go_ret
  refine ⟨_, _, rfl, ?_, Bytes.push (ext := s.data.toList) HA.out (by rw [Array.length_toList]; rfl) (byteV_cells s).symm, H3.out.trans (Grown.of HA.out)⟩
  rw [HQ.out, encB, List.append_assoc]
theorem text_any {w : World} {v : Value} {l : List UInt8} (s : ByteArray) (hs : s.size ≤ 70368744177664) (h : Bytes w v l) (hl : l.length ≤ 70368744177600) (hls : l.length + s.size ≤ 70368744177600) :
    Calls Try.prog 10 #[v, .string s] w (AppPost l (encB s) v w) := text_full s hs (.inl h) hl hls
end Go.Proofs.Ytgmieehheoknbaa

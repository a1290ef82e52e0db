/-
  A module's bytes: the document's numbers, signed numbers, texts: what the Go code does.
-/
import Derived.Test.YtgmieehheoknbaaEs
namespace Go.Tx
open Go Go.RowKit
theorem byte_greatR (m : Nat) : [Value.int .u8 ((m : Int) % 128 + 128)] = byteV [UInt8.ofNat (m % 128 + 128)] := by
  simp only [byteV, List.map_cons, List.map_nil, UInt8.toNat_ofNat']
  congr 2
  omega
end Go.Tx
namespace Go.Proofs.Ytgmieehheoknbaa
open Go.RowKit Go.Tx
set_option maxRecDepth 100000 in
set_option maxHeartbeats 800000 in
theorem rnum_full {w : World} {v : Value} {l : List UInt8} (x : Nat) (hx : x < 18446744073709551616) (h : BytesF w v l) (hl : l.length ≤ 70368744177664) :
    Calls Try.prog 22 #[v, .int .u64 x] w (AppPost l (encN x) v w) := by
  have HX := Lib.hid hx
  have H := Lib.hid h
  clear h hx
  go_enter Try.func22, Try.ntmps22
  go_wp2
  go_loopw [0, 1] (fun b n wr => NumAt l x v w b n wr) (fun _ n _ => (intOf n).toNat)
  case atStart => exact ⟨x, [], l, rfl, Nat.le_refl _, rfl, by simp, H.out, Grown.refl _ _⟩
  case round =>
    obtain ⟨m, pre, q, rfl, hm, he, hq, hrow, hg⟩ := hrel
    have HE := Lib.hid he
    have HQ := Lib.hid hq
    have HR := Lib.hid hrow
    have HG := Lib.hid hg
    obtain ⟨a, c, rfl⟩ := hrow.form
    clear he hrow hg hq
    have hpl : q.length ≤ 70368744177680 := by
      have h1 := encN_ten HX.out
      rw [HE.out, List.length_append] at h1
      rw [HQ.out, List.length_append]
      omega
    by_cases h128 : m < 128
    · have g1 : decide (128 ≤ m) = false := decide_eq_false (by omega)
      go_wp2_with (first | (at_builtin; go_must (refine wpList_append_bytes rfl _ _ 26 26 rfl (.slice 5) info_u8 Try.underlying26 Try.underlying26 (by intro k h; cases h) (.slice a q.length c) q rfl (HR.out.still ((Keeps.refl _ wr).alloc _)) _ [.int .u8 m] (encN m) (byte_small h128) (by rw [encN_small h128]; exact Nat.succ_pos _) rfl (by rw [encN_small h128]; exact lenOf_slice _ _ _) (by rw [encN_small h128]; exact firstCells_at _ rfl (cells_newAt rfl)) (by rw [encN_small h128]; simp only [List.length_cons, List.length_nil]; omega) ?_); intro v' w4 q4 hq4 hb4 hg4; obtain ⟨va, vc, rfl⟩ := hb4.form; have HB4 := Lib.hid hb4; have HG4 := Lib.hid (hg4.ahead ((Keeps.refl _ wr).alloc _)); have HQ4 := Lib.hid hq4; clear hb4 hg4 hq4))
      go_ret
      refine ⟨_, q4, rfl, ?_, HB4.out, HG.out.trans HG4.out⟩
      rw [HQ4.out, HE.out, HQ.out, List.append_assoc]
    · have g1 : decide (128 ≤ m) = true := decide_eq_true (by omega)
      go_wp2_with (first | (at_builtin; go_must (refine wpList_append_bytes rfl _ _ 26 26 rfl (.slice 5) info_u8 Try.underlying26 Try.underlying26 (by intro k h; cases h) (.slice a q.length c) q rfl (HR.out.still ((Keeps.refl _ wr).alloc _)) _ [.int .u8 ((m : Int) % 128 + 128)] [UInt8.ofNat (m % 128 + 128)] (byte_greatR m) (Nat.succ_pos _) rfl (lenOf_slice _ _ _) (firstCells_at _ rfl (cells_newAt rfl)) (by simp only [List.length_cons, List.length_nil]; omega) ?_); intro v' w4 q4 hq4 hb4 hg4; obtain ⟨va, vc, rfl⟩ := hb4.form; have HB4 := Lib.hid hb4; have HG4 := Lib.hid (hg4.ahead ((Keeps.refl _ wr).alloc _)); have HQ4 := Lib.hid hq4; clear hb4 hg4 hq4))
      rw [show IntKind.u64.wrap ((m : Int) / 128) = ((m / 128 : Nat) : Int) by have := HX.out; simp [IntKind.wrap, IntKind.signed, IntKind.bits]; omega]
      refine ⟨⟨m / 128, pre ++ [UInt8.ofNat (m % 128 + 128)], q4, by go_num, by omega, ?_, ?_, .inl HB4.out, HG.out.trans HG4.out⟩, ?_⟩
      · rw [HE.out, encN_great h128]; simp
      · rw [HQ4.out, HQ.out]; simp
      · simp [intOf]; omega
theorem rnum_any {w : World} {v : Value} {l : List UInt8} (x : Nat) (hx : x < 18446744073709551616) (h : Bytes w v l) (hl : l.length ≤ 70368744177664) :
    Calls Try.prog 22 #[v, .int .u64 x] w (AppPost l (encN x) v w) := rnum_full x hx (.inl h) hl
set_option maxRecDepth 100000 in
set_option maxHeartbeats 800000 in
theorem rsigned_pos {w : World} {v : Value} {l : List UInt8} (x : Int) (h0 : 0 ≤ x) (h1 : x ≤ 9223372036854775807) (h : Bytes w v l) (hl : l.length ≤ 70368744177664) :
    Calls Try.prog 24 #[v, .int .i64 x] w (AppPost l (encS x) v w) := by
  have e1 : x / 9223372036854775808 = 0 := by omega
  have H := Lib.hid h
  obtain ⟨a, c, rfl⟩ := h.form
  clear h
  go_enter Try.func24, Try.ntmps24
  go_wp2_with (first | (go_at_call 22; refine Stop.out ?_))
  refine ⟨?_⟩
  rw [show x * 2 = ((zig x : Nat) : Int) by unfold zig; rw [if_neg (by omega)]; omega]
  refine (rnum_any (zig x) (zig_lt (by omega) (by omega)) H.out hl).mono ?_
  rintro e w2 ⟨v', q, rfl, hq, h2, h3⟩
  have H2 := Lib.hid h2
  have H3 := Lib.hid h3
  have HQ := Lib.hid hq
  clear h2 h3 hq
  go_wp2
  go_ret
  exact ⟨_, q, rfl, HQ.out, H2.out, H3.out⟩
set_option maxRecDepth 100000 in
set_option maxHeartbeats 800000 in
theorem rsigned_neg {w : World} {v : Value} {l : List UInt8} (x : Int) (h0 : x < 0) (h1 : -9223372036854775808 ≤ x) (h : Bytes w v l) (hl : l.length ≤ 70368744177664) :
    Calls Try.prog 24 #[v, .int .i64 x] w (AppPost l (encS x) v w) := by
  have e1 : x / 9223372036854775808 = -1 := by omega
  have H := Lib.hid h
  obtain ⟨a, c, rfl⟩ := h.form
  clear h
  go_enter Try.func24, Try.ntmps24
  go_wp2_with (first | (go_at_call 22; refine Stop.out ?_))
  refine ⟨?_⟩
  rw [show -(x + 1) * 2 + 1 = ((zig x : Nat) : Int) by unfold zig; rw [if_pos h0]; omega]
  refine (rnum_any (zig x) (zig_lt (by omega) (by omega)) H.out hl).mono ?_
  rintro e w2 ⟨v', q, rfl, hq, h2, h3⟩
  have H2 := Lib.hid h2
  have H3 := Lib.hid h3
  have HQ := Lib.hid hq
  clear h2 h3 hq
  go_wp2
  go_ret
  exact ⟨_, q, rfl, HQ.out, H2.out, H3.out⟩
set_option maxRecDepth 100000 in
set_option maxHeartbeats 800000 in
theorem rsome_any {w : World} {v : Value} {l : List UInt8} (s : ByteArray) (hs : s.size ≤ 70368744177664) (h : Bytes w v l) (hl : l.length ≤ 70368744177600) (hls : l.length + s.size ≤ 70368744177600) :
    Calls Try.prog 21 #[v, .string s] w (AppPost l (encB s) v w) := by
  have H := Lib.hid h
  obtain ⟨a, c, rfl⟩ := h.form
  clear h
  go_enter Try.func21, Try.ntmps21
  go_wp2_with (first | (go_at_call 22; refine Stop.out ?_))
  refine ⟨?_⟩
  refine (rnum_any s.size (by omega) H.out (by omega)).mono ?_
  rintro e w2 ⟨v', q, rfl, hq, h2, h3⟩
  have hql : q.length ≤ l.length + 10 := by
    have := encN_ten (n := s.size) (by omega)
    rw [hq, List.length_append]
    omega
  obtain ⟨a2, c2, rfl⟩ := h2.form
  have H2 := Lib.hid h2
  have H3 := Lib.hid h3
  have HQ := Lib.hid hq
  clear h2 h3 hq
  go_wp2_with (first | (at_builtin; go_must (refine wpList_append_row _ rfl _ _ 26 9 rfl 5 .string 1 1 (.int .u8 0) info_u8 Try.underlying26 Try.underlying9 (by intro k h; cases h) rfl (.slice a2 q.length c2) q.length (byteV q) rfl H2.out _ s.size (byteCells s) rfl (by rw [byteCells_length, Nat.mul_one]) (lenOf_string _) (fun W _ => firstCells_string _ W) (byteV_one s.data.toList) (by unfold maxLen; omega) (by omega) ?_); intro v' w4 ha; obtain ⟨va, vc, rfl, _, _⟩ := ha.row.len; have HA := Lib.hid ha; clear ha))
  go_ret
  refine ⟨_, _, rfl, ?_, Bytes.push (ext := s.data.toList) HA.out (by rw [Array.length_toList]; rfl) (byteV_cells s).symm, H3.out.trans (Grown.of HA.out)⟩
  rw [HQ.out, encB, List.append_assoc]
end Go.Proofs.Ytgmieehheoknbaa

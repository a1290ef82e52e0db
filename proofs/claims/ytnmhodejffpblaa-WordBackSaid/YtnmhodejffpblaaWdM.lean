/-
  Words: marks: what the Go code does, the program's and the document's.
-/
import Derived.Test.YtnmhodejffpblaaKx
import Derived.Test.YtnmhodejffpblaaWd
namespace Go.Tx
open Go Go.RowKit
theorem u64_and7 (x : Int) (h0 : 0 ≤ x) (h1 : x < 18446744073709551616) : bits .and .u64 x 7 = x % 8 := by
  have h := bits_and_u64_nat x.toNat 7 (by omega) (by omega)
  rw [Nat.and_two_pow_sub_one_eq_mod (n := 3), Int.toNat_of_nonneg h0] at h
  have h2 : ((x.toNat % 2 ^ 3 : Nat) : Int) = x % 8 := by omega
  exact h.trans h2
/-- what a word says as a mark -/
def markedOf (x : Int) : Value := if x % 8 = 7 ∧ 1 ≤ x / 8 % 8 ∧ x / 8 % 8 ≤ 4 ∧ x / 64 ≤ 1048576 then .tuple #[.int .i64 (x / 8 % 8), .int .i64 (x / 64), .bool true] else .tuple #[.int .i64 0, .int .i64 0, .bool false]
def txtMark : ByteArray := ⟨#[109, 97, 114, 107]⟩
/-- a call of the document's that ends in an error -/
def XErrPost (f : Value → Value) (l : List (ByteArray × Int)) (k : Int) (w : World) (e : Ending) (w' : World) : Prop :=
  ∃ E, e = .returned (f E) ∧ IsX w' (Fresh w w') E l k ∧ Keeps (fun _ => False) w w'
theorem isX_one {w : World} {op : ByteArray} {n k : Int} {g1 g2 : Nat} (hg1 : g1 = w.heap.size) (hg2 : g2 = w.heap.size + 1) {f : Value → Value} :
    XErrPost f [(op, n)] k w (.returned (f (.pointer (some ⟨g2, 0, none⟩)))) ((w.alloc (.cells #[.string ⟨#[]⟩, .int .i64 0, .pointer none, .int .i64 k] 125)).alloc (.cells #[.string op, .int .i64 n, .pointer (some ⟨g1, 0, none⟩), .int .i64 0] 125)) := by
  subst hg1 hg2
  have k1 : Keeps (fun _ => False) w (w.alloc (.cells #[.string ⟨#[]⟩, .int .i64 0, .pointer none, .int .i64 k] 125)) := (Keeps.refl _ w).alloc _
  have b1 := Blk.new w [.string ⟨#[]⟩, .int .i64 0, .pointer none, .int .i64 k] 125
  have b2 := Blk.new (w.alloc (.cells #[.string ⟨#[]⟩, .int .i64 0, .pointer none, .int .i64 k] 125)) [.string op, .int .i64 n, .pointer (some ⟨w.heap.size, 0, none⟩), .int .i64 0] 125
  rw [World.size_alloc] at b2
  refine ⟨_, rfl, ⟨_, _, rfl, b2, ⟨by omega, by simp⟩, _, rfl, b1.alloc _, ⟨Nat.le_refl _, by simp; omega⟩⟩, k1.alloc _⟩
end Go.Tx
namespace Go.Proofs.Ytnmhodejffpblaa
open Go.RowKit Go.Tx
set_option maxRecDepth 100000 in
set_option maxHeartbeats 400000 in
theorem marked_any (w : World) (x : Int) (h0 : 0 ≤ x) (h1 : x < 18446744073709551616) : Calls Try.prog 25 #[.int .u64 x] w fun e w' => e = .returned (markedOf x) ∧ w' = w := by
  have a7 := u64_and7 x h0 h1
  have b7 := u64_and7 (x / 8) (by omega) (by omega)
  by_cases c1 : x % 8 = 7
  · by_cases c2 : 1 ≤ x / 8 % 8
    · by_cases c3 : x / 8 % 8 ≤ 4
      · by_cases c4 : x / 64 ≤ 1048576
        · rw [show markedOf x = .tuple #[.int .i64 (x / 8 % 8), .int .i64 (x / 64), .bool true] from if_pos ⟨c1, c2, c3, c4⟩]
          go_enter Try.func25, Try.ntmps25
          go_wp2
          go_ret3
          exact ⟨rfl, rfl⟩
        · rw [show markedOf x = .tuple #[.int .i64 0, .int .i64 0, .bool false] from if_neg fun h => c4 h.2.2.2]
          have c5 : 1048576 < x / 64 := by omega
          clear c4
          go_enter Try.func25, Try.ntmps25
          go_wp2
          go_ret3
          exact ⟨rfl, rfl⟩
      · rw [show markedOf x = .tuple #[.int .i64 0, .int .i64 0, .bool false] from if_neg fun h => c3 h.2.2.1]
        have c5 : 4 < x / 8 % 8 := by omega
        clear c3
        go_enter Try.func25, Try.ntmps25
        go_wp2
        go_ret3
        exact ⟨rfl, rfl⟩
    · rw [show markedOf x = .tuple #[.int .i64 0, .int .i64 0, .bool false] from if_neg fun h => c2 h.2.1]
      have c5 : x / 8 % 8 < 1 := by omega
      clear c2
      go_enter Try.func25, Try.ntmps25
      go_wp2
      go_ret3
      exact ⟨rfl, rfl⟩
  · rw [show markedOf x = .tuple #[.int .i64 0, .int .i64 0, .bool false] from if_neg fun h => c1 h.1]
    have c5 : x % 8 < 7 := by omega
    have c6 : (x % 8 != 7) = true := by simpa using c1
    clear c1
    go_enter Try.func25, Try.ntmps25
    go_wp2
    go_ret3
    exact ⟨rfl, rfl⟩
set_option maxRecDepth 100000 in
set_option maxHeartbeats 400000 in
theorem markedR_any (w : World) (x : Int) (h0 : 0 ≤ x) (h1 : x < 18446744073709551616) : Calls Try.prog 26 #[.int .u64 x] w fun e w' => e = .returned (markedOf x) ∧ w' = w := by
  by_cases c1 : x % 8 = 7
  · by_cases c2 : 1 ≤ x / 8 % 8
    · by_cases c3 : x / 8 % 8 ≤ 4
      · by_cases c4 : x / 64 ≤ 1048576
        · rw [show markedOf x = .tuple #[.int .i64 (x / 8 % 8), .int .i64 (x / 64), .bool true] from if_pos ⟨c1, c2, c3, c4⟩]
          go_enter Try.func26, Try.ntmps26
          go_wp2
          go_ret3
          exact ⟨rfl, rfl⟩
        · rw [show markedOf x = .tuple #[.int .i64 0, .int .i64 0, .bool false] from if_neg fun h => c4 h.2.2.2]
          have c5 : 1048576 < x / 64 := by omega
          clear c4
          go_enter Try.func26, Try.ntmps26
          go_wp2
          go_ret3
          exact ⟨rfl, rfl⟩
      · rw [show markedOf x = .tuple #[.int .i64 0, .int .i64 0, .bool false] from if_neg fun h => c3 h.2.2.1]
        have c5 : 4 < x / 8 % 8 := by omega
        clear c3
        go_enter Try.func26, Try.ntmps26
        go_wp2
        go_ret3
        exact ⟨rfl, rfl⟩
    · rw [show markedOf x = .tuple #[.int .i64 0, .int .i64 0, .bool false] from if_neg fun h => c2 h.2.1]
      have c5 : x / 8 % 8 < 1 := by omega
      clear c2
      go_enter Try.func26, Try.ntmps26
      go_wp2
      go_ret3
      exact ⟨rfl, rfl⟩
  · rw [show markedOf x = .tuple #[.int .i64 0, .int .i64 0, .bool false] from if_neg fun h => c1 h.1]
    have c5 : x % 8 < 7 := by omega
    have c6 : (x % 8 != 7) = true := by simpa using c1
    clear c1
    go_enter Try.func26, Try.ntmps26
    go_wp2
    go_ret3
    exact ⟨rfl, rfl⟩

set_option maxHeartbeats 400000 in
theorem mark_some (w : World) (k n : Int) (h1 : 1 ≤ k) (h2 : k ≤ 4) (h3 : 0 ≤ n) (h4 : n ≤ 1048576) : Calls Try.prog 23 #[.int .i64 k, .int .i64 n] w fun e w' => e = .returned (.tuple #[.int .u64 (n * 64 + k * 8 + 7), .nilIface]) ∧ w' = w := by
  have e1 := bits_join_low .u64 64 (by decide) wraps_u64 3 7 (k * 8) (by omega) (by omega) (by omega) (by omega) (by omega) (by omega)
  have e2 := bits_join_low .u64 64 (by decide) wraps_u64 6 (7 + k * 8) (n * 64) (by omega) (by omega) (by omega) (by omega) (by omega) (by omega)
  have e3 : 7 + k * 8 + n * 64 = n * 64 + k * 8 + 7 := by omega
  go_enter Try.func23, Try.ntmps23
  go_wp2
  go_ret2
  exact ⟨rfl, rfl⟩
set_option maxHeartbeats 400000 in
theorem markR_some (w : World) (k n : Int) (h1 : 1 ≤ k) (h2 : k ≤ 4) (h3 : 0 ≤ n) (h4 : n ≤ 1048576) : Calls Try.prog 24 #[.int .i64 k, .int .i64 n] w fun e w' => e = .returned (.tuple #[.int .u64 (n * 64 + k * 8 + 7), .pointer none]) ∧ w' = w := by
  go_enter Try.func24, Try.ntmps24
  go_wp2
  go_ret2
  exact ⟨rfl, rfl⟩

set_option maxHeartbeats 400000 in
theorem f4_any (op : ByteArray) (n : Int) (p : Option Addr) (w : World) : Calls Try.prog 45 #[.string op, .int .i64 n, .pointer p] w fun r w' => r = .returned (.pointer (some ⟨w.heap.size, 0, none⟩)) ∧ w' = w.alloc (.cells #[.string op, .int .i64 n, .pointer p, .int .i64 0] 125) := by
  go_enter Try.func45, Try.ntmps45
  go_wp2
  go_ret
  exact ⟨rfl, rfl⟩
set_option maxHeartbeats 400000 in
theorem mark_wrong (w : World) (k n : Int) (h : k < 1 ∨ 4 < k ∨ n < 0 ∨ 1048576 < n) : Calls Try.prog 23 #[.int .i64 k, .int .i64 n] w (ErrPost (.tuple #[.int .u64 0, ·]) [(txtMark, k)] 1 (fun _ => True) w) := by
  by_cases c1 : k < 1
  · clear h
    go_enter Try.func23, Try.ntmps23
    go_wp2_with (go_at_call 35; refine (at_any _ _ _ _ _).mono ?_; rintro e w1 ⟨rfl, rfl⟩)
    go_ret2
    exact errPost_one (f := (.tuple #[.int .u64 0, ·])) (I := fun _ => True) rfl trivial (Keeps.refl _ _) (fun _ _ _ => trivial)
  · have d1 : 1 ≤ k := by omega
    clear c1
    by_cases c2 : 4 < k
    · clear h
      go_enter Try.func23, Try.ntmps23
      go_wp2_with (go_at_call 35; refine (at_any _ _ _ _ _).mono ?_; rintro e w1 ⟨rfl, rfl⟩)
      go_ret2
      exact errPost_one (f := (.tuple #[.int .u64 0, ·])) (I := fun _ => True) rfl trivial (Keeps.refl _ _) (fun _ _ _ => trivial)
    · have d2 : k ≤ 4 := by omega
      clear c2
      by_cases c3 : n < 0
      · clear h
        go_enter Try.func23, Try.ntmps23
        go_wp2_with (go_at_call 35; refine (at_any _ _ _ _ _).mono ?_; rintro e w1 ⟨rfl, rfl⟩)
        go_ret2
        exact errPost_one (f := (.tuple #[.int .u64 0, ·])) (I := fun _ => True) rfl trivial (Keeps.refl _ _) (fun _ _ _ => trivial)
      · have d3 : 0 ≤ n := by omega
        have d4 : 1048576 < n := by omega
        clear h c3
        go_enter Try.func23, Try.ntmps23
        go_wp2_with (go_at_call 35; refine (at_any _ _ _ _ _).mono ?_; rintro e w1 ⟨rfl, rfl⟩)
        go_ret2
        exact errPost_one (f := (.tuple #[.int .u64 0, ·])) (I := fun _ => True) rfl trivial (Keeps.refl _ _) (fun _ _ _ => trivial)
set_option maxHeartbeats 400000 in
theorem markR_wrong (w : World) (k n : Int) (h : k < 1 ∨ 4 < k ∨ n < 0 ∨ 1048576 < n) : Calls Try.prog 24 #[.int .i64 k, .int .i64 n] w (XErrPost (.tuple #[.int .u64 0, ·]) [(txtMark, k)] 1 w) := by
  by_cases c1 : k < 1
  · clear h
    go_enter Try.func24, Try.ntmps24
    go_wp2_with (first | (go_at_call 46; refine (K_any _ _).mono ?_; rintro e w1 ⟨rfl, rfl⟩) | (go_at_call 45; refine (f4_any _ _ _ _).mono ?_; rintro e w2 ⟨rfl, rfl⟩))
    go_ret2
    exact isX_one (f := (.tuple #[.int .u64 0, ·])) rfl rfl
  · have d1 : 1 ≤ k := by omega
    clear c1
    by_cases c2 : 4 < k
    · clear h
      go_enter Try.func24, Try.ntmps24
      go_wp2_with (first | (go_at_call 46; refine (K_any _ _).mono ?_; rintro e w1 ⟨rfl, rfl⟩) | (go_at_call 45; refine (f4_any _ _ _ _).mono ?_; rintro e w2 ⟨rfl, rfl⟩))
      go_ret2
      exact isX_one (f := (.tuple #[.int .u64 0, ·])) rfl rfl
    · have d2 : k ≤ 4 := by omega
      clear c2
      by_cases c3 : n < 0
      · clear h
        go_enter Try.func24, Try.ntmps24
        go_wp2_with (first | (go_at_call 46; refine (K_any _ _).mono ?_; rintro e w1 ⟨rfl, rfl⟩) | (go_at_call 45; refine (f4_any _ _ _ _).mono ?_; rintro e w2 ⟨rfl, rfl⟩))
        go_ret2
        exact isX_one (f := (.tuple #[.int .u64 0, ·])) rfl rfl
      · have d3 : 0 ≤ n := by omega
        have d4 : 1048576 < n := by omega
        clear h c3
        go_enter Try.func24, Try.ntmps24
        go_wp2_with (first | (go_at_call 46; refine (K_any _ _).mono ?_; rintro e w1 ⟨rfl, rfl⟩) | (go_at_call 45; refine (f4_any _ _ _ _).mono ?_; rintro e w2 ⟨rfl, rfl⟩))
        go_ret2
        exact isX_one (f := (.tuple #[.int .u64 0, ·])) rfl rfl
end Go.Proofs.Ytnmhodejffpblaa

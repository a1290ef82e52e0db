/-
  Words: the document's examples; the law WordMarks: what the Go code does.
-/
import Derived.Test.YtnmhodejffpblaaWdM
namespace Go.Proofs.Ytnmhodejffpblaa
open Go.RowKit Go.Tx
set_option maxHeartbeats 400000 in
theorem atoms_new (w : World) : Calls Try.prog 18 #[] w fun e w' => e = .returned (.pointer (some ⟨w.heap.size, 0, none⟩)) ∧ Keeps (fun _ => False) w w' := by
  go_enter Try.func18, Try.ntmps18
  go_wp2
  go_ret
  exact ⟨rfl, (Keeps.refl _ w).alloc _⟩
set_option maxHeartbeats 400000 in
theorem awake_any (w : World) : Calls Try.prog 17 #[] w fun e w' => e = .returned (.bool true) ∧ Keeps (fun _ => False) w w' := by
  go_enter Try.func17, Try.ntmps17
  go_wp2_with (first | (go_at_call 18; refine (atoms_new _).mono ?_; rintro e w1 ⟨rfl, hk1⟩; have K1 := Lib.hid hk1; clear hk1) | (go_at_call 12; refine (small_int _ (-1) _ (by decide) (by decide)).mono ?_; rintro e w2 ⟨rfl, hk2⟩; have K2 := Lib.hid hk2; clear hk2) | (go_at_call 23; refine (mark_some _ 1 3 (by decide) (by decide) (by decide) (by decide)).mono ?_; rintro e w3 ⟨rfl, rfl⟩))
  go_ret
  exact ⟨rfl, K1.out.trans K2.out fun _ _ h => h⟩

theorem marked_form (x : Int) : ∃ p q g, markedOf x = .tuple #[.int .i64 p, .int .i64 q, .bool g] := by
  unfold markedOf
  split <;> exact ⟨_, _, _, rfl⟩
theorem marked_mark (k n : Int) (h1 : 1 ≤ k) (h2 : k ≤ 4) (h3 : 0 ≤ n) (h4 : n ≤ 1048576) : markedOf (n * 64 + k * 8 + 7) = .tuple #[.int .i64 k, .int .i64 n, .bool true] := by
  have e1 : (n * 64 + k * 8 + 7) / 8 % 8 = k := by omega
  have e2 : (n * 64 + k * 8 + 7) / 64 = n := by omega
  unfold markedOf
  rw [if_pos (by omega), e1, e2]

set_option maxRecDepth 100000 in
set_option maxHeartbeats 400000 in
theorem marks_any (w : World) (k n x : Int) (h0 : 0 ≤ x) (h1 : x < 18446744073709551616) : Calls Try.prog 5 #[.int .i64 k, .int .i64 n, .int .u64 x] w fun e w' => e = .returned (.bool true) ∧ Keeps (fun _ => False) w w' := by
  obtain ⟨p, q, g, hm⟩ := marked_form x
  have HM := Lib.hid hm
  clear hm
  by_cases h : k < 1 ∨ 4 < k ∨ n < 0 ∨ 1048576 < n
  · have HB := Lib.hid h
    clear h
    go_enter Try.func5, Try.ntmps5
    go_wp2_with (go_at_call 23; refine Stop.out ?_)
    refine ⟨(mark_wrong _ k n HB.out).mono ?_⟩
    rintro e w1 ⟨E, rfl, he, _, hk1⟩
    have HE := Lib.hid he
    have he2 := he
    obtain ⟨g1, u1, rfl, _⟩ := he2
    have K1 := Lib.hid hk1
    clear he hk1
    go_wp2_with (go_at_call 24; refine Stop.out ?_)
    refine ⟨(markR_wrong _ k n HB.out).mono ?_⟩
    rintro e w2 ⟨F, rfl, hx, hk2⟩
    have HX := Lib.hid hx
    have hx2 := hx
    obtain ⟨g2, rfl⟩ := hx2.ptr
    have K2 := Lib.hid hk2
    clear hx hx2 hk2
    go_wp2_with (first | (go_at_call 25; refine (marked_any _ x h0 h1).mono ?_; rintro e w3 ⟨rfl, rfl⟩; rw [HM.out]) | (go_at_call 26; refine (markedR_any _ x h0 h1).mono ?_; rintro e w3 ⟨rfl, rfl⟩; rw [HM.out]) | (go_at_call 15; refine Stop.out ?_))
    refine ⟨(ref_any (o := some ([(txtMark, k)], 1)) (o' := some ([(txtMark, k)], 1)) ⟨HE.out.keeps K2.out (fun _ _ h => h), show (1 : Nat) ≤ 9000 by decide⟩ ⟨HX.out, show (1 : Nat) ≤ 9000 by decide⟩).mono ?_⟩
    rintro e w4 ⟨rfl, hk4⟩
    rw [show (fineO (some ([(txtMark, k)], 1)) && decide ((some ([(txtMark, k)], 1) : ErrO) = some ([(txtMark, k)], 1))) = true from by simp [fineO]]
    have K4 := Lib.hid hk4
    clear hk4
    go_wp2_with (first | (go_at_call 17; refine (awake_any _).mono ?_; rintro e w5 ⟨rfl, hk5⟩; have K5 := Lib.hid hk5; clear hk5))
    go_ret
    exact ⟨rfl, ((K1.out.trans K2.out fun _ _ h => h).trans K4.out fun _ _ h => h).trans K5.out fun _ _ h => h⟩
  · have d1 : 1 ≤ k := by omega
    have d2 : k ≤ 4 := by omega
    have d3 : 0 ≤ n := by omega
    have d4 : n ≤ 1048576 := by omega
    have HMM := Lib.hid (marked_mark k n d1 d2 d3 d4)
    clear h
    go_enter Try.func5, Try.ntmps5
    go_wp2_with (first | (go_at_call 23; refine (mark_some _ k n d1 d2 d3 d4).mono ?_; rintro e w1 ⟨rfl, rfl⟩) | (go_at_call 24; refine (markR_some _ k n d1 d2 d3 d4).mono ?_; rintro e w2 ⟨rfl, rfl⟩) | (go_at_call 25; refine Stop.out ?_))
    refine ⟨(marked_any _ x h0 h1).mono ?_⟩
    rintro e w3 ⟨rfl, rfl⟩
    rw [HM.out]
    go_wp2_with (first | (go_at_call 26; refine (markedR_any _ x h0 h1).mono ?_; rintro e w3 ⟨rfl, rfl⟩; rw [HM.out]) | (go_at_call 15; refine Stop.out ?_))
    refine ⟨(ref_any (E := fun _ => False) (E' := fun _ => False) (o := none) (o' := none) rfl rfl).mono ?_⟩
    rintro e w4 ⟨rfl, hk4⟩
    rw [show (fineO none && decide ((none : ErrO) = none)) = true from by simp [fineO]]
    have K4 := Lib.hid hk4
    clear hk4
    go_wp2_with (go_at_call 25; refine Stop.out ?_)
    refine ⟨(marked_any _ (n * 64 + k * 8 + 7) (by omega) (by omega)).mono ?_⟩
    rintro e w5 ⟨rfl, rfl⟩
    rw [HMM.out]
    go_wp2_with (first | (go_at_call 17; refine (awake_any _).mono ?_; rintro e w5 ⟨rfl, hk5⟩; have K5 := Lib.hid hk5; clear hk5))
    go_ret
    exact ⟨rfl, K4.out.trans K5.out fun _ _ h => h⟩
end Go.Proofs.Ytnmhodejffpblaa

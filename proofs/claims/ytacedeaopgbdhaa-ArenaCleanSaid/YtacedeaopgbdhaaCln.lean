/-
  The law ArenaClean: what the Go code does.
-/
import Derived.Test.YtacedeaopgbdhaaArL
import Derived.Test.YtacedeaopgbdhaaClnP
namespace Go.Tx
open Go Go.RowKit
/-- what holds before each round; before each word's round -/
def CleanAt (w : World) (b len : Nat) (v : Value) (wr : World) : Prop :=
  ∃ (i : Nat) (A : AM), v = .int .i64 i ∧ i ≤ len ∧ A.One ∧ IsArena wr b A (Fresh w wr) ∧ Keeps (fun _ => False) w wr
def CleanIn (w : World) (b q c n : Nat) (v : Value) (wr : World) : Prop :=
  ∃ (k : Nat) (B : AM), v = .int .i64 k ∧ k ≤ n ∧ B.OneTaken q c n k ∧ IsArena wr b B (Fresh w wr) ∧ Keeps (fun _ => False) w wr
end Go.Tx
namespace Go.Proofs.Ytacedeaopgbdhaa
open Go.RowKit Go.Tx

set_option maxRecDepth 100000 in
set_option maxHeartbeats 400000 in
theorem clean_any (w : World) (a : Option Addr) (len cap : Nat) (zs : Nat → Int) (hm : len ≤ maxLen)
    (hcell : ∀ i, i < len → ∃ ad, a = some ad ∧ ad.block < w.heap.size ∧ w.cell? (ad.add i) = some (.int .i64 (zs i)) ∧ -9223372036854775808 ≤ zs i ∧ zs i ≤ 9223372036854775807) :
    Calls Try.prog 4 #[.slice a len cap] w fun e w' => e = .returned (.bool true) ∧ Keeps (fun _ => False) w w' := by
  unfold maxLen at hm
  have HC := Lib.hid hcell
  clear hcell
  go_enter Try.func4, Try.ntmps4
  go_wp2_with (go_at_call 10; refine (new_any 500 500 (by decide) (by decide) (by decide) (by decide) _).mono ?_; rintro e w1 ⟨b, rfl, ha, hk⟩; have G1 := Lib.hid ha; have K1 := Lib.hid hk; clear ha hk)
  go_loopw [5] (fun v wr => CleanAt w b len v wr) (fun v _ => len - (intOf v).toNat)
  case atStart => exact ⟨0, _, rfl, Nat.zero_le _, AM.one_new, G1.out, K1.out⟩
  case round =>
    obtain ⟨i, A, rfl, hi, hA, hr, hk⟩ := hrel
    have HA := Lib.hid hA
    have HR := Lib.hid hr
    have HK := Lib.hid hk
    clear hA hr hk
    by_cases hil : i < len
    · obtain ⟨ad, rfl, hb, hc, hz1, hz2⟩ := HC.out i hil
      have hcr := HK.out.cell hc (fun h => h)
      obtain ⟨n, hn, hn99⟩ : ∃ n : Nat, zs i % 100 = n ∧ n ≤ 99 := ⟨(zs i % 100).toNat, by omega, by omega⟩
      have HN := Lib.hid hn
      clear hn
      obtain ⟨q, B, c, hal, hB⟩ := HA.out.alloc hn99
      have HAL := Lib.hid hal
      have HB := Lib.hid hB
      clear hal hB
      go_wp2_with (first | (go_at_call 9; refine (place_any _ 100 (by decide) (by decide) hz1 hz2 _).mono ?_; rintro e w2 ⟨he, rfl⟩; rw [HN.out] at he; subst he) | (go_at_call 11; refine Stop.out ?_))
      refine ⟨(alloc_any HR.out HA.out.ok n (by omega)).mono ?_⟩
      intro e w2 hp
      obtain ⟨rfl, ha, hk⟩ := allocPost_get hp HAL.out
      obtain ⟨ha, hk⟩ := fresh_ext HK.out ha hk
      have G2 := Lib.hid ha
      have K2 := Lib.hid hk
      clear hp ha hk
      go_wp2_with fail
      go_loopw [9] (fun v wr => CleanIn w b q c n v wr) (fun v _ => n - (intOf v).toNat)
      case atStart => exact ⟨0, B, rfl, Nat.zero_le _, HB.out, G2.out, K2.out⟩
      case round =>
        obtain ⟨k, B2, rfl, hkn, hB2, hr2, hk2⟩ := hrel
        have HB2 := Lib.hid hB2
        have HR2 := Lib.hid hr2
        have HK2 := Lib.hid hk2
        clear hB2 hr2 hk2
        by_cases hkl : k < n
        · go_wp2_with (first | (go_at_call 17; refine Stop.out ?_))
          refine ⟨(get_some HR2.out HB2.out.ok _ _ c n HB2.out.look (by omega) (by omega)).mono ?_⟩
          rintro e w3 ⟨he, ha, hk⟩
          rw [show ((q : Int) + (k : Int)).toNat = q + k from by omega, HB2.out.zero k (Nat.le_refl _) hkl] at he
          subst he
          have G3 := Lib.hid ha
          have K3 := Lib.hid hk
          clear ha hk
          go_wp2_with (first | (go_at_call 18; refine Stop.out ?_))
          refine ⟨(set_some G3.out HB2.out.ok _ _ 18446744073709551615 c n HB2.out.look (by omega) (by omega)).mono ?_⟩
          rintro e w4 ⟨rfl, ha, hk⟩
          rw [show ((q : Int) + (k : Int)).toNat = q + k from by omega] at ha
          obtain ⟨ha, hk⟩ := fresh_same HK2.out ha ((K3.out.mono fun _ _ h => h.elim).trans hk fun _ _ h => h)
          have G4 := Lib.hid ha
          have K4 := Lib.hid hk
          clear ha hk
          go_wp2
          go_roundw
          case rel => exact ⟨k + 1, _, by go_num, by omega, HB2.out.set _, G4.out, K4.out⟩
          case measure => simp [intOf]; omega
        · go_wp2_with (first | (go_at_call 12; refine Stop.out ?_))
          refine ⟨(free_some HR2.out HB2.out.ok q c n (by rw [HB2.out.taken]; simp)).mono ?_⟩
          rintro e w3 ⟨rfl, ha, hk⟩
          obtain ⟨ha, hk⟩ := fresh_ext HK2.out ha hk
          have G3 := Lib.hid ha
          have K3 := Lib.hid hk
          clear ha hk
          go_wp2
          go_roundw
          case rel => exact ⟨i + 1, _, by go_num, by omega, HB2.out.give, G3.out, K3.out⟩
          case measure => simp [intOf]; omega
    · go_wp2_with (go_at_call 16; refine (awake_any _).mono ?_; rintro e w2 ⟨rfl, hk2⟩; have K2 := Lib.hid hk2; clear hk2)
      go_ret
      exact ⟨rfl, HK.out.trans K2.out fun _ _ h => h⟩
end Go.Proofs.Ytacedeaopgbdhaa

/-
  The law ArenaHalves: what the Go code does.
-/
import Derived.Test.YtacedeaopgbdhaaArL
import Derived.Test.YtacedeaopgbdhaaLe
import Derived.Test.YtacedeaopgbdhaaHlvP
namespace Go.Tx
open Go Go.RowKit
theorem allocPost_none {A : AM} {n b : Nat} {S : Nat → Prop} {w w' : World} {e : Ending} (h : AllocPost A n b S w e w') (ha : A.alloc n = none) :
    ∃ g, e = .returned (.tuple #[.int .i64 0, .iface 33 (.pointer (some ⟨g, 0, none⟩))]) ∧ IsErrO w' (Fresh w w') (.iface 33 (.pointer (some ⟨g, 0, none⟩))) (some ([(txtAlloc, (n : Int))], 2)) ∧ IsArena w' b A S ∧ Keeps (fun _ => False) w w' := by
  unfold AllocPost at h
  rw [ha] at h
  obtain ⟨E, rfl, he, ha, hk⟩ := h
  have he2 := he
  obtain ⟨g, u, rfl, _⟩ := he2
  exact ⟨g, rfl, ⟨he, show (1 : Nat) ≤ 9000 by decide⟩, ha, hk⟩
/-- what holds before each round -/
def HalfAt (w : World) (b s c m : Nat) (lv iv : Value) (wr : World) : Prop :=
  ∃ (i p : Nat) (A : AM) (l : Int), iv = .int .i64 i ∧ i ≤ m ∧ p = i * pw s ∧ lv = .int .i64 l ∧ -1 ≤ l ∧ l ≤ p ∧ A.Half s c p (pw c) ∧ IsArena wr b A (Fresh w wr) ∧ Keeps (fun _ => False) w wr
theorem half_next {i m p t : Nat} {q : Nat} (hp : p = i * q) (ht : t = m * q) (h : i < m) : p + q ≤ t ∧ p + q = (i + 1) * q := by
  subst hp ht
  have := Nat.mul_le_mul_right q (show i + 1 ≤ m from h)
  rw [Nat.succ_mul] at this
  exact ⟨this, (Nat.succ_mul i q).symm⟩
theorem pw_sub {s c : Nat} (h : s ≤ c) : pw c = pw (c - s) * pw s := by
  unfold pw
  rw [← Nat.pow_add]
  congr 1; omega
theorem cls_pw {s : Nat} (h1 : 1 ≤ s) (h2 : s ≤ 9) : cls (pw s - 1) = s := by
  have h3 : pw s ≤ 512 := Nat.le_trans (pw_mono h2) (by unfold pw; decide)
  have h4 := pw_pos s
  exact cls_unique _ _ (by omega) h1 (by omega) (fun h => by have := pw_lt (show s - 1 < s by omega); omega)
end Go.Tx
namespace Go.Proofs.Ytacedeaopgbdhaa
open Go.RowKit Go.Tx

set_option maxRecDepth 100000 in
set_option maxHeartbeats 400000 in
theorem halves_any (w : World) (x y : Int) (hx1 : -9223372036854775808 ≤ x) (hx2 : x ≤ 9223372036854775807) (hy1 : -9223372036854775808 ≤ y) (hy2 : y ≤ 9223372036854775807) :
    Calls Try.prog 3 #[.int .i64 x, .int .i64 y] w fun e w' => e = .returned (.bool true) ∧ Keeps (fun _ => False) w w' := by
  obtain ⟨c, hc, hc2, hc9⟩ : ∃ c : Nat, 2 + x % 8 = c ∧ 2 ≤ c ∧ c ≤ 9 := ⟨(2 + x % 8).toNat, by omega, by omega, by omega⟩
  obtain ⟨s, hs, hs1, hsc⟩ : ∃ s : Nat, 1 + y % c = s ∧ 1 ≤ s ∧ s ≤ c := by
    have h1 := Int.emod_nonneg y (show (c : Int) ≠ 0 by omega)
    have h2 := Int.emod_lt_of_pos y (show (0 : Int) < c by omega)
    exact ⟨(1 + y % c).toNat, by omega, by omega, by omega⟩
  have HC := Lib.hid hc
  have HS := Lib.hid hs
  obtain ⟨A1, ha1, hok1, hmem1, hh1⟩ := AM.half_new (s := s) (c := c) (by omega) hs1 hsc
  have HA1 : Hid ((AM.new (pw c) (pw c)).alloc (pw c - 1) = some (1, A1) ∧ A1.Ok ∧ (1, c, pw c - 1) ∈ A1.taken ∧ (A1.give 1 c).Half s c 0 (pw c)) := Lib.hid ⟨ha1, hok1, hmem1, hh1⟩
  have HN := Lib.hid (AM.new_ok (size := pw c) (quota := pw c) (Nat.le_trans (pw_mono (show c ≤ 9 by omega)) (by unfold pw; decide)) (Nat.le_refl _))
  have hp4 : 4 ≤ pw c := Nat.le_trans (show 4 ≤ pw 2 by unfold pw; decide) (pw_mono hc2)
  have hp512 : pw c ≤ 512 := Nat.le_trans (pw_mono hc9) (by unfold pw; decide)
  have hwc : wrap64 ((2 : Int) ^ c) = (pw c : Nat) := by rw [pw_int]; unfold wrap64; omega
  have hws : wrap64 ((2 : Int) ^ s) = (pw s : Nat) := by rw [pw_int]; have := pw_mono hsc; unfold wrap64; omega
  have hps0 := pw_pos s
  have hpsc := pw_mono hsc
  have hmul := pw_sub hsc
  have hm1 : pw (c - s) ≤ 512 := Nat.le_trans (pw_mono (show c - s ≤ 9 by omega)) (by unfold pw; decide)
  generalize pw (c - s) = m at hmul hm1
  have hdiv : ((pw c : Nat) : Int) / ((pw s : Nat) : Int) = (m : Nat) := by
    rw [hmul, Int.natCast_mul]
    exact Int.mul_ediv_cancel _ (by omega)
  have HM := Lib.hid hmul
  have HCL := Lib.hid (cls_pw hs1 (show s ≤ 9 by omega))
  have HP2 : Hid (((pw s - 1 : Nat) : Int) = (pw s : Int) - 1) := Lib.hid (by omega)
  clear hmul
  have HWS : Hid (wrap64 (s : Int) = s) := Lib.hid (by unfold wrap64; omega)
  have HP1 : Hid (((pw c - 1 : Nat) : Int) = (pw c : Int) - 1) := Lib.hid (by omega)
  clear hc hs ha1 hok1 hmem1 hh1
  go_enter Try.func3, Try.ntmps3
  go_wp2_with (first | (go_at_call 9; refine Stop.out ?_))
  refine ⟨(place_any x 8 (by decide) (by decide) hx1 hx2 _).mono ?_⟩
  rintro e w2 ⟨rfl, rfl⟩
  go_wp2_with (first | (go_at_call 9; refine Stop.out ?_))
  refine ⟨?_⟩
  rw [HC.out]
  refine (place_any y c (by omega) (by omega) hy1 hy2 _).mono ?_
  rintro e w2 ⟨rfl, rfl⟩
  go_wp2_with (first | (go_at_call 10; refine Stop.out ?_))
  refine ⟨?_⟩
  rw [HS.out, HWS.out]
  refine (new_any (pw c) (pw c) (by omega) (by omega) (by omega) (Nat.le_refl _) _).mono ?_
  rintro e w1 ⟨b, rfl, ha, hk⟩
  have G1 := Lib.hid ha
  have K1 := Lib.hid hk
  clear ha hk
  go_wp2_with (first | (go_at_call 11; refine Stop.out ?_))
  refine ⟨?_⟩
  rw [← HP1.out]
  refine (alloc_any G1.out HN.out (pw c - 1) (by omega)).mono ?_
  intro e w2 hp
  obtain ⟨rfl, ha, hk⟩ := allocPost_get hp HA1.out.1
  obtain ⟨ha, hk⟩ := fresh_ext K1.out ha hk
  have G2 := Lib.hid ha
  have K2 := Lib.hid hk
  clear hp ha hk
  go_wp2_with (first | (go_at_call 12; refine Stop.out ?_))
  refine ⟨(free_some G2.out HA1.out.2.1 1 c (pw c - 1) HA1.out.2.2.1).mono ?_⟩
  rintro e w3 ⟨rfl, ha, hk⟩
  obtain ⟨ha, hk⟩ := fresh_ext K2.out ha hk
  have G3 := Lib.hid ha
  have K3 := Lib.hid hk
  clear ha hk
  go_wp2
  have hwm : wrap64 (m : Int) = m := by unfold wrap64; omega
  simp only [hws, hdiv, hwm]
  clear hwm
  go_loopw [13, 14] (fun lv iv wr => HalfAt w b s c m lv iv wr) (fun _ iv _ => m - (intOf iv).toNat)
  case atStart => exact ⟨0, 0, _, -1, rfl, Nat.zero_le _, by simp, rfl, by omega, by omega, HA1.out.2.2.2, G3.out, K3.out⟩
  case round =>
    obtain ⟨i, p, A, l, rfl, him, hpi, rfl, hl1, hl2, hA, hr, hk⟩ := hrel
    have HA := Lib.hid hA
    have HR := Lib.hid hr
    have HK := Lib.hid hk
    have HPI := Lib.hid hpi
    clear hA hr hk hpi
    by_cases hil : i < m
    · obtain ⟨hpe, hpn⟩ := half_next HPI.out HM.out hil
      have HPN := Lib.hid hpn
      obtain ⟨B, hal, hB⟩ := HA.out.alloc (n := pw s - 1) (by omega) hs1 hsc (by omega) HCL.out hpe
      have HAL := Lib.hid hal
      have HB := Lib.hid hB
      clear hal hB hpn
      go_wp2_with (first | (go_at_call 11; refine Stop.out ?_))
      refine ⟨?_⟩
      rw [← HP2.out]
      refine (alloc_any HR.out HA.out.ok (pw s - 1) (by omega)).mono ?_
      intro e w4 hp
      obtain ⟨rfl, ha, hk⟩ := allocPost_get hp HAL.out
      obtain ⟨ha, hk⟩ := fresh_ext HK.out ha hk
      have G4 := Lib.hid ha
      have K4 := Lib.hid hk
      clear hp ha hk
      go_wp2
      go_roundw
      case rel =>
        exact ⟨i + 1, p + pw s, B, _, by go_num, by omega, HPN.out, rfl, by omega, by omega, HB.out, G4.out, K4.out⟩
      case measure => simp [intOf]; omega
    · obtain rfl : i = m := by omega
      obtain rfl : p = pw c := by rw [HPI.out, HM.out]
      go_wp2_with (first | (go_at_call 11; refine Stop.out ?_))
      refine ⟨(alloc_any HR.out HA.out.ok 0 (by decide)).mono ?_⟩
      intro e w4 hp
      obtain ⟨g, rfl, he, ha, hk⟩ := allocPost_none hp HA.out.full
      obtain ⟨ha, hk⟩ := fresh_same HK.out ha (hk.mono fun _ _ h => h.elim)
      have G4 := Lib.hid ha
      have K4 := Lib.hid hk
      have E4 := Lib.hid he
      clear hp ha hk he
      go_wp2_with (first | (refine wp_region_text (by kernel_rfl) (by kernel_rfl) ?_) | (refine text_fin (by kernel_rfl) ?_) | (go_at_call 13; refine Stop.out ?_))
      refine ⟨(err_any (o := some ([(txtAlloc, 0)], 2)) (o' := some ([(txtAlloc, 0)], 2)) (E4.out.keeps ((Keeps.refl (fun _ => False) w4).alloc _) (fun _ _ h => h)) ⟨isErr_new w4 txtAlloc 0 (.iface 34 (.int .i64 2)) [] 2 (fun _ => False) rfl, show (1 : Nat) ≤ 9000 by decide⟩).mono ?_⟩
      rintro e w5 ⟨rfl, hk5⟩
      rw [show (fineO (some ([(txtAlloc, 0)], 2)) && fineO (some ([(txtAlloc, 0)], 2)) && decide ((some ([(txtAlloc, 0)], 2) : ErrO) = some ([(txtAlloc, 0)], 2))) = true from by simp [fineO]]
      have hk45 : Keeps (fun _ => False) w4 w5 := ((Keeps.refl (fun _ => False) w4).alloc _).trans hk5 fun _ _ h => h
      have G5 := Lib.hid (IsArena.keeps G4.out hk45 (fun _ _ h => h))
      have K5 := Lib.hid (K4.out.trans hk45 fun _ _ h => h)
      clear hk5 hk45
      go_wp2_with (first | (go_at_call 14; refine (used_any G5.out).mono ?_; rintro e w6 ⟨rfl, rfl⟩; rw [HA.out.used]) | (go_at_call 15; refine (top_any G5.out).mono ?_; rintro e w6 ⟨rfl, rfl⟩; rw [HA.out.top]) | (go_at_call 16; refine (awake_any _).mono ?_; rintro e w7 ⟨rfl, hk7⟩; have K7 := Lib.hid hk7; clear hk7))
      go_ret
      exact ⟨rfl, K5.out.trans K7.out fun _ _ h => h⟩
end Go.Proofs.Ytacedeaopgbdhaa

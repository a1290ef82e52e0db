/-
  Faults: the document's examples; the law FaultClasses: what the Go code does.
-/
import Derived.Test.YtnmhodejffpblaaDoorFc
import Derived.Test.YtnmhodejffpblaaDoorPl
import Derived.Test.YtnmhodejffpblaaDoorHeld
import Derived.Test.YtnmhodejffpblaaDoorHg
namespace Go.Proofs.YtnmhodejffpblaaDoor
open Go.RowKit Go.Tx
set_option maxHeartbeats 400000 in
theorem text_full {w : World} {b : Nat} {n : Int} (hb : Blk w b 46 [.string ⟨#[97, 108, 108, 111, 99]⟩, .int .i64 n, .iface 23 (.int .i64 2)]) :
    Calls Tryd.prog 46 #[.pointer (some ⟨b, 0, none⟩)] w fun r w' => r = .returned (.string ⟨#[97, 108, 108, 111, 99, 58, 32, 102, 117, 108, 108]⟩) ∧ Keeps (fun _ => False) w w' := by
  have m1 := rl_methodErrorK
  have d0 : w.cell? ⟨b, 0, none⟩ = some (.string ⟨#[97, 108, 108, 111, 99]⟩) := hb.cell (i := 0) rfl
  have d2 : w.cell? ⟨b, 2, none⟩ = some (.iface 23 (.int .i64 2)) := hb.cell (i := 2) rfl
  have s1 : (⟨#[97, 108, 108, 111, 99]⟩ : ByteArray).size = 5 := rfl
  have HC : Hid (∀ W, Keeps (fun _ => False) w W → W.cell? ⟨b, 0, none⟩ = some (.string ⟨#[97, 108, 108, 111, 99]⟩)) := Lib.hid fun W hW => hW.cell d0 fun h => h
  go_enter Tryd.func46, Tryd.ntmps46
  go_wp2_with (first | (show Code.wp _ (Code.region 3 _ _) _ _ _; refine Stop.out ?_))
  refine ⟨?_⟩
  refine wp_region_held_text (fun W => W.cell? ⟨b, 0, none⟩ = some (.string ⟨#[97, 108, 108, 111, 99]⟩)) [3] (by kernel_rfl) (by kernel_rfl) (HC.out _ (Keeps.refl _ _).drew) ?_
  go_wp2_with (first | (refine wpH_load rfl _ _ rfl _ rfl rfl _ _ rfl (fun _ h => h) (HC.out _ (by repeat (first | with_reducible exact Keeps.refl _ _ | with_reducible exact K1.out | with_reducible apply Keeps.drew | with_reducible apply Keeps.alloc))) ?_) | (refine wpH_walk rfl rfl ?_) | (refine held_fin (HC.out _ (by repeat (first | with_reducible exact Keeps.refl _ _ | with_reducible exact K1.out | with_reducible apply Keeps.drew | with_reducible apply Keeps.alloc))) ?_) | (refine wpH_nil ?_) | (with_reducible refine text_fin (by kernel_rfl) ?_) | (go_at_call 45; refine (errno_full _).mono ?_; rintro e w1 ⟨rfl, hk1⟩; have K1 := Lib.hid hk1.of_drew; clear hk1))
  have tf : ((⟨#[97, 108, 108, 111, 99]⟩ : ByteArray) ++ ⟨#[58, 32]⟩ ++ ⟨#[102, 117, 108, 108]⟩) = ⟨#[97, 108, 108, 111, 99, 58, 32, 102, 117, 108, 108]⟩ := by decide
  rw [tf]
  go_ret
  exact ⟨rfl, K1.out⟩
set_option maxRecDepth 100000 in
set_option maxHeartbeats 800000 in
theorem awake_any (w : World) (hg : ErrorType w) : Calls Tryd.prog 9 #[] w fun e w' => e = .returned (.bool true) ∧ Keeps (fun _ => False) w w' := by
  have HG := Lib.hid hg
  clear hg
  have m1 := rl_methodErrorF
  have hn : numOf [((⟨#[97, 108, 108, 111, 99]⟩ : ByteArray), 5)] ⟨#[97, 108, 108, 111, 99]⟩ = (5, true) := by
    unfold numOf
    rw [List.find?_cons_of_pos (by rw [ba_beq]; exact decide_eq_true rfl)]
  have HN := Lib.hid hn
  clear hn
  go_enter Tryd.func9, Tryd.ntmps9
  go_wp2_with (first | (go_at_call 10; refine Stop.out ?_))
  refine ⟨(at_any _ _ _ _ _).mono ?_⟩
  rintro e w1 ⟨rfl, hw1⟩
  have hb1 : Blk w1 w.heap.size 46 [.string ⟨#[97, 108, 108, 111, 99]⟩, .int .i64 5, .iface 23 (.int .i64 2)] := by rw [hw1]; exact Blk.new w _ _
  have hkw : Keeps (fun _ => False) w w1 := by rw [hw1]; exact (Keeps.refl _ w).alloc _
  have HG1 : Hid (∀ W, Keeps (fun _ => False) w1 W → ErrorType W) := Lib.hid fun W hW => (HG.out.keeps hkw fun h => h).keeps hW fun h => h
  have HB1 : Hid (∀ W, Keeps (fun _ => False) w1 W → Blk W w.heap.size 46 [.string ⟨#[97, 108, 108, 111, 99]⟩, .int .i64 5, .iface 23 (.int .i64 2)]) := Lib.hid fun W hW => hb1.keeps hW fun h => h
  have HE1 : Hid (∀ W, Keeps (fun _ => False) w1 W → IsErr W (fun _ => True) (.iface 44 (.pointer (some ⟨w.heap.size, 0, none⟩))) [((⟨#[97, 108, 108, 111, 99]⟩ : ByteArray), 5)] 2) := Lib.hid fun W hW => ⟨_, _, rfl, HB1.out W hW, trivial, rfl⟩
  have HKW := Lib.hid hkw
  clear hb1 hkw hw1
  go_wp2_with (first | (go_at_call 13; refine Stop.out ?_))
  refine ⟨(number_any (HE1.out _ (Keeps.refl _ _)) (by simp) (HG1.out _ (Keeps.refl _ _)) _).mono ?_⟩
  rw [HN.out]
  rintro e w2 ⟨rfl, hk2⟩
  have K2 := Lib.hid hk2
  clear hk2
  go_wp2_with (first | (with_reducible refine wp_region_text (by kernel_rfl) (by kernel_rfl) ?_) | (with_reducible refine text_fin (by kernel_rfl) ?_) | (go_at_call 46; refine (text_full (HB1.out _ K2.out)).mono ?_; rintro e w3 ⟨rfl, hk3⟩; have K3 := Lib.hid (K2.out.trans hk3 fun _ _ h => h); clear hk3) | (go_at_call 12; refine (kind_any (HE1.out _ K3.out) (HG1.out _ K3.out)).mono ?_; rintro e w4 ⟨rfl, hk4⟩; have K4 := Lib.hid (K3.out.trans hk4 fun _ _ h => h); clear hk4) | (go_at_call 10; refine (at_nil _ _ _).mono ?_; rintro e w5 ⟨rfl, rfl⟩) | (go_at_call 6; refine (class_any _ _).mono ?_; rintro e w6 ⟨rfl, rfl⟩))
  go_ret
  exact ⟨rfl, HKW.out.trans K4.out fun _ _ h => h⟩
set_option maxRecDepth 100000 in
set_option maxHeartbeats 800000 in
theorem classes_any (w : World) (n : Int) (h1 : -9223372036854775808 ≤ n) (h2 : n ≤ 9223372036854775807) (hg : ErrorType w) :
    Calls Tryd.prog 3 #[.int .i64 n] w fun e w' => e = .returned (.bool true) ∧ Keeps (fun _ => False) w w' := by
  have HG := Lib.hid hg
  clear hg
  go_enter Tryd.func3, Tryd.ntmps3
  go_wp2_with (first | (go_at_call 6; refine (class_any _ _).mono ?_; rintro e w1 ⟨rfl, rfl⟩) | (go_at_call 7; refine (rclass_any _ _).mono ?_; rintro e w1 ⟨rfl, rfl⟩) | (go_at_call 8; refine (place_any _ _ (by decide) (by decide) h1 h2 _).mono ?_; rintro e w1 ⟨rfl, rfl⟩) | (go_at_call 9; refine (awake_any _ HG.out).mono ?_; rintro e w2 ⟨rfl, hk2⟩; have K2 := Lib.hid hk2; clear hk2))
  trace_state
  go_ret
  exact ⟨rfl, K2.out⟩
end Go.Proofs.YtnmhodejffpblaaDoor

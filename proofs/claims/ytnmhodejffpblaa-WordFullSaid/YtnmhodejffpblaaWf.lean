/-
  The law WordFull: what the Go code does.
-/
import Derived.Test.YtnmhodejffpblaaAf
import Derived.Test.YtnmhodejffpblaaDw
import Derived.Test.YtnmhodejffpblaaLee
import Derived.Test.YtnmhodejffpblaaPl
import Derived.Test.YtnmhodejffpblaaWdL
namespace Go.Tx
open Go Go.RowKit
def FullAt (w : World) (a : Nat) (v : Value) (wr : World) : Prop := ∃ (i : Nat) (E : Nat → Prop), v = .int .i64 i ∧ i ≤ 1024 ∧ IsAtoms wr a E (numTab i) ∧ (∀ x, E x → w.heap.size ≤ x) ∧ Keeps (fun _ => False) w wr
theorem numName_cat (i : Nat) : (⟨#[97]⟩ : ByteArray) ++ ⟨(decL i).toArray⟩ = numName i := dig_cat 97 (decL i)
end Go.Tx
namespace Go.Proofs.Ytnmhodejffpblaa
open Go.RowKit Go.Tx
theorem err_same {w : World} {E E' : Nat → Prop} {v u : Value} {o : ErrO} (h : IsErrO w E v o) (h' : IsErrO w E' u o) (hf : fineO o = true) :
    Calls Try.prog 22 #[v, u] w fun e w' => e = .returned (.bool true) ∧ Keeps (fun _ => False) w w' := by
  refine (err_any h h').mono fun e w' ⟨he, hk⟩ => ⟨?_, hk⟩
  rw [he, hf]
  simp
set_option maxRecDepth 100000 in
set_option maxHeartbeats 3200000 in
theorem full_any (w : World) (more : Int) (h1 : -9223372036854775808 ≤ more) (h2 : more ≤ 9223372036854775807) :
    Calls Try.prog 4 #[.int .i64 more] w fun e w' => e = .returned (.bool true) ∧ Keeps (fun _ => False) w w' := by
  obtain ⟨k, hk, hk2⟩ : ∃ k : Nat, more % 1024 = k ∧ k < 1024 := ⟨(more % 1024).toNat, by omega, by omega⟩
  have HKM := Lib.hid hk
  clear hk
  go_enter Try.func4, Try.ntmps4
  go_wp2_with (first | (go_at_call 18; refine Stop.out ?_))
  refine ⟨(newAtoms_any _).mono ?_⟩
  rintro e w1 ⟨rfl, h3, h4, h5⟩
  have h0 : ∃ a E, a = w.heap.size ∧ IsAtoms w1 a E (numTab 0) ∧ ∀ x, E x → w.heap.size ≤ x := ⟨_, _, rfl, h3, fun x hx => by omega⟩
  obtain ⟨a, E0, ha, h6, h7⟩ := h0
  rw [← ha]
  have H6 := Lib.hid h6
  have H7 := Lib.hid h7
  have H4 := Lib.hid h4
  clear h3 h4 h5 h6 h7 ha
  go_wp2
  go_loopw [4] (fun v wr => FullAt w a v wr) (fun v _ => 1024 - (intOf v).toNat)
  case atStart => exact ⟨0, E0, rfl, Nat.zero_le _, H6.out, H7.out, H4.out⟩
  case round =>
    obtain ⟨i, E, rfl, hi, hat, hE, hkp⟩ := hrel
    have HAT := Lib.hid hat
    have HE := Lib.hid hE
    have HKP := Lib.hid hkp
    clear hat hE hkp
    by_cases hlt : i < 1024
    · have hdl := decL_len (n := i) (by omega)
      have HA : Hid (∀ W, IsAtoms W a E (numTab i) → Calls Try.prog 19 #[.pointer (some ⟨a, 0, none⟩), .string (⟨#[97]⟩ ++ ⟨(decL i).toArray⟩)] W (AskPost a E ((i : Int), none, numTab (i + 1)) W)) := Lib.hid fun W hW => by
        have := number_ask (numName i) hW
        rw [ask_next hlt] at this
        rw [numName_cat]
        exact this
      go_wp2_with (first | (go_at_call 20; refine (dec_any i (by omega) _).mono ?_; rintro e w2 ⟨rfl, rfl⟩) | (go_at_call 19; refine Stop.out ?_))
      refine ⟨(HA.out _ HAT.out).mono ?_⟩
      rintro e w3 ⟨v1, rfl, he1, ha3, hk3⟩
      obtain rfl : v1 = .nilIface := he1
      have HA3 := Lib.hid ha3
      have HK3 := Lib.hid hk3
      clear ha3 hk3
      go_wp2
      go_roundw
      case rel => exact ⟨i + 1, _, by go_num, by omega, HA3.out, fun x hx => hx.elim (HE.out x) fun h => Nat.le_trans HKP.out.size h.1, HKP.out.trans HK3.out fun x hb hx => by have := HE.out x hx; omega⟩
      case measure => simp [intOf]; omega
    · obtain rfl : i = 1024 := by omega
      have hb : Calls Try.prog 19 #[.pointer (some ⟨a, 0, none⟩), .string ⟨#[98]⟩] wr (AskFull a E (-1, some ([(⟨#[97, 116, 111, 109]⟩, 1)], 2), numTab 1024) wr) := by
        have hp : placeOf ⟨#[98]⟩ (numTab 1024) = none := by
          rw [placeOf_none]
          intro hm
          simp only [numTab, List.mem_map] at hm
          obtain ⟨k, _, he⟩ := hm
          have := congrArg (fun b => b.data.toList) he
          simp [numName] at this
        exact number_full2 ⟨#[98]⟩ HAT.out (by decide) (by decide) hp (by rw [numTab_length]; omega)
      have HB := Lib.hid hb
      clear hb
      have hdl := decL_len (n := k) (by omega)
      go_wp2_with (first | (go_at_call 21; refine (place_any _ 1024 (by decide) (by decide) h1 h2 _).mono ?_; rintro e w2 ⟨he, rfl⟩; rw [HKM.out] at he; subst he) | (go_at_call 19; refine Stop.out ?_))
      refine ⟨HB.out.mono ?_⟩
      rintro e w4 ⟨v1, E2, rfl, he1, ha4, hE2, hk4⟩
      have HE1 := Lib.hid he1
      have HA4 := Lib.hid ha4
      have HE2 := Lib.hid hE2
      have HK4 := Lib.hid hk4
      have HA : Hid (Calls Try.prog 19 #[.pointer (some ⟨a, 0, none⟩), .string (⟨#[97]⟩ ++ ⟨(decL k).toArray⟩)] w4 (AskPost a E2 ((k : Int), none, numTab 1024) w4)) := Lib.hid (by
        have := number_ask (numName k) ha4
        rw [ask_old hk2 (Nat.le_refl _)] at this
        rw [numName_cat]
        exact this)
      clear he1 ha4 hE2 hk4
      go_wp2_with (first | (go_at_call 20; refine (dec_any k (by omega) _).mono ?_; rintro e w2 ⟨rfl, hw⟩; replace hw := hw.symm; subst hw) | (go_at_call 19; refine Stop.out ?_))
      refine ⟨HA.out.mono ?_⟩
      rintro e w5 ⟨v2, rfl, he2, ha5, hk5⟩
      obtain rfl : v2 = .nilIface := he2
      have HA5 := Lib.hid ha5
      have HE5 := Lib.hid (HE1.out.keeps hk5 fun g hg => hg.2)
      have HK5 : Hid (Keeps (fun _ => False) w w5) := Lib.hid ((HKP.out.trans HK4.out fun x hb hx => by have := HE.out x hx; omega).trans hk5 fun x hb hx => by
        rcases HE2.out x hx with h | h
        · have := HE.out x h; omega
        · have := HKP.out.size; have := h.1; omega)
      clear ha5 hk5
      have HF : Hid (IsErrO (w5.alloc (.cells #[.string ⟨#[97, 116, 111, 109]⟩, .int .i64 1, .iface 53 (.int .i64 2)] 55)) (fun g => g = w5.heap.size ∨ False) (.iface 52 (.pointer (some ⟨w5.heap.size, 0, none⟩))) (some ([(⟨#[97, 116, 111, 109]⟩, 1)], 2))) := Lib.hid ⟨isErr_new w5 ⟨#[97, 116, 111, 109]⟩ 1 (.iface 53 (.int .i64 2)) [] 2 (fun _ => False) rfl, by simp⟩
      go_wp2_with (first | (go_at_call 22; refine Stop.out ?_))
      refine ⟨(err_same (HE5.out.keeps (T := fun _ => False) ((Keeps.refl _ _).alloc _) fun _ _ h => h) HF.out rfl).mono ?_⟩
      rintro e w6 ⟨rfl, hk6⟩
      have HK6 : Hid (Keeps (fun _ => False) w5 w6) := Lib.hid (((Keeps.refl _ w5).alloc _).trans hk6 fun _ _ h => h)
      have HA6 : Hid (IsAtoms w6 a (Wider E2 w4 w5) (numTab 1024)) := Lib.hid (HA5.out.keeps HK6.out fun _ _ h => h)
      have HL : Hid (∀ W, IsAtoms W a (Wider E2 w4 w5) (numTab 1024) → Calls Try.prog 16 #[.pointer (some ⟨a, 0, none⟩)] W fun e w' => e = .returned (.int .i64 1024) ∧ w' = W) := Lib.hid fun W hW => by
        have := len_any hW
        rw [numTab_length] at this
        exact this
      clear hk6
      go_wp2_with (first | (go_at_call 16; refine (HL.out _ HA6.out).mono ?_; rintro e w' ⟨rfl, rfl⟩) | (go_at_call 17; refine (awake_any _).mono ?_; rintro e w7 ⟨rfl, hk7⟩; have K7 := Lib.hid hk7; clear hk7))
      go_ret
      exact ⟨rfl, (HK5.out.trans HK6.out fun _ _ h => h).trans K7.out fun _ _ h => h⟩
end Go.Proofs.Ytnmhodejffpblaa

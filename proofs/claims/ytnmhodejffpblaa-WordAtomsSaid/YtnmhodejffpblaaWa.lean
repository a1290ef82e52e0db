/-
  The law WordAtoms: what the Go code does.
-/
import Derived.Test.YtnmhodejffpblaaBo
import Derived.Test.YtnmhodejffpblaaWdL
namespace Go.Tx
open Go Go.RowKit
theorem fine_name (l : List ByteArray) (n : Int) : fineO (nameAt l n).2 = true := by
  unfold nameAt
  split <;> rfl
def TwinsAt (w : World) (a b : Nat) (Ea Eb : Nat → Prop) (l : List ByteArray) (n : Nat) (v : Value) (wr : World) : Prop := ∃ i : Nat, v = .int .i64 i ∧ i ≤ n ∧ Twins w wr a b Ea Eb l
end Go.Tx
namespace Go.Proofs.Ytnmhodejffpblaa
open Go.RowKit Go.Tx
set_option maxRecDepth 100000 in
set_option maxHeartbeats 1600000 in
theorem lawAtoms_any {w : World} {v : Value} {names : List ByteArray} (h : StrsD w v names) (a0 : Option Addr) (len cap : Nat) (zs : Nat → Int) (hm : len ≤ maxLen)
    (hcell : ∀ i, i < len → ∃ ad, a0 = some ad ∧ ad.block < w.heap.size ∧ w.cell? (ad.add i) = some (.int .i64 (zs i)) ∧ -9223372036854775808 ≤ zs i ∧ zs i ≤ 9223372036854775807) :
    Calls Try.prog 6 #[v, .slice a0 len cap] w fun e w' => e = .returned (.bool true) ∧ Keeps (fun _ => False) w w' := by
  have HB := Lib.hid (both_any h)
  obtain ⟨hn, na, nc, rfl, _⟩ := h
  unfold maxLen at hm
  have HC := Lib.hid hcell
  clear hcell
  go_enter Try.func6, Try.ntmps6
  go_wp2_with (first | (go_at_call 11; refine HB.out.mono ?_; rintro e w1 ⟨a, b, Ea, Eb, l, rfl, ht⟩; have HT1 := Lib.hid ht; clear ht))
  go_loopw [8] (fun v wr => TwinsAt w a b Ea Eb l len v wr) (fun v _ => len - (intOf v).toNat)
  case atStart => exact ⟨0, rfl, Nat.zero_le _, HT1.out⟩
  case round =>
    obtain ⟨i, rfl, hil, ht⟩ := hrel
    have HT := Lib.hid ht
    by_cases hlt : i < len
    · obtain ⟨ad, rfl, hb, hc, hz1, hz2⟩ := HC.out i hlt
      have hcr := HT.out.keeps.cell hc (fun h => h)
      obtain ⟨s, er, hask⟩ : ∃ s er, nameAt l (zs i) = (s, er) := ⟨_, _, rfl⟩
      have hfine : fineO er = true := by have := fine_name l (zs i); rwa [hask] at this
      have HF := Lib.hid hfine
      have HA : Hid (∀ W, IsAtoms W a Ea l → Calls Try.prog 27 #[.pointer (some ⟨a, 0, none⟩), .int .i64 (zs i)] W (NamePost (s, er) W)) := Lib.hid fun W hW => hask ▸ name_ask (zs i) hW
      have HR : Hid (∀ W, IsNames W b Eb l → Calls Try.prog 28 #[.pointer (some ⟨b, 0, none⟩), .int .i64 (zs i)] W (NameXPost (s, er) W)) := Lib.hid fun W hW => hask ▸ rname_ask (zs i) hW
      clear ht hask hfine hc
      go_wp2_with (first | (go_at_call 27; refine Stop.out ?_))
      refine ⟨(HA.out _ HT.out.ha).mono ?_⟩
      rintro e w2 ⟨v1, rfl, he1, hk2⟩
      have hcr2 := hk2.cell hcr (fun h => h)
      have HE1 := Lib.hid he1
      have HT2 := Lib.hid (HT.out.still hk2)
      clear he1 hk2
      go_wp2_with (first | (go_at_call 28; refine Stop.out ?_))
      refine ⟨(HR.out _ HT2.out.hb).mono ?_⟩
      rintro e w3 ⟨v2, rfl, he2, hk3⟩
      have HE2 := Lib.hid he2
      have HE1' := Lib.hid (HE1.out.keeps hk3 fun _ _ h => h)
      have HT3 := Lib.hid (HT2.out.still hk3)
      clear he2 hk3
      go_wp2_with (first | (go_at_call 15; refine (ref_same HE1'.out HE2.out HF.out).mono ?_; rintro e w4 ⟨rfl, hk4⟩; have HK4 := Lib.hid hk4; clear hk4))
      exact ⟨⟨i + 1, by go_num, by omega, HT3.out.still HK4.out⟩, by simp [intOf]; omega⟩
    · go_wp2_with (go_at_call 17; refine (awake_any _).mono ?_; rintro e w2 ⟨rfl, hk2⟩; have K2 := Lib.hid hk2; clear hk2)
      go_ret
      exact ⟨rfl, HT.out.keeps.trans K2.out fun _ _ h => h⟩
end Go.Proofs.Ytnmhodejffpblaa

/-
  Two tables that were asked for the same names: what troupelaw04.both does.
-/
import Derived.Test.YtnmhodejffpblaaAq
import Derived.BigQuiet
import Derived.Deep.QuietTactic
namespace Go.Tx
open Go Go.RowKit
/-- a slice of names that came in -/
def StrsD (w : World) (v : Value) (l : List ByteArray) : Prop := l.length ≤ 9223372036854775807 ∧ ∃ a cap, v = .slice a l.length cap ∧ ∀ i s, l[i]? = some s → ∃ b o, a = some ⟨b, o, none⟩ ∧ b < w.heap.size ∧ w.cell? ⟨b, o + i, none⟩ = some (.string s)
/-- two tables that hold the same; apart from each other, and from what was there -/
structure Twins (w0 w : World) (a b : Nat) (Ea Eb : Nat → Prop) (l : List ByteArray) : Prop where
  ha : IsAtoms w a Ea l
  hb : IsNames w b Eb l
  apart : ∀ x, Ea x → ¬ Eb x
  fa : ∀ x, Ea x → w0.heap.size ≤ x
  fb : ∀ x, Eb x → w0.heap.size ≤ x
  keeps : Keeps (fun _ => False) w0 w
def BothAt (w : World) (a b : Nat) (n : Nat) (v : Value) (wr : World) : Prop := ∃ (i : Nat) (l : List ByteArray) (Ea Eb : Nat → Prop), v = .int .i64 i ∧ i ≤ n ∧ Twins w wr a b Ea Eb l
def BothPost (w : World) (e : Ending) (w' : World) : Prop := ∃ a b Ea Eb l, e = .returned (.tuple #[.pointer (some ⟨a, 0, none⟩), .pointer (some ⟨b, 0, none⟩), .bool true]) ∧ Twins w w' a b Ea Eb l
theorem Keeps.drewN {w : World} (n : Nat) : Keeps (fun _ => False) w (w.drewN n) := by
  induction n with
  | zero => exact Keeps.refl _ _
  | succ n ih => exact ⟨ih.os, ih.tape, ih.output, ih.size, ih.block⟩
theorem fine_ask (l : List ByteArray) (s : ByteArray) : fineO (askName l s).2.1 = true := by
  unfold askName
  split
  · rfl
  · split
    · rfl
    · split <;> rfl
theorem Twins.ask {w0 w w2 w3 : World} {a b : Nat} {Ea Eb : Nat → Prop} {l l' : List ByteArray} (h : Twins w0 w a b Ea Eb l) (h2 : IsAtoms w2 a (Wider Ea w w2) l') (k2 : Keeps Ea w w2) (h3 : IsNames w3 b (Wider Eb w2 w3) l') (k3 : Keeps Eb w2 w3) :
    Twins w0 w3 a b (Wider Ea w w2) (Wider Eb w2 w3) l' := by
  have s0 := h.keeps.size
  have s2 := k2.size
  refine ⟨h2.keeps k3 fun x hx he => ?_, h3, fun x hx he => ?_, fun x hx => hx.elim (h.fa x) fun hx => Nat.le_trans s0 hx.1, fun x hx => hx.elim (h.fb x) fun hx => Nat.le_trans s0 (Nat.le_trans s2 hx.1), (h.keeps.trans k2 fun x hb hx => by have := h.fa x hx; omega).trans k3 fun x hb hx => by have := h.fb x hx; omega⟩
  · rcases hx with hx | hx
    · exact h.apart x hx he
    · have := h.hb.lt x he; have := hx.1; omega
  · rcases hx with hx | hx
    · rcases he with he | he
      · exact h.apart x hx he
      · have := h.ha.lt x hx; have := he.1; omega
    · rcases he with he | he
      · have := h.hb.lt x he; have := hx.1; omega
      · have := hx.2; have := he.1; omega
theorem Twins.still {w0 w w' : World} {a b : Nat} {Ea Eb : Nat → Prop} {l : List ByteArray} (h : Twins w0 w a b Ea Eb l) (k : Keeps (fun _ => False) w w') : Twins w0 w' a b Ea Eb l :=
  ⟨h.ha.keeps k fun _ _ h => h, h.hb.keeps k fun _ _ h => h, h.apart, h.fa, h.fb, h.keeps.trans k fun _ _ h => h⟩
end Go.Tx
namespace Go.Proofs.Ytnmhodejffpblaa
open Go.RowKit Go.Tx
theorem ref_same {w : World} {E E' : Nat → Prop} {v u : Value} {o : ErrO} (h : IsErrO w E v o) (h' : IsXO w E' u o) (hf : fineO o = true) :
    Calls Try.prog 15 #[v, u] w fun e w' => e = .returned (.bool true) ∧ Keeps (fun _ => False) w w' := by
  refine (ref_any h h').mono fun e w' ⟨he, hk⟩ => ⟨?_, hk⟩
  rw [he, hf]
  simp
set_option maxRecDepth 100000 in
set_option maxHeartbeats 3200000 in
theorem both_any {w : World} {v : Value} {names : List ByteArray} (h : StrsD w v names) : Calls Try.prog 11 #[v] w (BothPost w) := by
  obtain ⟨hn, na, nc, rfl, hcell⟩ := h
  have HC := Lib.hid hcell
  clear hcell
  go_enter Try.func11, Try.ntmps11
  go_wp2_with (first | (go_at_call 18; refine (newAtoms_any _).mono ?_; rintro e w1 ⟨rfl, h1, h2, h3⟩; have H1 := Lib.hid h1; have H2 := Lib.hid h2; have H3 := Lib.hid h3; clear h1 h2 h3))
  have htw : Twins w (w1.alloc (.cells #[.slice none 0 0] 43)) w.heap.size w1.heap.size (fun x => x = w.heap.size) (fun x => x = w1.heap.size) [] :=
    ⟨(H1.out.keeps ((Keeps.refl (fun _ => False) w1).alloc _) fun _ _ h => h), ⟨by simp, rfl, fun x hx => by rw [World.size_alloc]; omega, _, Blk.new w1 _ _, World.ownsRow_nil _ _ _ _, fun g hg => by simp [Value.ownBlock] at hg⟩,
      fun x hx he => by have := H3.out; omega, fun x hx => by omega, fun x hx => by have := H3.out; omega, H2.out.alloc _⟩
  have HTW := Lib.hid htw
  clear htw
  go_loopw [7] (fun v wr => BothAt w w.heap.size w1.heap.size names.length v wr) (fun v _ => names.length - (intOf v).toNat)
  case atStart => exact ⟨0, [], _, _, rfl, Nat.zero_le _, HTW.out⟩
  case round =>
    obtain ⟨i, l, Ea, Eb, rfl, hil, ht⟩ := hrel
    have HT := Lib.hid ht
    by_cases hlt : i < names.length
    · obtain ⟨s, hs⟩ : ∃ s, names[i]? = some s := ⟨names[i], by simp⟩
      obtain ⟨bb, o, rfl, hbb, hcs⟩ := HC.out i s hs
      have d0 := ht.keeps.cell hcs (fun h => h)
      obtain ⟨x, er, l', hask⟩ : ∃ x er l', askName l s = (x, er, l') := ⟨_, _, _, rfl⟩
      have hfine : fineO er = true := by have := fine_ask l s; rwa [hask] at this
      have HF := Lib.hid hfine
      have HA : Hid (∀ W, IsAtoms W w.heap.size Ea l → Calls Try.prog 19 #[.pointer (some ⟨w.heap.size, 0, none⟩), .string s] W (AskPost w.heap.size Ea (x, er, l') W)) := Lib.hid fun W hW => hask ▸ number_ask s hW
      have HR : Hid (∀ W, IsNames W w1.heap.size Eb l → Calls Try.prog 33 #[.pointer (some ⟨w1.heap.size, 0, none⟩), .string s] W (AskXPost w1.heap.size Eb (x, er, l') W)) := Lib.hid fun W hW => hask ▸ rnumber_ask s hW
      have HCS := Lib.hid hcs
      clear ht hask hfine hs hcs
      go_wp2_with (first | (go_at_call 19; refine Stop.out ?_))
      refine ⟨(HA.out _ HT.out.ha).mono ?_⟩
      rintro e w2 ⟨v1, rfl, he1, ha2, hk2⟩
      have d2 := hk2.cell d0 (fun h => by have := HT.out.fa _ h; simp at this; omega)
      have HE1 := Lib.hid he1
      have HA2 := Lib.hid ha2
      have HK2 := Lib.hid hk2
      have hb2 := Lib.hid (HT.out.hb.keeps hk2 fun x hx he => HT.out.apart x he hx)
      clear he1 ha2 hk2
      go_wp2_with (first | (go_at_call 33; refine Stop.out ?_))
      refine ⟨(HR.out _ hb2.out).mono ?_⟩
      rintro e w3 ⟨v2, rfl, he2, hb3, hk3⟩
      have HTW3 := Lib.hid (HT.out.ask HA2.out HK2.out hb3 hk3)
      have HE2 := Lib.hid he2
      have HE1' := Lib.hid (HE1.out.keeps hk3 fun g hg he => by have := HT.out.hb.lt g he; have := hg.1; omega)
      clear he2 hb3 hk3
      go_wp2_with (first | (go_at_call 15; refine (ref_same HE1'.out HE2.out HF.out).mono ?_; rintro e w4 ⟨rfl, hk4⟩; have HK4 := Lib.hid hk4; clear hk4))
      exact ⟨⟨i + 1, l', _, _, by go_num, by omega, HTW3.out.still HK4.out⟩, by simp [intOf]; omega⟩
    · obtain ⟨la, lc, c0, _⟩ := ht.hb.list
      clear ht
      go_wp2_with (first | (show Code.wp _ (Code.region 12 _ _) _ _ _; refine Stop.out ?_))
      refine ⟨?_⟩
      go_quiet (first | (go_at_call 16; refine Calls.quiet_of_same (len_any (HT.out.ha.keeps (Keeps.drewN _) fun _ _ h => h))))
      go_wp2
      go_ret3
      exact ⟨_, _, _, _, l, rfl, HT.out.still (Keeps.drewN nq)⟩
end Go.Proofs.Ytnmhodejffpblaa

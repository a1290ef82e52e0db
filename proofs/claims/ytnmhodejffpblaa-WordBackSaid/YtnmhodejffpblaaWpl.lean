/-
  The law WordPlains: what the Go code does.
-/
import Derived.Test.YtnmhodejffpblaaPr
import Derived.Test.YtnmhodejffpblaaWdL
namespace Go.Tx
open Go Go.RowKit
/-- which term a word is -/
def plainOf (l : List ByteArray) (x : Int) : LeafO :=
  if x % 8 = 0 then ((1, wrap64 x / 8, ⟨#[]⟩), true, none)
  else if x % 8 = 1 then (match l[(x / 8).toNat]? with | some t => ((2, 0, t), true, none) | none => plainErr 1 3)
  else if x % 8 = 2 then (if x / 8 < 1152921504606846976 then ((4, x / 8, ⟨#[]⟩), true, none) else plainErr 2 1)
  else if x % 8 = 3 then (if x / 8 < 1152921504606846976 then ((3, x / 8, ⟨#[]⟩), true, none) else plainErr 3 1)
  else if x % 8 = 4 then (if x / 8 = 0 then ((6, 0, ⟨#[]⟩), true, none) else plainErr 4 1)
  else ((0, 0, ⟨#[]⟩), false, none)
theorem fine_plain (l : List ByteArray) (x : Int) : fineO (plainOf l x).2.2 = true := by
  unfold plainOf
  repeat' split
  all_goals rfl
def LeafP (k n : Int) (s : ByteArray) (ok : Bool) (er : ErrO) (w : World) (e : Ending) (w' : World) : Prop := ∃ v, e = .returned (.tuple #[.agg #[.int .i64 k, .int .i64 n, .string s, .slice none 0 0, .slice none 0 0, .slice none 0 0], .bool ok, v]) ∧ IsErrO w' (Fresh w w') v er ∧ Keeps (fun _ => False) w w'
def LeafXP (k n : Int) (s : ByteArray) (ok : Bool) (er : ErrO) (w : World) (e : Ending) (w' : World) : Prop := ∃ v, e = .returned (.tuple #[.agg #[.int .i64 k, .int .i64 n, .string s, .slice none 0 0, .slice none 0 0, .slice none 0 0], .bool ok, v]) ∧ IsXO w' (Fresh w w') v er ∧ Keeps (fun _ => False) w w'
end Go.Tx
namespace Go.Proofs.Ytnmhodejffpblaa
open Go.RowKit Go.Tx
theorem plain_any {w : World} {b : Nat} {E : Nat → Prop} {l : List ByteArray} (h : IsAtoms w b E l) (x : Int) (h0 : 0 ≤ x) (h1 : x < 18446744073709551616) :
    Calls Try.prog 29 #[.int .u64 x, .pointer (some ⟨b, 0, none⟩)] w (LeafPost (plainOf l x) w) := by
  have hfew := h.few
  unfold plainOf
  by_cases r0 : x % 8 = 0
  · rw [if_pos r0]; exact plain0 h x _ h0 h1 rfl r0
  rw [if_neg r0]
  by_cases r1 : x % 8 = 1
  · rw [if_pos r1]
    cases ht : l[(x / 8).toNat]? with
    | some t =>
      have hil : (x / 8).toNat < l.length := (List.getElem?_eq_some_iff.1 ht).1
      exact plain1s h x h0 h1 (x / 8).toNat t (by unfold wrap64; omega) r1 ht
    | none =>
      have hil : l.length ≤ (x / 8).toNat := List.getElem?_eq_none_iff.1 ht
      by_cases hb : x / 8 < 1152921504606846976
      · exact plain1h h x (x / 8) h0 h1 (by unfold wrap64; omega) r1 (by omega) (by omega)
      · exact plain1n h x (wrap64 x / 8) h0 h1 rfl r1 (by unfold wrap64; omega)
  rw [if_neg r1]
  by_cases r2 : x % 8 = 2
  · rw [if_pos r2]
    by_cases hb : x / 8 < 1152921504606846976
    · rw [if_pos hb]; exact plain2p h x (x / 8) h0 h1 (by unfold wrap64; omega) r2 (by omega)
    · rw [if_neg hb]; exact plain2n h x (wrap64 x / 8) h0 h1 rfl r2 (by unfold wrap64; omega)
  rw [if_neg r2]
  by_cases r3 : x % 8 = 3
  · rw [if_pos r3]
    by_cases hb : x / 8 < 1152921504606846976
    · rw [if_pos hb]; exact plain3p h x (x / 8) h0 h1 (by unfold wrap64; omega) r3 (by omega)
    · rw [if_neg hb]; exact plain3n h x (wrap64 x / 8) h0 h1 rfl r3 (by unfold wrap64; omega)
  rw [if_neg r3]
  by_cases r4 : x % 8 = 4
  · rw [if_pos r4]
    by_cases hb : x / 8 = 0
    · rw [if_pos hb]; exact plain4z h x h0 h1 (by unfold wrap64; omega) r4
    · rw [if_neg hb]; exact plain4x h x (wrap64 x / 8) h0 h1 rfl r4 (by unfold wrap64; omega)
  rw [if_neg r4]
  by_cases r5 : x % 8 = 5
  · exact plain5 h x _ h0 h1 rfl r5
  by_cases r6 : x % 8 = 6
  · exact plain6 h x _ h0 h1 rfl r6
  exact plain7 h x _ h0 h1 rfl (by omega)
theorem rplain_any {w : World} {b : Nat} {E : Nat → Prop} {l : List ByteArray} (h : IsNames w b E l) (x : Int) (h0 : 0 ≤ x) (h1 : x < 18446744073709551616) :
    Calls Try.prog 30 #[.int .u64 x, .pointer (some ⟨b, 0, none⟩)] w (LeafXPost (plainOf l x) w) := by
  have hfew := h.few
  unfold plainOf
  by_cases r0 : x % 8 = 0
  · rw [if_pos r0]; exact rplain0 h x _ h0 h1 rfl r0 _ rfl
  rw [if_neg r0]
  by_cases r1 : x % 8 = 1
  · rw [if_pos r1]
    cases ht : l[(x / 8).toNat]? with
    | some t =>
      have hil : (x / 8).toNat < l.length := (List.getElem?_eq_some_iff.1 ht).1
      exact rplain1s h x h0 h1 (x / 8).toNat t (by omega) r1 ht
    | none =>
      have hil : l.length ≤ (x / 8).toNat := List.getElem?_eq_none_iff.1 ht
      exact rplain1h h x (x / 8) h0 h1 rfl r1 (by omega)
  rw [if_neg r1]
  by_cases r2 : x % 8 = 2
  · rw [if_pos r2]
    by_cases hb : x / 8 < 1152921504606846976
    · rw [if_pos hb]; exact rplain2p h x (x / 8) h0 h1 rfl r2 hb
    · rw [if_neg hb]; exact rplain2n h x (x / 8) h0 h1 rfl r2 (by omega)
  rw [if_neg r2]
  by_cases r3 : x % 8 = 3
  · rw [if_pos r3]
    by_cases hb : x / 8 < 1152921504606846976
    · rw [if_pos hb]; exact rplain3p h x (x / 8) h0 h1 rfl r3 hb
    · rw [if_neg hb]; exact rplain3n h x (x / 8) h0 h1 rfl r3 (by omega)
  rw [if_neg r3]
  by_cases r4 : x % 8 = 4
  · rw [if_pos r4]
    by_cases hb : x / 8 = 0
    · rw [if_pos hb]; exact rplain4z h x h0 h1 hb r4
    · rw [if_neg hb]; exact rplain4x h x (x / 8) h0 h1 rfl r4 hb
  rw [if_neg r4]
  by_cases r5 : x % 8 = 5
  · exact rplain5 h x _ h0 h1 rfl r5
  by_cases r6 : x % 8 = 6
  · exact rplain6 h x _ h0 h1 rfl r6
  exact rplain7 h x _ h0 h1 rfl (by omega)
set_option maxRecDepth 100000 in
set_option maxHeartbeats 1600000 in
theorem plains_any {w : World} {v : Value} {names : List ByteArray} (h : StrsD w v names) (x : Int) (h0 : 0 ≤ x) (h1 : x < 18446744073709551616) :
    Calls Try.prog 8 #[v, .int .u64 x] w fun e w' => e = .returned (.bool true) ∧ Keeps (fun _ => False) w w' := by
  have HB := Lib.hid (both_any h)
  obtain ⟨hn, na, nc, rfl, _⟩ := h
  have H0 := Lib.hid h0
  have H1 := Lib.hid h1
  clear h0 h1
  go_enter Try.func8, Try.ntmps8
  go_wp2_with (first | (go_at_call 11; refine Stop.out ?_))
  refine ⟨HB.out.mono ?_⟩
  rintro e w1 ⟨a, b, Ea, Eb, l, rfl, ht⟩
  have HT := Lib.hid ht
  obtain ⟨k, n, s, ok, er, hp⟩ : ∃ k n s ok er, plainOf l x = ((k, n, s), ok, er) := ⟨_, _, _, _, _, rfl⟩
  have HF : Hid (fineO er = true) := Lib.hid (by have := fine_plain l x; rwa [hp] at this)
  have HA : Hid (∀ W, IsAtoms W a Ea l → Calls Try.prog 29 #[.int .u64 x, .pointer (some ⟨a, 0, none⟩)] W (LeafP k n s ok er W)) := Lib.hid fun W hW => by have := plain_any hW x H0.out H1.out; rw [hp] at this; exact this
  have HR : Hid (∀ W, IsNames W b Eb l → Calls Try.prog 30 #[.int .u64 x, .pointer (some ⟨b, 0, none⟩)] W (LeafXP k n s ok er W)) := Lib.hid fun W hW => by have := rplain_any hW x H0.out H1.out; rw [hp] at this; exact this
  clear ht hp
  go_wp2_with (first | (go_at_call 29; refine Stop.out ?_))
  refine ⟨(HA.out _ HT.out.ha).mono ?_⟩
  rintro e w2 ⟨v1, rfl, he1, hk2⟩
  have HT2 := Lib.hid (HT.out.still hk2)
  have HE1 := Lib.hid he1
  clear he1 hk2
  go_wp2_with (first | (go_at_call 30; refine Stop.out ?_))
  refine ⟨(HR.out _ (HT2.out.still ((Keeps.refl _ w2).alloc _)).hb).mono ?_⟩
  rintro e w3 ⟨v2, rfl, he2, hk3⟩
  have HK23 : Hid (Keeps (fun _ => False) w2 w3) := Lib.hid (((Keeps.refl _ w2).alloc _).trans hk3 fun _ _ h => h)
  have HE2 := Lib.hid he2
  have bt : Blk w3 w2.heap.size 26 (leafCells k n s) := (Blk.new w2 (leafCells k n s) _).keeps hk3 fun h => h
  have c0 := bt.cell (i := 0) (v := .int .i64 k) rfl
  have c1 := bt.cell (i := 1) (v := .int .i64 n) rfl
  have c2 := bt.cell (i := 2) (v := .string s) rfl
  have c3 := bt.cell (i := 3) (v := .slice none 0 0) rfl
  have c4 := bt.cell (i := 4) (v := .slice none 0 0) rfl
  have c5 := bt.cell (i := 5) (v := .slice none 0 0) rfl
  have hlt : w2.heap.size < w3.heap.size := bt.lt
  clear he2 hk3 bt
  go_wp2_with (first | (go_at_call 31; refine (same_leaf _ k n s _ _ _ _ _ _ _ _ _ _ _ _).mono ?_; rintro e w4 ⟨rfl, hk4⟩; have HK4 := Lib.hid hk4; clear hk4) | (go_at_call 15; refine Stop.out ?_))
  have HK34 := Lib.hid (((Keeps.refl (fun _ => False) w3).alloc _).trans HK4.out fun _ _ h => h)
  have HE1' := Lib.hid ((HE1.out.keeps HK23.out fun _ _ h => h).keeps HK34.out fun _ _ h => h)
  have HE2' := Lib.hid (HE2.out.keeps HK34.out fun _ _ h => h)
  refine ⟨(ref_same HE1'.out HE2'.out HF.out).mono ?_⟩
  rintro e w5 ⟨rfl, hk5⟩
  have HK5 := Lib.hid hk5
  clear hk5 c0 c1 c2 c3 c4 c5 hlt
  go_wp2_with (first | (go_at_call 17; refine (awake_any _).mono ?_; rintro e w6 ⟨rfl, hk6⟩; have HK6 := Lib.hid hk6; clear hk6))
  go_ret
  exact ⟨rfl, ((((HT2.out.keeps.trans HK23.out fun _ _ h => h).trans HK34.out fun _ _ h => h).trans HK5.out fun _ _ h => h).trans HK6.out fun _ _ h => h)⟩
end Go.Proofs.Ytnmhodejffpblaa

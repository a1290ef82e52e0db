/-
  The law CodeWrites: what the Go code does.
-/
import Derived.Test.YtgmieehheoknbaaRw
import Derived.Test.YtgmieehheoknbaaCm
namespace Go.Tx
open Go Go.RowKit
mutual
theorem chk_kinds : ∀ (t : Tm), ∀ dep st x, chk t dep st = .error x → x.2 = 1 ∨ x.2 = 2
  | .mk k n s is rs bs => by
    intro dep st x h
    unfold chk at h
    dsimp only at h
    split at h
    · cases h; exact .inr rfl
    · split at h
      · cases h; exact .inl rfl
      · cases hc : chks is (dep + 1) (st.1 + 1, st.2 + (Tm.mk k n s is rs bs).binSize) with
        | error y =>
          rw [hc] at h
          cases h
          exact chks_kinds is _ _ _ hc
        | ok st2 =>
          rw [hc] at h
          exact chks_kinds rs _ _ _ h
theorem chks_kinds : ∀ (l : List Tm), ∀ dep st x, chks l dep st = .error x → x.2 = 1 ∨ x.2 = 2
  | [] => by
    intro dep st x h
    unfold chks at h
    cases h
  | t :: l => by
    intro dep st x h
    unfold chks at h
    cases hc : chk t dep st with
    | error y =>
      rw [hc] at h
      cases h
      exact chk_kinds t _ _ _ hc
    | ok st2 =>
      rw [hc] at h
      exact chks_kinds l _ _ _ h
end
theorem fine_rightTm (t : Tm) : fineO (rightTm t) = true := by
  unfold rightTm
  cases hc : chk t 1 (0, 0) with
  | ok st => rfl
  | error x =>
    rcases chk_kinds t 1 (0, 0) x hc with e | e <;> simp [errTm, fineO, e]
theorem fine_firstLit : ∀ (l : List Tm) (n : Nat), fineO (firstLit l n) = true
  | [], _ => rfl
  | t :: l, n => by
    unfold firstLit
    have h := fine_rightTm t
    split
    · next c k hq => rw [hq] at h; exact h
    · exact fine_firstLit l (n + 1)
theorem fine_firstFn : ∀ (l : List Fnc) (n : Nat), fineO (firstFn l n) = true
  | [], _ => rfl
  | f :: l, n => by
    unfold firstFn
    split
    · exact fine_firstFn l (n + 1)
    · rfl
theorem fine_errM (m : Md) : fineO (errM m) = true := by
  have h := fine_firstLit m.lits 0
  unfold errM
  split
  · next e hq => rw [hq] at h; exact h
  · exact fine_firstFn _ _
/-- a module's bytes as a text; none if it may not be -/
def strM (m : Md) : ByteArray := if errM m = none then ⟨(encM m).toArray⟩ else ⟨#[]⟩
theorem MdD.keeps {w w' : World} {S T : Nat → Prop} {d : Nat} {v : Value} {m : Md} (h : MdD w S d v m) (hk : Keeps T w w') (hs : ∀ g, S g → ¬ T g) : MdD w' S d v m := by
  obtain ⟨vl, vf, e, hn, h1, h2⟩ := h
  exact ⟨vl, vf, e, hn, h1.keeps hk hs, h2.keeps hk hs⟩
theorem MdD.form {w : World} {S : Nat → Prop} {d : Nat} {v : Value} {m : Md} (h : MdD w S d v m) : ∃ al cl af cf, v = .agg #[.string m.name, .slice al m.lits.length cl, .slice af m.funcs.length cf] := by
  obtain ⟨vl, vf, e, hn, h1, h2⟩ := h
  obtain ⟨_, _, rfl⟩ := h1.form
  obtain ⟨_, _, rfl⟩ := h2.form
  exact ⟨_, _, _, _, e⟩
end Go.Tx
namespace Go.Proofs.Ytgmieehheoknbaa
open Go.RowKit Go.Tx
theorem conv_row {w : World} {v : Value} {q : List UInt8} (h : Bytes w v q) : (convert 26 9 v).run Try.prog w = .ok (.string ⟨q.toArray⟩) w := by
  obtain ⟨a, c, rfl⟩ := h.form
  refine conv_bytes ⟨q.toArray⟩ Try.underlying26 Try.underlying5 Try.underlying9 rfl fun hp => ?_
  obtain ⟨g, c2, e, _, _⟩ := Row.form h (by simpa [ByteArray.size] using hp)
  cases e
  exact ⟨g, 0, rfl, fun j u hu => by rw [Nat.zero_add]; exact Row.cell3 h (by simpa [byteCells, byteV] using hu)⟩
/-- the bytes that a call left, as a text -/
theorem conv_out {w W : World} {v : Value} {m : Md} (h1 : errM m = none → Bytes w v (encM m)) (h2 : errM m ≠ none → v = .slice none 0 0) (hk : Keeps (fun _ => False) w W) : (convert 26 9 v).run Try.prog W = .ok (.string (strM m)) W := by
  unfold strM
  by_cases he : errM m = none
  · rw [if_pos he]
    exact conv_row ((h1 he).still hk)
  · rw [if_neg he, h2 he]
    exact conv_none none 0 Try.underlying26 Try.underlying5 Try.underlying9
theorem out_form {w : World} {v : Value} {m : Md} (h1 : errM m = none → Bytes w v (encM m)) (h2 : errM m ≠ none → v = .slice none 0 0) : ∃ a n c, v = .slice a n c := by
  by_cases he : errM m = none
  · obtain ⟨a, c, e⟩ := (h1 he).form
    exact ⟨a, _, c, e⟩
  · exact ⟨_, _, _, h2 he⟩
theorem ref_alike {w : World} {E E' : Nat → Prop} {v u : Value} {o : ErrO} (h : IsErrO w E v o) (h' : IsXO w E' u o) (hf : fineO o = true) :
    Calls Try.prog 7 #[v, u] w fun e w' => e = .returned (.bool true) ∧ Keeps (fun _ => False) w w' := by
  refine (ref_any h h').mono fun e w' ⟨he, hk⟩ => ⟨?_, hk⟩
  rw [he, hf]
  simp
set_option maxRecDepth 100000 in
set_option maxHeartbeats 800000 in
theorem awake_any (w : World) : Calls Try.prog 8 #[] w fun e w' => e = .returned (.bool true) ∧ Keeps (fun _ => False) w w' := by
  have he : errM ⟨⟨#[]⟩, [], []⟩ = none := rfl
  have hq : encM ⟨⟨#[]⟩, [], []⟩ = [84, 82, 80, 69, 0, 0, 0] := by
    have h0 : encN 0 = [0] := encN_small (by decide)
    simp [encM, magic, encB, h0, encTs, encFs, ByteArray.size]
  have hm : MdD w (fun _ => False) 0 (.agg #[.string ⟨#[]⟩, .slice none 0 0, .slice none 0 0]) ⟨⟨#[]⟩, [], []⟩ :=
    ⟨_, _, rfl, by decide, ⟨by simp, none, 0, rfl, Nat.le_refl _, Nat.zero_le _, fun i t h => by simp at h⟩, by simp, none, 0, rfl, Nat.le_refl _, Nat.zero_le _, fun i f h => by simp at h⟩
  have HW := Lib.hid (write_any _ hm (fun _ h => h.elim) (by rw [hq]; decide))
  have HE := Lib.hid he
  have HQ := Lib.hid hq
  clear he hq hm
  go_enter Try.func8, Try.ntmps8
  go_wp2_with (first | (go_at_call 4; refine Stop.out ?_))
  refine ⟨HW.out.mono ?_⟩
  rintro e w2 ⟨v, er, rfl, h1, h2, _, hn⟩
  rw [HE.out] at h1
  obtain rfl : er = .nilIface := h1
  have hb := h2 HE.out
  rw [HQ.out] at hb
  obtain ⟨a, c, rfl⟩ := hb.form
  have kc : (convert 26 9 (.slice a 7 c)).run Try.prog w2 = .ok (.string ⟨#[84, 82, 80, 69, 0, 0, 0]⟩) w2 := conv_row hb
  have HN := Lib.hid hn
  clear h2 hn hb
  go_wp2
  go_ret
  exact ⟨rfl, HN.out.keeps⟩
set_option maxRecDepth 100000 in
set_option maxHeartbeats 1600000 in
theorem writes_any {w : World} {S : Nat → Prop} {d : Nat} {v : Value} (m : Md) (h : MdD w S d v m) (hbig : m.lits.length * 104 ≤ 140737488355328) (hsl : ∀ x ∈ m.lits, Slim d x) (hS : ∀ x, S x → x < w.heap.size) (hl : (encM m).length ≤ 70368744170000) :
    Calls Try.prog 3 #[v] w fun e w' => e = .returned (.bool true) ∧ Keeps (fun _ => False) w w' := by
  have HM := Lib.hid h
  have HL := Lib.hid hl
  have HS := Lib.hid hS
  have HSL := Lib.hid hsl
  have HF := Lib.hid (fine_errM m)
  obtain ⟨al, cl, af, cf, rfl⟩ := h.form
  clear h hl hS hsl
  go_enter Try.func3, Try.ntmps3
  go_wp2_with (first | (go_at_call 5; refine Stop.out ?_))
  refine ⟨(copyModule_any m (HM.out.keeps ((Keeps.refl (fun _ => False) w).alloc _) fun _ _ h => h) hbig HSL.out (fun x hx => by have := HS.out x hx; simp; omega)).mono ?_⟩
  rintro e w1 ⟨v1, rfl, hm1, hk1⟩
  have hbx : Blk w1 w.heap.size 25 [.string m.name, .slice al m.lits.length cl, .slice af m.funcs.length cf] := (Blk.new w _ _).keeps hk1 fun h => h
  have HK1 : Hid (Keeps (fun _ => False) w w1) := Lib.hid (((Keeps.refl _ w).alloc _).trans hk1 fun _ _ h => h)
  have HBX := Lib.hid hbx
  have HW := Lib.hid (write_any m hm1 (fun x hx => hx.2) HL.out)
  obtain ⟨al1, cl1, af1, cf1, rfl⟩ := hm1.form
  clear hm1 hk1 hbx
  go_wp2_with (first | (go_at_call 4; refine Stop.out ?_))
  refine ⟨HW.out.mono ?_⟩
  rintro e w2 ⟨b2, er2, rfl, he2, hy2, hz2, hn2⟩
  have HK2 : Hid (Keeps (fun _ => False) w w2) := Lib.hid (HK1.out.trans hn2.keeps fun _ _ h => h)
  have hbx := HBX.out.keeps hn2.keeps fun h => h
  have d0 : w2.cell? ⟨w.heap.size, 0, none⟩ = some (.string m.name) := hbx.cell (i := 0) rfl
  have d1 : w2.cell? ⟨w.heap.size, 1, none⟩ = some (.slice al m.lits.length cl) := hbx.cell (i := 1) rfl
  have d2 : w2.cell? ⟨w.heap.size, 2, none⟩ = some (.slice af m.funcs.length cf) := hbx.cell (i := 2) rfl
  have HE2 := Lib.hid he2
  have HY2 := Lib.hid hy2
  have HZ2 := Lib.hid hz2
  obtain ⟨ba, bn, bc, rfl⟩ := out_form hy2 hz2
  clear he2 hy2 hz2 hn2 hbx
  go_wp2_with (first | (go_at_call 6; refine Stop.out ?_))
  refine ⟨(rwrite_any m (HM.out.keeps HK2.out fun _ _ h => h) (fun x hx => Nat.lt_of_lt_of_le (HS.out x hx) HK2.out.size) HL.out).mono ?_⟩
  rintro e w3 ⟨b3, er3, rfl, he3, hy3, hz3, hn3⟩
  have HK3 : Hid (Keeps (fun _ => False) w w3) := Lib.hid (HK2.out.trans hn3.keeps fun _ _ h => h)
  have kc1 := conv_out HY2.out HZ2.out hn3.keeps
  have kc2 := conv_out hy3 hz3 (Keeps.refl _ w3)
  obtain ⟨bb, bm, bd, rfl⟩ := out_form hy3 hz3
  have HE2' := Lib.hid (HE2.out.keeps hn3.keeps fun _ _ h => h)
  have HE3 := Lib.hid he3
  clear he3 hy3 hz3 hn3 d0 d1 d2
  obtain ⟨s, hs⟩ : ∃ s, s = strM m := ⟨_, rfl⟩
  rw [← hs] at kc1 kc2
  clear hs
  go_wp2_with (first | (go_at_call 7; refine (ref_alike HE2'.out HE3.out HF.out).mono ?_; rintro e w4 ⟨rfl, hk4⟩; have HK4 := Lib.hid hk4; clear hk4) | (go_at_call 8; refine (awake_any _).mono ?_; rintro e w5 ⟨rfl, hk5⟩; have HK5 := Lib.hid hk5; clear hk5))
  go_ret
  exact ⟨rfl, (HK3.out.trans HK4.out fun _ _ h => h).trans HK5.out fun _ _ h => h⟩
end Go.Proofs.Ytgmieehheoknbaa

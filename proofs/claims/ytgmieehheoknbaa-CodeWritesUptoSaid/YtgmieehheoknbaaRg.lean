/-
  Whether a function may be written: what the Go code does (code.right).
-/
import Derived.Test.YtgmieehheoknbaaMd
namespace Go.Tx
open Go Go.RowKit
/-- so many operands were looked at -/
def OpsAt (zs : List Int) (v : Value) : Prop := ∃ i : Nat, v = .int .i64 i ∧ i ≤ zs.length ∧ (zs.take i).all half = true
/-- the first that may not be -/
def IndexPost (zs : List Int) (w : World) (e : Ending) (w' : World) : Prop := ∃ r : Int, e = .returned (.int .i64 r) ∧ (if zs.all half = true then r = -1 else 0 ≤ r) ∧ w' = w
theorem insOk_eq (op a b c : Int) : insOk (op, a, b, c) = (decide (0 ≤ op ∧ op ≤ 255) && (half a && half b && half c)) := by
  unfold insOk
  simp only [Bool.and_assoc]
end Go.Tx
namespace Go.Proofs.Ytgmieehheoknbaa
open Go.RowKit Go.Tx
set_option maxRecDepth 100000 in
set_option maxHeartbeats 400000 in
theorem indexFunc_any (w : World) (g : Nat) (cap : Nat) (zs : List Int) (hl : zs.length ≤ 1000) (hc : ∀ i z, zs[i]? = some z → w.cell? ⟨g, i, none⟩ = some (.int .i64 z)) :
    Calls Try.prog 37 #[.slice (some ⟨g, 0, none⟩) zs.length cap, .func (.func 34) #[] #[]] w (IndexPost zs w) := by
  have HC := Lib.hid hc
  clear hc
  go_enter Try.func37, Try.ntmps37
  go_wp2
  go_loop [8] (fun v => OpsAt zs v) (fun v => zs.length - (intOf v).toNat)
  case atStart => exact ⟨0, rfl, Nat.zero_le _, rfl⟩
  case round =>
    obtain ⟨i, rfl, hi, hall⟩ := hrel
    have HALL := Lib.hid hall
    clear hall
    by_cases hlt : i < zs.length
    · obtain ⟨z, hz⟩ : ∃ z, zs[i]? = some z := ⟨zs[i], by simp⟩
      have d0 := HC.out i z hz
      have HZ := Lib.hid hz
      clear hz
      cases hh : half z with
      | true =>
        have HO : Hid (∀ w, Calls Try.prog 34 #[.int .i64 z] w fun e w' => e = .returned (.bool false) ∧ w' = w) := Lib.hid fun w => by have := out_any w z; rw [hh] at this; exact this
        have HH := Lib.hid hh
        clear hh
        go_wp2_with (first | (go_at_call 34; refine (HO.out _).mono ?_; rintro e w' ⟨rfl, rfl⟩))
        go_round
        case rel => exact ⟨i + 1, by go_num, by omega, by rw [List.take_add_one, HZ.out, List.all_append, HALL.out]; simp [HH.out]⟩
        case measure => simp [intOf]; omega
      | false =>
        have HO : Hid (∀ w, Calls Try.prog 34 #[.int .i64 z] w fun e w' => e = .returned (.bool true) ∧ w' = w) := Lib.hid fun w => by have := out_any w z; rw [hh] at this; exact this
        have HH := Lib.hid hh
        clear hh
        go_wp2_with (first | (go_at_call 34; refine (HO.out _).mono ?_; rintro e w' ⟨rfl, rfl⟩))
        go_ret
        refine ⟨_, rfl, ?_, rfl⟩
        rw [if_neg]
        · exact Int.natCast_nonneg i
        · intro h
          have := List.all_eq_true.1 h z (List.mem_of_getElem? HZ.out)
          rw [HH.out] at this
          cases this
    · go_wp2
      obtain rfl : i = zs.length := by omega
      go_ret
      refine ⟨_, rfl, ?_, rfl⟩
      have := HALL.out
      rw [List.take_length] at this
      rw [if_pos this]
set_option maxRecDepth 100000 in
set_option maxHeartbeats 400000 in
theorem contains_any (w : World) (g : Nat) (a b c : Int) (h0 : w.cell? ⟨g, 0, none⟩ = some (.int .i64 a)) (h1 : w.cell? ⟨g, 1, none⟩ = some (.int .i64 b)) (h2 : w.cell? ⟨g, 2, none⟩ = some (.int .i64 c)) :
    Calls Try.prog 33 #[.slice (some ⟨g, 0, none⟩) 3 3, .func (.func 34) #[] #[]] w fun e w' => e = .returned (.bool (!(half a && half b && half c))) ∧ w' = w := by
  have HI := Lib.hid (indexFunc_any w g 3 [a, b, c] (by simp) (fun i z hz => by
    match i, hz with
    | 0, hz => simp at hz; subst hz; exact h0
    | 1, hz => simp at hz; subst hz; exact h1
    | 2, hz => simp at hz; subst hz; exact h2
    | i + 3, hz => simp at hz))
  have ha : [a, b, c].all half = (half a && half b && half c) := by simp [Bool.and_assoc]
  have HA := Lib.hid ha
  clear h0 h1 h2 ha
  cases hh : (half a && half b && half c) with
  | true =>
    have HH := Lib.hid hh
    clear hh
    go_enter Try.func33, Try.ntmps33
    go_wp2_with (first | (go_at_call 37; refine Stop.out ?_))
    refine ⟨HI.out.mono ?_⟩
    rintro e w2 ⟨r, rfl, hr, rfl⟩
    rw [HA.out, HH.out, if_pos rfl] at hr
    subst hr
    go_wp2
    go_ret
    exact ⟨rfl, rfl⟩
  | false =>
    have HH := Lib.hid hh
    clear hh
    go_enter Try.func33, Try.ntmps33
    go_wp2_with (first | (go_at_call 37; refine Stop.out ?_))
    refine ⟨HI.out.mono ?_⟩
    rintro e w2 ⟨r, rfl, hr, rfl⟩
    rw [HA.out, HH.out, if_neg (by decide)] at hr
    have g1 : decide (0 ≤ r) = true := decide_eq_true hr
    clear hr
    go_wp2
    go_ret
    exact ⟨rfl, rfl⟩
set_option maxRecDepth 100000 in
set_option maxHeartbeats 400000 in
theorem operand_any (w : World) (g : Nat) (a b c : Int) (h0 : w.cell? ⟨g, 0, none⟩ = some (.int .i64 a)) (h1 : w.cell? ⟨g, 1, none⟩ = some (.int .i64 b)) (h2 : w.cell? ⟨g, 2, none⟩ = some (.int .i64 c)) :
    Calls Try.prog 29 #[.slice (some ⟨g, 0, none⟩) 3 3] w fun e w' => e = .returned (.bool (half a && half b && half c)) ∧ w' = w := by
  have HI := Lib.hid (contains_any w g a b c h0 h1 h2)
  clear h0 h1 h2
  cases hh : (half a && half b && half c) with
  | true =>
    rw [hh] at HI
    clear hh
    go_enter Try.func29, Try.ntmps29
    go_wp2_with (first | (go_at_call 33; refine HI.out.mono ?_; rintro e w2 ⟨rfl, rfl⟩))
    go_ret
    exact ⟨rfl, rfl⟩
  | false =>
    rw [hh] at HI
    clear hh
    go_enter Try.func29, Try.ntmps29
    go_wp2_with (first | (go_at_call 33; refine HI.out.mono ?_; rintro e w2 ⟨rfl, rfl⟩))
    go_ret
    exact ⟨rfl, rfl⟩
def InsAt (l : List (Int × Int × Int × Int)) (w : World) (v : Value) (wr : World) : Prop := ∃ i : Nat, v = .int .i64 i ∧ i ≤ l.length ∧ (l.take i).all insOk = true ∧ Keeps (fun _ => False) w wr
set_option maxRecDepth 100000 in
set_option maxHeartbeats 1600000 in
/-- may a function be written? -/
theorem right_fn {w : World} {S : Nat → Prop} {vc : Value} (f : Fnc) (hf : f.fine) (h : InsD w S vc f.code) (hS : ∀ x, S x → x < w.heap.size) :
    Calls Try.prog 14 #[f.val vc] w fun e w' => e = .returned (.bool (fnOk f)) ∧ Keeps (fun _ => False) w w' := by
  obtain ⟨nm, ar, sl, cd⟩ := f
  have HI := Lib.hid h
  have HS := Lib.hid hS
  have HF := Lib.hid hf
  obtain ⟨h0, a, cap, rfl, hc1, hc2, _⟩ := h
  simp only [Fnc.val]
  unfold maxLen at hc2
  unfold fnOk
  simp only at h0 hc1
  by_cases hk1 : ar < 0
  · have e : headOk ⟨nm, ar, sl, cd⟩ = false := decide_eq_false (by simp only; omega)
    rw [e]
    clear hf hS e
    go_enter Try.func14, Try.ntmps14
    go_wp2
    go_ret
    exact ⟨rfl, (Keeps.refl _ w).alloc _⟩
  by_cases hk2 : 1099511627776 < ar
  · have e : headOk ⟨nm, ar, sl, cd⟩ = false := decide_eq_false (by simp only; omega)
    rw [e]
    clear hf hS e
    go_enter Try.func14, Try.ntmps14
    go_wp2
    go_ret
    exact ⟨rfl, (Keeps.refl _ w).alloc _⟩
  by_cases hk3 : sl < 0
  · have e : headOk ⟨nm, ar, sl, cd⟩ = false := decide_eq_false (by simp only; omega)
    rw [e]
    clear hf hS e
    go_enter Try.func14, Try.ntmps14
    go_wp2
    go_ret
    exact ⟨rfl, (Keeps.refl _ w).alloc _⟩
  by_cases hk4 : 1099511627776 < sl
  · have e : headOk ⟨nm, ar, sl, cd⟩ = false := decide_eq_false (by simp only; omega)
    rw [e]
    clear hf hS e
    go_enter Try.func14, Try.ntmps14
    go_wp2
    go_ret
    exact ⟨rfl, (Keeps.refl _ w).alloc _⟩
  have e : headOk ⟨nm, ar, sl, cd⟩ = true := decide_eq_true (by simp only; omega)
  rw [e]
  clear hf hS e
  go_enter Try.func14, Try.ntmps14
  go_wp2
  go_loopw [26] (fun v wr => InsAt cd w v wr) (fun v _ => cd.length - (intOf v).toNat)
  case atStart => exact ⟨0, rfl, Nat.zero_le _, rfl, (Keeps.refl _ w).alloc _⟩
  case round =>
    obtain ⟨i, rfl, hi, hall, hk⟩ := hrel
    have HALL := Lib.hid hall
    have HK := Lib.hid hk
    clear hall
    by_cases hlt : i < cd.length
    · obtain ⟨p, hp⟩ : ∃ p, cd[i]? = some p := ⟨cd[i], by simp⟩
      obtain ⟨_, _, _, e, _, _, hel⟩ := HI.out.keeps hk fun _ _ h => h
      cases e
      obtain ⟨⟨⟨p1, p2⟩, ⟨a1, a2⟩, ⟨b1, b2⟩, c1, c2⟩, b, o, rfl, hSb, d0, d1, d2, d3⟩ := hel i p hp
      obtain ⟨op, pa, pb, pc⟩ := p
      simp only at p1 p2 a1 a2 b1 b2 c1 c2 d0 d1 d2 d3
      have hsz := hk.size
      have hbw : b < wr.heap.size := by have := HS.out b hSb; omega
      have HP := Lib.hid hp
      clear hk hp hel
      by_cases ho1 : op < 0
      · have HI2 : Hid (insOk (op, pa, pb, pc) = false) := Lib.hid (by unfold insOk; rw [decide_eq_false (by simp only; omega)]; rfl)
        have hno : cd.all insOk = false := by
          rw [Bool.eq_false_iff]
          intro hq
          have := List.all_eq_true.1 hq _ (List.mem_of_getElem? HP.out)
          rw [HI2.out] at this
          cases this
        have HNO := Lib.hid hno
        clear hno
        go_wp2
        go_ret
        exact ⟨by rw [HNO.out]; rfl, by first | exact HK.out.alloc _ | exact (HK.out.alloc _).alloc _⟩
      by_cases ho2 : 255 < op
      · have HI2 : Hid (insOk (op, pa, pb, pc) = false) := Lib.hid (by unfold insOk; rw [decide_eq_false (by simp only; omega)]; rfl)
        have hno : cd.all insOk = false := by
          rw [Bool.eq_false_iff]
          intro hq
          have := List.all_eq_true.1 hq _ (List.mem_of_getElem? HP.out)
          rw [HI2.out] at this
          cases this
        have HNO := Lib.hid hno
        clear hno
        go_wp2
        go_ret
        exact ⟨by rw [HNO.out]; rfl, by first | exact HK.out.alloc _ | exact (HK.out.alloc _).alloc _⟩
      have HOP : Hid (∀ o2, Calls Try.prog 29 #[.slice (some ⟨wr.heap.size + 1, 0, none⟩) 3 3] ((wr.alloc o2).alloc (.cells #[.int .i64 pa, .int .i64 pb, .int .i64 pc] 3)) fun e w' => e = .returned (.bool (half pa && half pb && half pc)) ∧ w' = (wr.alloc o2).alloc (.cells #[.int .i64 pa, .int .i64 pb, .int .i64 pc] 3)) := Lib.hid fun o2 => by
        have hb := Blk.new (wr.alloc o2) [.int .i64 pa, .int .i64 pb, .int .i64 pc] 3
        rw [World.size_alloc] at hb
        exact operand_any _ _ pa pb pc (hb.cell (i := 0) rfl) (hb.cell (i := 1) rfl) (hb.cell (i := 2) rfl)
      cases hh : (half pa && half pb && half pc) with
      | false =>
        have HI2 : Hid (insOk (op, pa, pb, pc) = false) := Lib.hid (by rw [insOk_eq, hh]; simp)
        rw [hh] at HOP
        clear hh
        have hno : cd.all insOk = false := by
          rw [Bool.eq_false_iff]
          intro hq
          have := List.all_eq_true.1 hq _ (List.mem_of_getElem? HP.out)
          rw [HI2.out] at this
          cases this
        have HNO := Lib.hid hno
        clear hno
        go_wp2_with (first | (go_at_call 29; refine (HOP.out _).mono ?_; rintro e w4 ⟨rfl, rfl⟩))
        go_ret
        exact ⟨by rw [HNO.out]; rfl, by first | exact HK.out.alloc _ | exact (HK.out.alloc _).alloc _⟩
      | true =>
        have HI2 : Hid (insOk (op, pa, pb, pc) = true) := Lib.hid (by rw [insOk_eq, hh, decide_eq_true (by omega)]; rfl)
        rw [hh] at HOP
        clear hh
        go_wp2_with (first | (go_at_call 29; refine (HOP.out _).mono ?_; rintro e w4 ⟨rfl, rfl⟩))
        refine ⟨⟨i + 1, by go_num, by omega, ?_, (HK.out.alloc _).alloc _⟩, by simp [intOf]; omega⟩
        rw [List.take_add_one, HP.out, List.all_append, HALL.out]
        simp [HI2.out]
    · go_wp2
      obtain rfl : i = cd.length := by omega
      go_ret
      have := HALL.out
      rw [List.take_length] at this
      exact ⟨by simp [this], HK.out⟩
end Go.Proofs.Ytgmieehheoknbaa

import Derived.Test.YtgmieehheoknbaaDoorGg
import Derived.Test.YtgmieehheoknbaaDoorGf
import Derived.Test.YtgmieehheoknbaaDoorGl
section
/-
  Whether a function may be written: what the Go code does (code.right).
-/
namespace Go.Tx
open Go Go.RowKit
/-- so many operands were looked at -/
def OpsAt (zs : List Int) (v : Value) : Prop := ∃ i : Nat, v = .int .i64 i ∧ i ≤ zs.length ∧ (zs.take i).all half = true
/-- the first that may not be -/
def IndexPost (zs : List Int) (w : World) (e : Ending) (w' : World) : Prop := ∃ r : Int, e = .returned (.int .i64 r) ∧ (if zs.all half = true then r = -1 else 0 ≤ r) ∧ w' = w
theorem insOk_eq (op a b c : Int) : insOk (op, a, b, c) = (decide (0 ≤ op ∧ op ≤ 255) && (half a && half b && half c)) := by
  unfold insOk
  simp only [Bool.and_assoc]
end Go.Tx
namespace Go.Proofs.YtgmieehheoknbaaDoor
open Go.RowKit Go.Tx
set_option maxRecDepth 100000 in
set_option maxHeartbeats 400000 in
theorem indexFunc_any (w : World) (g : Nat) (cap : Nat) (zs : List Int) (hl : zs.length ≤ 1000) (hc : ∀ i z, zs[i]? = some z → w.cell? ⟨g, i, none⟩ = some (.int .i64 z)) :
    Calls Tryd.prog 55 #[.slice (some ⟨g, 0, none⟩) zs.length cap, .func (.func 46) #[] #[]] w (IndexPost zs w) := by
  have HC := Lib.hid hc
  clear hc
  go_enter Tryd.func55, Tryd.ntmps55
  go_wp2
  go_loop [8] (fun v => OpsAt zs v) (fun v => zs.length - (intOf v).toNat)
  case atStart => exact ⟨0, rfl, Nat.zero_le _, rfl⟩
  case round =>
    obtain ⟨i, rfl, hi, hall⟩ := hrel
    have HALL := Lib.hid hall
    clear hall
    by_cases hlt : i < zs.length
    · obtain ⟨z, hz⟩ : ∃ z, zs[i]? = some z := ⟨zs[i], by simp⟩
      have d0 := HC.out i z hz
      have HZ := Lib.hid hz
      clear hz
      cases hh : half z with
      | true =>
        have HO : Hid (∀ w, Calls Tryd.prog 46 #[.int .i64 z] w fun e w' => e = .returned (.bool false) ∧ w' = w) := Lib.hid fun w => by have := out_any w z; rw [hh] at this; exact this
        have HH := Lib.hid hh
        clear hh
        go_wp2_with (first | (go_at_call 46; refine (HO.out _).mono ?_; rintro e w' ⟨rfl, rfl⟩))
        go_round
        case rel => exact ⟨i + 1, by go_num, by omega, by rw [List.take_add_one, HZ.out, List.all_append, HALL.out]; simp [HH.out]⟩
        case measure => simp [intOf]; omega
      | false =>
        have HO : Hid (∀ w, Calls Tryd.prog 46 #[.int .i64 z] w fun e w' => e = .returned (.bool true) ∧ w' = w) := Lib.hid fun w => by have := out_any w z; rw [hh] at this; exact this
        have HH := Lib.hid hh
        clear hh
        go_wp2_with (first | (go_at_call 46; refine (HO.out _).mono ?_; rintro e w' ⟨rfl, rfl⟩))
        go_ret
        refine ⟨_, rfl, ?_, rfl⟩
        rw [if_neg]
        · exact Int.natCast_nonneg i
        · intro h
          have := List.all_eq_true.1 h z (List.mem_of_getElem? HZ.out)
          rw [HH.out] at this
          cases this
    · go_wp2
      obtain rfl : i = zs.length := by omega
      go_ret
      refine ⟨_, rfl, ?_, rfl⟩
      have := HALL.out
      rw [List.take_length] at this
      rw [if_pos this]
set_option maxRecDepth 100000 in
set_option maxHeartbeats 400000 in
theorem contains_any (w : World) (g : Nat) (a b c : Int) (h0 : w.cell? ⟨g, 0, none⟩ = some (.int .i64 a)) (h1 : w.cell? ⟨g, 1, none⟩ = some (.int .i64 b)) (h2 : w.cell? ⟨g, 2, none⟩ = some (.int .i64 c)) :
    Calls Tryd.prog 45 #[.slice (some ⟨g, 0, none⟩) 3 3, .func (.func 46) #[] #[]] w fun e w' => e = .returned (.bool (!(half a && half b && half c))) ∧ w' = w := by
  have HI := Lib.hid (indexFunc_any w g 3 [a, b, c] (by simp) (fun i z hz => by
    match i, hz with
    | 0, hz => simp at hz; subst hz; exact h0
    | 1, hz => simp at hz; subst hz; exact h1
    | 2, hz => simp at hz; subst hz; exact h2
    | i + 3, hz => simp at hz))
  have ha : [a, b, c].all half = (half a && half b && half c) := by simp [Bool.and_assoc]
  have HA := Lib.hid ha
  clear h0 h1 h2 ha
  cases hh : (half a && half b && half c) with
  | true =>
    have HH := Lib.hid hh
    clear hh
    go_enter Tryd.func45, Tryd.ntmps45
    go_wp2_with (first | (go_at_call 55; refine Stop.out ?_))
    refine ⟨HI.out.mono ?_⟩
    rintro e w2 ⟨r, rfl, hr, rfl⟩
    rw [HA.out, HH.out, if_pos rfl] at hr
    subst hr
    go_wp2
    go_ret
    exact ⟨rfl, rfl⟩
  | false =>
    have HH := Lib.hid hh
    clear hh
    go_enter Tryd.func45, Tryd.ntmps45
    go_wp2_with (first | (go_at_call 55; refine Stop.out ?_))
    refine ⟨HI.out.mono ?_⟩
    rintro e w2 ⟨r, rfl, hr, rfl⟩
    rw [HA.out, HH.out, if_neg (by decide)] at hr
    have g1 : decide (0 ≤ r) = true := decide_eq_true hr
    clear hr
    go_wp2
    go_ret
    exact ⟨rfl, rfl⟩
set_option maxRecDepth 100000 in
set_option maxHeartbeats 400000 in
theorem operand_any (w : World) (g : Nat) (a b c : Int) (h0 : w.cell? ⟨g, 0, none⟩ = some (.int .i64 a)) (h1 : w.cell? ⟨g, 1, none⟩ = some (.int .i64 b)) (h2 : w.cell? ⟨g, 2, none⟩ = some (.int .i64 c)) :
    Calls Tryd.prog 31 #[.slice (some ⟨g, 0, none⟩) 3 3] w fun e w' => e = .returned (.bool (half a && half b && half c)) ∧ w' = w := by
  have HI := Lib.hid (contains_any w g a b c h0 h1 h2)
  clear h0 h1 h2
  cases hh : (half a && half b && half c) with
  | true =>
    rw [hh] at HI
    clear hh
    go_enter Tryd.func31, Tryd.ntmps31
    go_wp2_with (first | (go_at_call 45; refine HI.out.mono ?_; rintro e w2 ⟨rfl, rfl⟩))
    go_ret
    exact ⟨rfl, rfl⟩
  | false =>
    rw [hh] at HI
    clear hh
    go_enter Tryd.func31, Tryd.ntmps31
    go_wp2_with (first | (go_at_call 45; refine HI.out.mono ?_; rintro e w2 ⟨rfl, rfl⟩))
    go_ret
    exact ⟨rfl, rfl⟩
def InsAt (l : List (Int × Int × Int × Int)) (w : World) (v : Value) (wr : World) : Prop := ∃ i : Nat, v = .int .i64 i ∧ i ≤ l.length ∧ (l.take i).all insOk = true ∧ Keeps (fun _ => False) w wr
set_option maxRecDepth 100000 in
set_option maxHeartbeats 1600000 in
/-- may a function be written? -/
theorem right_fn {w : World} {S : Nat → Prop} {vc : Value} (f : Fnc) (hf : f.fine) (h : InsD w S vc f.code) (hS : ∀ x, S x → x < w.heap.size) :
    Calls Tryd.prog 21 #[f.val vc] w fun e w' => e = .returned (.bool (fnOk f)) ∧ Keeps (fun _ => False) w w' := by
  obtain ⟨nm, ar, sl, cd⟩ := f
  have HI := Lib.hid h
  have HS := Lib.hid hS
  have HF := Lib.hid hf
  obtain ⟨h0, a, cap, rfl, hc1, hc2, _⟩ := h
  simp only [Fnc.val]
  unfold maxLen at hc2
  unfold fnOk
  simp only at h0 hc1
  by_cases hk1 : ar < 0
  · have e : headOk ⟨nm, ar, sl, cd⟩ = false := decide_eq_false (by simp only; omega)
    rw [e]
    clear hf hS e
    go_enter Tryd.func21, Tryd.ntmps21
    go_wp2
    go_ret
    exact ⟨rfl, (Keeps.refl _ w).alloc _⟩
  by_cases hk2 : 1099511627776 < ar
  · have e : headOk ⟨nm, ar, sl, cd⟩ = false := decide_eq_false (by simp only; omega)
    rw [e]
    clear hf hS e
    go_enter Tryd.func21, Tryd.ntmps21
    go_wp2
    go_ret
    exact ⟨rfl, (Keeps.refl _ w).alloc _⟩
  by_cases hk3 : sl < 0
  · have e : headOk ⟨nm, ar, sl, cd⟩ = false := decide_eq_false (by simp only; omega)
    rw [e]
    clear hf hS e
    go_enter Tryd.func21, Tryd.ntmps21
    go_wp2
    go_ret
    exact ⟨rfl, (Keeps.refl _ w).alloc _⟩
  by_cases hk4 : 1099511627776 < sl
  · have e : headOk ⟨nm, ar, sl, cd⟩ = false := decide_eq_false (by simp only; omega)
    rw [e]
    clear hf hS e
    go_enter Tryd.func21, Tryd.ntmps21
    go_wp2
    go_ret
    exact ⟨rfl, (Keeps.refl _ w).alloc _⟩
  have e : headOk ⟨nm, ar, sl, cd⟩ = true := decide_eq_true (by simp only; omega)
  rw [e]
  clear hf hS e
  go_enter Tryd.func21, Tryd.ntmps21
  go_wp2
  go_loopw [26] (fun v wr => InsAt cd w v wr) (fun v _ => cd.length - (intOf v).toNat)
  case atStart => exact ⟨0, rfl, Nat.zero_le _, rfl, (Keeps.refl _ w).alloc _⟩
  case round =>
    obtain ⟨i, rfl, hi, hall, hk⟩ := hrel
    have HALL := Lib.hid hall
    have HK := Lib.hid hk
    clear hall
    by_cases hlt : i < cd.length
    · obtain ⟨p, hp⟩ : ∃ p, cd[i]? = some p := ⟨cd[i], by simp⟩
      obtain ⟨_, _, _, e, _, _, hel⟩ := HI.out.keeps hk fun _ _ h => h
      cases e
      obtain ⟨⟨⟨p1, p2⟩, ⟨a1, a2⟩, ⟨b1, b2⟩, c1, c2⟩, b, o, rfl, hSb, d0, d1, d2, d3⟩ := hel i p hp
      obtain ⟨op, pa, pb, pc⟩ := p
      simp only at p1 p2 a1 a2 b1 b2 c1 c2 d0 d1 d2 d3
      have hsz := hk.size
      have hbw : b < wr.heap.size := by have := HS.out b hSb; omega
      have HP := Lib.hid hp
      clear hk hp hel
      by_cases ho1 : op < 0
      · have HI2 : Hid (insOk (op, pa, pb, pc) = false) := Lib.hid (by unfold insOk; rw [decide_eq_false (by simp only; omega)]; rfl)
        have hno : cd.all insOk = false := by
          rw [Bool.eq_false_iff]
          intro hq
          have := List.all_eq_true.1 hq _ (List.mem_of_getElem? HP.out)
          rw [HI2.out] at this
          cases this
        have HNO := Lib.hid hno
        clear hno
        go_wp2
        go_ret
        exact ⟨by rw [HNO.out]; rfl, by first | exact HK.out.alloc _ | exact (HK.out.alloc _).alloc _⟩
      by_cases ho2 : 255 < op
      · have HI2 : Hid (insOk (op, pa, pb, pc) = false) := Lib.hid (by unfold insOk; rw [decide_eq_false (by simp only; omega)]; rfl)
        have hno : cd.all insOk = false := by
          rw [Bool.eq_false_iff]
          intro hq
          have := List.all_eq_true.1 hq _ (List.mem_of_getElem? HP.out)
          rw [HI2.out] at this
          cases this
        have HNO := Lib.hid hno
        clear hno
        go_wp2
        go_ret
        exact ⟨by rw [HNO.out]; rfl, by first | exact HK.out.alloc _ | exact (HK.out.alloc _).alloc _⟩
      have HOP : Hid (∀ o2, Calls Tryd.prog 31 #[.slice (some ⟨wr.heap.size + 1, 0, none⟩) 3 3] ((wr.alloc o2).alloc (.cells #[.int .i64 pa, .int .i64 pb, .int .i64 pc] 3)) fun e w' => e = .returned (.bool (half pa && half pb && half pc)) ∧ w' = (wr.alloc o2).alloc (.cells #[.int .i64 pa, .int .i64 pb, .int .i64 pc] 3)) := Lib.hid fun o2 => by
        have hb := Blk.new (wr.alloc o2) [.int .i64 pa, .int .i64 pb, .int .i64 pc] 3
        rw [World.size_alloc] at hb
        exact operand_any _ _ pa pb pc (hb.cell (i := 0) rfl) (hb.cell (i := 1) rfl) (hb.cell (i := 2) rfl)
      cases hh : (half pa && half pb && half pc) with
      | false =>
        have HI2 : Hid (insOk (op, pa, pb, pc) = false) := Lib.hid (by rw [insOk_eq, hh]; simp)
        rw [hh] at HOP
        clear hh
        have hno : cd.all insOk = false := by
          rw [Bool.eq_false_iff]
          intro hq
          have := List.all_eq_true.1 hq _ (List.mem_of_getElem? HP.out)
          rw [HI2.out] at this
          cases this
        have HNO := Lib.hid hno
        clear hno
        go_wp2_with (first | (go_at_call 31; refine (HOP.out _).mono ?_; rintro e w4 ⟨rfl, rfl⟩))
        go_ret
        exact ⟨by rw [HNO.out]; rfl, by first | exact HK.out.alloc _ | exact (HK.out.alloc _).alloc _⟩
      | true =>
        have HI2 : Hid (insOk (op, pa, pb, pc) = true) := Lib.hid (by rw [insOk_eq, hh, decide_eq_true (by omega)]; rfl)
        rw [hh] at HOP
        clear hh
        go_wp2_with (first | (go_at_call 31; refine (HOP.out _).mono ?_; rintro e w4 ⟨rfl, rfl⟩))
        refine ⟨⟨i + 1, by go_num, by omega, ?_, (HK.out.alloc _).alloc _⟩, by simp [intOf]; omega⟩
        rw [List.take_add_one, HP.out, List.all_append, HALL.out]
        simp [HI2.out]
    · go_wp2
      obtain rfl : i = cd.length := by omega
      go_ret
      have := HALL.out
      rw [List.take_length] at this
      exact ⟨by simp [this], HK.out⟩
end Go.Proofs.YtgmieehheoknbaaDoor
end
section
/-
  A term's bytes: what the Go code does (code.term), at terms without parts.
-/
namespace Go.Proofs.YtgmieehheoknbaaDoor
open Go.RowKit Go.Tx
theorem sign_any {w : World} {v : Value} {l : List UInt8} (x : Int) (h0 : -9223372036854775808 ≤ x) (h1 : x ≤ 9223372036854775807) (h : Bytes w v l) (hl : l.length ≤ 70368744177664) :
    Calls Tryd.prog 22 #[v, .int .i64 x] w (AppPost l (encS x) v w) := by
  by_cases hx : x < 0
  · exact sign_neg x hx h0 h hl
  · exact sign_pos x (by omega) h1 h hl
set_option maxRecDepth 100000 in
set_option maxHeartbeats 800000 in
theorem term_k1 {w : World} {v u : Value} {l : List UInt8} {S : Nat → Prop} {d : Nat} (n : Int) (s bs : ByteArray) (is rs : List Tm) (h : Bytes w v l) (ht : TmD w S d u (.mk 1 n s is rs bs)) (hS : ∀ x, S x → x < w.heap.size) (hvS : ∀ g, v.ownBlock = some g → ¬ S g) (hl : l.length + (encT (.mk 1 n s is rs bs)).length ≤ 70368744177000) :
    Calls Tryd.prog 20 #[v, u] w (AppPost l (encT (.mk 1 n s is rs bs)) v w) := by
  obtain ⟨d, rfl⟩ : ∃ e, d = e + 1 := by
    cases d with
    | zero => exact ht.elim
    | succ e => exact ⟨e, rfl⟩
  obtain ⟨y3, y4, y5, rfl, hf, hn, h3, h4, h5⟩ := ht
  obtain ⟨ai, ci, rfl⟩ := h3.form
  obtain ⟨ar, cr, rfl⟩ := h4.form
  obtain ⟨ab, cb, rfl⟩ := h5.form
  have H5 := Lib.hid h5
  have HF := Lib.hid hf
  have HL := Lib.hid hl
  have HVS := Lib.hid hvS
  have hll : l.length ≤ 70368744177000 := by omega
  have hvlt : ∀ g, v.ownBlock = some g → g < w.heap.size := fun g hg => Row.lt h hg
  have HVL := Lib.hid hvlt
  have H := Lib.hid h
  obtain ⟨a, c, rfl⟩ := h.form
  simp only [Tm.val, Tm.kind, Tm.n, Tm.name, Tm.items, Tm.rest, Tm.bytes] at *
  clear h h3 h4 h5 hf hvS hvlt hl hn
  go_enter Tryd.func20, Tryd.ntmps20
  go_wp2_with (first | (at_builtin; refine Stop.out ?_))
  refine ⟨?_⟩
  refine wpList_append_row _ rfl _ _ 26 26 rfl 5 (.slice 5) 1 1 (.int .u8 0) info_u8 Tryd.underlying26 Tryd.underlying26 (by intro k h; cases h) rfl (.slice a l.length c) l.length (byteV l) rfl (H.out.still (((Keeps.refl _ w).alloc _).alloc _)) _ 1 [.int .u8 1] rfl rfl (lenOf_slice _ _ _) (firstCells_at _ rfl (cells_newAt (by first | rfl | rw [World.size_alloc]))) (by intro u hu; simp at hu; subst hu; rfl) (by unfold maxLen; omega) (by omega) ?_
  intro v' w4 ha
  obtain ⟨va, vc, rfl, _, _⟩ := ha.row.len
  have hk4 : Keeps (Own (.slice a l.length c)) w w4 := (((Keeps.refl _ w).alloc _).alloc _).trans ha.keeps fun _ _ h => h
  have hb4 : Blk w4 w.heap.size 46 [.int .i64 1, .int .i64 n, .string s, .slice ai is.length ci, .slice ar rs.length cr, .slice ab bs.size cb] := ((Blk.new w _ _).alloc _).keeps ha.keeps fun h => by have := HVL.out _ h; omega
  have d0 : w4.cell? ⟨w.heap.size, 0, none⟩ = some (.int .i64 1) := hb4.cell (i := 0) rfl
  have d1 : w4.cell? ⟨w.heap.size, 1, none⟩ = some (.int .i64 n) := hb4.cell (i := 1) rfl
  have d2 : w4.cell? ⟨w.heap.size, 2, none⟩ = some (.string s) := hb4.cell (i := 2) rfl
  have d5 : w4.cell? ⟨w.heap.size, 5, none⟩ = some (.slice ab bs.size cb) := hb4.cell (i := 5) rfl
  have hbq : Bytes w4 (.slice va (l.length + 1) vc) (l ++ [UInt8.ofNat 1]) := Bytes.push ha rfl rfl
  have hg4 : Grown w w4 (.slice a l.length c) (.slice va (l.length + 1) vc) := (Grown.of ha).ahead (((Keeps.refl _ w).alloc _).alloc _)
  obtain ⟨q, hq⟩ : ∃ q, q = l ++ [UInt8.ofNat 1] := ⟨_, rfl⟩
  have hql : l.length + 1 = q.length := by rw [hq]; simp
  rw [← hq, hql] at hbq
  rw [hql] at hg4
  rw [hql]
  have HB := Lib.hid hbq
  have HG := Lib.hid hg4
  have HQ := Lib.hid hq
  have hq2 : q.length ≤ 70368744177001 := by omega
  have hq3 : q.length ≤ l.length + 1 := by omega
  clear ha hk4 hb4 hbq hg4 hq hql
  go_wp2_with (first | (go_at_call 22; refine Stop.out ?_))
  refine ⟨(sign_any n HF.out.n1 HF.out.n2 HB.out (by omega)).mono ?_⟩
  rintro e w5 ⟨v5, q5, rfl, hq5, hb5, hg5⟩
  have HB5 := Lib.hid hb5
  have HG5 := Lib.hid hg5
  have HQ5 := Lib.hid hq5
  clear hb5 hg5 hq5
  go_wp2
  go_ret
  refine ⟨_, q5, rfl, ?_, HB5.out, HG.out.trans HG5.out⟩
  rw [HQ5.out, HQ.out, encT]
  simp
set_option maxRecDepth 100000 in
set_option maxHeartbeats 800000 in
theorem term_k3 {w : World} {v u : Value} {l : List UInt8} {S : Nat → Prop} {d : Nat} (n : Int) (s bs : ByteArray) (is rs : List Tm) (h : Bytes w v l) (ht : TmD w S d u (.mk 3 n s is rs bs)) (hS : ∀ x, S x → x < w.heap.size) (hvS : ∀ g, v.ownBlock = some g → ¬ S g) (hl : l.length + (encT (.mk 3 n s is rs bs)).length ≤ 70368744177000) :
    Calls Tryd.prog 20 #[v, u] w (AppPost l (encT (.mk 3 n s is rs bs)) v w) := by
  obtain ⟨d, rfl⟩ : ∃ e, d = e + 1 := by
    cases d with
    | zero => exact ht.elim
    | succ e => exact ⟨e, rfl⟩
  obtain ⟨y3, y4, y5, rfl, hf, hn, h3, h4, h5⟩ := ht
  obtain ⟨ai, ci, rfl⟩ := h3.form
  obtain ⟨ar, cr, rfl⟩ := h4.form
  obtain ⟨ab, cb, rfl⟩ := h5.form
  have H5 := Lib.hid h5
  have HF := Lib.hid hf
  have HL := Lib.hid hl
  have HVS := Lib.hid hvS
  have hll : l.length ≤ 70368744177000 := by omega
  have hvlt : ∀ g, v.ownBlock = some g → g < w.heap.size := fun g hg => Row.lt h hg
  have HVL := Lib.hid hvlt
  have H := Lib.hid h
  obtain ⟨a, c, rfl⟩ := h.form
  simp only [Tm.val, Tm.kind, Tm.n, Tm.name, Tm.items, Tm.rest, Tm.bytes] at *
  clear h h3 h4 h5 hf hvS hvlt hl hn
  go_enter Tryd.func20, Tryd.ntmps20
  go_wp2_with (first | (at_builtin; refine Stop.out ?_))
  refine ⟨?_⟩
  refine wpList_append_row _ rfl _ _ 26 26 rfl 5 (.slice 5) 1 1 (.int .u8 0) info_u8 Tryd.underlying26 Tryd.underlying26 (by intro k h; cases h) rfl (.slice a l.length c) l.length (byteV l) rfl (H.out.still (((Keeps.refl _ w).alloc _).alloc _)) _ 1 [.int .u8 3] rfl rfl (lenOf_slice _ _ _) (firstCells_at _ rfl (cells_newAt (by first | rfl | rw [World.size_alloc]))) (by intro u hu; simp at hu; subst hu; rfl) (by unfold maxLen; omega) (by omega) ?_
  intro v' w4 ha
  obtain ⟨va, vc, rfl, _, _⟩ := ha.row.len
  have hk4 : Keeps (Own (.slice a l.length c)) w w4 := (((Keeps.refl _ w).alloc _).alloc _).trans ha.keeps fun _ _ h => h
  have hb4 : Blk w4 w.heap.size 46 [.int .i64 3, .int .i64 n, .string s, .slice ai is.length ci, .slice ar rs.length cr, .slice ab bs.size cb] := ((Blk.new w _ _).alloc _).keeps ha.keeps fun h => by have := HVL.out _ h; omega
  have d0 : w4.cell? ⟨w.heap.size, 0, none⟩ = some (.int .i64 3) := hb4.cell (i := 0) rfl
  have d1 : w4.cell? ⟨w.heap.size, 1, none⟩ = some (.int .i64 n) := hb4.cell (i := 1) rfl
  have d2 : w4.cell? ⟨w.heap.size, 2, none⟩ = some (.string s) := hb4.cell (i := 2) rfl
  have d5 : w4.cell? ⟨w.heap.size, 5, none⟩ = some (.slice ab bs.size cb) := hb4.cell (i := 5) rfl
  have hbq : Bytes w4 (.slice va (l.length + 1) vc) (l ++ [UInt8.ofNat 3]) := Bytes.push ha rfl rfl
  have hg4 : Grown w w4 (.slice a l.length c) (.slice va (l.length + 1) vc) := (Grown.of ha).ahead (((Keeps.refl _ w).alloc _).alloc _)
  obtain ⟨q, hq⟩ : ∃ q, q = l ++ [UInt8.ofNat 3] := ⟨_, rfl⟩
  have hql : l.length + 1 = q.length := by rw [hq]; simp
  rw [← hq, hql] at hbq
  rw [hql] at hg4
  rw [hql]
  have HB := Lib.hid hbq
  have HG := Lib.hid hg4
  have HQ := Lib.hid hq
  have hq2 : q.length ≤ 70368744177001 := by omega
  have hq3 : q.length ≤ l.length + 1 := by omega
  clear ha hk4 hb4 hbq hg4 hq hql
  go_wp2_with (first | (go_at_call 22; refine Stop.out ?_))
  refine ⟨(sign_any n HF.out.n1 HF.out.n2 HB.out (by omega)).mono ?_⟩
  rintro e w5 ⟨v5, q5, rfl, hq5, hb5, hg5⟩
  have HB5 := Lib.hid hb5
  have HG5 := Lib.hid hg5
  have HQ5 := Lib.hid hq5
  clear hb5 hg5 hq5
  go_wp2
  go_ret
  refine ⟨_, q5, rfl, ?_, HB5.out, HG.out.trans HG5.out⟩
  rw [HQ5.out, HQ.out, encT]
  simp
set_option maxRecDepth 100000 in
set_option maxHeartbeats 800000 in
theorem term_k4 {w : World} {v u : Value} {l : List UInt8} {S : Nat → Prop} {d : Nat} (n : Int) (s bs : ByteArray) (is rs : List Tm) (h : Bytes w v l) (ht : TmD w S d u (.mk 4 n s is rs bs)) (hS : ∀ x, S x → x < w.heap.size) (hvS : ∀ g, v.ownBlock = some g → ¬ S g) (hl : l.length + (encT (.mk 4 n s is rs bs)).length ≤ 70368744177000) :
    Calls Tryd.prog 20 #[v, u] w (AppPost l (encT (.mk 4 n s is rs bs)) v w) := by
  obtain ⟨d, rfl⟩ : ∃ e, d = e + 1 := by
    cases d with
    | zero => exact ht.elim
    | succ e => exact ⟨e, rfl⟩
  obtain ⟨y3, y4, y5, rfl, hf, hn, h3, h4, h5⟩ := ht
  obtain ⟨ai, ci, rfl⟩ := h3.form
  obtain ⟨ar, cr, rfl⟩ := h4.form
  obtain ⟨ab, cb, rfl⟩ := h5.form
  have H5 := Lib.hid h5
  have HF := Lib.hid hf
  have HL := Lib.hid hl
  have HVS := Lib.hid hvS
  have hll : l.length ≤ 70368744177000 := by omega
  have hvlt : ∀ g, v.ownBlock = some g → g < w.heap.size := fun g hg => Row.lt h hg
  have HVL := Lib.hid hvlt
  have H := Lib.hid h
  obtain ⟨a, c, rfl⟩ := h.form
  simp only [Tm.val, Tm.kind, Tm.n, Tm.name, Tm.items, Tm.rest, Tm.bytes] at *
  clear h h3 h4 h5 hf hvS hvlt hl hn
  go_enter Tryd.func20, Tryd.ntmps20
  go_wp2_with (first | (at_builtin; refine Stop.out ?_))
  refine ⟨?_⟩
  refine wpList_append_row _ rfl _ _ 26 26 rfl 5 (.slice 5) 1 1 (.int .u8 0) info_u8 Tryd.underlying26 Tryd.underlying26 (by intro k h; cases h) rfl (.slice a l.length c) l.length (byteV l) rfl (H.out.still (((Keeps.refl _ w).alloc _).alloc _)) _ 1 [.int .u8 4] rfl rfl (lenOf_slice _ _ _) (firstCells_at _ rfl (cells_newAt (by first | rfl | rw [World.size_alloc]))) (by intro u hu; simp at hu; subst hu; rfl) (by unfold maxLen; omega) (by omega) ?_
  intro v' w4 ha
  obtain ⟨va, vc, rfl, _, _⟩ := ha.row.len
  have hk4 : Keeps (Own (.slice a l.length c)) w w4 := (((Keeps.refl _ w).alloc _).alloc _).trans ha.keeps fun _ _ h => h
  have hb4 : Blk w4 w.heap.size 46 [.int .i64 4, .int .i64 n, .string s, .slice ai is.length ci, .slice ar rs.length cr, .slice ab bs.size cb] := ((Blk.new w _ _).alloc _).keeps ha.keeps fun h => by have := HVL.out _ h; omega
  have d0 : w4.cell? ⟨w.heap.size, 0, none⟩ = some (.int .i64 4) := hb4.cell (i := 0) rfl
  have d1 : w4.cell? ⟨w.heap.size, 1, none⟩ = some (.int .i64 n) := hb4.cell (i := 1) rfl
  have d2 : w4.cell? ⟨w.heap.size, 2, none⟩ = some (.string s) := hb4.cell (i := 2) rfl
  have d5 : w4.cell? ⟨w.heap.size, 5, none⟩ = some (.slice ab bs.size cb) := hb4.cell (i := 5) rfl
  have hbq : Bytes w4 (.slice va (l.length + 1) vc) (l ++ [UInt8.ofNat 4]) := Bytes.push ha rfl rfl
  have hg4 : Grown w w4 (.slice a l.length c) (.slice va (l.length + 1) vc) := (Grown.of ha).ahead (((Keeps.refl _ w).alloc _).alloc _)
  obtain ⟨q, hq⟩ : ∃ q, q = l ++ [UInt8.ofNat 4] := ⟨_, rfl⟩
  have hql : l.length + 1 = q.length := by rw [hq]; simp
  rw [← hq, hql] at hbq
  rw [hql] at hg4
  rw [hql]
  have HB := Lib.hid hbq
  have HG := Lib.hid hg4
  have HQ := Lib.hid hq
  have hq2 : q.length ≤ 70368744177001 := by omega
  have hq3 : q.length ≤ l.length + 1 := by omega
  clear ha hk4 hb4 hbq hg4 hq hql
  go_wp2_with (first | (go_at_call 22; refine Stop.out ?_))
  refine ⟨(sign_any n HF.out.n1 HF.out.n2 HB.out (by omega)).mono ?_⟩
  rintro e w5 ⟨v5, q5, rfl, hq5, hb5, hg5⟩
  have HB5 := Lib.hid hb5
  have HG5 := Lib.hid hg5
  have HQ5 := Lib.hid hq5
  clear hb5 hg5 hq5
  go_wp2
  go_ret
  refine ⟨_, q5, rfl, ?_, HB5.out, HG.out.trans HG5.out⟩
  rw [HQ5.out, HQ.out, encT]
  simp
set_option maxRecDepth 100000 in
set_option maxHeartbeats 800000 in
theorem term_k2 {w : World} {v u : Value} {l : List UInt8} {S : Nat → Prop} {d : Nat} (n : Int) (s bs : ByteArray) (is rs : List Tm) (h : Bytes w v l) (ht : TmD w S d u (.mk 2 n s is rs bs)) (hS : ∀ x, S x → x < w.heap.size) (hvS : ∀ g, v.ownBlock = some g → ¬ S g) (hl : l.length + (encT (.mk 2 n s is rs bs)).length ≤ 70368744177000) :
    Calls Tryd.prog 20 #[v, u] w (AppPost l (encT (.mk 2 n s is rs bs)) v w) := by
  obtain ⟨d, rfl⟩ : ∃ e, d = e + 1 := by
    cases d with
    | zero => exact ht.elim
    | succ e => exact ⟨e, rfl⟩
  obtain ⟨y3, y4, y5, rfl, hf, hn, h3, h4, h5⟩ := ht
  obtain ⟨ai, ci, rfl⟩ := h3.form
  obtain ⟨ar, cr, rfl⟩ := h4.form
  obtain ⟨ab, cb, rfl⟩ := h5.form
  have H5 := Lib.hid h5
  have HF := Lib.hid hf
  have HL := Lib.hid hl
  have HVS := Lib.hid hvS
  have hll : l.length ≤ 70368744177000 := by omega
  have hvlt : ∀ g, v.ownBlock = some g → g < w.heap.size := fun g hg => Row.lt h hg
  have HVL := Lib.hid hvlt
  have H := Lib.hid h
  obtain ⟨a, c, rfl⟩ := h.form
  simp only [Tm.val, Tm.kind, Tm.n, Tm.name, Tm.items, Tm.rest, Tm.bytes] at *
  clear h h3 h4 h5 hf hvS hvlt hl hn
  go_enter Tryd.func20, Tryd.ntmps20
  go_wp2_with (first | (at_builtin; refine Stop.out ?_))
  refine ⟨?_⟩
  refine wpList_append_row _ rfl _ _ 26 26 rfl 5 (.slice 5) 1 1 (.int .u8 0) info_u8 Tryd.underlying26 Tryd.underlying26 (by intro k h; cases h) rfl (.slice a l.length c) l.length (byteV l) rfl (H.out.still (((Keeps.refl _ w).alloc _).alloc _)) _ 1 [.int .u8 2] rfl rfl (lenOf_slice _ _ _) (firstCells_at _ rfl (cells_newAt (by first | rfl | rw [World.size_alloc]))) (by intro u hu; simp at hu; subst hu; rfl) (by unfold maxLen; omega) (by omega) ?_
  intro v' w4 ha
  obtain ⟨va, vc, rfl, _, _⟩ := ha.row.len
  have hk4 : Keeps (Own (.slice a l.length c)) w w4 := (((Keeps.refl _ w).alloc _).alloc _).trans ha.keeps fun _ _ h => h
  have hb4 : Blk w4 w.heap.size 46 [.int .i64 2, .int .i64 n, .string s, .slice ai is.length ci, .slice ar rs.length cr, .slice ab bs.size cb] := ((Blk.new w _ _).alloc _).keeps ha.keeps fun h => by have := HVL.out _ h; omega
  have d0 : w4.cell? ⟨w.heap.size, 0, none⟩ = some (.int .i64 2) := hb4.cell (i := 0) rfl
  have d1 : w4.cell? ⟨w.heap.size, 1, none⟩ = some (.int .i64 n) := hb4.cell (i := 1) rfl
  have d2 : w4.cell? ⟨w.heap.size, 2, none⟩ = some (.string s) := hb4.cell (i := 2) rfl
  have d5 : w4.cell? ⟨w.heap.size, 5, none⟩ = some (.slice ab bs.size cb) := hb4.cell (i := 5) rfl
  have hbq : Bytes w4 (.slice va (l.length + 1) vc) (l ++ [UInt8.ofNat 2]) := Bytes.push ha rfl rfl
  have hg4 : Grown w w4 (.slice a l.length c) (.slice va (l.length + 1) vc) := (Grown.of ha).ahead (((Keeps.refl _ w).alloc _).alloc _)
  obtain ⟨q, hq⟩ : ∃ q, q = l ++ [UInt8.ofNat 2] := ⟨_, rfl⟩
  have hql : l.length + 1 = q.length := by rw [hq]; simp
  rw [← hq, hql] at hbq
  rw [hql] at hg4
  rw [hql]
  have HB := Lib.hid hbq
  have HG := Lib.hid hg4
  have HQ := Lib.hid hq
  have hq2 : q.length ≤ 70368744177001 := by omega
  have hq3 : q.length ≤ l.length + 1 := by omega
  have hls : l.length + s.size + 1 ≤ 70368744177000 := by
    have := HL.out
    rw [encT, List.length_cons, if_neg (by decide), if_pos rfl, encB, List.length_append, Array.length_toList (xs := s.data)] at this
    have hs : s.data.size = s.size := rfl
    omega
  clear ha hk4 hb4 hbq hg4 hq hql
  go_wp2_with (first | (go_at_call 17; refine Stop.out ?_))
  refine ⟨(text_any s (by omega) HB.out (by omega) (by omega)).mono ?_⟩
  rintro e w5 ⟨v5, q5, rfl, hq5, hb5, hg5⟩
  have HB5 := Lib.hid hb5
  have HG5 := Lib.hid hg5
  have HQ5 := Lib.hid hq5
  clear hb5 hg5 hq5
  go_wp2
  go_ret
  refine ⟨_, q5, rfl, ?_, HB5.out, HG.out.trans HG5.out⟩
  rw [HQ5.out, HQ.out, encT]
  simp
set_option maxRecDepth 100000 in
set_option maxHeartbeats 800000 in
theorem term_k8 {w : World} {v u : Value} {l : List UInt8} {S : Nat → Prop} {d : Nat} (n : Int) (s bs : ByteArray) (is rs : List Tm) (h : Bytes w v l) (ht : TmD w S d u (.mk 8 n s is rs bs)) (hS : ∀ x, S x → x < w.heap.size) (hvS : ∀ g, v.ownBlock = some g → ¬ S g) (hl : l.length + (encT (.mk 8 n s is rs bs)).length ≤ 70368744177000) :
    Calls Tryd.prog 20 #[v, u] w (AppPost l (encT (.mk 8 n s is rs bs)) v w) := by
  obtain ⟨d, rfl⟩ : ∃ e, d = e + 1 := by
    cases d with
    | zero => exact ht.elim
    | succ e => exact ⟨e, rfl⟩
  obtain ⟨y3, y4, y5, rfl, hf, hn, h3, h4, h5⟩ := ht
  obtain ⟨ai, ci, rfl⟩ := h3.form
  obtain ⟨ar, cr, rfl⟩ := h4.form
  obtain ⟨ab, cb, rfl⟩ := h5.form
  have H5 := Lib.hid h5
  have HF := Lib.hid hf
  have HL := Lib.hid hl
  have HVS := Lib.hid hvS
  have hll : l.length ≤ 70368744177000 := by omega
  have hvlt : ∀ g, v.ownBlock = some g → g < w.heap.size := fun g hg => Row.lt h hg
  have HVL := Lib.hid hvlt
  have H := Lib.hid h
  obtain ⟨a, c, rfl⟩ := h.form
  simp only [Tm.val, Tm.kind, Tm.n, Tm.name, Tm.items, Tm.rest, Tm.bytes] at *
  clear h h3 h4 h5 hf hvS hvlt hl hn
  go_enter Tryd.func20, Tryd.ntmps20
  go_wp2_with (first | (at_builtin; refine Stop.out ?_))
  refine ⟨?_⟩
  refine wpList_append_row _ rfl _ _ 26 26 rfl 5 (.slice 5) 1 1 (.int .u8 0) info_u8 Tryd.underlying26 Tryd.underlying26 (by intro k h; cases h) rfl (.slice a l.length c) l.length (byteV l) rfl (H.out.still (((Keeps.refl _ w).alloc _).alloc _)) _ 1 [.int .u8 8] rfl rfl (lenOf_slice _ _ _) (firstCells_at _ rfl (cells_newAt (by first | rfl | rw [World.size_alloc]))) (by intro u hu; simp at hu; subst hu; rfl) (by unfold maxLen; omega) (by omega) ?_
  intro v' w4 ha
  obtain ⟨va, vc, rfl, _, _⟩ := ha.row.len
  have hk4 : Keeps (Own (.slice a l.length c)) w w4 := (((Keeps.refl _ w).alloc _).alloc _).trans ha.keeps fun _ _ h => h
  have hb4 : Blk w4 w.heap.size 46 [.int .i64 8, .int .i64 n, .string s, .slice ai is.length ci, .slice ar rs.length cr, .slice ab bs.size cb] := ((Blk.new w _ _).alloc _).keeps ha.keeps fun h => by have := HVL.out _ h; omega
  have d0 : w4.cell? ⟨w.heap.size, 0, none⟩ = some (.int .i64 8) := hb4.cell (i := 0) rfl
  have d1 : w4.cell? ⟨w.heap.size, 1, none⟩ = some (.int .i64 n) := hb4.cell (i := 1) rfl
  have d2 : w4.cell? ⟨w.heap.size, 2, none⟩ = some (.string s) := hb4.cell (i := 2) rfl
  have d5 : w4.cell? ⟨w.heap.size, 5, none⟩ = some (.slice ab bs.size cb) := hb4.cell (i := 5) rfl
  have hbq : Bytes w4 (.slice va (l.length + 1) vc) (l ++ [UInt8.ofNat 8]) := Bytes.push ha rfl rfl
  have hg4 : Grown w w4 (.slice a l.length c) (.slice va (l.length + 1) vc) := (Grown.of ha).ahead (((Keeps.refl _ w).alloc _).alloc _)
  obtain ⟨q, hq⟩ : ∃ q, q = l ++ [UInt8.ofNat 8] := ⟨_, rfl⟩
  have hql : l.length + 1 = q.length := by rw [hq]; simp
  rw [← hq, hql] at hbq
  rw [hql] at hg4
  rw [hql]
  have HB := Lib.hid hbq
  have HG := Lib.hid hg4
  have HQ := Lib.hid hq
  have hq2 : q.length ≤ 70368744177001 := by omega
  have hq3 : q.length ≤ l.length + 1 := by omega
  have hls : l.length + bs.size + 1 ≤ 70368744177000 := by
    have := HL.out
    rw [encT, List.length_cons, if_neg (by decide), if_neg (by decide), if_pos rfl, encB, List.length_append, Array.length_toList (xs := bs.data)] at this
    have hs : bs.data.size = bs.size := rfl
    omega
  have kc : (convert 26 9 (.slice ab bs.size cb)).run Tryd.prog w4 = .ok (.string bs) w4 := conv_bytes bs Tryd.underlying26 Tryd.underlying5 Tryd.underlying9 rfl fun hp => by
    obtain ⟨_, a', cap', e, _, _, hc⟩ := H5.out.keeps hk4 fun g hg he => HVS.out g he hg
    cases e
    obtain ⟨b, o, e, _, hcell⟩ := hc hp
    exact ⟨b, o, e, hcell⟩
  clear ha hk4 hb4 hbq hg4 hq hql
  go_wp2_with (first | (go_at_call 17; refine Stop.out ?_))
  refine ⟨(text_any bs (by omega) HB.out (by omega) (by omega)).mono ?_⟩
  rintro e w5 ⟨v5, q5, rfl, hq5, hb5, hg5⟩
  have HB5 := Lib.hid hb5
  have HG5 := Lib.hid hg5
  have HQ5 := Lib.hid hq5
  clear hb5 hg5 hq5
  go_wp2
  go_ret
  refine ⟨_, q5, rfl, ?_, HB5.out, HG.out.trans HG5.out⟩
  rw [HQ5.out, HQ.out, encT]
  simp
set_option maxRecDepth 100000 in
set_option maxHeartbeats 800000 in
theorem term_k6 {w : World} {v u : Value} {l : List UInt8} {S : Nat → Prop} {d : Nat} (n : Int) (s bs : ByteArray) (is rs : List Tm) (h : Bytes w v l) (ht : TmD w S d u (.mk 6 n s is rs bs)) (hS : ∀ x, S x → x < w.heap.size) (hvS : ∀ g, v.ownBlock = some g → ¬ S g) (hl : l.length + (encT (.mk 6 n s is rs bs)).length ≤ 70368744177000) :
    Calls Tryd.prog 20 #[v, u] w (AppPost l (encT (.mk 6 n s is rs bs)) v w) := by
  obtain ⟨d, rfl⟩ : ∃ e, d = e + 1 := by
    cases d with
    | zero => exact ht.elim
    | succ e => exact ⟨e, rfl⟩
  obtain ⟨y3, y4, y5, rfl, hf, hn, h3, h4, h5⟩ := ht
  obtain ⟨ai, ci, rfl⟩ := h3.form
  obtain ⟨ar, cr, rfl⟩ := h4.form
  obtain ⟨ab, cb, rfl⟩ := h5.form
  have H5 := Lib.hid h5
  have HF := Lib.hid hf
  have HL := Lib.hid hl
  have HVS := Lib.hid hvS
  have hll : l.length ≤ 70368744177000 := by omega
  have hvlt : ∀ g, v.ownBlock = some g → g < w.heap.size := fun g hg => Row.lt h hg
  have HVL := Lib.hid hvlt
  have H := Lib.hid h
  obtain ⟨a, c, rfl⟩ := h.form
  simp only [Tm.val, Tm.kind, Tm.n, Tm.name, Tm.items, Tm.rest, Tm.bytes] at *
  clear h h3 h4 h5 hf hvS hvlt hl hn
  go_enter Tryd.func20, Tryd.ntmps20
  go_wp2_with (first | (at_builtin; refine Stop.out ?_))
  refine ⟨?_⟩
  refine wpList_append_row _ rfl _ _ 26 26 rfl 5 (.slice 5) 1 1 (.int .u8 0) info_u8 Tryd.underlying26 Tryd.underlying26 (by intro k h; cases h) rfl (.slice a l.length c) l.length (byteV l) rfl (H.out.still (((Keeps.refl _ w).alloc _).alloc _)) _ 1 [.int .u8 6] rfl rfl (lenOf_slice _ _ _) (firstCells_at _ rfl (cells_newAt (by first | rfl | rw [World.size_alloc]))) (by intro u hu; simp at hu; subst hu; rfl) (by unfold maxLen; omega) (by omega) ?_
  intro v' w4 ha
  obtain ⟨va, vc, rfl, _, _⟩ := ha.row.len
  have hk4 : Keeps (Own (.slice a l.length c)) w w4 := (((Keeps.refl _ w).alloc _).alloc _).trans ha.keeps fun _ _ h => h
  have hb4 : Blk w4 w.heap.size 46 [.int .i64 6, .int .i64 n, .string s, .slice ai is.length ci, .slice ar rs.length cr, .slice ab bs.size cb] := ((Blk.new w _ _).alloc _).keeps ha.keeps fun h => by have := HVL.out _ h; omega
  have d0 : w4.cell? ⟨w.heap.size, 0, none⟩ = some (.int .i64 6) := hb4.cell (i := 0) rfl
  have d1 : w4.cell? ⟨w.heap.size, 1, none⟩ = some (.int .i64 n) := hb4.cell (i := 1) rfl
  have d2 : w4.cell? ⟨w.heap.size, 2, none⟩ = some (.string s) := hb4.cell (i := 2) rfl
  have d5 : w4.cell? ⟨w.heap.size, 5, none⟩ = some (.slice ab bs.size cb) := hb4.cell (i := 5) rfl
  have hbq : Bytes w4 (.slice va (l.length + 1) vc) (l ++ [UInt8.ofNat 6]) := Bytes.push ha rfl rfl
  have hg4 : Grown w w4 (.slice a l.length c) (.slice va (l.length + 1) vc) := (Grown.of ha).ahead (((Keeps.refl _ w).alloc _).alloc _)
  obtain ⟨q, hq⟩ : ∃ q, q = l ++ [UInt8.ofNat 6] := ⟨_, rfl⟩
  have hql : l.length + 1 = q.length := by rw [hq]; simp
  rw [← hq, hql] at hbq
  rw [hql] at hg4
  rw [hql]
  have HB := Lib.hid hbq
  have HG := Lib.hid hg4
  have HQ := Lib.hid hq
  have hq2 : q.length ≤ 70368744177001 := by omega
  have hq3 : q.length ≤ l.length + 1 := by omega
  clear ha hk4 hb4 hbq hg4 hq hql
  go_wp2
  go_ret
  refine ⟨_, q, rfl, ?_, HB.out, HG.out⟩
  rw [HQ.out, encT]
  simp
end Go.Proofs.YtgmieehheoknbaaDoor
end
section
/-
  A term's bytes: what the Go code does (code.term), at terms with parts.
-/
namespace Go.Tx
open Go Go.RowKit
/-- so many parts are written -/
def ItemsAt (l0 : List UInt8) (is : List Tm) (w0 : World) (v0 : Value) (b c : Value) (wr : World) : Prop :=
  ∃ (i : Nat) (q : List UInt8), c = .int .i64 i ∧ i ≤ is.length ∧ q = l0 ++ encTs (is.take i) ∧ Bytes wr b q ∧ Grown w0 wr v0 b
end Go.Tx
namespace Go.Proofs.YtgmieehheoknbaaDoor
open Go.RowKit Go.Tx
def EncSpec (d : Nat) : Prop := ∀ (w : World) (S : Nat → Prop) (v u : Value) (l : List UInt8) (t : Tm), Bytes w v l → TmD w S d u t → okT t → (∀ x, S x → x < w.heap.size) → (∀ g, v.ownBlock = some g → ¬ S g) → l.length + (encT t).length ≤ 70368744177000 →
  Calls Tryd.prog 20 #[v, u] w (AppPost l (encT t) v w)
set_option maxRecDepth 100000 in
set_option maxHeartbeats 800000 in
theorem term_k5 {d : Nat} (IH : EncSpec d) {w : World} {v u : Value} {l : List UInt8} {S : Nat → Prop} (n : Int) (s bs : ByteArray) (is rs : List Tm) (h : Bytes w v l) (ht : TmD w S (d + 1) u (.mk 5 n s is rs bs)) (hok : okT (.mk 5 n s is rs bs)) (hS : ∀ x, S x → x < w.heap.size) (hvS : ∀ g, v.ownBlock = some g → ¬ S g) (hl : l.length + (encT (.mk 5 n s is rs bs)).length ≤ 70368744177000) :
    Calls Tryd.prog 20 #[v, u] w (AppPost l (encT (.mk 5 n s is rs bs)) v w) := by
  have HIH := Lib.hid IH
  have HOK := Lib.hid hok
  have HS := Lib.hid hS
  clear IH hok hS
  obtain ⟨y3, y4, y5, rfl, hf, hn, h3, h4, h5⟩ := ht
  obtain ⟨ai, ci, rfl⟩ := h3.form
  obtain ⟨ar, cr, rfl⟩ := h4.form
  obtain ⟨ab, cb, rfl⟩ := h5.form
  have H3 := Lib.hid h3
  have H4 := Lib.hid h4
  have hil := h3.1
  have HF := Lib.hid hf
  have HL := Lib.hid hl
  have HVS := Lib.hid hvS
  have hll : l.length ≤ 70368744177000 := by omega
  have hvlt : ∀ g, v.ownBlock = some g → g < w.heap.size := fun g hg => Row.lt h hg
  have HVL := Lib.hid hvlt
  have H := Lib.hid h
  obtain ⟨a, c, rfl⟩ := h.form
  simp only [Tm.val, Tm.kind, Tm.n, Tm.name, Tm.items, Tm.rest, Tm.bytes] at *
  clear h h3 h4 h5 hf hvS hvlt hl hn
  go_enter Tryd.func20, Tryd.ntmps20
  go_wp2_with (first | (at_builtin; refine Stop.out ?_))
  refine ⟨?_⟩
  refine wpList_append_row _ rfl _ _ 26 26 rfl 5 (.slice 5) 1 1 (.int .u8 0) info_u8 Tryd.underlying26 Tryd.underlying26 (by intro k h; cases h) rfl (.slice a l.length c) l.length (byteV l) rfl (H.out.still (((Keeps.refl _ w).alloc _).alloc _)) _ 1 [.int .u8 5] rfl rfl (lenOf_slice _ _ _) (firstCells_at _ rfl (cells_newAt (by first | rfl | rw [World.size_alloc]))) (by intro u hu; simp at hu; subst hu; rfl) (by unfold maxLen; omega) (by omega) ?_
  intro v' w4 ha
  obtain ⟨va, vc, rfl, _, _⟩ := ha.row.len
  have hk4 : Keeps (Own (.slice a l.length c)) w w4 := (((Keeps.refl _ w).alloc _).alloc _).trans ha.keeps fun _ _ h => h
  have hb4 : Blk w4 w.heap.size 46 [.int .i64 5, .int .i64 n, .string s, .slice ai is.length ci, .slice ar rs.length cr, .slice ab bs.size cb] := ((Blk.new w _ _).alloc _).keeps ha.keeps fun h => by have := HVL.out _ h; omega
  have d0 : w4.cell? ⟨w.heap.size, 0, none⟩ = some (.int .i64 5) := hb4.cell (i := 0) rfl
  have d1 : w4.cell? ⟨w.heap.size, 1, none⟩ = some (.int .i64 n) := hb4.cell (i := 1) rfl
  have d2 : w4.cell? ⟨w.heap.size, 2, none⟩ = some (.string s) := hb4.cell (i := 2) rfl
  have d5 : w4.cell? ⟨w.heap.size, 5, none⟩ = some (.slice ab bs.size cb) := hb4.cell (i := 5) rfl
  have hbq : Bytes w4 (.slice va (l.length + 1) vc) (l ++ [UInt8.ofNat 5]) := Bytes.push ha rfl rfl
  have hg4 : Grown w w4 (.slice a l.length c) (.slice va (l.length + 1) vc) := (Grown.of ha).ahead (((Keeps.refl _ w).alloc _).alloc _)
  obtain ⟨q, hq⟩ : ∃ q, q = l ++ [UInt8.ofNat 5] := ⟨_, rfl⟩
  have hql : l.length + 1 = q.length := by rw [hq]; simp
  rw [← hq, hql] at hbq
  rw [hql] at hg4
  rw [hql]
  have HB := Lib.hid hbq
  have HG := Lib.hid hg4
  have HQ := Lib.hid hq
  have hq2 : q.length ≤ 70368744177001 := by omega
  have hq3 : q.length ≤ l.length + 1 := by omega
  have d3 : w4.cell? ⟨w.heap.size, 3, none⟩ = some (.slice ai is.length ci) := hb4.cell (i := 3) rfl
  have d4 : w4.cell? ⟨w.heap.size, 4, none⟩ = some (.slice ar rs.length cr) := hb4.cell (i := 4) rfl
  have HB4 := Lib.hid hb4
  clear ha hk4 hb4 hbq hg4 hq hql
  go_wp2_with (first | (go_at_call 16; refine Stop.out ?_))
  refine ⟨(number_any is.length (by omega) HB.out (by omega)).mono ?_⟩
  rintro e w5 ⟨v5, q5, rfl, hq5, hb5, hg5⟩
  have HB5 := Lib.hid hb5
  have HG5 := Lib.hid (HG.out.trans hg5)
  have HQ5 := Lib.hid hq5
  have hb5x := HB4.out.keeps hg5.keeps fun h => HB4.out.ne_row HB.out (by decide) h rfl
  have HBX := Lib.hid hb5x
  have d0 : w5.cell? ⟨w.heap.size, 0, none⟩ = some (.int .i64 5) := hb5x.cell (i := 0) rfl
  have d3 : w5.cell? ⟨w.heap.size, 3, none⟩ = some (.slice ai is.length ci) := hb5x.cell (i := 3) rfl
  have d4 : w5.cell? ⟨w.heap.size, 4, none⟩ = some (.slice ar rs.length cr) := hb5x.cell (i := 4) rfl
  obtain ⟨a5, c5, rfl⟩ := hb5.form
  clear hb5 hg5 hq5 hb5x
  go_wp2
  go_loopw [0, 50] (fun b c wr => ItemsAt q5 is w5 (.slice a5 q5.length c5) b c wr) (fun _ c _ => is.length - (intOf c).toNat)
  case atStart => exact ⟨0, q5, rfl, Nat.zero_le _, by simp [encTs], HB5.out, Grown.refl _ _⟩
  case round =>
    obtain ⟨i, q6, rfl, hi, hq6, hb6, hg6⟩ := hrel
    obtain ⟨a6, c6, rfl⟩ := hb6.form
    have HQ6 := Lib.hid hq6
    have HB6 := Lib.hid hb6
    have HG6 := Lib.hid hg6
    have HGW := Lib.hid (HG5.out.trans hg6)
    clear hb6 hg6
    by_cases hlt : i < is.length
    · obtain ⟨t, hti⟩ : ∃ t, is[i]? = some t := ⟨is[i], by simp⟩
      have hbd : q6.length + (encT t).length ≤ 70368744177000 := by
        have h1 := HL.out
        have h2 := encTs_next hti
        rw [encT_five, List.length_cons] at h1
        simp only [List.length_append] at h1
        rw [hq6, List.length_append, HQ5.out, List.length_append, HQ.out, List.length_append]
        simp only [List.length_append, List.length_cons, List.length_nil]
        omega
      obtain ⟨_, _, _, e, _, hcm, hel⟩ := H3.out.keeps HGW.out.keeps (fun g hg he => HVS.out g he hg)
      cases e
      obtain ⟨b, o, vi, vr, vb, rfl, hSb, ⟨e0, e1, e2, e3, e4, e5⟩, htm⟩ := hel i t hti
      obtain ⟨a3, k3, a4, k4, a5', k5, rfl, rfl, rfl⟩ := htm.slices
      have HTI := Lib.hid hti
      have HTM := Lib.hid htm
      have hsw := HGW.out.keeps.size
      have hbr : b < wr.heap.size := by have := HS.out b hSb; omega
      unfold maxLen at hcm
      clear hti htm hel hq6
      go_wp2_with (first | (go_at_call 20; refine Stop.out ?_))
      refine ⟨(HIH.out _ S _ _ q6 t (HB6.out.still ((Keeps.refl _ wr).alloc _)) (HTM.out.keeps ((Keeps.refl (fun _ => False) wr).alloc _) fun _ _ h => h) (okTs_mem HOK.out.2.1 t (List.mem_of_getElem? HTI.out)) (fun x hx => by have := HS.out x hx; simp; omega) (HGW.out.notS HS.out HVS.out) hbd).mono ?_⟩
      rintro e w7 ⟨v7, q7, rfl, hq7, hb7, hg7⟩
      have HB7 := Lib.hid hb7
      have HG7 := Lib.hid (HG6.out.trans (hg7.ahead ((Keeps.refl _ wr).alloc _)))
      have HQ7 := Lib.hid hq7
      clear hb7 hg7 hq7 e0 e1 e2 e3 e4 e5
      go_wp2
      refine ⟨⟨i + 1, q7, by go_num, by omega, ?_, HB7.out, HG7.out⟩, by simp [intOf]; omega⟩
      rw [HQ7.out, HQ6.out, encTs_take HTI.out, List.append_assoc]
    · obtain rfl : i = is.length := by omega
      rw [List.take_length] at hq6
      have HQ6 := Lib.hid hq6
      clear hq6
      have hbx := HBX.out.keeps HG6.out.keeps fun h => HBX.out.ne_row HB5.out (by decide) h rfl
      have d0 : wr.cell? ⟨w.heap.size, 0, none⟩ = some (.int .i64 5) := hbx.cell (i := 0) rfl
      have d3 : wr.cell? ⟨w.heap.size, 3, none⟩ = some (.slice ai is.length ci) := hbx.cell (i := 3) rfl
      have d4 : wr.cell? ⟨w.heap.size, 4, none⟩ = some (.slice ar rs.length cr) := hbx.cell (i := 4) rfl
      have HBY := Lib.hid hbx
      clear hbx
      go_wp2
      go_ret
      refine ⟨_, q6, rfl, ?_, HB6.out, HGW.out⟩
      rw [HQ6.out, HQ5.out, HQ.out, encT_five]
      simp
set_option maxRecDepth 100000 in
set_option maxHeartbeats 800000 in
theorem term_k7 {d : Nat} (IH : EncSpec d) {w : World} {v u : Value} {l : List UInt8} {S : Nat → Prop} (n : Int) (s bs : ByteArray) (is rs : List Tm) (h : Bytes w v l) (ht : TmD w S (d + 1) u (.mk 7 n s is rs bs)) (hok : okT (.mk 7 n s is rs bs)) (hS : ∀ x, S x → x < w.heap.size) (hvS : ∀ g, v.ownBlock = some g → ¬ S g) (hl : l.length + (encT (.mk 7 n s is rs bs)).length ≤ 70368744177000) :
    Calls Tryd.prog 20 #[v, u] w (AppPost l (encT (.mk 7 n s is rs bs)) v w) := by
  have HIH := Lib.hid IH
  have HOK := Lib.hid hok
  have HS := Lib.hid hS
  clear IH hok hS
  obtain ⟨y3, y4, y5, rfl, hf, hn, h3, h4, h5⟩ := ht
  obtain ⟨ai, ci, rfl⟩ := h3.form
  obtain ⟨ar, cr, rfl⟩ := h4.form
  obtain ⟨ab, cb, rfl⟩ := h5.form
  have H3 := Lib.hid h3
  have H4 := Lib.hid h4
  have hil := h3.1
  have HF := Lib.hid hf
  have HL := Lib.hid hl
  have HVS := Lib.hid hvS
  have hll : l.length ≤ 70368744177000 := by omega
  have hvlt : ∀ g, v.ownBlock = some g → g < w.heap.size := fun g hg => Row.lt h hg
  have HVL := Lib.hid hvlt
  have H := Lib.hid h
  obtain ⟨a, c, rfl⟩ := h.form
  simp only [Tm.val, Tm.kind, Tm.n, Tm.name, Tm.items, Tm.rest, Tm.bytes] at *
  clear h h3 h4 h5 hf hvS hvlt hl hn
  go_enter Tryd.func20, Tryd.ntmps20
  go_wp2_with (first | (at_builtin; refine Stop.out ?_))
  refine ⟨?_⟩
  refine wpList_append_row _ rfl _ _ 26 26 rfl 5 (.slice 5) 1 1 (.int .u8 0) info_u8 Tryd.underlying26 Tryd.underlying26 (by intro k h; cases h) rfl (.slice a l.length c) l.length (byteV l) rfl (H.out.still (((Keeps.refl _ w).alloc _).alloc _)) _ 1 [.int .u8 7] rfl rfl (lenOf_slice _ _ _) (firstCells_at _ rfl (cells_newAt (by first | rfl | rw [World.size_alloc]))) (by intro u hu; simp at hu; subst hu; rfl) (by unfold maxLen; omega) (by omega) ?_
  intro v' w4 ha
  obtain ⟨va, vc, rfl, _, _⟩ := ha.row.len
  have hk4 : Keeps (Own (.slice a l.length c)) w w4 := (((Keeps.refl _ w).alloc _).alloc _).trans ha.keeps fun _ _ h => h
  have hb4 : Blk w4 w.heap.size 46 [.int .i64 7, .int .i64 n, .string s, .slice ai is.length ci, .slice ar rs.length cr, .slice ab bs.size cb] := ((Blk.new w _ _).alloc _).keeps ha.keeps fun h => by have := HVL.out _ h; omega
  have d0 : w4.cell? ⟨w.heap.size, 0, none⟩ = some (.int .i64 7) := hb4.cell (i := 0) rfl
  have d1 : w4.cell? ⟨w.heap.size, 1, none⟩ = some (.int .i64 n) := hb4.cell (i := 1) rfl
  have d2 : w4.cell? ⟨w.heap.size, 2, none⟩ = some (.string s) := hb4.cell (i := 2) rfl
  have d5 : w4.cell? ⟨w.heap.size, 5, none⟩ = some (.slice ab bs.size cb) := hb4.cell (i := 5) rfl
  have hbq : Bytes w4 (.slice va (l.length + 1) vc) (l ++ [UInt8.ofNat 7]) := Bytes.push ha rfl rfl
  have hg4 : Grown w w4 (.slice a l.length c) (.slice va (l.length + 1) vc) := (Grown.of ha).ahead (((Keeps.refl _ w).alloc _).alloc _)
  obtain ⟨q, hq⟩ : ∃ q, q = l ++ [UInt8.ofNat 7] := ⟨_, rfl⟩
  have hql : l.length + 1 = q.length := by rw [hq]; simp
  rw [← hq, hql] at hbq
  rw [hql] at hg4
  rw [hql]
  have HB := Lib.hid hbq
  have HG := Lib.hid hg4
  have HQ := Lib.hid hq
  have hq2 : q.length ≤ 70368744177001 := by omega
  have hq3 : q.length ≤ l.length + 1 := by omega
  have d3 : w4.cell? ⟨w.heap.size, 3, none⟩ = some (.slice ai is.length ci) := hb4.cell (i := 3) rfl
  have d4 : w4.cell? ⟨w.heap.size, 4, none⟩ = some (.slice ar rs.length cr) := hb4.cell (i := 4) rfl
  have HB4 := Lib.hid hb4
  clear ha hk4 hb4 hbq hg4 hq hql
  go_wp2_with (first | (go_at_call 16; refine Stop.out ?_))
  refine ⟨(number_any is.length (by omega) HB.out (by omega)).mono ?_⟩
  rintro e w5 ⟨v5, q5, rfl, hq5, hb5, hg5⟩
  have HB5 := Lib.hid hb5
  have HG5 := Lib.hid (HG.out.trans hg5)
  have HQ5 := Lib.hid hq5
  have hb5x := HB4.out.keeps hg5.keeps fun h => HB4.out.ne_row HB.out (by decide) h rfl
  have HBX := Lib.hid hb5x
  have d0 : w5.cell? ⟨w.heap.size, 0, none⟩ = some (.int .i64 7) := hb5x.cell (i := 0) rfl
  have d3 : w5.cell? ⟨w.heap.size, 3, none⟩ = some (.slice ai is.length ci) := hb5x.cell (i := 3) rfl
  have d4 : w5.cell? ⟨w.heap.size, 4, none⟩ = some (.slice ar rs.length cr) := hb5x.cell (i := 4) rfl
  obtain ⟨a5, c5, rfl⟩ := hb5.form
  clear hb5 hg5 hq5 hb5x
  go_wp2
  go_loopw [0, 50] (fun b c wr => ItemsAt q5 is w5 (.slice a5 q5.length c5) b c wr) (fun _ c _ => is.length - (intOf c).toNat)
  case atStart => exact ⟨0, q5, rfl, Nat.zero_le _, by simp [encTs], HB5.out, Grown.refl _ _⟩
  case round =>
    obtain ⟨i, q6, rfl, hi, hq6, hb6, hg6⟩ := hrel
    obtain ⟨a6, c6, rfl⟩ := hb6.form
    have HQ6 := Lib.hid hq6
    have HB6 := Lib.hid hb6
    have HG6 := Lib.hid hg6
    have HGW := Lib.hid (HG5.out.trans hg6)
    clear hb6 hg6
    by_cases hlt : i < is.length
    · obtain ⟨t, hti⟩ : ∃ t, is[i]? = some t := ⟨is[i], by simp⟩
      have hbd : q6.length + (encT t).length ≤ 70368744177000 := by
        have h1 := HL.out
        have h2 := encTs_next hti
        rw [encT_seven, List.length_cons] at h1
        simp only [List.length_append] at h1
        rw [hq6, List.length_append, HQ5.out, List.length_append, HQ.out, List.length_append]
        simp only [List.length_append, List.length_cons, List.length_nil]
        omega
      obtain ⟨_, _, _, e, _, hcm, hel⟩ := H3.out.keeps HGW.out.keeps (fun g hg he => HVS.out g he hg)
      cases e
      obtain ⟨b, o, vi, vr, vb, rfl, hSb, ⟨e0, e1, e2, e3, e4, e5⟩, htm⟩ := hel i t hti
      obtain ⟨a3, k3, a4, k4, a5', k5, rfl, rfl, rfl⟩ := htm.slices
      have HTI := Lib.hid hti
      have HTM := Lib.hid htm
      have hsw := HGW.out.keeps.size
      have hbr : b < wr.heap.size := by have := HS.out b hSb; omega
      unfold maxLen at hcm
      clear hti htm hel hq6
      go_wp2_with (first | (go_at_call 20; refine Stop.out ?_))
      refine ⟨(HIH.out _ S _ _ q6 t (HB6.out.still ((Keeps.refl _ wr).alloc _)) (HTM.out.keeps ((Keeps.refl (fun _ => False) wr).alloc _) fun _ _ h => h) (okTs_mem HOK.out.2.1 t (List.mem_of_getElem? HTI.out)) (fun x hx => by have := HS.out x hx; simp; omega) (HGW.out.notS HS.out HVS.out) hbd).mono ?_⟩
      rintro e w7 ⟨v7, q7, rfl, hq7, hb7, hg7⟩
      have HB7 := Lib.hid hb7
      have HG7 := Lib.hid (HG6.out.trans (hg7.ahead ((Keeps.refl _ wr).alloc _)))
      have HQ7 := Lib.hid hq7
      clear hb7 hg7 hq7 e0 e1 e2 e3 e4 e5
      go_wp2
      refine ⟨⟨i + 1, q7, by go_num, by omega, ?_, HB7.out, HG7.out⟩, by simp [intOf]; omega⟩
      rw [HQ7.out, HQ6.out, encTs_take HTI.out, List.append_assoc]
    · obtain rfl : i = is.length := by omega
      rw [List.take_length] at hq6
      have HQ6 := Lib.hid hq6
      clear hq6
      have hbx := HBX.out.keeps HG6.out.keeps fun h => HBX.out.ne_row HB5.out (by decide) h rfl
      have d0 : wr.cell? ⟨w.heap.size, 0, none⟩ = some (.int .i64 7) := hbx.cell (i := 0) rfl
      have d3 : wr.cell? ⟨w.heap.size, 3, none⟩ = some (.slice ai is.length ci) := hbx.cell (i := 3) rfl
      have d4 : wr.cell? ⟨w.heap.size, 4, none⟩ = some (.slice ar rs.length cr) := hbx.cell (i := 4) rfl
      have HBY := Lib.hid hbx
      clear hbx
      have hrl := okT_rest HOK.out
      have hq6l : q6.length ≤ 70368744177000 := by
        have h1 := HL.out
        rw [encT_seven, List.length_cons] at h1
        simp only [List.length_append] at h1
        rw [HQ6.out, List.length_append, HQ5.out, List.length_append, HQ.out, List.length_append]
        simp only [List.length_cons, List.length_nil]
        omega
      have hbxn : ∀ g, (Value.slice a6 q6.length c6).ownBlock = some g → w.heap.size ≠ g := fun g hg => HBY.out.ne_row HB6.out (by decide) hg
      go_wp2_with (first | (at_builtin; refine Stop.out ?_))
      refine ⟨?_⟩
      refine wpList_append_row _ rfl _ _ 26 26 rfl 5 (.slice 5) 1 1 (.int .u8 0) info_u8 Tryd.underlying26 Tryd.underlying26 (by intro k h; cases h) rfl (.slice a6 q6.length c6) q6.length (byteV q6) rfl (HB6.out.still ((Keeps.refl _ wr).alloc _)) _ 1 [.int .u8 (rs.length : Int)] rfl rfl (lenOf_slice _ _ _) (firstCells_at _ rfl (cells_newAt (by first | rfl | rw [World.size_alloc]))) (by intro u hu; simp at hu; subst hu; rfl) (by unfold maxLen; omega) (by omega) ?_
      intro v' w8 ha
      obtain ⟨a8, c8, rfl, _, _⟩ := ha.row.len
      have hb8x : Blk w8 w.heap.size 46 [.int .i64 7, .int .i64 n, .string s, .slice ai is.length ci, .slice ar rs.length cr, .slice ab bs.size cb] := (HBY.out.alloc _).keeps ha.keeps fun h => hbxn _ h rfl
      have d0 : w8.cell? ⟨w.heap.size, 0, none⟩ = some (.int .i64 7) := hb8x.cell (i := 0) rfl
      have d3 : w8.cell? ⟨w.heap.size, 3, none⟩ = some (.slice ai is.length ci) := hb8x.cell (i := 3) rfl
      have d4 : w8.cell? ⟨w.heap.size, 4, none⟩ = some (.slice ar rs.length cr) := hb8x.cell (i := 4) rfl
      have hlr : (encN rs.length).length = 1 := by rw [encN_small (by omega)]; rfl
      have hbq8 : Bytes w8 (.slice a8 (q6.length + 1) c8) (q6 ++ encN rs.length) := Bytes.push ha (by rw [hlr]) (byte_len hrl)
      have hg8 : Grown w w8 (.slice a l.length c) (.slice a8 (q6.length + 1) c8) := HGW.out.trans ((Grown.of ha).ahead ((Keeps.refl _ wr).alloc _))
      obtain ⟨q8, hq8⟩ : ∃ q8, q8 = q6 ++ encN rs.length := ⟨_, rfl⟩
      have hq8l : q6.length + 1 = q8.length := by rw [hq8, List.length_append, hlr]
      rw [← hq8, hq8l] at hbq8
      rw [hq8l] at hg8
      rw [hq8l]
      have HB8 := Lib.hid hbq8
      have HG8 := Lib.hid hg8
      have HQ8 := Lib.hid hq8
      have HBZ := Lib.hid hb8x
      have hrll : rs.length ≤ 140737488355328 := by omega
      clear ha hbq8 hg8 hq8 hq8l hlr hb8x hbxn
      go_wp2
      go_loopw [0, 71] (fun b c wr => ItemsAt q8 rs w8 (.slice a8 q8.length c8) b c wr) (fun _ c _ => rs.length - (intOf c).toNat)
      case atStart => exact ⟨0, q8, rfl, Nat.zero_le _, by simp [encTs], HB8.out, Grown.refl _ _⟩
      case round =>
        obtain ⟨i, q9, rfl, hi, hq9, hb9, hg9⟩ := hrel
        obtain ⟨a9, c9, rfl⟩ := hb9.form
        have HQ9 := Lib.hid hq9
        have HB9 := Lib.hid hb9
        have HG9 := Lib.hid hg9
        have HGV := Lib.hid (HG8.out.trans hg9)
        clear hb9 hg9
        by_cases hlt : i < rs.length
        · obtain ⟨t, hti⟩ : ∃ t, rs[i]? = some t := ⟨rs[i], by simp⟩
          have hbd : q9.length + (encT t).length ≤ 70368744177000 := by
            have h1 := HL.out
            have h2 := encTs_next hti
            rw [encT_seven, List.length_cons] at h1
            simp only [List.length_append] at h1
            rw [hq9, List.length_append, HQ8.out, List.length_append, HQ6.out, List.length_append, HQ5.out, List.length_append, HQ.out, List.length_append]
            simp only [List.length_append, List.length_cons, List.length_nil]
            omega
          obtain ⟨_, _, _, e, _, hcm, hel⟩ := H4.out.keeps HGV.out.keeps (fun g hg he => HVS.out g he hg)
          cases e
          obtain ⟨b, o, vi, vr, vb, rfl, hSb, ⟨e0, e1, e2, e3, e4, e5⟩, htm⟩ := hel i t hti
          obtain ⟨a3, k3, a4, k4, a5', k5, rfl, rfl, rfl⟩ := htm.slices
          have HTI := Lib.hid hti
          have HTM := Lib.hid htm
          have hsw := HGV.out.keeps.size
          have hbr : b < wr.heap.size := by have := HS.out b hSb; omega
          unfold maxLen at hcm
          clear hti htm hel hq9
          go_wp2_with (first | (go_at_call 20; refine Stop.out ?_))
          refine ⟨(HIH.out _ S _ _ q9 t (HB9.out.still ((Keeps.refl _ wr).alloc _)) (HTM.out.keeps ((Keeps.refl (fun _ => False) wr).alloc _) fun _ _ h => h) (okTs_mem HOK.out.2.2 t (List.mem_of_getElem? HTI.out)) (fun x hx => by have := HS.out x hx; simp; omega) (HGV.out.notS HS.out HVS.out) hbd).mono ?_⟩
          rintro e w10 ⟨v10, q10, rfl, hq10, hb10, hg10⟩
          have HB10 := Lib.hid hb10
          have HG10 := Lib.hid (HG9.out.trans (hg10.ahead ((Keeps.refl _ wr).alloc _)))
          have HQ10 := Lib.hid hq10
          clear hb10 hg10 hq10 e0 e1 e2 e3 e4 e5
          go_wp2
          refine ⟨⟨i + 1, q10, by go_num, by omega, ?_, HB10.out, HG10.out⟩, by simp [intOf]; omega⟩
          rw [HQ10.out, HQ9.out, encTs_take HTI.out, List.append_assoc]
        · obtain rfl : i = rs.length := by omega
          rw [List.take_length] at hq9
          have HQ9 := Lib.hid hq9
          clear hq9
          have hbz := HBZ.out.keeps HG9.out.keeps fun h => HBZ.out.ne_row HB8.out (by decide) h rfl
          have d0 : wr.cell? ⟨w.heap.size, 0, none⟩ = some (.int .i64 7) := hbz.cell (i := 0) rfl
          have d3 : wr.cell? ⟨w.heap.size, 3, none⟩ = some (.slice ai is.length ci) := hbz.cell (i := 3) rfl
          have d4 : wr.cell? ⟨w.heap.size, 4, none⟩ = some (.slice ar rs.length cr) := hbz.cell (i := 4) rfl
          have HBV := Lib.hid hbz
          clear hbz
          go_wp2
          go_ret
          refine ⟨_, q9, rfl, ?_, HB9.out, HGV.out⟩
          rw [HQ9.out, HQ8.out, HQ6.out, HQ5.out, HQ.out, encT_seven]
          simp
theorem enc_step (d : Nat) (IH : EncSpec d) : EncSpec (d + 1) := by
  intro w S v u l t h ht hok hS hvS hl
  obtain ⟨k, n, s, is, rs, bs⟩ := t
  have hk := okB_kinds hok.1
  simp only [Tm.kind] at hk
  rcases hk with rfl | rfl | rfl | rfl | rfl | rfl | rfl | rfl
  · exact term_k1 n s bs is rs h ht hS hvS hl
  · exact term_k2 n s bs is rs h ht hS hvS hl
  · exact term_k3 n s bs is rs h ht hS hvS hl
  · exact term_k4 n s bs is rs h ht hS hvS hl
  · exact term_k5 IH n s bs is rs h ht hok hS hvS hl
  · exact term_k6 n s bs is rs h ht hS hvS hl
  · exact term_k7 IH n s bs is rs h ht hok hS hvS hl
  · exact term_k8 n s bs is rs h ht hS hvS hl
theorem enc_any : ∀ d, EncSpec d
  | 0 => fun _ _ _ _ _ _ _ h => h.elim
  | d + 1 => enc_step d (enc_any d)
end Go.Proofs.YtgmieehheoknbaaDoor
end
section
/-
  Errors: with a fault around them; of terms that may not be.
-/
namespace Go.Tx
open Go Go.RowKit
theorem right_few {t : Tm} {c : List (ByteArray × Int)} {k : Int} (h : rightTm t = some (c, k)) : c.length < 9000 := by
  unfold rightTm at h
  cases hc : chk t 1 (0, 0) with
  | ok x => rw [hc] at h; cases h
  | error st => rw [hc] at h; cases h; simp
theorem IsErr.wrapped {w0 w w1 : World} {v : Value} {c : List (ByteArray × Int)} {k : Int} (op : ByteArray) (n : Int) (h : IsErr w (Fresh w0 w) v c k) (hk : Keeps (fun _ => False) w w1) (h0 : w0.heap.size ≤ w.heap.size) :
    IsErr (w1.alloc (.cells #[.string op, .int .i64 n, v] 43)) (Fresh w0 (w1.alloc (.cells #[.string op, .int .i64 n, v] 43))) (.iface 40 (.pointer (some ⟨w1.heap.size, 0, none⟩))) ((op, n) :: c) k := by
  have hs := hk.size
  refine (isErr_new w1 op n v c k _ (h.keeps hk fun _ _ h => h)).mono fun g hg => ?_
  rcases hg with rfl | hg
  · exact ⟨by omega, by simp⟩
  · exact ⟨hg.1, by have := hg.2; simp; omega⟩
theorem IsErr.face {w : World} {E : Nat → Prop} {v : Value} {c : List (ByteArray × Int)} {k : Int} (h : IsErr w E v c k) : ∃ t u, v = .iface t u := by
  cases c with
  | nil => exact ⟨_, _, h⟩
  | cons p c => obtain ⟨b, u, h1, _⟩ := h; exact ⟨_, _, h1⟩
end Go.Tx
end

/-
  A term's bytes: what the Go code does (code.term), at terms with parts.
-/
import Derived.Test.YtgmieehheoknbaaEt
namespace Go.Tx
open Go Go.RowKit
/-- so many parts are written -/
def ItemsAt (l0 : List UInt8) (is : List Tm) (w0 : World) (v0 : Value) (b c : Value) (wr : World) : Prop :=
  ∃ (i : Nat) (q : List UInt8), c = .int .i64 i ∧ i ≤ is.length ∧ q = l0 ++ encTs (is.take i) ∧ Bytes wr b q ∧ Grown w0 wr v0 b
end Go.Tx
namespace Go.Proofs.Ytgmieehheoknbaa
open Go.RowKit Go.Tx
def EncSpec (d : Nat) : Prop := ∀ (w : World) (S : Nat → Prop) (v u : Value) (l : List UInt8) (t : Tm), Bytes w v l → TmD w S d u t → okT t → (∀ x, S x → x < w.heap.size) → (∀ g, v.ownBlock = some g → ¬ S g) → l.length + (encT t).length ≤ 70368744177000 →
  Calls Try.prog 13 #[v, u] w (AppPost l (encT t) v w)
set_option maxRecDepth 100000 in
set_option maxHeartbeats 800000 in
theorem term_k5 {d : Nat} (IH : EncSpec d) {w : World} {v u : Value} {l : List UInt8} {S : Nat → Prop} (n : Int) (s bs : ByteArray) (is rs : List Tm) (h : Bytes w v l) (ht : TmD w S (d + 1) u (.mk 5 n s is rs bs)) (hok : okT (.mk 5 n s is rs bs)) (hS : ∀ x, S x → x < w.heap.size) (hvS : ∀ g, v.ownBlock = some g → ¬ S g) (hl : l.length + (encT (.mk 5 n s is rs bs)).length ≤ 70368744177000) :
    Calls Try.prog 13 #[v, u] w (AppPost l (encT (.mk 5 n s is rs bs)) v w) := by
  have HIH := Lib.hid IH
  have HOK := Lib.hid hok
  have HS := Lib.hid hS
  clear IH hok hS
  obtain ⟨y3, y4, y5, rfl, hf, hn, h3, h4, h5⟩ := ht
  obtain ⟨ai, ci, rfl⟩ := h3.form
  obtain ⟨ar, cr, rfl⟩ := h4.form
  obtain ⟨ab, cb, rfl⟩ := h5.form
  have H3 := Lib.hid h3
  have H4 := Lib.hid h4
  have hil := h3.1
  have HF := Lib.hid hf
  have HL := Lib.hid hl
  have HVS := Lib.hid hvS
  have hll : l.length ≤ 70368744177000 := by omega
  have hvlt : ∀ g, v.ownBlock = some g → g < w.heap.size := fun g hg => Row.lt h hg
  have HVL := Lib.hid hvlt
  have H := Lib.hid h
  obtain ⟨a, c, rfl⟩ := h.form
  simp only [Tm.val, Tm.kind, Tm.n, Tm.name, Tm.items, Tm.rest, Tm.bytes] at *
  clear h h3 h4 h5 hf hvS hvlt hl hn
  go_enter Try.func13, Try.ntmps13
  go_wp2_with (first | (at_builtin; refine Stop.out ?_))
  refine ⟨?_⟩
  refine wpList_append_row _ rfl _ _ 26 26 rfl 5 (.slice 5) 1 1 (.int .u8 0) info_u8 Try.underlying26 Try.underlying26 (by intro k h; cases h) rfl (.slice a l.length c) l.length (byteV l) rfl (H.out.still (((Keeps.refl _ w).alloc _).alloc _)) _ 1 [.int .u8 5] rfl rfl (lenOf_slice _ _ _) (firstCells_at _ rfl (cells_newAt (by first | rfl | rw [World.size_alloc]))) (by intro u hu; simp at hu; subst hu; rfl) (by unfold maxLen; omega) (by omega) ?_
  intro v' w4 ha
  obtain ⟨va, vc, rfl, _, _⟩ := ha.row.len
  have hk4 : Keeps (Own (.slice a l.length c)) w w4 := (((Keeps.refl _ w).alloc _).alloc _).trans ha.keeps fun _ _ h => h
  have hb4 : Blk w4 w.heap.size 42 [.int .i64 5, .int .i64 n, .string s, .slice ai is.length ci, .slice ar rs.length cr, .slice ab bs.size cb] := ((Blk.new w _ _).alloc _).keeps ha.keeps fun h => by have := HVL.out _ h; omega
  have d0 : w4.cell? ⟨w.heap.size, 0, none⟩ = some (.int .i64 5) := hb4.cell (i := 0) rfl
  have d1 : w4.cell? ⟨w.heap.size, 1, none⟩ = some (.int .i64 n) := hb4.cell (i := 1) rfl
  have d2 : w4.cell? ⟨w.heap.size, 2, none⟩ = some (.string s) := hb4.cell (i := 2) rfl
  have d5 : w4.cell? ⟨w.heap.size, 5, none⟩ = some (.slice ab bs.size cb) := hb4.cell (i := 5) rfl
  have hbq : Bytes w4 (.slice va (l.length + 1) vc) (l ++ [UInt8.ofNat 5]) := Bytes.push ha rfl rfl
  have hg4 : Grown w w4 (.slice a l.length c) (.slice va (l.length + 1) vc) := (Grown.of ha).ahead (((Keeps.refl _ w).alloc _).alloc _)
  obtain ⟨q, hq⟩ : ∃ q, q = l ++ [UInt8.ofNat 5] := ⟨_, rfl⟩
  have hql : l.length + 1 = q.length := by rw [hq]; simp
  rw [← hq, hql] at hbq
  rw [hql] at hg4
  rw [hql]
  have HB := Lib.hid hbq
  have HG := Lib.hid hg4
  have HQ := Lib.hid hq
  have hq2 : q.length ≤ 70368744177001 := by omega
  have hq3 : q.length ≤ l.length + 1 := by omega
  have d3 : w4.cell? ⟨w.heap.size, 3, none⟩ = some (.slice ai is.length ci) := hb4.cell (i := 3) rfl
  have d4 : w4.cell? ⟨w.heap.size, 4, none⟩ = some (.slice ar rs.length cr) := hb4.cell (i := 4) rfl
  have HB4 := Lib.hid hb4
  clear ha hk4 hb4 hbq hg4 hq hql
  go_wp2_with (first | (go_at_call 9; refine Stop.out ?_))
  refine ⟨(number_any is.length (by omega) HB.out (by omega)).mono ?_⟩
  rintro e w5 ⟨v5, q5, rfl, hq5, hb5, hg5⟩
  have HB5 := Lib.hid hb5
  have HG5 := Lib.hid (HG.out.trans hg5)
  have HQ5 := Lib.hid hq5
  have hb5x := HB4.out.keeps hg5.keeps fun h => HB4.out.ne_row HB.out (by decide) h rfl
  have HBX := Lib.hid hb5x
  have d0 : w5.cell? ⟨w.heap.size, 0, none⟩ = some (.int .i64 5) := hb5x.cell (i := 0) rfl
  have d3 : w5.cell? ⟨w.heap.size, 3, none⟩ = some (.slice ai is.length ci) := hb5x.cell (i := 3) rfl
  have d4 : w5.cell? ⟨w.heap.size, 4, none⟩ = some (.slice ar rs.length cr) := hb5x.cell (i := 4) rfl
  obtain ⟨a5, c5, rfl⟩ := hb5.form
  clear hb5 hg5 hq5 hb5x
  go_wp2
  go_loopw [0, 50] (fun b c wr => ItemsAt q5 is w5 (.slice a5 q5.length c5) b c wr) (fun _ c _ => is.length - (intOf c).toNat)
  case atStart => exact ⟨0, q5, rfl, Nat.zero_le _, by simp [encTs], HB5.out, Grown.refl _ _⟩
  case round =>
    obtain ⟨i, q6, rfl, hi, hq6, hb6, hg6⟩ := hrel
    obtain ⟨a6, c6, rfl⟩ := hb6.form
    have HQ6 := Lib.hid hq6
    have HB6 := Lib.hid hb6
    have HG6 := Lib.hid hg6
    have HGW := Lib.hid (HG5.out.trans hg6)
    clear hb6 hg6
    by_cases hlt : i < is.length
    · obtain ⟨t, hti⟩ : ∃ t, is[i]? = some t := ⟨is[i], by simp⟩
      have hbd : q6.length + (encT t).length ≤ 70368744177000 := by
        have h1 := HL.out
        have h2 := encTs_next hti
        rw [encT_five, List.length_cons] at h1
        simp only [List.length_append] at h1
        rw [hq6, List.length_append, HQ5.out, List.length_append, HQ.out, List.length_append]
        simp only [List.length_append, List.length_cons, List.length_nil]
        omega
      obtain ⟨_, _, _, e, _, hcm, hel⟩ := H3.out.keeps HGW.out.keeps (fun g hg he => HVS.out g he hg)
      cases e
      obtain ⟨b, o, vi, vr, vb, rfl, hSb, ⟨e0, e1, e2, e3, e4, e5⟩, htm⟩ := hel i t hti
      obtain ⟨a3, k3, a4, k4, a5', k5, rfl, rfl, rfl⟩ := htm.slices
      have HTI := Lib.hid hti
      have HTM := Lib.hid htm
      have hsw := HGW.out.keeps.size
      have hbr : b < wr.heap.size := by have := HS.out b hSb; omega
      unfold maxLen at hcm
      clear hti htm hel hq6
      go_wp2_with (first | (go_at_call 13; refine Stop.out ?_))
      refine ⟨(HIH.out _ S _ _ q6 t (HB6.out.still ((Keeps.refl _ wr).alloc _)) (HTM.out.keeps ((Keeps.refl (fun _ => False) wr).alloc _) fun _ _ h => h) (okTs_mem HOK.out.2.1 t (List.mem_of_getElem? HTI.out)) (fun x hx => by have := HS.out x hx; simp; omega) (HGW.out.notS HS.out HVS.out) hbd).mono ?_⟩
      rintro e w7 ⟨v7, q7, rfl, hq7, hb7, hg7⟩
      have HB7 := Lib.hid hb7
      have HG7 := Lib.hid (HG6.out.trans (hg7.ahead ((Keeps.refl _ wr).alloc _)))
      have HQ7 := Lib.hid hq7
      clear hb7 hg7 hq7 e0 e1 e2 e3 e4 e5
      go_wp2
      refine ⟨⟨i + 1, q7, by go_num, by omega, ?_, HB7.out, HG7.out⟩, by simp [intOf]; omega⟩
      rw [HQ7.out, HQ6.out, encTs_take HTI.out, List.append_assoc]
    · obtain rfl : i = is.length := by omega
      rw [List.take_length] at hq6
      have HQ6 := Lib.hid hq6
      clear hq6
      have hbx := HBX.out.keeps HG6.out.keeps fun h => HBX.out.ne_row HB5.out (by decide) h rfl
      have d0 : wr.cell? ⟨w.heap.size, 0, none⟩ = some (.int .i64 5) := hbx.cell (i := 0) rfl
      have d3 : wr.cell? ⟨w.heap.size, 3, none⟩ = some (.slice ai is.length ci) := hbx.cell (i := 3) rfl
      have d4 : wr.cell? ⟨w.heap.size, 4, none⟩ = some (.slice ar rs.length cr) := hbx.cell (i := 4) rfl
      have HBY := Lib.hid hbx
      clear hbx
      go_wp2
      go_ret
      refine ⟨_, q6, rfl, ?_, HB6.out, HGW.out⟩
      rw [HQ6.out, HQ5.out, HQ.out, encT_five]
      simp
set_option maxRecDepth 100000 in
set_option maxHeartbeats 800000 in
theorem term_k7 {d : Nat} (IH : EncSpec d) {w : World} {v u : Value} {l : List UInt8} {S : Nat → Prop} (n : Int) (s bs : ByteArray) (is rs : List Tm) (h : Bytes w v l) (ht : TmD w S (d + 1) u (.mk 7 n s is rs bs)) (hok : okT (.mk 7 n s is rs bs)) (hS : ∀ x, S x → x < w.heap.size) (hvS : ∀ g, v.ownBlock = some g → ¬ S g) (hl : l.length + (encT (.mk 7 n s is rs bs)).length ≤ 70368744177000) :
    Calls Try.prog 13 #[v, u] w (AppPost l (encT (.mk 7 n s is rs bs)) v w) := by
  have HIH := Lib.hid IH
  have HOK := Lib.hid hok
  have HS := Lib.hid hS
  clear IH hok hS
  obtain ⟨y3, y4, y5, rfl, hf, hn, h3, h4, h5⟩ := ht
  obtain ⟨ai, ci, rfl⟩ := h3.form
  obtain ⟨ar, cr, rfl⟩ := h4.form
  obtain ⟨ab, cb, rfl⟩ := h5.form
  have H3 := Lib.hid h3
  have H4 := Lib.hid h4
  have hil := h3.1
  have HF := Lib.hid hf
  have HL := Lib.hid hl
  have HVS := Lib.hid hvS
  have hll : l.length ≤ 70368744177000 := by omega
  have hvlt : ∀ g, v.ownBlock = some g → g < w.heap.size := fun g hg => Row.lt h hg
  have HVL := Lib.hid hvlt
  have H := Lib.hid h
  obtain ⟨a, c, rfl⟩ := h.form
  simp only [Tm.val, Tm.kind, Tm.n, Tm.name, Tm.items, Tm.rest, Tm.bytes] at *
  clear h h3 h4 h5 hf hvS hvlt hl hn
  go_enter Try.func13, Try.ntmps13
  go_wp2_with (first | (at_builtin; refine Stop.out ?_))
  refine ⟨?_⟩
  refine wpList_append_row _ rfl _ _ 26 26 rfl 5 (.slice 5) 1 1 (.int .u8 0) info_u8 Try.underlying26 Try.underlying26 (by intro k h; cases h) rfl (.slice a l.length c) l.length (byteV l) rfl (H.out.still (((Keeps.refl _ w).alloc _).alloc _)) _ 1 [.int .u8 7] rfl rfl (lenOf_slice _ _ _) (firstCells_at _ rfl (cells_newAt (by first | rfl | rw [World.size_alloc]))) (by intro u hu; simp at hu; subst hu; rfl) (by unfold maxLen; omega) (by omega) ?_
  intro v' w4 ha
  obtain ⟨va, vc, rfl, _, _⟩ := ha.row.len
  have hk4 : Keeps (Own (.slice a l.length c)) w w4 := (((Keeps.refl _ w).alloc _).alloc _).trans ha.keeps fun _ _ h => h
  have hb4 : Blk w4 w.heap.size 42 [.int .i64 7, .int .i64 n, .string s, .slice ai is.length ci, .slice ar rs.length cr, .slice ab bs.size cb] := ((Blk.new w _ _).alloc _).keeps ha.keeps fun h => by have := HVL.out _ h; omega
  have d0 : w4.cell? ⟨w.heap.size, 0, none⟩ = some (.int .i64 7) := hb4.cell (i := 0) rfl
  have d1 : w4.cell? ⟨w.heap.size, 1, none⟩ = some (.int .i64 n) := hb4.cell (i := 1) rfl
  have d2 : w4.cell? ⟨w.heap.size, 2, none⟩ = some (.string s) := hb4.cell (i := 2) rfl
  have d5 : w4.cell? ⟨w.heap.size, 5, none⟩ = some (.slice ab bs.size cb) := hb4.cell (i := 5) rfl
  have hbq : Bytes w4 (.slice va (l.length + 1) vc) (l ++ [UInt8.ofNat 7]) := Bytes.push ha rfl rfl
  have hg4 : Grown w w4 (.slice a l.length c) (.slice va (l.length + 1) vc) := (Grown.of ha).ahead (((Keeps.refl _ w).alloc _).alloc _)
  obtain ⟨q, hq⟩ : ∃ q, q = l ++ [UInt8.ofNat 7] := ⟨_, rfl⟩
  have hql : l.length + 1 = q.length := by rw [hq]; simp
  rw [← hq, hql] at hbq
  rw [hql] at hg4
  rw [hql]
  have HB := Lib.hid hbq
  have HG := Lib.hid hg4
  have HQ := Lib.hid hq
  have hq2 : q.length ≤ 70368744177001 := by omega
  have hq3 : q.length ≤ l.length + 1 := by omega
  have d3 : w4.cell? ⟨w.heap.size, 3, none⟩ = some (.slice ai is.length ci) := hb4.cell (i := 3) rfl
  have d4 : w4.cell? ⟨w.heap.size, 4, none⟩ = some (.slice ar rs.length cr) := hb4.cell (i := 4) rfl
  have HB4 := Lib.hid hb4
  clear ha hk4 hb4 hbq hg4 hq hql
  go_wp2_with (first | (go_at_call 9; refine Stop.out ?_))
  refine ⟨(number_any is.length (by omega) HB.out (by omega)).mono ?_⟩
  rintro e w5 ⟨v5, q5, rfl, hq5, hb5, hg5⟩
  have HB5 := Lib.hid hb5
  have HG5 := Lib.hid (HG.out.trans hg5)
  have HQ5 := Lib.hid hq5
  have hb5x := HB4.out.keeps hg5.keeps fun h => HB4.out.ne_row HB.out (by decide) h rfl
  have HBX := Lib.hid hb5x
  have d0 : w5.cell? ⟨w.heap.size, 0, none⟩ = some (.int .i64 7) := hb5x.cell (i := 0) rfl
  have d3 : w5.cell? ⟨w.heap.size, 3, none⟩ = some (.slice ai is.length ci) := hb5x.cell (i := 3) rfl
  have d4 : w5.cell? ⟨w.heap.size, 4, none⟩ = some (.slice ar rs.length cr) := hb5x.cell (i := 4) rfl
  obtain ⟨a5, c5, rfl⟩ := hb5.form
  clear hb5 hg5 hq5 hb5x
  go_wp2
  go_loopw [0, 50] (fun b c wr => ItemsAt q5 is w5 (.slice a5 q5.length c5) b c wr) (fun _ c _ => is.length - (intOf c).toNat)
  case atStart => exact ⟨0, q5, rfl, Nat.zero_le _, by simp [encTs], HB5.out, Grown.refl _ _⟩
  case round =>
    obtain ⟨i, q6, rfl, hi, hq6, hb6, hg6⟩ := hrel
    obtain ⟨a6, c6, rfl⟩ := hb6.form
    have HQ6 := Lib.hid hq6
    have HB6 := Lib.hid hb6
    have HG6 := Lib.hid hg6
    have HGW := Lib.hid (HG5.out.trans hg6)
    clear hb6 hg6
    by_cases hlt : i < is.length
    · obtain ⟨t, hti⟩ : ∃ t, is[i]? = some t := ⟨is[i], by simp⟩
      have hbd : q6.length + (encT t).length ≤ 70368744177000 := by
        have h1 := HL.out
        have h2 := encTs_next hti
        rw [encT_seven, List.length_cons] at h1
        simp only [List.length_append] at h1
        rw [hq6, List.length_append, HQ5.out, List.length_append, HQ.out, List.length_append]
        simp only [List.length_append, List.length_cons, List.length_nil]
        omega
      obtain ⟨_, _, _, e, _, hcm, hel⟩ := H3.out.keeps HGW.out.keeps (fun g hg he => HVS.out g he hg)
      cases e
      obtain ⟨b, o, vi, vr, vb, rfl, hSb, ⟨e0, e1, e2, e3, e4, e5⟩, htm⟩ := hel i t hti
      obtain ⟨a3, k3, a4, k4, a5', k5, rfl, rfl, rfl⟩ := htm.slices
      have HTI := Lib.hid hti
      have HTM := Lib.hid htm
      have hsw := HGW.out.keeps.size
      have hbr : b < wr.heap.size := by have := HS.out b hSb; omega
      unfold maxLen at hcm
      clear hti htm hel hq6
      go_wp2_with (first | (go_at_call 13; refine Stop.out ?_))
      refine ⟨(HIH.out _ S _ _ q6 t (HB6.out.still ((Keeps.refl _ wr).alloc _)) (HTM.out.keeps ((Keeps.refl (fun _ => False) wr).alloc _) fun _ _ h => h) (okTs_mem HOK.out.2.1 t (List.mem_of_getElem? HTI.out)) (fun x hx => by have := HS.out x hx; simp; omega) (HGW.out.notS HS.out HVS.out) hbd).mono ?_⟩
      rintro e w7 ⟨v7, q7, rfl, hq7, hb7, hg7⟩
      have HB7 := Lib.hid hb7
      have HG7 := Lib.hid (HG6.out.trans (hg7.ahead ((Keeps.refl _ wr).alloc _)))
      have HQ7 := Lib.hid hq7
      clear hb7 hg7 hq7 e0 e1 e2 e3 e4 e5
      go_wp2
      refine ⟨⟨i + 1, q7, by go_num, by omega, ?_, HB7.out, HG7.out⟩, by simp [intOf]; omega⟩
      rw [HQ7.out, HQ6.out, encTs_take HTI.out, List.append_assoc]
    · obtain rfl : i = is.length := by omega
      rw [List.take_length] at hq6
      have HQ6 := Lib.hid hq6
      clear hq6
      have hbx := HBX.out.keeps HG6.out.keeps fun h => HBX.out.ne_row HB5.out (by decide) h rfl
      have d0 : wr.cell? ⟨w.heap.size, 0, none⟩ = some (.int .i64 7) := hbx.cell (i := 0) rfl
      have d3 : wr.cell? ⟨w.heap.size, 3, none⟩ = some (.slice ai is.length ci) := hbx.cell (i := 3) rfl
      have d4 : wr.cell? ⟨w.heap.size, 4, none⟩ = some (.slice ar rs.length cr) := hbx.cell (i := 4) rfl
      have HBY := Lib.hid hbx
      clear hbx
      have hrl := okT_rest HOK.out
      have hq6l : q6.length ≤ 70368744177000 := by
        have h1 := HL.out
        rw [encT_seven, List.length_cons] at h1
        simp only [List.length_append] at h1
        rw [HQ6.out, List.length_append, HQ5.out, List.length_append, HQ.out, List.length_append]
        simp only [List.length_cons, List.length_nil]
        omega
      have hbxn : ∀ g, (Value.slice a6 q6.length c6).ownBlock = some g → w.heap.size ≠ g := fun g hg => HBY.out.ne_row HB6.out (by decide) hg
      go_wp2_with (first | (at_builtin; refine Stop.out ?_))
      refine ⟨?_⟩
      refine wpList_append_row _ rfl _ _ 26 26 rfl 5 (.slice 5) 1 1 (.int .u8 0) info_u8 Try.underlying26 Try.underlying26 (by intro k h; cases h) rfl (.slice a6 q6.length c6) q6.length (byteV q6) rfl (HB6.out.still ((Keeps.refl _ wr).alloc _)) _ 1 [.int .u8 (rs.length : Int)] rfl rfl (lenOf_slice _ _ _) (firstCells_at _ rfl (cells_newAt (by first | rfl | rw [World.size_alloc]))) (by intro u hu; simp at hu; subst hu; rfl) (by unfold maxLen; omega) (by omega) ?_
      intro v' w8 ha
      obtain ⟨a8, c8, rfl, _, _⟩ := ha.row.len
      have hb8x : Blk w8 w.heap.size 42 [.int .i64 7, .int .i64 n, .string s, .slice ai is.length ci, .slice ar rs.length cr, .slice ab bs.size cb] := (HBY.out.alloc _).keeps ha.keeps fun h => hbxn _ h rfl
      have d0 : w8.cell? ⟨w.heap.size, 0, none⟩ = some (.int .i64 7) := hb8x.cell (i := 0) rfl
      have d3 : w8.cell? ⟨w.heap.size, 3, none⟩ = some (.slice ai is.length ci) := hb8x.cell (i := 3) rfl
      have d4 : w8.cell? ⟨w.heap.size, 4, none⟩ = some (.slice ar rs.length cr) := hb8x.cell (i := 4) rfl
      have hlr : (encN rs.length).length = 1 := by rw [encN_small (by omega)]; rfl
      have hbq8 : Bytes w8 (.slice a8 (q6.length + 1) c8) (q6 ++ encN rs.length) := Bytes.push ha (by rw [hlr]) (byte_len hrl)
      have hg8 : Grown w w8 (.slice a l.length c) (.slice a8 (q6.length + 1) c8) := HGW.out.trans ((Grown.of ha).ahead ((Keeps.refl _ wr).alloc _))
      obtain ⟨q8, hq8⟩ : ∃ q8, q8 = q6 ++ encN rs.length := ⟨_, rfl⟩
      have hq8l : q6.length + 1 = q8.length := by rw [hq8, List.length_append, hlr]
      rw [← hq8, hq8l] at hbq8
      rw [hq8l] at hg8
      rw [hq8l]
      have HB8 := Lib.hid hbq8
      have HG8 := Lib.hid hg8
      have HQ8 := Lib.hid hq8
      have HBZ := Lib.hid hb8x
      have hrll : rs.length ≤ 140737488355328 := by omega
      clear ha hbq8 hg8 hq8 hq8l hlr hb8x hbxn
      go_wp2
      go_loopw [0, 71] (fun b c wr => ItemsAt q8 rs w8 (.slice a8 q8.length c8) b c wr) (fun _ c _ => rs.length - (intOf c).toNat)
      case atStart => exact ⟨0, q8, rfl, Nat.zero_le _, by simp [encTs], HB8.out, Grown.refl _ _⟩
      case round =>
        obtain ⟨i, q9, rfl, hi, hq9, hb9, hg9⟩ := hrel
        obtain ⟨a9, c9, rfl⟩ := hb9.form
        have HQ9 := Lib.hid hq9
        have HB9 := Lib.hid hb9
        have HG9 := Lib.hid hg9
        have HGV := Lib.hid (HG8.out.trans hg9)
        clear hb9 hg9
        by_cases hlt : i < rs.length
        · obtain ⟨t, hti⟩ : ∃ t, rs[i]? = some t := ⟨rs[i], by simp⟩
          have hbd : q9.length + (encT t).length ≤ 70368744177000 := by
            have h1 := HL.out
            have h2 := encTs_next hti
            rw [encT_seven, List.length_cons] at h1
            simp only [List.length_append] at h1
            rw [hq9, List.length_append, HQ8.out, List.length_append, HQ6.out, List.length_append, HQ5.out, List.length_append, HQ.out, List.length_append]
            simp only [List.length_append, List.length_cons, List.length_nil]
            omega
          obtain ⟨_, _, _, e, _, hcm, hel⟩ := H4.out.keeps HGV.out.keeps (fun g hg he => HVS.out g he hg)
          cases e
          obtain ⟨b, o, vi, vr, vb, rfl, hSb, ⟨e0, e1, e2, e3, e4, e5⟩, htm⟩ := hel i t hti
          obtain ⟨a3, k3, a4, k4, a5', k5, rfl, rfl, rfl⟩ := htm.slices
          have HTI := Lib.hid hti
          have HTM := Lib.hid htm
          have hsw := HGV.out.keeps.size
          have hbr : b < wr.heap.size := by have := HS.out b hSb; omega
          unfold maxLen at hcm
          clear hti htm hel hq9
          go_wp2_with (first | (go_at_call 13; refine Stop.out ?_))
          refine ⟨(HIH.out _ S _ _ q9 t (HB9.out.still ((Keeps.refl _ wr).alloc _)) (HTM.out.keeps ((Keeps.refl (fun _ => False) wr).alloc _) fun _ _ h => h) (okTs_mem HOK.out.2.2 t (List.mem_of_getElem? HTI.out)) (fun x hx => by have := HS.out x hx; simp; omega) (HGV.out.notS HS.out HVS.out) hbd).mono ?_⟩
          rintro e w10 ⟨v10, q10, rfl, hq10, hb10, hg10⟩
          have HB10 := Lib.hid hb10
          have HG10 := Lib.hid (HG9.out.trans (hg10.ahead ((Keeps.refl _ wr).alloc _)))
          have HQ10 := Lib.hid hq10
          clear hb10 hg10 hq10 e0 e1 e2 e3 e4 e5
          go_wp2
          refine ⟨⟨i + 1, q10, by go_num, by omega, ?_, HB10.out, HG10.out⟩, by simp [intOf]; omega⟩
          rw [HQ10.out, HQ9.out, encTs_take HTI.out, List.append_assoc]
        · obtain rfl : i = rs.length := by omega
          rw [List.take_length] at hq9
          have HQ9 := Lib.hid hq9
          clear hq9
          have hbz := HBZ.out.keeps HG9.out.keeps fun h => HBZ.out.ne_row HB8.out (by decide) h rfl
          have d0 : wr.cell? ⟨w.heap.size, 0, none⟩ = some (.int .i64 7) := hbz.cell (i := 0) rfl
          have d3 : wr.cell? ⟨w.heap.size, 3, none⟩ = some (.slice ai is.length ci) := hbz.cell (i := 3) rfl
          have d4 : wr.cell? ⟨w.heap.size, 4, none⟩ = some (.slice ar rs.length cr) := hbz.cell (i := 4) rfl
          have HBV := Lib.hid hbz
          clear hbz
          go_wp2
          go_ret
          refine ⟨_, q9, rfl, ?_, HB9.out, HGV.out⟩
          rw [HQ9.out, HQ8.out, HQ6.out, HQ5.out, HQ.out, encT_seven]
          simp
theorem enc_step (d : Nat) (IH : EncSpec d) : EncSpec (d + 1) := by
  intro w S v u l t h ht hok hS hvS hl
  obtain ⟨k, n, s, is, rs, bs⟩ := t
  have hk := okB_kinds hok.1
  simp only [Tm.kind] at hk
  rcases hk with rfl | rfl | rfl | rfl | rfl | rfl | rfl | rfl
  · exact term_k1 n s bs is rs h ht hS hvS hl
  · exact term_k2 n s bs is rs h ht hS hvS hl
  · exact term_k3 n s bs is rs h ht hS hvS hl
  · exact term_k4 n s bs is rs h ht hS hvS hl
  · exact term_k5 IH n s bs is rs h ht hok hS hvS hl
  · exact term_k6 n s bs is rs h ht hS hvS hl
  · exact term_k7 IH n s bs is rs h ht hok hS hvS hl
  · exact term_k8 n s bs is rs h ht hS hvS hl
theorem enc_any : ∀ d, EncSpec d
  | 0 => fun _ _ _ _ _ _ _ h => h.elim
  | d + 1 => enc_step d (enc_any d)
end Go.Proofs.Ytgmieehheoknbaa

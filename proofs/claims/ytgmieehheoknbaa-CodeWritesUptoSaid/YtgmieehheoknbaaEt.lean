/-
  A term's bytes: what the Go code does (code.term), at terms without parts.
-/
import Derived.Test.YtgmieehheoknbaaEt0
import Derived.Test.YtgmieehheoknbaaEs
namespace Go.Proofs.Ytgmieehheoknbaa
open Go.RowKit Go.Tx
theorem sign_any {w : World} {v : Value} {l : List UInt8} (x : Int) (h0 : -9223372036854775808 ≤ x) (h1 : x ≤ 9223372036854775807) (h : Bytes w v l) (hl : l.length ≤ 70368744177664) :
    Calls Try.prog 15 #[v, .int .i64 x] w (AppPost l (encS x) v w) := by
  by_cases hx : x < 0
  · exact sign_neg x hx h0 h hl
  · exact sign_pos x (by omega) h1 h hl
set_option maxRecDepth 100000 in
set_option maxHeartbeats 800000 in
theorem term_k1 {w : World} {v u : Value} {l : List UInt8} {S : Nat → Prop} {d : Nat} (n : Int) (s bs : ByteArray) (is rs : List Tm) (h : Bytes w v l) (ht : TmD w S d u (.mk 1 n s is rs bs)) (hS : ∀ x, S x → x < w.heap.size) (hvS : ∀ g, v.ownBlock = some g → ¬ S g) (hl : l.length + (encT (.mk 1 n s is rs bs)).length ≤ 70368744177000) :
    Calls Try.prog 13 #[v, u] w (AppPost l (encT (.mk 1 n s is rs bs)) v w) := by
  obtain ⟨d, rfl⟩ : ∃ e, d = e + 1 := by
    cases d with
    | zero => exact ht.elim
    | succ e => exact ⟨e, rfl⟩
  obtain ⟨y3, y4, y5, rfl, hf, hn, h3, h4, h5⟩ := ht
  obtain ⟨ai, ci, rfl⟩ := h3.form
  obtain ⟨ar, cr, rfl⟩ := h4.form
  obtain ⟨ab, cb, rfl⟩ := h5.form
  have H5 := Lib.hid h5
  have HF := Lib.hid hf
  have HL := Lib.hid hl
  have HVS := Lib.hid hvS
  have hll : l.length ≤ 70368744177000 := by omega
  have hvlt : ∀ g, v.ownBlock = some g → g < w.heap.size := fun g hg => Row.lt h hg
  have HVL := Lib.hid hvlt
  have H := Lib.hid h
  obtain ⟨a, c, rfl⟩ := h.form
  simp only [Tm.val, Tm.kind, Tm.n, Tm.name, Tm.items, Tm.rest, Tm.bytes] at *
  clear h h3 h4 h5 hf hvS hvlt hl hn
  go_enter Try.func13, Try.ntmps13
  go_wp2_with (first | (at_builtin; refine Stop.out ?_))
  refine ⟨?_⟩
  refine wpList_append_row _ rfl _ _ 26 26 rfl 5 (.slice 5) 1 1 (.int .u8 0) info_u8 Try.underlying26 Try.underlying26 (by intro k h; cases h) rfl (.slice a l.length c) l.length (byteV l) rfl (H.out.still (((Keeps.refl _ w).alloc _).alloc _)) _ 1 [.int .u8 1] rfl rfl (lenOf_slice _ _ _) (firstCells_at _ rfl (cells_newAt (by first | rfl | rw [World.size_alloc]))) (by intro u hu; simp at hu; subst hu; rfl) (by unfold maxLen; omega) (by omega) ?_
  intro v' w4 ha
  obtain ⟨va, vc, rfl, _, _⟩ := ha.row.len
  have hk4 : Keeps (Own (.slice a l.length c)) w w4 := (((Keeps.refl _ w).alloc _).alloc _).trans ha.keeps fun _ _ h => h
  have hb4 : Blk w4 w.heap.size 42 [.int .i64 1, .int .i64 n, .string s, .slice ai is.length ci, .slice ar rs.length cr, .slice ab bs.size cb] := ((Blk.new w _ _).alloc _).keeps ha.keeps fun h => by have := HVL.out _ h; omega
  have d0 : w4.cell? ⟨w.heap.size, 0, none⟩ = some (.int .i64 1) := hb4.cell (i := 0) rfl
  have d1 : w4.cell? ⟨w.heap.size, 1, none⟩ = some (.int .i64 n) := hb4.cell (i := 1) rfl
  have d2 : w4.cell? ⟨w.heap.size, 2, none⟩ = some (.string s) := hb4.cell (i := 2) rfl
  have d5 : w4.cell? ⟨w.heap.size, 5, none⟩ = some (.slice ab bs.size cb) := hb4.cell (i := 5) rfl
  have hbq : Bytes w4 (.slice va (l.length + 1) vc) (l ++ [UInt8.ofNat 1]) := Bytes.push ha rfl rfl
  have hg4 : Grown w w4 (.slice a l.length c) (.slice va (l.length + 1) vc) := (Grown.of ha).ahead (((Keeps.refl _ w).alloc _).alloc _)
  obtain ⟨q, hq⟩ : ∃ q, q = l ++ [UInt8.ofNat 1] := ⟨_, rfl⟩
  have hql : l.length + 1 = q.length := by rw [hq]; simp
  rw [← hq, hql] at hbq
  rw [hql] at hg4
  rw [hql]
  have HB := Lib.hid hbq
  have HG := Lib.hid hg4
  have HQ := Lib.hid hq
  have hq2 : q.length ≤ 70368744177001 := by omega
  have hq3 : q.length ≤ l.length + 1 := by omega
  clear ha hk4 hb4 hbq hg4 hq hql
  go_wp2_with (first | (go_at_call 15; refine Stop.out ?_))
  refine ⟨(sign_any n HF.out.n1 HF.out.n2 HB.out (by omega)).mono ?_⟩
  rintro e w5 ⟨v5, q5, rfl, hq5, hb5, hg5⟩
  have HB5 := Lib.hid hb5
  have HG5 := Lib.hid hg5
  have HQ5 := Lib.hid hq5
  clear hb5 hg5 hq5
  go_wp2
  go_ret
  refine ⟨_, q5, rfl, ?_, HB5.out, HG.out.trans HG5.out⟩
  rw [HQ5.out, HQ.out, encT]
  simp
set_option maxRecDepth 100000 in
set_option maxHeartbeats 800000 in
theorem term_k3 {w : World} {v u : Value} {l : List UInt8} {S : Nat → Prop} {d : Nat} (n : Int) (s bs : ByteArray) (is rs : List Tm) (h : Bytes w v l) (ht : TmD w S d u (.mk 3 n s is rs bs)) (hS : ∀ x, S x → x < w.heap.size) (hvS : ∀ g, v.ownBlock = some g → ¬ S g) (hl : l.length + (encT (.mk 3 n s is rs bs)).length ≤ 70368744177000) :
    Calls Try.prog 13 #[v, u] w (AppPost l (encT (.mk 3 n s is rs bs)) v w) := by
  obtain ⟨d, rfl⟩ : ∃ e, d = e + 1 := by
    cases d with
    | zero => exact ht.elim
    | succ e => exact ⟨e, rfl⟩
  obtain ⟨y3, y4, y5, rfl, hf, hn, h3, h4, h5⟩ := ht
  obtain ⟨ai, ci, rfl⟩ := h3.form
  obtain ⟨ar, cr, rfl⟩ := h4.form
  obtain ⟨ab, cb, rfl⟩ := h5.form
  have H5 := Lib.hid h5
  have HF := Lib.hid hf
  have HL := Lib.hid hl
  have HVS := Lib.hid hvS
  have hll : l.length ≤ 70368744177000 := by omega
  have hvlt : ∀ g, v.ownBlock = some g → g < w.heap.size := fun g hg => Row.lt h hg
  have HVL := Lib.hid hvlt
  have H := Lib.hid h
  obtain ⟨a, c, rfl⟩ := h.form
  simp only [Tm.val, Tm.kind, Tm.n, Tm.name, Tm.items, Tm.rest, Tm.bytes] at *
  clear h h3 h4 h5 hf hvS hvlt hl hn
  go_enter Try.func13, Try.ntmps13
  go_wp2_with (first | (at_builtin; refine Stop.out ?_))
  refine ⟨?_⟩
  refine wpList_append_row _ rfl _ _ 26 26 rfl 5 (.slice 5) 1 1 (.int .u8 0) info_u8 Try.underlying26 Try.underlying26 (by intro k h; cases h) rfl (.slice a l.length c) l.length (byteV l) rfl (H.out.still (((Keeps.refl _ w).alloc _).alloc _)) _ 1 [.int .u8 3] rfl rfl (lenOf_slice _ _ _) (firstCells_at _ rfl (cells_newAt (by first | rfl | rw [World.size_alloc]))) (by intro u hu; simp at hu; subst hu; rfl) (by unfold maxLen; omega) (by omega) ?_
  intro v' w4 ha
  obtain ⟨va, vc, rfl, _, _⟩ := ha.row.len
  have hk4 : Keeps (Own (.slice a l.length c)) w w4 := (((Keeps.refl _ w).alloc _).alloc _).trans ha.keeps fun _ _ h => h
  have hb4 : Blk w4 w.heap.size 42 [.int .i64 3, .int .i64 n, .string s, .slice ai is.length ci, .slice ar rs.length cr, .slice ab bs.size cb] := ((Blk.new w _ _).alloc _).keeps ha.keeps fun h => by have := HVL.out _ h; omega
  have d0 : w4.cell? ⟨w.heap.size, 0, none⟩ = some (.int .i64 3) := hb4.cell (i := 0) rfl
  have d1 : w4.cell? ⟨w.heap.size, 1, none⟩ = some (.int .i64 n) := hb4.cell (i := 1) rfl
  have d2 : w4.cell? ⟨w.heap.size, 2, none⟩ = some (.string s) := hb4.cell (i := 2) rfl
  have d5 : w4.cell? ⟨w.heap.size, 5, none⟩ = some (.slice ab bs.size cb) := hb4.cell (i := 5) rfl
  have hbq : Bytes w4 (.slice va (l.length + 1) vc) (l ++ [UInt8.ofNat 3]) := Bytes.push ha rfl rfl
  have hg4 : Grown w w4 (.slice a l.length c) (.slice va (l.length + 1) vc) := (Grown.of ha).ahead (((Keeps.refl _ w).alloc _).alloc _)
  obtain ⟨q, hq⟩ : ∃ q, q = l ++ [UInt8.ofNat 3] := ⟨_, rfl⟩
  have hql : l.length + 1 = q.length := by rw [hq]; simp
  rw [← hq, hql] at hbq
  rw [hql] at hg4
  rw [hql]
  have HB := Lib.hid hbq
  have HG := Lib.hid hg4
  have HQ := Lib.hid hq
  have hq2 : q.length ≤ 70368744177001 := by omega
  have hq3 : q.length ≤ l.length + 1 := by omega
  clear ha hk4 hb4 hbq hg4 hq hql
  go_wp2_with (first | (go_at_call 15; refine Stop.out ?_))
  refine ⟨(sign_any n HF.out.n1 HF.out.n2 HB.out (by omega)).mono ?_⟩
  rintro e w5 ⟨v5, q5, rfl, hq5, hb5, hg5⟩
  have HB5 := Lib.hid hb5
  have HG5 := Lib.hid hg5
  have HQ5 := Lib.hid hq5
  clear hb5 hg5 hq5
  go_wp2
  go_ret
  refine ⟨_, q5, rfl, ?_, HB5.out, HG.out.trans HG5.out⟩
  rw [HQ5.out, HQ.out, encT]
  simp
set_option maxRecDepth 100000 in
set_option maxHeartbeats 800000 in
theorem term_k4 {w : World} {v u : Value} {l : List UInt8} {S : Nat → Prop} {d : Nat} (n : Int) (s bs : ByteArray) (is rs : List Tm) (h : Bytes w v l) (ht : TmD w S d u (.mk 4 n s is rs bs)) (hS : ∀ x, S x → x < w.heap.size) (hvS : ∀ g, v.ownBlock = some g → ¬ S g) (hl : l.length + (encT (.mk 4 n s is rs bs)).length ≤ 70368744177000) :
    Calls Try.prog 13 #[v, u] w (AppPost l (encT (.mk 4 n s is rs bs)) v w) := by
  obtain ⟨d, rfl⟩ : ∃ e, d = e + 1 := by
    cases d with
    | zero => exact ht.elim
    | succ e => exact ⟨e, rfl⟩
  obtain ⟨y3, y4, y5, rfl, hf, hn, h3, h4, h5⟩ := ht
  obtain ⟨ai, ci, rfl⟩ := h3.form
  obtain ⟨ar, cr, rfl⟩ := h4.form
  obtain ⟨ab, cb, rfl⟩ := h5.form
  have H5 := Lib.hid h5
  have HF := Lib.hid hf
  have HL := Lib.hid hl
  have HVS := Lib.hid hvS
  have hll : l.length ≤ 70368744177000 := by omega
  have hvlt : ∀ g, v.ownBlock = some g → g < w.heap.size := fun g hg => Row.lt h hg
  have HVL := Lib.hid hvlt
  have H := Lib.hid h
  obtain ⟨a, c, rfl⟩ := h.form
  simp only [Tm.val, Tm.kind, Tm.n, Tm.name, Tm.items, Tm.rest, Tm.bytes] at *
  clear h h3 h4 h5 hf hvS hvlt hl hn
  go_enter Try.func13, Try.ntmps13
  go_wp2_with (first | (at_builtin; refine Stop.out ?_))
  refine ⟨?_⟩
  refine wpList_append_row _ rfl _ _ 26 26 rfl 5 (.slice 5) 1 1 (.int .u8 0) info_u8 Try.underlying26 Try.underlying26 (by intro k h; cases h) rfl (.slice a l.length c) l.length (byteV l) rfl (H.out.still (((Keeps.refl _ w).alloc _).alloc _)) _ 1 [.int .u8 4] rfl rfl (lenOf_slice _ _ _) (firstCells_at _ rfl (cells_newAt (by first | rfl | rw [World.size_alloc]))) (by intro u hu; simp at hu; subst hu; rfl) (by unfold maxLen; omega) (by omega) ?_
  intro v' w4 ha
  obtain ⟨va, vc, rfl, _, _⟩ := ha.row.len
  have hk4 : Keeps (Own (.slice a l.length c)) w w4 := (((Keeps.refl _ w).alloc _).alloc _).trans ha.keeps fun _ _ h => h
  have hb4 : Blk w4 w.heap.size 42 [.int .i64 4, .int .i64 n, .string s, .slice ai is.length ci, .slice ar rs.length cr, .slice ab bs.size cb] := ((Blk.new w _ _).alloc _).keeps ha.keeps fun h => by have := HVL.out _ h; omega
  have d0 : w4.cell? ⟨w.heap.size, 0, none⟩ = some (.int .i64 4) := hb4.cell (i := 0) rfl
  have d1 : w4.cell? ⟨w.heap.size, 1, none⟩ = some (.int .i64 n) := hb4.cell (i := 1) rfl
  have d2 : w4.cell? ⟨w.heap.size, 2, none⟩ = some (.string s) := hb4.cell (i := 2) rfl
  have d5 : w4.cell? ⟨w.heap.size, 5, none⟩ = some (.slice ab bs.size cb) := hb4.cell (i := 5) rfl
  have hbq : Bytes w4 (.slice va (l.length + 1) vc) (l ++ [UInt8.ofNat 4]) := Bytes.push ha rfl rfl
  have hg4 : Grown w w4 (.slice a l.length c) (.slice va (l.length + 1) vc) := (Grown.of ha).ahead (((Keeps.refl _ w).alloc _).alloc _)
  obtain ⟨q, hq⟩ : ∃ q, q = l ++ [UInt8.ofNat 4] := ⟨_, rfl⟩
  have hql : l.length + 1 = q.length := by rw [hq]; simp
  rw [← hq, hql] at hbq
  rw [hql] at hg4
  rw [hql]
  have HB := Lib.hid hbq
  have HG := Lib.hid hg4
  have HQ := Lib.hid hq
  have hq2 : q.length ≤ 70368744177001 := by omega
  have hq3 : q.length ≤ l.length + 1 := by omega
  clear ha hk4 hb4 hbq hg4 hq hql
  go_wp2_with (first | (go_at_call 15; refine Stop.out ?_))
  refine ⟨(sign_any n HF.out.n1 HF.out.n2 HB.out (by omega)).mono ?_⟩
  rintro e w5 ⟨v5, q5, rfl, hq5, hb5, hg5⟩
  have HB5 := Lib.hid hb5
  have HG5 := Lib.hid hg5
  have HQ5 := Lib.hid hq5
  clear hb5 hg5 hq5
  go_wp2
  go_ret
  refine ⟨_, q5, rfl, ?_, HB5.out, HG.out.trans HG5.out⟩
  rw [HQ5.out, HQ.out, encT]
  simp
set_option maxRecDepth 100000 in
set_option maxHeartbeats 800000 in
theorem term_k2 {w : World} {v u : Value} {l : List UInt8} {S : Nat → Prop} {d : Nat} (n : Int) (s bs : ByteArray) (is rs : List Tm) (h : Bytes w v l) (ht : TmD w S d u (.mk 2 n s is rs bs)) (hS : ∀ x, S x → x < w.heap.size) (hvS : ∀ g, v.ownBlock = some g → ¬ S g) (hl : l.length + (encT (.mk 2 n s is rs bs)).length ≤ 70368744177000) :
    Calls Try.prog 13 #[v, u] w (AppPost l (encT (.mk 2 n s is rs bs)) v w) := by
  obtain ⟨d, rfl⟩ : ∃ e, d = e + 1 := by
    cases d with
    | zero => exact ht.elim
    | succ e => exact ⟨e, rfl⟩
  obtain ⟨y3, y4, y5, rfl, hf, hn, h3, h4, h5⟩ := ht
  obtain ⟨ai, ci, rfl⟩ := h3.form
  obtain ⟨ar, cr, rfl⟩ := h4.form
  obtain ⟨ab, cb, rfl⟩ := h5.form
  have H5 := Lib.hid h5
  have HF := Lib.hid hf
  have HL := Lib.hid hl
  have HVS := Lib.hid hvS
  have hll : l.length ≤ 70368744177000 := by omega
  have hvlt : ∀ g, v.ownBlock = some g → g < w.heap.size := fun g hg => Row.lt h hg
  have HVL := Lib.hid hvlt
  have H := Lib.hid h
  obtain ⟨a, c, rfl⟩ := h.form
  simp only [Tm.val, Tm.kind, Tm.n, Tm.name, Tm.items, Tm.rest, Tm.bytes] at *
  clear h h3 h4 h5 hf hvS hvlt hl hn
  go_enter Try.func13, Try.ntmps13
  go_wp2_with (first | (at_builtin; refine Stop.out ?_))
  refine ⟨?_⟩
  refine wpList_append_row _ rfl _ _ 26 26 rfl 5 (.slice 5) 1 1 (.int .u8 0) info_u8 Try.underlying26 Try.underlying26 (by intro k h; cases h) rfl (.slice a l.length c) l.length (byteV l) rfl (H.out.still (((Keeps.refl _ w).alloc _).alloc _)) _ 1 [.int .u8 2] rfl rfl (lenOf_slice _ _ _) (firstCells_at _ rfl (cells_newAt (by first | rfl | rw [World.size_alloc]))) (by intro u hu; simp at hu; subst hu; rfl) (by unfold maxLen; omega) (by omega) ?_
  intro v' w4 ha
  obtain ⟨va, vc, rfl, _, _⟩ := ha.row.len
  have hk4 : Keeps (Own (.slice a l.length c)) w w4 := (((Keeps.refl _ w).alloc _).alloc _).trans ha.keeps fun _ _ h => h
  have hb4 : Blk w4 w.heap.size 42 [.int .i64 2, .int .i64 n, .string s, .slice ai is.length ci, .slice ar rs.length cr, .slice ab bs.size cb] := ((Blk.new w _ _).alloc _).keeps ha.keeps fun h => by have := HVL.out _ h; omega
  have d0 : w4.cell? ⟨w.heap.size, 0, none⟩ = some (.int .i64 2) := hb4.cell (i := 0) rfl
  have d1 : w4.cell? ⟨w.heap.size, 1, none⟩ = some (.int .i64 n) := hb4.cell (i := 1) rfl
  have d2 : w4.cell? ⟨w.heap.size, 2, none⟩ = some (.string s) := hb4.cell (i := 2) rfl
  have d5 : w4.cell? ⟨w.heap.size, 5, none⟩ = some (.slice ab bs.size cb) := hb4.cell (i := 5) rfl
  have hbq : Bytes w4 (.slice va (l.length + 1) vc) (l ++ [UInt8.ofNat 2]) := Bytes.push ha rfl rfl
  have hg4 : Grown w w4 (.slice a l.length c) (.slice va (l.length + 1) vc) := (Grown.of ha).ahead (((Keeps.refl _ w).alloc _).alloc _)
  obtain ⟨q, hq⟩ : ∃ q, q = l ++ [UInt8.ofNat 2] := ⟨_, rfl⟩
  have hql : l.length + 1 = q.length := by rw [hq]; simp
  rw [← hq, hql] at hbq
  rw [hql] at hg4
  rw [hql]
  have HB := Lib.hid hbq
  have HG := Lib.hid hg4
  have HQ := Lib.hid hq
  have hq2 : q.length ≤ 70368744177001 := by omega
  have hq3 : q.length ≤ l.length + 1 := by omega
  have hls : l.length + s.size + 1 ≤ 70368744177000 := by
    have := HL.out
    rw [encT, List.length_cons, if_neg (by decide), if_pos rfl, encB, List.length_append, Array.length_toList (xs := s.data)] at this
    have hs : s.data.size = s.size := rfl
    omega
  clear ha hk4 hb4 hbq hg4 hq hql
  go_wp2_with (first | (go_at_call 10; refine Stop.out ?_))
  refine ⟨(text_any s (by omega) HB.out (by omega) (by omega)).mono ?_⟩
  rintro e w5 ⟨v5, q5, rfl, hq5, hb5, hg5⟩
  have HB5 := Lib.hid hb5
  have HG5 := Lib.hid hg5
  have HQ5 := Lib.hid hq5
  clear hb5 hg5 hq5
  go_wp2
  go_ret
  refine ⟨_, q5, rfl, ?_, HB5.out, HG.out.trans HG5.out⟩
  rw [HQ5.out, HQ.out, encT]
  simp
set_option maxRecDepth 100000 in
set_option maxHeartbeats 800000 in
theorem term_k8 {w : World} {v u : Value} {l : List UInt8} {S : Nat → Prop} {d : Nat} (n : Int) (s bs : ByteArray) (is rs : List Tm) (h : Bytes w v l) (ht : TmD w S d u (.mk 8 n s is rs bs)) (hS : ∀ x, S x → x < w.heap.size) (hvS : ∀ g, v.ownBlock = some g → ¬ S g) (hl : l.length + (encT (.mk 8 n s is rs bs)).length ≤ 70368744177000) :
    Calls Try.prog 13 #[v, u] w (AppPost l (encT (.mk 8 n s is rs bs)) v w) := by
  obtain ⟨d, rfl⟩ : ∃ e, d = e + 1 := by
    cases d with
    | zero => exact ht.elim
    | succ e => exact ⟨e, rfl⟩
  obtain ⟨y3, y4, y5, rfl, hf, hn, h3, h4, h5⟩ := ht
  obtain ⟨ai, ci, rfl⟩ := h3.form
  obtain ⟨ar, cr, rfl⟩ := h4.form
  obtain ⟨ab, cb, rfl⟩ := h5.form
  have H5 := Lib.hid h5
  have HF := Lib.hid hf
  have HL := Lib.hid hl
  have HVS := Lib.hid hvS
  have hll : l.length ≤ 70368744177000 := by omega
  have hvlt : ∀ g, v.ownBlock = some g → g < w.heap.size := fun g hg => Row.lt h hg
  have HVL := Lib.hid hvlt
  have H := Lib.hid h
  obtain ⟨a, c, rfl⟩ := h.form
  simp only [Tm.val, Tm.kind, Tm.n, Tm.name, Tm.items, Tm.rest, Tm.bytes] at *
  clear h h3 h4 h5 hf hvS hvlt hl hn
  go_enter Try.func13, Try.ntmps13
  go_wp2_with (first | (at_builtin; refine Stop.out ?_))
  refine ⟨?_⟩
  refine wpList_append_row _ rfl _ _ 26 26 rfl 5 (.slice 5) 1 1 (.int .u8 0) info_u8 Try.underlying26 Try.underlying26 (by intro k h; cases h) rfl (.slice a l.length c) l.length (byteV l) rfl (H.out.still (((Keeps.refl _ w).alloc _).alloc _)) _ 1 [.int .u8 8] rfl rfl (lenOf_slice _ _ _) (firstCells_at _ rfl (cells_newAt (by first | rfl | rw [World.size_alloc]))) (by intro u hu; simp at hu; subst hu; rfl) (by unfold maxLen; omega) (by omega) ?_
  intro v' w4 ha
  obtain ⟨va, vc, rfl, _, _⟩ := ha.row.len
  have hk4 : Keeps (Own (.slice a l.length c)) w w4 := (((Keeps.refl _ w).alloc _).alloc _).trans ha.keeps fun _ _ h => h
  have hb4 : Blk w4 w.heap.size 42 [.int .i64 8, .int .i64 n, .string s, .slice ai is.length ci, .slice ar rs.length cr, .slice ab bs.size cb] := ((Blk.new w _ _).alloc _).keeps ha.keeps fun h => by have := HVL.out _ h; omega
  have d0 : w4.cell? ⟨w.heap.size, 0, none⟩ = some (.int .i64 8) := hb4.cell (i := 0) rfl
  have d1 : w4.cell? ⟨w.heap.size, 1, none⟩ = some (.int .i64 n) := hb4.cell (i := 1) rfl
  have d2 : w4.cell? ⟨w.heap.size, 2, none⟩ = some (.string s) := hb4.cell (i := 2) rfl
  have d5 : w4.cell? ⟨w.heap.size, 5, none⟩ = some (.slice ab bs.size cb) := hb4.cell (i := 5) rfl
  have hbq : Bytes w4 (.slice va (l.length + 1) vc) (l ++ [UInt8.ofNat 8]) := Bytes.push ha rfl rfl
  have hg4 : Grown w w4 (.slice a l.length c) (.slice va (l.length + 1) vc) := (Grown.of ha).ahead (((Keeps.refl _ w).alloc _).alloc _)
  obtain ⟨q, hq⟩ : ∃ q, q = l ++ [UInt8.ofNat 8] := ⟨_, rfl⟩
  have hql : l.length + 1 = q.length := by rw [hq]; simp
  rw [← hq, hql] at hbq
  rw [hql] at hg4
  rw [hql]
  have HB := Lib.hid hbq
  have HG := Lib.hid hg4
  have HQ := Lib.hid hq
  have hq2 : q.length ≤ 70368744177001 := by omega
  have hq3 : q.length ≤ l.length + 1 := by omega
  have hls : l.length + bs.size + 1 ≤ 70368744177000 := by
    have := HL.out
    rw [encT, List.length_cons, if_neg (by decide), if_neg (by decide), if_pos rfl, encB, List.length_append, Array.length_toList (xs := bs.data)] at this
    have hs : bs.data.size = bs.size := rfl
    omega
  have kc : (convert 26 9 (.slice ab bs.size cb)).run Try.prog w4 = .ok (.string bs) w4 := conv_bytes bs Try.underlying26 Try.underlying5 Try.underlying9 rfl fun hp => by
    obtain ⟨_, a', cap', e, _, _, hc⟩ := H5.out.keeps hk4 fun g hg he => HVS.out g he hg
    cases e
    obtain ⟨b, o, e, _, hcell⟩ := hc hp
    exact ⟨b, o, e, hcell⟩
  clear ha hk4 hb4 hbq hg4 hq hql
  go_wp2_with (first | (go_at_call 10; refine Stop.out ?_))
  refine ⟨(text_any bs (by omega) HB.out (by omega) (by omega)).mono ?_⟩
  rintro e w5 ⟨v5, q5, rfl, hq5, hb5, hg5⟩
  have HB5 := Lib.hid hb5
  have HG5 := Lib.hid hg5
  have HQ5 := Lib.hid hq5
  clear hb5 hg5 hq5
  go_wp2
  go_ret
  refine ⟨_, q5, rfl, ?_, HB5.out, HG.out.trans HG5.out⟩
  rw [HQ5.out, HQ.out, encT]
  simp
set_option maxRecDepth 100000 in
set_option maxHeartbeats 800000 in
theorem term_k6 {w : World} {v u : Value} {l : List UInt8} {S : Nat → Prop} {d : Nat} (n : Int) (s bs : ByteArray) (is rs : List Tm) (h : Bytes w v l) (ht : TmD w S d u (.mk 6 n s is rs bs)) (hS : ∀ x, S x → x < w.heap.size) (hvS : ∀ g, v.ownBlock = some g → ¬ S g) (hl : l.length + (encT (.mk 6 n s is rs bs)).length ≤ 70368744177000) :
    Calls Try.prog 13 #[v, u] w (AppPost l (encT (.mk 6 n s is rs bs)) v w) := by
  obtain ⟨d, rfl⟩ : ∃ e, d = e + 1 := by
    cases d with
    | zero => exact ht.elim
    | succ e => exact ⟨e, rfl⟩
  obtain ⟨y3, y4, y5, rfl, hf, hn, h3, h4, h5⟩ := ht
  obtain ⟨ai, ci, rfl⟩ := h3.form
  obtain ⟨ar, cr, rfl⟩ := h4.form
  obtain ⟨ab, cb, rfl⟩ := h5.form
  have H5 := Lib.hid h5
  have HF := Lib.hid hf
  have HL := Lib.hid hl
  have HVS := Lib.hid hvS
  have hll : l.length ≤ 70368744177000 := by omega
  have hvlt : ∀ g, v.ownBlock = some g → g < w.heap.size := fun g hg => Row.lt h hg
  have HVL := Lib.hid hvlt
  have H := Lib.hid h
  obtain ⟨a, c, rfl⟩ := h.form
  simp only [Tm.val, Tm.kind, Tm.n, Tm.name, Tm.items, Tm.rest, Tm.bytes] at *
  clear h h3 h4 h5 hf hvS hvlt hl hn
  go_enter Try.func13, Try.ntmps13
  go_wp2_with (first | (at_builtin; refine Stop.out ?_))
  refine ⟨?_⟩
  refine wpList_append_row _ rfl _ _ 26 26 rfl 5 (.slice 5) 1 1 (.int .u8 0) info_u8 Try.underlying26 Try.underlying26 (by intro k h; cases h) rfl (.slice a l.length c) l.length (byteV l) rfl (H.out.still (((Keeps.refl _ w).alloc _).alloc _)) _ 1 [.int .u8 6] rfl rfl (lenOf_slice _ _ _) (firstCells_at _ rfl (cells_newAt (by first | rfl | rw [World.size_alloc]))) (by intro u hu; simp at hu; subst hu; rfl) (by unfold maxLen; omega) (by omega) ?_
  intro v' w4 ha
  obtain ⟨va, vc, rfl, _, _⟩ := ha.row.len
  have hk4 : Keeps (Own (.slice a l.length c)) w w4 := (((Keeps.refl _ w).alloc _).alloc _).trans ha.keeps fun _ _ h => h
  have hb4 : Blk w4 w.heap.size 42 [.int .i64 6, .int .i64 n, .string s, .slice ai is.length ci, .slice ar rs.length cr, .slice ab bs.size cb] := ((Blk.new w _ _).alloc _).keeps ha.keeps fun h => by have := HVL.out _ h; omega
  have d0 : w4.cell? ⟨w.heap.size, 0, none⟩ = some (.int .i64 6) := hb4.cell (i := 0) rfl
  have d1 : w4.cell? ⟨w.heap.size, 1, none⟩ = some (.int .i64 n) := hb4.cell (i := 1) rfl
  have d2 : w4.cell? ⟨w.heap.size, 2, none⟩ = some (.string s) := hb4.cell (i := 2) rfl
  have d5 : w4.cell? ⟨w.heap.size, 5, none⟩ = some (.slice ab bs.size cb) := hb4.cell (i := 5) rfl
  have hbq : Bytes w4 (.slice va (l.length + 1) vc) (l ++ [UInt8.ofNat 6]) := Bytes.push ha rfl rfl
  have hg4 : Grown w w4 (.slice a l.length c) (.slice va (l.length + 1) vc) := (Grown.of ha).ahead (((Keeps.refl _ w).alloc _).alloc _)
  obtain ⟨q, hq⟩ : ∃ q, q = l ++ [UInt8.ofNat 6] := ⟨_, rfl⟩
  have hql : l.length + 1 = q.length := by rw [hq]; simp
  rw [← hq, hql] at hbq
  rw [hql] at hg4
  rw [hql]
  have HB := Lib.hid hbq
  have HG := Lib.hid hg4
  have HQ := Lib.hid hq
  have hq2 : q.length ≤ 70368744177001 := by omega
  have hq3 : q.length ≤ l.length + 1 := by omega
  clear ha hk4 hb4 hbq hg4 hq hql
  go_wp2
  go_ret
  refine ⟨_, q, rfl, ?_, HB.out, HG.out⟩
  rw [HQ.out, encT]
  simp
end Go.Proofs.Ytgmieehheoknbaa

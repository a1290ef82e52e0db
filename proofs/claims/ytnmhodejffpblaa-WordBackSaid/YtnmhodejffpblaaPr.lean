/-
  Which term a word is: what the document's code does (trouperef04.Plain), way by way.
-/
import Derived.Test.YtnmhodejffpblaaPn
import Derived.Test.YtnmhodejffpblaaWdM
namespace Go.Proofs.Ytnmhodejffpblaa
open Go.RowKit Go.Tx
set_option maxRecDepth 100000 in
set_option maxHeartbeats 400000 in
theorem bad_any (r k : Int) (w : World) : Calls Try.prog 47 #[.int .i64 r, .int .i64 k] w fun e w' => e = .returned (.tuple #[.agg #[.int .i64 0, .int .i64 0, .string ⟨#[]⟩, .slice none 0 0, .slice none 0 0, .slice none 0 0], .bool false, .pointer (some ⟨w.heap.size + 2, 0, none⟩)]) ∧
    w' = ((w.alloc (.cells #[.int .i64 0, .int .i64 0, .string ⟨#[]⟩, .slice none 0 0, .slice none 0 0, .slice none 0 0] 26)).alloc (.cells #[.string ⟨#[]⟩, .int .i64 0, .pointer none, .int .i64 k] 125)).alloc (.cells #[.string ⟨#[112, 108, 97, 105, 110]⟩, .int .i64 r, .pointer (some ⟨w.heap.size + 1, 0, none⟩), .int .i64 0] 125) := by
  go_enter Try.func47, Try.ntmps47
  go_wp2_with (first | (with_reducible refine wp_region_text (by kernel_rfl) (by kernel_rfl) ?_) | (with_reducible refine text_fin (by kernel_rfl) ?_) | (go_at_call 46; refine (K_any _ _).mono ?_; rintro e w1 ⟨rfl, rfl⟩) | (go_at_call 45; refine (f4_any _ _ _ _).mono ?_; rintro e w2 ⟨rfl, rfl⟩))
  exact bodyPost_ret (results_cellN rfl _ ⟨w.heap.size, 0, none⟩ rfl (leaf 0 0 ⟨#[]⟩) (load_at (((Blk.new w (leafCells 0 0 ⟨#[]⟩) _).alloc _).alloc _))) rfl ⟨rfl, rfl⟩
theorem rplain_err (w : World) (r k : Int) (e : Ending) (w' : World) (h : e = .returned (.tuple #[leaf 0 0 ⟨#[]⟩, .bool false, .pointer (some ⟨w.heap.size + 1 + 2, 0, none⟩)]) ∧
    w' = (((w.alloc (cell6 0 0 ⟨#[]⟩)).alloc (cell6 0 0 ⟨#[]⟩)).alloc (.cells #[.string ⟨#[]⟩, .int .i64 0, .pointer none, .int .i64 k] 125)).alloc (.cells #[.string ⟨#[112, 108, 97, 105, 110]⟩, .int .i64 r, .pointer (some ⟨w.heap.size + 1 + 1, 0, none⟩), .int .i64 0] 125)) :
    LeafXPost (plainErr r k) w e w' := by
  obtain ⟨rfl, rfl⟩ := h
  obtain ⟨v, he, h1, h2⟩ := isX_one (w := (w.alloc (cell6 0 0 ⟨#[]⟩)).alloc (cell6 0 0 ⟨#[]⟩)) (op := ⟨#[112, 108, 97, 105, 110]⟩) (n := r) (k := k) (g1 := w.heap.size + 1 + 1) (g2 := w.heap.size + 1 + 2) (by simp) (by simp) (f := fun v => (.tuple #[leaf 0 0 ⟨#[]⟩, .bool false, v]))
  have hk : Keeps (fun _ => False) w ((w.alloc (cell6 0 0 ⟨#[]⟩)).alloc (cell6 0 0 ⟨#[]⟩)) := ((Keeps.refl _ w).alloc _).alloc _
  exact ⟨v, he, ⟨h1.mono fun x hx => ⟨Nat.le_trans hk.size hx.1, hx.2⟩, by simp⟩, hk.trans h2 fun _ _ h => h⟩
set_option maxRecDepth 100000 in
set_option maxHeartbeats 800000 in
theorem rplain0 {w : World} {b : Nat} {E : Nat → Prop} {l : List ByteArray} (h : IsNames w b E l) (x q : Int) (h0 : 0 ≤ x) (h1 : x < 18446744073709551616) (hq : x / 8 = q) (hr : x % 8 = 0) (n : Int) (hn : wrap64 x / 8 = n) :
    Calls Try.prog 30 #[.int .u64 x, .pointer (some ⟨b, 0, none⟩)] w (LeafXPost ((1, n, ⟨#[]⟩), true, none) w) := by
  obtain ⟨la, lc, c4, hrow⟩ := h.list
  have hfew := h.few
  have hbw := h.lt b h.own
  have e1 : x.tmod 8 = 0 := by rw [Int.tmod_eq_emod_of_nonneg h0]; exact hr
  have e2 : x.tdiv 8 = q := by rw [Int.tdiv_eq_ediv_of_nonneg h0]; exact hq
  have wq : IntKind.u64.wrap q = q := by rw [wrap_u64]; omega
  have wl : IntKind.u64.wrap (l.length : Int) = l.length := by rw [wrap_u64]; omega
  clear h hrow hfew h0 h1
  go_enter Try.func30, Try.ntmps30
  go_wp2_with (first | (with_reducible refine wp_region_text (by kernel_rfl) (by kernel_rfl) ?_) | (with_reducible refine text_fin (by kernel_rfl) ?_) | (go_at_call 47; refine (bad_any _ _ _).mono ?_; rintro e w2 ⟨rfl, rfl⟩))
  exact bodyPost_ret (results_cellN rfl _ ⟨w.heap.size, 0, none⟩ rfl (leaf 1 n ⟨#[]⟩) (load_at (Blk.new w (leafCells 1 n ⟨#[]⟩) _))) rfl ⟨_, rfl, rfl, (Keeps.refl _ w).alloc _⟩
set_option maxRecDepth 100000 in
set_option maxHeartbeats 800000 in
theorem rplain1h {w : World} {b : Nat} {E : Nat → Prop} {l : List ByteArray} (h : IsNames w b E l) (x q : Int) (h0 : 0 ≤ x) (h1 : x < 18446744073709551616) (hq : x / 8 = q) (hr : x % 8 = 1) (hm : (l.length : Int) ≤ q) :
    Calls Try.prog 30 #[.int .u64 x, .pointer (some ⟨b, 0, none⟩)] w (LeafXPost (plainErr 1 3) w) := by
  obtain ⟨la, lc, c4, hrow⟩ := h.list
  have hfew := h.few
  have hbw := h.lt b h.own
  have e1 : x.tmod 8 = 1 := by rw [Int.tmod_eq_emod_of_nonneg h0]; exact hr
  have e2 : x.tdiv 8 = q := by rw [Int.tdiv_eq_ediv_of_nonneg h0]; exact hq
  have wq : IntKind.u64.wrap q = q := by rw [wrap_u64]; omega
  have wl : IntKind.u64.wrap (l.length : Int) = l.length := by rw [wrap_u64]; omega
  have g3 : decide ((l.length : Int) ≤ q) = true := decide_eq_true hm
  clear hm
  clear h hrow hfew h0 h1
  go_enter Try.func30, Try.ntmps30
  go_wp2_with (first | (with_reducible refine wp_region_text (by kernel_rfl) (by kernel_rfl) ?_) | (with_reducible refine text_fin (by kernel_rfl) ?_) | (go_at_call 47; refine (bad_any _ _ _).mono ?_; rintro e w2 ⟨rfl, rfl⟩))
  exact bodyPost_ret (results_cellN rfl _ ⟨w.heap.size, 0, none⟩ rfl (leaf 0 0 ⟨#[]⟩) (load_at ((((Blk.new w (leafCells 0 0 ⟨#[]⟩) _).alloc _).alloc _).alloc _))) rfl (rplain_err w _ _ _ _ ⟨rfl, rfl⟩)
set_option maxRecDepth 100000 in
set_option maxHeartbeats 800000 in
theorem rplain1s {w : World} {b : Nat} {E : Nat → Prop} {l : List ByteArray} (h : IsNames w b E l) (x : Int) (h0 : 0 ≤ x) (h1 : x < 18446744073709551616) (i : Nat) (t : ByteArray) (hq : x / 8 = (i : Int)) (hr : x % 8 = 1) (ht : l[i]? = some t) :
    Calls Try.prog 30 #[.int .u64 x, .pointer (some ⟨b, 0, none⟩)] w (LeafXPost ((2, 0, t), true, none) w) := by
  obtain ⟨la, lc, c4, hrow⟩ := h.list
  have hfew := h.few
  have hbw := h.lt b h.own
  have e1 : x.tmod 8 = 1 := by rw [Int.tmod_eq_emod_of_nonneg h0]; exact hr
  have e2 : x.tdiv 8 = (i : Int) := by rw [Int.tdiv_eq_ediv_of_nonneg h0]; exact hq
  have wq : IntKind.u64.wrap (i : Int) = (i : Int) := by rw [wrap_u64]; omega
  have wl : IntKind.u64.wrap (l.length : Int) = l.length := by rw [wrap_u64]; omega
  have hil : i < l.length := (List.getElem?_eq_some_iff.1 ht).1
  have g1 : decide ((l.length : Int) ≤ (i : Int)) = false := decide_eq_false (by omega)
  have g2 : decide (l.length ≤ i) = false := decide_eq_false (by omega)
  have g3 : decide ((i : Int) < 0) = false := decide_eq_false (by omega)
  obtain ⟨g, c2, ea, _, _⟩ := hrow.form (by omega)
  obtain ⟨rfl, rfl⟩ : la = some ⟨g, 0, none⟩ ∧ lc = c2 := by cases ea; exact ⟨rfl, rfl⟩
  have d0 := hrow.cell3 (i := i) (v := .string t) (by simp [nameCells, ht])
  have hg : g < w.heap.size := lt_cell d0
  clear ht ea
  clear h hrow hfew h0 h1
  go_enter Try.func30, Try.ntmps30
  go_wp2_with (first | (with_reducible refine wp_region_text (by kernel_rfl) (by kernel_rfl) ?_) | (with_reducible refine text_fin (by kernel_rfl) ?_) | (go_at_call 47; refine (bad_any _ _ _).mono ?_; rintro e w2 ⟨rfl, rfl⟩))
  exact bodyPost_ret (results_cellN rfl _ ⟨w.heap.size, 0, none⟩ rfl (leaf 2 0 t) (load_at (Blk.new w (leafCells 2 0 t) _))) rfl ⟨_, rfl, rfl, (Keeps.refl _ w).alloc _⟩
set_option maxRecDepth 100000 in
set_option maxHeartbeats 800000 in
theorem rplain2n {w : World} {b : Nat} {E : Nat → Prop} {l : List ByteArray} (h : IsNames w b E l) (x q : Int) (h0 : 0 ≤ x) (h1 : x < 18446744073709551616) (hq : x / 8 = q) (hr : x % 8 = 2) (hl : 1152921504606846976 ≤ q) :
    Calls Try.prog 30 #[.int .u64 x, .pointer (some ⟨b, 0, none⟩)] w (LeafXPost (plainErr 2 1) w) := by
  obtain ⟨la, lc, c4, hrow⟩ := h.list
  have hfew := h.few
  have hbw := h.lt b h.own
  have e1 : x.tmod 8 = 2 := by rw [Int.tmod_eq_emod_of_nonneg h0]; exact hr
  have e2 : x.tdiv 8 = q := by rw [Int.tdiv_eq_ediv_of_nonneg h0]; exact hq
  have wq : IntKind.u64.wrap q = q := by rw [wrap_u64]; omega
  have wl : IntKind.u64.wrap (l.length : Int) = l.length := by rw [wrap_u64]; omega
  have g1 : decide (1152921504606846976 ≤ q) = true := decide_eq_true hl
  clear hl
  clear h hrow hfew h0 h1
  go_enter Try.func30, Try.ntmps30
  go_wp2_with (first | (with_reducible refine wp_region_text (by kernel_rfl) (by kernel_rfl) ?_) | (with_reducible refine text_fin (by kernel_rfl) ?_) | (go_at_call 47; refine (bad_any _ _ _).mono ?_; rintro e w2 ⟨rfl, rfl⟩))
  exact bodyPost_ret (results_cellN rfl _ ⟨w.heap.size, 0, none⟩ rfl (leaf 0 0 ⟨#[]⟩) (load_at ((((Blk.new w (leafCells 0 0 ⟨#[]⟩) _).alloc _).alloc _).alloc _))) rfl (rplain_err w _ _ _ _ ⟨rfl, rfl⟩)
set_option maxRecDepth 100000 in
set_option maxHeartbeats 800000 in
theorem rplain2p {w : World} {b : Nat} {E : Nat → Prop} {l : List ByteArray} (h : IsNames w b E l) (x q : Int) (h0 : 0 ≤ x) (h1 : x < 18446744073709551616) (hq : x / 8 = q) (hr : x % 8 = 2) (hl : q < 1152921504606846976) :
    Calls Try.prog 30 #[.int .u64 x, .pointer (some ⟨b, 0, none⟩)] w (LeafXPost ((4, q, ⟨#[]⟩), true, none) w) := by
  obtain ⟨la, lc, c4, hrow⟩ := h.list
  have hfew := h.few
  have hbw := h.lt b h.own
  have e1 : x.tmod 8 = 2 := by rw [Int.tmod_eq_emod_of_nonneg h0]; exact hr
  have e2 : x.tdiv 8 = q := by rw [Int.tdiv_eq_ediv_of_nonneg h0]; exact hq
  have wq : IntKind.u64.wrap q = q := by rw [wrap_u64]; omega
  have wl : IntKind.u64.wrap (l.length : Int) = l.length := by rw [wrap_u64]; omega
  have g1 : decide (1152921504606846976 ≤ q) = false := decide_eq_false (by omega)
  have w6 : wrap64 q = q := by unfold wrap64; omega
  clear hl
  clear h hrow hfew h0 h1
  go_enter Try.func30, Try.ntmps30
  go_wp2_with (first | (with_reducible refine wp_region_text (by kernel_rfl) (by kernel_rfl) ?_) | (with_reducible refine text_fin (by kernel_rfl) ?_) | (go_at_call 47; refine (bad_any _ _ _).mono ?_; rintro e w2 ⟨rfl, rfl⟩))
  exact bodyPost_ret (results_cellN rfl _ ⟨w.heap.size, 0, none⟩ rfl (leaf 4 q ⟨#[]⟩) (load_at (Blk.new w (leafCells 4 q ⟨#[]⟩) _))) rfl ⟨_, rfl, rfl, (Keeps.refl _ w).alloc _⟩
set_option maxRecDepth 100000 in
set_option maxHeartbeats 800000 in
theorem rplain3n {w : World} {b : Nat} {E : Nat → Prop} {l : List ByteArray} (h : IsNames w b E l) (x q : Int) (h0 : 0 ≤ x) (h1 : x < 18446744073709551616) (hq : x / 8 = q) (hr : x % 8 = 3) (hl : 1152921504606846976 ≤ q) :
    Calls Try.prog 30 #[.int .u64 x, .pointer (some ⟨b, 0, none⟩)] w (LeafXPost (plainErr 3 1) w) := by
  obtain ⟨la, lc, c4, hrow⟩ := h.list
  have hfew := h.few
  have hbw := h.lt b h.own
  have e1 : x.tmod 8 = 3 := by rw [Int.tmod_eq_emod_of_nonneg h0]; exact hr
  have e2 : x.tdiv 8 = q := by rw [Int.tdiv_eq_ediv_of_nonneg h0]; exact hq
  have wq : IntKind.u64.wrap q = q := by rw [wrap_u64]; omega
  have wl : IntKind.u64.wrap (l.length : Int) = l.length := by rw [wrap_u64]; omega
  have g1 : decide (1152921504606846976 ≤ q) = true := decide_eq_true hl
  clear hl
  clear h hrow hfew h0 h1
  go_enter Try.func30, Try.ntmps30
  go_wp2_with (first | (with_reducible refine wp_region_text (by kernel_rfl) (by kernel_rfl) ?_) | (with_reducible refine text_fin (by kernel_rfl) ?_) | (go_at_call 47; refine (bad_any _ _ _).mono ?_; rintro e w2 ⟨rfl, rfl⟩))
  exact bodyPost_ret (results_cellN rfl _ ⟨w.heap.size, 0, none⟩ rfl (leaf 0 0 ⟨#[]⟩) (load_at ((((Blk.new w (leafCells 0 0 ⟨#[]⟩) _).alloc _).alloc _).alloc _))) rfl (rplain_err w _ _ _ _ ⟨rfl, rfl⟩)
set_option maxRecDepth 100000 in
set_option maxHeartbeats 800000 in
theorem rplain3p {w : World} {b : Nat} {E : Nat → Prop} {l : List ByteArray} (h : IsNames w b E l) (x q : Int) (h0 : 0 ≤ x) (h1 : x < 18446744073709551616) (hq : x / 8 = q) (hr : x % 8 = 3) (hl : q < 1152921504606846976) :
    Calls Try.prog 30 #[.int .u64 x, .pointer (some ⟨b, 0, none⟩)] w (LeafXPost ((3, q, ⟨#[]⟩), true, none) w) := by
  obtain ⟨la, lc, c4, hrow⟩ := h.list
  have hfew := h.few
  have hbw := h.lt b h.own
  have e1 : x.tmod 8 = 3 := by rw [Int.tmod_eq_emod_of_nonneg h0]; exact hr
  have e2 : x.tdiv 8 = q := by rw [Int.tdiv_eq_ediv_of_nonneg h0]; exact hq
  have wq : IntKind.u64.wrap q = q := by rw [wrap_u64]; omega
  have wl : IntKind.u64.wrap (l.length : Int) = l.length := by rw [wrap_u64]; omega
  have g1 : decide (1152921504606846976 ≤ q) = false := decide_eq_false (by omega)
  have w6 : wrap64 q = q := by unfold wrap64; omega
  clear hl
  clear h hrow hfew h0 h1
  go_enter Try.func30, Try.ntmps30
  go_wp2_with (first | (with_reducible refine wp_region_text (by kernel_rfl) (by kernel_rfl) ?_) | (with_reducible refine text_fin (by kernel_rfl) ?_) | (go_at_call 47; refine (bad_any _ _ _).mono ?_; rintro e w2 ⟨rfl, rfl⟩))
  exact bodyPost_ret (results_cellN rfl _ ⟨w.heap.size, 0, none⟩ rfl (leaf 3 q ⟨#[]⟩) (load_at (Blk.new w (leafCells 3 q ⟨#[]⟩) _))) rfl ⟨_, rfl, rfl, (Keeps.refl _ w).alloc _⟩
set_option maxRecDepth 100000 in
set_option maxHeartbeats 800000 in
theorem rplain4z {w : World} {b : Nat} {E : Nat → Prop} {l : List ByteArray} (h : IsNames w b E l) (x : Int) (h0 : 0 ≤ x) (h1 : x < 18446744073709551616) (hq : x / 8 = 0) (hr : x % 8 = 4)  :
    Calls Try.prog 30 #[.int .u64 x, .pointer (some ⟨b, 0, none⟩)] w (LeafXPost ((6, 0, ⟨#[]⟩), true, none) w) := by
  obtain ⟨la, lc, c4, hrow⟩ := h.list
  have hfew := h.few
  have hbw := h.lt b h.own
  have e1 : x.tmod 8 = 4 := by rw [Int.tmod_eq_emod_of_nonneg h0]; exact hr
  have e2 : x.tdiv 8 = 0 := by rw [Int.tdiv_eq_ediv_of_nonneg h0]; exact hq
  have wq : IntKind.u64.wrap 0 = 0 := by rw [wrap_u64]; omega
  have wl : IntKind.u64.wrap (l.length : Int) = l.length := by rw [wrap_u64]; omega
  clear h hrow hfew h0 h1
  go_enter Try.func30, Try.ntmps30
  go_wp2_with (first | (with_reducible refine wp_region_text (by kernel_rfl) (by kernel_rfl) ?_) | (with_reducible refine text_fin (by kernel_rfl) ?_) | (go_at_call 47; refine (bad_any _ _ _).mono ?_; rintro e w2 ⟨rfl, rfl⟩))
  exact bodyPost_ret (results_cellN rfl _ ⟨w.heap.size, 0, none⟩ rfl (leaf 6 0 ⟨#[]⟩) (load_at (Blk.new w (leafCells 6 0 ⟨#[]⟩) _))) rfl ⟨_, rfl, rfl, (Keeps.refl _ w).alloc _⟩
set_option maxRecDepth 100000 in
set_option maxHeartbeats 800000 in
theorem rplain4x {w : World} {b : Nat} {E : Nat → Prop} {l : List ByteArray} (h : IsNames w b E l) (x q : Int) (h0 : 0 ≤ x) (h1 : x < 18446744073709551616) (hq : x / 8 = q) (hr : x % 8 = 4) (hl : q ≠ 0) :
    Calls Try.prog 30 #[.int .u64 x, .pointer (some ⟨b, 0, none⟩)] w (LeafXPost (plainErr 4 1) w) := by
  obtain ⟨la, lc, c4, hrow⟩ := h.list
  have hfew := h.few
  have hbw := h.lt b h.own
  have e1 : x.tmod 8 = 4 := by rw [Int.tmod_eq_emod_of_nonneg h0]; exact hr
  have e2 : x.tdiv 8 = q := by rw [Int.tdiv_eq_ediv_of_nonneg h0]; exact hq
  have wq : IntKind.u64.wrap q = q := by rw [wrap_u64]; omega
  have wl : IntKind.u64.wrap (l.length : Int) = l.length := by rw [wrap_u64]; omega
  have g1 : (q == 0) = false := by simpa using hl
  clear hl
  clear h hrow hfew h0 h1
  go_enter Try.func30, Try.ntmps30
  go_wp2_with (first | (with_reducible refine wp_region_text (by kernel_rfl) (by kernel_rfl) ?_) | (with_reducible refine text_fin (by kernel_rfl) ?_) | (go_at_call 47; refine (bad_any _ _ _).mono ?_; rintro e w2 ⟨rfl, rfl⟩))
  exact bodyPost_ret (results_cellN rfl _ ⟨w.heap.size, 0, none⟩ rfl (leaf 0 0 ⟨#[]⟩) (load_at ((((Blk.new w (leafCells 0 0 ⟨#[]⟩) _).alloc _).alloc _).alloc _))) rfl (rplain_err w _ _ _ _ ⟨rfl, rfl⟩)
set_option maxRecDepth 100000 in
set_option maxHeartbeats 800000 in
theorem rplain5 {w : World} {b : Nat} {E : Nat → Prop} {l : List ByteArray} (h : IsNames w b E l) (x q : Int) (h0 : 0 ≤ x) (h1 : x < 18446744073709551616) (hq : x / 8 = q) (hr : x % 8 = 5)  :
    Calls Try.prog 30 #[.int .u64 x, .pointer (some ⟨b, 0, none⟩)] w (LeafXPost ((0, 0, ⟨#[]⟩), false, none) w) := by
  obtain ⟨la, lc, c4, hrow⟩ := h.list
  have hfew := h.few
  have hbw := h.lt b h.own
  have e1 : x.tmod 8 = 5 := by rw [Int.tmod_eq_emod_of_nonneg h0]; exact hr
  have e2 : x.tdiv 8 = q := by rw [Int.tdiv_eq_ediv_of_nonneg h0]; exact hq
  have wq : IntKind.u64.wrap q = q := by rw [wrap_u64]; omega
  have wl : IntKind.u64.wrap (l.length : Int) = l.length := by rw [wrap_u64]; omega
  clear h hrow hfew h0 h1
  go_enter Try.func30, Try.ntmps30
  go_wp2_with (first | (with_reducible refine wp_region_text (by kernel_rfl) (by kernel_rfl) ?_) | (with_reducible refine text_fin (by kernel_rfl) ?_) | (go_at_call 47; refine (bad_any _ _ _).mono ?_; rintro e w2 ⟨rfl, rfl⟩))
  exact bodyPost_ret (results_cellN rfl _ ⟨w.heap.size, 0, none⟩ rfl (leaf 0 0 ⟨#[]⟩) (load_at (Blk.new w (leafCells 0 0 ⟨#[]⟩) _))) rfl ⟨_, rfl, rfl, (Keeps.refl _ w).alloc _⟩
set_option maxRecDepth 100000 in
set_option maxHeartbeats 800000 in
theorem rplain6 {w : World} {b : Nat} {E : Nat → Prop} {l : List ByteArray} (h : IsNames w b E l) (x q : Int) (h0 : 0 ≤ x) (h1 : x < 18446744073709551616) (hq : x / 8 = q) (hr : x % 8 = 6)  :
    Calls Try.prog 30 #[.int .u64 x, .pointer (some ⟨b, 0, none⟩)] w (LeafXPost ((0, 0, ⟨#[]⟩), false, none) w) := by
  obtain ⟨la, lc, c4, hrow⟩ := h.list
  have hfew := h.few
  have hbw := h.lt b h.own
  have e1 : x.tmod 8 = 6 := by rw [Int.tmod_eq_emod_of_nonneg h0]; exact hr
  have e2 : x.tdiv 8 = q := by rw [Int.tdiv_eq_ediv_of_nonneg h0]; exact hq
  have wq : IntKind.u64.wrap q = q := by rw [wrap_u64]; omega
  have wl : IntKind.u64.wrap (l.length : Int) = l.length := by rw [wrap_u64]; omega
  clear h hrow hfew h0 h1
  go_enter Try.func30, Try.ntmps30
  go_wp2_with (first | (with_reducible refine wp_region_text (by kernel_rfl) (by kernel_rfl) ?_) | (with_reducible refine text_fin (by kernel_rfl) ?_) | (go_at_call 47; refine (bad_any _ _ _).mono ?_; rintro e w2 ⟨rfl, rfl⟩))
  exact bodyPost_ret (results_cellN rfl _ ⟨w.heap.size, 0, none⟩ rfl (leaf 0 0 ⟨#[]⟩) (load_at (Blk.new w (leafCells 0 0 ⟨#[]⟩) _))) rfl ⟨_, rfl, rfl, (Keeps.refl _ w).alloc _⟩
set_option maxRecDepth 100000 in
set_option maxHeartbeats 800000 in
theorem rplain7 {w : World} {b : Nat} {E : Nat → Prop} {l : List ByteArray} (h : IsNames w b E l) (x q : Int) (h0 : 0 ≤ x) (h1 : x < 18446744073709551616) (hq : x / 8 = q) (hr : x % 8 = 7)  :
    Calls Try.prog 30 #[.int .u64 x, .pointer (some ⟨b, 0, none⟩)] w (LeafXPost ((0, 0, ⟨#[]⟩), false, none) w) := by
  obtain ⟨la, lc, c4, hrow⟩ := h.list
  have hfew := h.few
  have hbw := h.lt b h.own
  have e1 : x.tmod 8 = 7 := by rw [Int.tmod_eq_emod_of_nonneg h0]; exact hr
  have e2 : x.tdiv 8 = q := by rw [Int.tdiv_eq_ediv_of_nonneg h0]; exact hq
  have wq : IntKind.u64.wrap q = q := by rw [wrap_u64]; omega
  have wl : IntKind.u64.wrap (l.length : Int) = l.length := by rw [wrap_u64]; omega
  clear h hrow hfew h0 h1
  go_enter Try.func30, Try.ntmps30
  go_wp2_with (first | (with_reducible refine wp_region_text (by kernel_rfl) (by kernel_rfl) ?_) | (with_reducible refine text_fin (by kernel_rfl) ?_) | (go_at_call 47; refine (bad_any _ _ _).mono ?_; rintro e w2 ⟨rfl, rfl⟩))
  exact bodyPost_ret (results_cellN rfl _ ⟨w.heap.size, 0, none⟩ rfl (leaf 0 0 ⟨#[]⟩) (load_at (Blk.new w (leafCells 0 0 ⟨#[]⟩) _))) rfl ⟨_, rfl, rfl, (Keeps.refl _ w).alloc _⟩
end Go.Proofs.Ytnmhodejffpblaa

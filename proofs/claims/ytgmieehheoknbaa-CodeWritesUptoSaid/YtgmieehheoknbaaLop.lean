/-
  The document's look at a term, its parts, the other kinds: what (*L).look does.
-/
import Derived.Test.YtgmieehheoknbaaLo
namespace Go.Proofs.Ytgmieehheoknbaa
open Go.RowKit Go.Tx
set_option maxRecDepth 100000 in
set_option maxHeartbeats 12800000 in
theorem look_n_parts_b (d : Nat) (IH : LookSpec d) (w : World) (S E : Nat → Prop) (v : Value) (k n : Int) (s : ByteArray) (is rs : List Tm) (bs : ByteArray) (g : Nat) (dep : Int) (h : TmD w S (d + 1) v (.mk k n s is rs bs)) (hgS : ∀ x, S x → ¬ x = g)
    (hE : ∀ x, E x → ¬ x = g) (hE2 : ∀ x, w.heap.size ≤ x → E x) (hd : 1 ≤ dep) (hd2 : dep ≤ 201) (p b : Int) (hl : LookIs w E g (.ok (p, b))) (hk8 : k ≠ 8) (hfl : p + 1 + (b + (Tm.mk k n s is rs bs).binSize) ≤ 65536 ∧ dep ≤ 200) (hkk : k = 5 ∨ k = 6 ∨ k = 7 ∨ (k ≠ 1 ∧ k ≠ 2 ∧ k ≠ 3 ∧ k ≠ 4 ∧ k ≠ 5 ∧ k ≠ 6 ∧ k ≠ 7)) :
    Calls Try.prog 31 #[.pointer (some ⟨g, 0, none⟩), v, .int .i64 dep] w (LookPost E g (chk (.mk k n s is rs bs) dep (p, b)) w) := by
  have HT := Lib.hid h
  obtain ⟨vi, vr, vb, rfl, hfine, hns, hi, hr, hbs⟩ := h
  have HIS := Lib.hid hi
  have HRS := Lib.hid hr
  obtain ⟨hil, ai, ci, rfl, hic, him, _⟩ := hi
  obtain ⟨hrl, ar, cr, rfl, hrc, hrm, _⟩ := hr
  obtain ⟨hbl, ab, cb, rfl, hbc, hbm, _⟩ := hbs
  simp only [Tm.kind, Tm.n, Tm.name, Tm.items, Tm.rest, Tm.bytes] at hil hrl hbl hic him hrc hrm hbc hbm hns HIS HRS
  have HIH := Lib.hid IH
  have HGS := Lib.hid hgS
  have HE1 := Lib.hid hE
  have HE2 := Lib.hid hE2
  obtain ⟨hb, hp, hb0, hpb⟩ := hl
  simp only at hb hp hb0 hpb
  obtain ⟨lf, hlf⟩ : ∃ lf : Int, lf = 65536 - (p + b) := ⟨_, rfl⟩
  rw [← hlf] at hb
  have HB := Lib.hid hb
  obtain ⟨q, hq⟩ : ∃ q, q = (Tm.mk k n s is rs bs).binSize := ⟨_, rfl⟩
  rw [← hq] at hfl
  obtain ⟨ok, hok⟩ : ∃ ok, ok = (Tm.mk k n s is rs bs).okB := ⟨_, rfl⟩
  have HOK := Lib.hid hok
  have HC : Hid (chk (.mk k n s is rs bs) dep (p, b) = if p + 1 + (b + q) > 65536 ∨ dep > 200 then .error (p, 2) else if ok = false then .error (p, 1) else (chks is (dep + 1) (p + 1, b + q)).bind fun st => chks rs (dep + 1) st) :=
    Lib.hid (by rw [chk, hq, hok])
  have c0 : w.cell? ⟨g, 0, none⟩ = some (.int .i64 lf) := hb.cell (i := 0) rfl
  have c1 : w.cell? ⟨g, 1, none⟩ = some (.int .i64 p) := hb.cell (i := 1) rfl
  have c2 : w.cell? ⟨g, 2, none⟩ = some (.pointer none) := hb.cell (i := 2) rfl
  have f0 := hb.free 0
  have f1 := hb.free 1
  have hg := hb.lt
  have l0 : 0 ≤ lf := by omega
  have l1 : lf ≤ 65536 := by omega
  have hq0 : (k = 8 → q = bs.size) ∧ (k ≠ 8 → q = 0) := by
    rw [hq]; unfold Tm.binSize
    by_cases h8 : k = 8
    · rw [if_pos (show (Tm.mk k n s is rs bs).kind = 8 from h8)]
      exact ⟨fun _ => rfl, fun h => absurd h8 h⟩
    · rw [if_neg (show ¬ (Tm.mk k n s is rs bs).kind = 8 from h8)]
      exact ⟨fun h => absurd h h8, fun _ => rfl⟩
  obtain ⟨hq2, hq3⟩ := hq0
  clear IH hq hok hb hgS hE hE2 HT hfine
  simp only [Tm.val, Tm.kind, Tm.n, Tm.name, Tm.items, Tm.rest, Tm.bytes]
  obtain rfl : q = 0 := hq3 hk8
  have hk8' : (k == 8) = false := by simpa using hk8
  have HC : Hid (chk (.mk k n s is rs bs) dep (p, b) = if p + 1 + b > 65536 ∨ dep > 200 then .error (p, 2) else if ok = false then .error (p, 1) else (chks is (dep + 1) (p + 1, b)).bind fun st => chks rs (dep + 1) st) := Lib.hid (by have := HC.out; rwa [Int.add_zero] at this)
  rw [Int.add_zero] at hfl
  have HK8 := Lib.hid hk8
  clear hq2 hq3 hk8
  have HFL := Lib.hid hfl
  have HLF := Lib.hid hlf
  have g1 : decide (lf - 1 < 0) = false := decide_eq_false (by omega)
  have g2 : decide (200 < dep) = false := decide_eq_false (by omega)
  clear hfl hlf
  go_enter Try.func31, Try.ntmps31
  go_upto_block 0 with (first | (with_reducible refine wp_region_text (by kernel_rfl) (by kernel_rfl) ?_) | (with_reducible refine text_fin (by kernel_rfl) ?_))
  go_cut [1, 7, 8, 9, 10, 11, 12] (fun _ _ _ _ _ _ s12 wc => s12 = .bool (!ok) ∧ Keeps (fun x => x = g) w wc ∧ Blk wc g 76 [.int .i64 (lf - 1), .int .i64 (p + 1), .pointer none] ∧ Blk wc w.heap.size 42 [.int .i64 k, .int .i64 n, .string s, .slice ai is.length ci, .slice ar rs.length cr, .slice ab bs.size cb])
  case first =>
    clear hil hrl hbl hic him hrc hrm hbc hbm hns hp hb0 hpb l0 l1 hd hd2 g1 g2
    rcases hkk with hk | hk | hk | ⟨n1, n2, n3, n4, n5, n6, n7⟩
    · as_aux_lemma =>
        have q1 : (k == 1) = false := by rw [hk]; rfl
        have q2 : (k == 2) = false := by rw [hk]; rfl
        have q3 : (k == 3) = false := by rw [hk]; rfl
        have q4 : (k == 4) = false := by rw [hk]; rfl
        have q5 : (k == 5) = true := by rw [hk]; rfl
        have HKK := Lib.hid hk
        clear hk
        go_wp2_with (first | (with_reducible refine wp_region_text (by kernel_rfl) (by kernel_rfl) ?_) | (with_reducible refine text_fin (by kernel_rfl) ?_))
        all_goals
          go_meet
          refine ⟨?_, (by repeat (first | with_reducible exact Keeps.refl _ _ | with_reducible apply Keeps.drew | with_reducible apply Keeps.alloc | refine Keeps.setCell (S := fun x => x = g) (p := ⟨g, _, none⟩) ?_ (fun _ => rfl) _)), (by repeat (first | with_reducible apply Blk.drew | with_reducible apply Blk.alloc | exact ((HB.out.set 1 (.int .i64 (p + 1))).set 0 (.int .i64 (lf - 1))))), (by have := Blk.new ((w.setCell ⟨g, 1, none⟩ (.int .i64 (p + 1))).setCell ⟨g, 0, none⟩ (.int .i64 (lf - 1))) [.int .i64 k, .int .i64 n, .string s, .slice ai is.length ci, .slice ar rs.length cr, .slice ab bs.size cb] 42; rw [World.size_setCell, World.size_setCell] at this; first | exact this | ((try rw [show rs.length = 0 from by omega] at this ⊢); (try rw [show is.length = 0 from by omega] at this ⊢); (try rw [show bs.size = 0 from by omega] at this ⊢); (try rw [show n = 0 from by omega] at this ⊢); exact this))⟩
          have hok := HOK.out
          rw [hok]
          refine congrArg Value.bool ?_
          have hk := HKK.out
          clear HKK
          go_light
          show _ = !(okF k n s.size is.length rs.length bs.size (headKind rs))
          clear HIS HRS HIH HGS HE1 HE2 HB HC HFL HLF hok
          try simp only [beq_eq_false_iff_ne, beq_iff_eq, empty_t, empty_f] at *
          first
          | (have h1 : k = 1 := (by assumption); rw [h1, okF_1]; refine bool_not ?_; first | exact ⟨fun _ => by omega, fun _ => rfl⟩ | exact ⟨fun h => (by cases h), fun h => (h (by omega)).elim⟩ | exact ⟨fun h => by have := of_decide_eq_true h; omega, fun h => decide_eq_true (by omega)⟩)
          | (have h1 : k = 2 := (by assumption); rw [h1, okF_2]; refine bool_not ?_; first | exact ⟨fun _ => by omega, fun _ => rfl⟩ | exact ⟨fun h => (by cases h), fun h => (h (by omega)).elim⟩ | exact ⟨fun h => by have := of_decide_eq_true h; omega, fun h => decide_eq_true (by omega)⟩)
          | (have h1 : k = 3 := (by assumption); rw [h1, okF_3]; refine bool_not ?_; first | exact ⟨fun _ => by omega, fun _ => rfl⟩ | exact ⟨fun h => (by cases h), fun h => (h (by omega)).elim⟩ | exact ⟨fun h => by have := of_decide_eq_true h; omega, fun h => decide_eq_true (by omega)⟩)
          | (have h1 : k = 4 := (by assumption); rw [h1, okF_4]; refine bool_not ?_; first | exact ⟨fun _ => by omega, fun _ => rfl⟩ | exact ⟨fun h => (by cases h), fun h => (h (by omega)).elim⟩ | exact ⟨fun h => by have := of_decide_eq_true h; omega, fun h => decide_eq_true (by omega)⟩)
          | (have h1 : k = 5 := (by assumption); rw [h1, okF_5]; refine bool_not ?_; first | exact ⟨fun _ => by omega, fun _ => rfl⟩ | exact ⟨fun h => (by cases h), fun h => (h (by omega)).elim⟩ | exact ⟨fun h => by have := of_decide_eq_true h; omega, fun h => decide_eq_true (by omega)⟩)
          | (have h1 : k = 6 := (by assumption); rw [h1, okF_6]; refine bool_not ?_; first | exact ⟨fun _ => by omega, fun _ => rfl⟩ | exact ⟨fun h => (by cases h), fun h => (h (by omega)).elim⟩ | exact ⟨fun h => by have := of_decide_eq_true h; omega, fun h => decide_eq_true (by omega)⟩)
          | (have h1 : k = 7 := (by assumption); rw [h1, okF_7]; refine bool_not ?_; first | exact ⟨fun _ => by omega, fun _ => rfl⟩ | exact ⟨fun h => (by cases h), fun h => (h (by omega)).elim⟩ | exact ⟨fun h => by have := of_decide_eq_true h; omega, fun h => decide_eq_true (by omega)⟩)
          | (rw [okF_other (by omega)]; rfl)

    · as_aux_lemma =>
        have q1 : (k == 1) = false := by rw [hk]; rfl
        have q2 : (k == 2) = false := by rw [hk]; rfl
        have q3 : (k == 3) = false := by rw [hk]; rfl
        have q4 : (k == 4) = false := by rw [hk]; rfl
        have q5 : (k == 5) = false := by rw [hk]; rfl
        have q6 : (k == 6) = true := by rw [hk]; rfl
        have HKK := Lib.hid hk
        clear hk
        go_wp2_with (first | (with_reducible refine wp_region_text (by kernel_rfl) (by kernel_rfl) ?_) | (with_reducible refine text_fin (by kernel_rfl) ?_))
        all_goals
          go_meet
          refine ⟨?_, (by repeat (first | with_reducible exact Keeps.refl _ _ | with_reducible apply Keeps.drew | with_reducible apply Keeps.alloc | refine Keeps.setCell (S := fun x => x = g) (p := ⟨g, _, none⟩) ?_ (fun _ => rfl) _)), (by repeat (first | with_reducible apply Blk.drew | with_reducible apply Blk.alloc | exact ((HB.out.set 1 (.int .i64 (p + 1))).set 0 (.int .i64 (lf - 1))))), (by have := Blk.new ((w.setCell ⟨g, 1, none⟩ (.int .i64 (p + 1))).setCell ⟨g, 0, none⟩ (.int .i64 (lf - 1))) [.int .i64 k, .int .i64 n, .string s, .slice ai is.length ci, .slice ar rs.length cr, .slice ab bs.size cb] 42; rw [World.size_setCell, World.size_setCell] at this; first | exact this | ((try rw [show rs.length = 0 from by omega] at this ⊢); (try rw [show is.length = 0 from by omega] at this ⊢); (try rw [show bs.size = 0 from by omega] at this ⊢); (try rw [show n = 0 from by omega] at this ⊢); exact this))⟩
          have hok := HOK.out
          rw [hok]
          refine congrArg Value.bool ?_
          have hk := HKK.out
          clear HKK
          go_light
          show _ = !(okF k n s.size is.length rs.length bs.size (headKind rs))
          clear HIS HRS HIH HGS HE1 HE2 HB HC HFL HLF hok
          try simp only [beq_eq_false_iff_ne, beq_iff_eq, empty_t, empty_f] at *
          first
          | (have h1 : k = 1 := (by assumption); rw [h1, okF_1]; refine bool_not ?_; first | exact ⟨fun _ => by omega, fun _ => rfl⟩ | exact ⟨fun h => (by cases h), fun h => (h (by omega)).elim⟩ | exact ⟨fun h => by have := of_decide_eq_true h; omega, fun h => decide_eq_true (by omega)⟩)
          | (have h1 : k = 2 := (by assumption); rw [h1, okF_2]; refine bool_not ?_; first | exact ⟨fun _ => by omega, fun _ => rfl⟩ | exact ⟨fun h => (by cases h), fun h => (h (by omega)).elim⟩ | exact ⟨fun h => by have := of_decide_eq_true h; omega, fun h => decide_eq_true (by omega)⟩)
          | (have h1 : k = 3 := (by assumption); rw [h1, okF_3]; refine bool_not ?_; first | exact ⟨fun _ => by omega, fun _ => rfl⟩ | exact ⟨fun h => (by cases h), fun h => (h (by omega)).elim⟩ | exact ⟨fun h => by have := of_decide_eq_true h; omega, fun h => decide_eq_true (by omega)⟩)
          | (have h1 : k = 4 := (by assumption); rw [h1, okF_4]; refine bool_not ?_; first | exact ⟨fun _ => by omega, fun _ => rfl⟩ | exact ⟨fun h => (by cases h), fun h => (h (by omega)).elim⟩ | exact ⟨fun h => by have := of_decide_eq_true h; omega, fun h => decide_eq_true (by omega)⟩)
          | (have h1 : k = 5 := (by assumption); rw [h1, okF_5]; refine bool_not ?_; first | exact ⟨fun _ => by omega, fun _ => rfl⟩ | exact ⟨fun h => (by cases h), fun h => (h (by omega)).elim⟩ | exact ⟨fun h => by have := of_decide_eq_true h; omega, fun h => decide_eq_true (by omega)⟩)
          | (have h1 : k = 6 := (by assumption); rw [h1, okF_6]; refine bool_not ?_; first | exact ⟨fun _ => by omega, fun _ => rfl⟩ | exact ⟨fun h => (by cases h), fun h => (h (by omega)).elim⟩ | exact ⟨fun h => by have := of_decide_eq_true h; omega, fun h => decide_eq_true (by omega)⟩)
          | (have h1 : k = 7 := (by assumption); rw [h1, okF_7]; refine bool_not ?_; first | exact ⟨fun _ => by omega, fun _ => rfl⟩ | exact ⟨fun h => (by cases h), fun h => (h (by omega)).elim⟩ | exact ⟨fun h => by have := of_decide_eq_true h; omega, fun h => decide_eq_true (by omega)⟩)
          | (rw [okF_other (by omega)]; rfl)

    · by_cases hr0 : ¬ 0 < rs.length
      · as_aux_lemma =>
          have q1 : (k == 1) = false := by rw [hk]; rfl
          have q2 : (k == 2) = false := by rw [hk]; rfl
          have q3 : (k == 3) = false := by rw [hk]; rfl
          have q4 : (k == 4) = false := by rw [hk]; rfl
          have q5 : (k == 5) = false := by rw [hk]; rfl
          have q6 : (k == 6) = false := by rw [hk]; rfl
          have q7 : (k == 7) = true := by rw [hk]; rfl
          have HKK := Lib.hid hk
          clear hk
          go_wp2_with (first | (with_reducible refine wp_region_text (by kernel_rfl) (by kernel_rfl) ?_) | (with_reducible refine text_fin (by kernel_rfl) ?_))
          all_goals
            go_meet
            refine ⟨?_, (by repeat (first | with_reducible exact Keeps.refl _ _ | with_reducible apply Keeps.drew | with_reducible apply Keeps.alloc | refine Keeps.setCell (S := fun x => x = g) (p := ⟨g, _, none⟩) ?_ (fun _ => rfl) _)), (by repeat (first | with_reducible apply Blk.drew | with_reducible apply Blk.alloc | exact ((HB.out.set 1 (.int .i64 (p + 1))).set 0 (.int .i64 (lf - 1))))), (by have := Blk.new ((w.setCell ⟨g, 1, none⟩ (.int .i64 (p + 1))).setCell ⟨g, 0, none⟩ (.int .i64 (lf - 1))) [.int .i64 k, .int .i64 n, .string s, .slice ai is.length ci, .slice ar rs.length cr, .slice ab bs.size cb] 42; rw [World.size_setCell, World.size_setCell] at this; first | exact this | ((try rw [show rs.length = 0 from by omega] at this ⊢); (try rw [show is.length = 0 from by omega] at this ⊢); (try rw [show bs.size = 0 from by omega] at this ⊢); (try rw [show n = 0 from by omega] at this ⊢); exact this))⟩
            have hok := HOK.out
            rw [hok]
            refine congrArg Value.bool ?_
            have hk := HKK.out
            clear HKK
            go_light
            show _ = !(okF k n s.size is.length rs.length bs.size (headKind rs))
            clear HIS HRS HIH HGS HE1 HE2 HB HC HFL HLF hok
            try simp only [beq_eq_false_iff_ne, beq_iff_eq, empty_t, empty_f] at *
            first
            | (have h1 : k = 1 := (by assumption); rw [h1, okF_1]; refine bool_not ?_; first | exact ⟨fun _ => by omega, fun _ => rfl⟩ | exact ⟨fun h => (by cases h), fun h => (h (by omega)).elim⟩ | exact ⟨fun h => by have := of_decide_eq_true h; omega, fun h => decide_eq_true (by omega)⟩)
            | (have h1 : k = 2 := (by assumption); rw [h1, okF_2]; refine bool_not ?_; first | exact ⟨fun _ => by omega, fun _ => rfl⟩ | exact ⟨fun h => (by cases h), fun h => (h (by omega)).elim⟩ | exact ⟨fun h => by have := of_decide_eq_true h; omega, fun h => decide_eq_true (by omega)⟩)
            | (have h1 : k = 3 := (by assumption); rw [h1, okF_3]; refine bool_not ?_; first | exact ⟨fun _ => by omega, fun _ => rfl⟩ | exact ⟨fun h => (by cases h), fun h => (h (by omega)).elim⟩ | exact ⟨fun h => by have := of_decide_eq_true h; omega, fun h => decide_eq_true (by omega)⟩)
            | (have h1 : k = 4 := (by assumption); rw [h1, okF_4]; refine bool_not ?_; first | exact ⟨fun _ => by omega, fun _ => rfl⟩ | exact ⟨fun h => (by cases h), fun h => (h (by omega)).elim⟩ | exact ⟨fun h => by have := of_decide_eq_true h; omega, fun h => decide_eq_true (by omega)⟩)
            | (have h1 : k = 5 := (by assumption); rw [h1, okF_5]; refine bool_not ?_; first | exact ⟨fun _ => by omega, fun _ => rfl⟩ | exact ⟨fun h => (by cases h), fun h => (h (by omega)).elim⟩ | exact ⟨fun h => by have := of_decide_eq_true h; omega, fun h => decide_eq_true (by omega)⟩)
            | (have h1 : k = 6 := (by assumption); rw [h1, okF_6]; refine bool_not ?_; first | exact ⟨fun _ => by omega, fun _ => rfl⟩ | exact ⟨fun h => (by cases h), fun h => (h (by omega)).elim⟩ | exact ⟨fun h => by have := of_decide_eq_true h; omega, fun h => decide_eq_true (by omega)⟩)
            | (have h1 : k = 7 := (by assumption); rw [h1, okF_7]; refine bool_not ?_; first | exact ⟨fun _ => by omega, fun _ => rfl⟩ | exact ⟨fun h => (by cases h), fun h => (h (by omega)).elim⟩ | exact ⟨fun h => by have := of_decide_eq_true h; omega, fun h => decide_eq_true (by omega)⟩)
            | (rw [okF_other (by omega)]; rfl)
      · obtain ⟨x0, hx0⟩ : ∃ x0, rs[0]? = some x0 := ⟨rs[0], by simp⟩
        obtain ⟨bb, o, _, _, _, ha, hS, ⟨d0, _⟩, _⟩ := HRS.out.at hx0
        subst ha
        have hbg := HGS.out _ hS
        have hbl := lt_cell d0
        rw [Nat.zero_mul, Nat.add_zero] at d0
        have hkd : x0.kind = headKind rs := by
          cases rs with
          | nil => simp at hx0
          | cons a l => simp at hx0; subst hx0; rfl
        rw [hkd] at d0
        clear hx0 hkd hS
        as_aux_lemma =>
          have q1 : (k == 1) = false := by rw [hk]; rfl
          have q2 : (k == 2) = false := by rw [hk]; rfl
          have q3 : (k == 3) = false := by rw [hk]; rfl
          have q4 : (k == 4) = false := by rw [hk]; rfl
          have q5 : (k == 5) = false := by rw [hk]; rfl
          have q6 : (k == 6) = false := by rw [hk]; rfl
          have q7 : (k == 7) = true := by rw [hk]; rfl
          have HKK := Lib.hid hk
          clear hk
          go_wp2_with (first | (with_reducible refine wp_region_text (by kernel_rfl) (by kernel_rfl) ?_) | (with_reducible refine text_fin (by kernel_rfl) ?_))
          all_goals
            go_meet
            refine ⟨?_, (by repeat (first | with_reducible exact Keeps.refl _ _ | with_reducible apply Keeps.drew | with_reducible apply Keeps.alloc | refine Keeps.setCell (S := fun x => x = g) (p := ⟨g, _, none⟩) ?_ (fun _ => rfl) _)), (by repeat (first | with_reducible apply Blk.drew | with_reducible apply Blk.alloc | exact ((HB.out.set 1 (.int .i64 (p + 1))).set 0 (.int .i64 (lf - 1))))), (by have := Blk.new ((w.setCell ⟨g, 1, none⟩ (.int .i64 (p + 1))).setCell ⟨g, 0, none⟩ (.int .i64 (lf - 1))) [.int .i64 k, .int .i64 n, .string s, .slice ai is.length ci, .slice (some ⟨bb, o, none⟩) rs.length cr, .slice ab bs.size cb] 42; rw [World.size_setCell, World.size_setCell] at this; first | exact this | ((try rw [show rs.length = 0 from by omega] at this ⊢); (try rw [show is.length = 0 from by omega] at this ⊢); (try rw [show bs.size = 0 from by omega] at this ⊢); (try rw [show n = 0 from by omega] at this ⊢); exact this))⟩
            have hok := HOK.out
            rw [hok]
            refine congrArg Value.bool ?_
            have hk := HKK.out
            clear HKK
            go_light
            show _ = !(okF k n s.size is.length rs.length bs.size (headKind rs))
            clear HIS HRS HIH HGS HE1 HE2 HB HC HFL HLF hok
            try simp only [beq_eq_false_iff_ne, beq_iff_eq, empty_t, empty_f] at *
            first
            | (have h1 : k = 1 := (by assumption); rw [h1, okF_1]; refine bool_not ?_; first | exact ⟨fun _ => by omega, fun _ => rfl⟩ | exact ⟨fun h => (by cases h), fun h => (h (by omega)).elim⟩ | exact ⟨fun h => by have := of_decide_eq_true h; omega, fun h => decide_eq_true (by omega)⟩)
            | (have h1 : k = 2 := (by assumption); rw [h1, okF_2]; refine bool_not ?_; first | exact ⟨fun _ => by omega, fun _ => rfl⟩ | exact ⟨fun h => (by cases h), fun h => (h (by omega)).elim⟩ | exact ⟨fun h => by have := of_decide_eq_true h; omega, fun h => decide_eq_true (by omega)⟩)
            | (have h1 : k = 3 := (by assumption); rw [h1, okF_3]; refine bool_not ?_; first | exact ⟨fun _ => by omega, fun _ => rfl⟩ | exact ⟨fun h => (by cases h), fun h => (h (by omega)).elim⟩ | exact ⟨fun h => by have := of_decide_eq_true h; omega, fun h => decide_eq_true (by omega)⟩)
            | (have h1 : k = 4 := (by assumption); rw [h1, okF_4]; refine bool_not ?_; first | exact ⟨fun _ => by omega, fun _ => rfl⟩ | exact ⟨fun h => (by cases h), fun h => (h (by omega)).elim⟩ | exact ⟨fun h => by have := of_decide_eq_true h; omega, fun h => decide_eq_true (by omega)⟩)
            | (have h1 : k = 5 := (by assumption); rw [h1, okF_5]; refine bool_not ?_; first | exact ⟨fun _ => by omega, fun _ => rfl⟩ | exact ⟨fun h => (by cases h), fun h => (h (by omega)).elim⟩ | exact ⟨fun h => by have := of_decide_eq_true h; omega, fun h => decide_eq_true (by omega)⟩)
            | (have h1 : k = 6 := (by assumption); rw [h1, okF_6]; refine bool_not ?_; first | exact ⟨fun _ => by omega, fun _ => rfl⟩ | exact ⟨fun h => (by cases h), fun h => (h (by omega)).elim⟩ | exact ⟨fun h => by have := of_decide_eq_true h; omega, fun h => decide_eq_true (by omega)⟩)
            | (have h1 : k = 7 := (by assumption); rw [h1, okF_7]; refine bool_not ?_; first | exact ⟨fun _ => by omega, fun _ => rfl⟩ | exact ⟨fun h => (by cases h), fun h => (h (by omega)).elim⟩ | exact ⟨fun h => by have := of_decide_eq_true h; omega, fun h => decide_eq_true (by omega)⟩)
            | (rw [okF_other (by omega)]; rfl)
    · as_aux_lemma =>
        have q1 : (k == 1) = false := by simpa using n1
        have q2 : (k == 2) = false := by simpa using n2
        have q3 : (k == 3) = false := by simpa using n3
        have q4 : (k == 4) = false := by simpa using n4
        have q5 : (k == 5) = false := by simpa using n5
        have q6 : (k == 6) = false := by simpa using n6
        have q7 : (k == 7) = false := by simpa using n7
        clear n1 n2 n3 n4 n5 n6 n7
        go_wp2_with (first | (with_reducible refine wp_region_text (by kernel_rfl) (by kernel_rfl) ?_) | (with_reducible refine text_fin (by kernel_rfl) ?_))
        all_goals
          go_meet
          refine ⟨?_, (by repeat (first | with_reducible exact Keeps.refl _ _ | with_reducible apply Keeps.drew | with_reducible apply Keeps.alloc | refine Keeps.setCell (S := fun x => x = g) (p := ⟨g, _, none⟩) ?_ (fun _ => rfl) _)), (by repeat (first | with_reducible apply Blk.drew | with_reducible apply Blk.alloc | exact ((HB.out.set 1 (.int .i64 (p + 1))).set 0 (.int .i64 (lf - 1))))), (by have := Blk.new ((w.setCell ⟨g, 1, none⟩ (.int .i64 (p + 1))).setCell ⟨g, 0, none⟩ (.int .i64 (lf - 1))) [.int .i64 k, .int .i64 n, .string s, .slice ai is.length ci, .slice ar rs.length cr, .slice ab bs.size cb] 42; rw [World.size_setCell, World.size_setCell] at this; first | exact this | ((try rw [show rs.length = 0 from by omega] at this ⊢); (try rw [show is.length = 0 from by omega] at this ⊢); (try rw [show bs.size = 0 from by omega] at this ⊢); (try rw [show n = 0 from by omega] at this ⊢); exact this))⟩
          have hok := HOK.out
          rw [hok]
          refine congrArg Value.bool ?_
          go_light
          show _ = !(okF k n s.size is.length rs.length bs.size (headKind rs))
          clear HIS HRS HIH HGS HE1 HE2 HB HC HFL HLF hok
          try simp only [beq_eq_false_iff_ne, beq_iff_eq, empty_t, empty_f] at *
          first
          | (have h1 : k = 1 := (by assumption); rw [h1, okF_1]; refine bool_not ?_; first | exact ⟨fun _ => by omega, fun _ => rfl⟩ | exact ⟨fun h => (by cases h), fun h => (h (by omega)).elim⟩ | exact ⟨fun h => by have := of_decide_eq_true h; omega, fun h => decide_eq_true (by omega)⟩)
          | (have h1 : k = 2 := (by assumption); rw [h1, okF_2]; refine bool_not ?_; first | exact ⟨fun _ => by omega, fun _ => rfl⟩ | exact ⟨fun h => (by cases h), fun h => (h (by omega)).elim⟩ | exact ⟨fun h => by have := of_decide_eq_true h; omega, fun h => decide_eq_true (by omega)⟩)
          | (have h1 : k = 3 := (by assumption); rw [h1, okF_3]; refine bool_not ?_; first | exact ⟨fun _ => by omega, fun _ => rfl⟩ | exact ⟨fun h => (by cases h), fun h => (h (by omega)).elim⟩ | exact ⟨fun h => by have := of_decide_eq_true h; omega, fun h => decide_eq_true (by omega)⟩)
          | (have h1 : k = 4 := (by assumption); rw [h1, okF_4]; refine bool_not ?_; first | exact ⟨fun _ => by omega, fun _ => rfl⟩ | exact ⟨fun h => (by cases h), fun h => (h (by omega)).elim⟩ | exact ⟨fun h => by have := of_decide_eq_true h; omega, fun h => decide_eq_true (by omega)⟩)
          | (have h1 : k = 5 := (by assumption); rw [h1, okF_5]; refine bool_not ?_; first | exact ⟨fun _ => by omega, fun _ => rfl⟩ | exact ⟨fun h => (by cases h), fun h => (h (by omega)).elim⟩ | exact ⟨fun h => by have := of_decide_eq_true h; omega, fun h => decide_eq_true (by omega)⟩)
          | (have h1 : k = 6 := (by assumption); rw [h1, okF_6]; refine bool_not ?_; first | exact ⟨fun _ => by omega, fun _ => rfl⟩ | exact ⟨fun h => (by cases h), fun h => (h (by omega)).elim⟩ | exact ⟨fun h => by have := of_decide_eq_true h; omega, fun h => decide_eq_true (by omega)⟩)
          | (have h1 : k = 7 := (by assumption); rw [h1, okF_7]; refine bool_not ?_; first | exact ⟨fun _ => by omega, fun _ => rfl⟩ | exact ⟨fun h => (by cases h), fun h => (h (by omega)).elim⟩ | exact ⟨fun h => by have := of_decide_eq_true h; omega, fun h => decide_eq_true (by omega)⟩)
          | (rw [okF_other (by omega)]; rfl)


  case rest =>
    as_aux_lemma =>
      obtain ⟨rfl, hk2, hb2, hbx⟩ := hcut
      have HK2 := Lib.hid hk2
      have HB2 := Lib.hid hb2
      have e3 : wc.cell? ⟨w.heap.size, 3, none⟩ = some (.slice ai is.length ci) := hbx.cell (i := 3) rfl
      have e4 : wc.cell? ⟨w.heap.size, 4, none⟩ = some (.slice ar rs.length cr) := hbx.cell (i := 4) rfl
      have hwg : ¬ w.heap.size = g := by omega
      clear hk2 hb2 hbx c0 c1 c2 f0 f1 g1 g2 HOK
      cases ok
      · have HCH : Hid (chk (.mk k n s is rs bs) dep (p, b) = .error (p, 1)) := Lib.hid (by rw [HC.out, if_neg (by have := HFL.out; omega), if_pos rfl])
        go_wp2_with (first | (with_reducible refine wp_region_text (by kernel_rfl) (by kernel_rfl) ?_) | (with_reducible refine text_fin (by kernel_rfl) ?_) | (go_at_call 36; refine Stop.out ?_))
        refine ⟨(lfail_any _ g (lf - 1) (p + 1) _ _ HB2.out).mono ?_⟩
        rintro e w2 ⟨rfl, hk3, c, hb3, hx3⟩
        have HK3 := Lib.hid hk3
        have HB3 := Lib.hid hb3
        have HX3 := Lib.hid hx3
        clear hk3 hb3 hx3
        go_wp2
        first | go_end0 | (simp only [Exit.inBlock, Exit.then]; refine bodyPost_ret (results_none rfl _ _ _) rfl ?_) | refine bodyPost_ret (results_none rfl _ _ _) rfl ?_
        exact look_fail HCH.out (HK2.out.trans HK3.out fun _ _ h => h) HK2.out.size HE2.out HB3.out HX3.out
      · have HLis : Hid (LookIs wc E g (.ok (p + 1, b))) := Lib.hid (by
          refine ⟨?_, by show (0 : Int) ≤ p + 1; omega, by show (0 : Int) ≤ b; omega, by show p + 1 + (b) ≤ 65536; have := HFL.out; omega⟩
          have := HB2.out
          rwa [show lf - 1 = 65536 - (p + 1 + (b)) from by have := HLF.out; omega] at this)
        have HKis : Hid (Keeps (fun x => x = g) wc wc) := Lib.hid (Keeps.refl _ _)
        go_wp2
        go_loopw [13] (fun v wr => LookAt wc E g is (dep + 1) ((Except.ok (p + 1, b) : Except (Int × Int) (Int × Int)).bind fun st => chks is (dep + 1) st) v wr) (fun v _ => is.length - (intOf v).toNat)
        case atStart => exact ⟨0, (Except.ok (p + 1, b) : Except (Int × Int) (Int × Int)), rfl, Nat.zero_le _, rfl, HLis.out, HKis.out⟩
        case round =>
          obtain ⟨i, r1, rfl, hil1, hch, hlk, hk1⟩ := hrel
          have HCH := Lib.hid hch
          have HLK := Lib.hid hlk
          have HK1 := Lib.hid hk1
          have hsz : w.heap.size ≤ wr.heap.size := Nat.le_trans HK2.out.size hk1.size
          have i3 := hk1.cell e3 hwg
          have i4 := hk1.cell e4 hwg
          clear hch hlk
          by_cases hlt : i < is.length
          · obtain ⟨x, hx⟩ : ∃ x, is[i]? = some x := ⟨is[i], by simp⟩
            obtain ⟨bb, o, yi, yr, yb, ha, hS, ⟨d0, d1, d2, d3, d4, d5⟩, hT⟩ := HIS.out.at hx
            subst ha
            obtain ⟨a3, k3, a4, k4, a5, k5, rfl, rfl, rfl⟩ := hT.forms
            replace d0 := hk1.cell (HK2.out.cell d0 (HGS.out _ hS)) (HGS.out _ hS)
            replace d1 := hk1.cell (HK2.out.cell d1 (HGS.out _ hS)) (HGS.out _ hS)
            replace d2 := hk1.cell (HK2.out.cell d2 (HGS.out _ hS)) (HGS.out _ hS)
            replace d3 := hk1.cell (HK2.out.cell d3 (HGS.out _ hS)) (HGS.out _ hS)
            replace d4 := hk1.cell (HK2.out.cell d4 (HGS.out _ hS)) (HGS.out _ hS)
            replace d5 := hk1.cell (HK2.out.cell d5 (HGS.out _ hS)) (HGS.out _ hS)
            have HT2 := Lib.hid ((hT.keeps HK2.out HGS.out).keeps hk1 HGS.out)
            have HX := Lib.hid hx
            clear hT hx hk1
            go_wp2_with (first | (with_reducible refine wp_region_text (by kernel_rfl) (by kernel_rfl) ?_) | (with_reducible refine text_fin (by kernel_rfl) ?_) | (go_at_call 31; refine Stop.out ?_))
            refine ⟨(HIH.out _ S E _ x g r1 (dep + 1) (HT2.out.keeps (T := fun _ => False) (by repeat (first | with_reducible exact Keeps.refl _ _ | with_reducible apply Keeps.drew | with_reducible apply Keeps.alloc)) (fun _ _ h => h)) HGS.out (HLK.out.keeps (T := fun _ => False) (by repeat (first | with_reducible exact Keeps.refl _ _ | with_reducible apply Keeps.drew | with_reducible apply Keeps.alloc)) (fun h => h) fun _ _ h => h) HE1.out (fun y hy => HE2.out y (by first | omega | (simp at hy; omega))) (by omega) (by have := HFL.out; omega)).mono ?_⟩
            rintro e w3 ⟨rfl, hk3, hl3⟩
            have HK3 : Hid (Keeps (fun x => x = g) wc w3) := Lib.hid (HK1.out.trans (Keeps.trans (T := fun x => x = g) (w' := wr) (Keeps.refl _ _) hk3 fun _ _ h => h) fun _ _ h => h)
            have HL3 := Lib.hid hl3
            clear hk3 hl3
            go_wp2
            go_roundw
            case rel =>
              (repeat apply Exists.intro)
              refine ⟨?_, rfl⟩
              refine ⟨i + 1, _, by go_num, by omega, ?_, HL3.out, HK3.out⟩
              rw [← HCH.out, drop_cons HX.out]
              cases r1 <;> rfl
            case measure => simp [intOf]; omega
          · have hr : r1 = ((Except.ok (p + 1, b) : Except (Int × Int) (Int × Int)).bind fun st => chks is (dep + 1) st) := by
              rw [← HCH.out, List.drop_of_length_le (by omega)]
              cases r1 <;> rfl
            have HRis := Lib.hid hr
            clear hr
            obtain ⟨ra, hra⟩ : ∃ z, z = r1 := ⟨_, rfl⟩
            subst hra
            have HLrs := HLK
            have HKrs := HK1
            clear HLK HK1 HCH hk1
            go_wp2
            go_loopw [14] (fun v wr => LookAt wc E g rs (dep + 1) (ra.bind fun st => chks rs (dep + 1) st) v wr) (fun v _ => rs.length - (intOf v).toNat)
            case atStart => exact ⟨0, ra, rfl, Nat.zero_le _, rfl, HLrs.out, HKrs.out⟩
            case round =>
              obtain ⟨i, r1, rfl, hil1, hch, hlk, hk1⟩ := hrel
              have HCH := Lib.hid hch
              have HLK := Lib.hid hlk
              have HK1 := Lib.hid hk1
              have hsz : w.heap.size ≤ wr.heap.size := Nat.le_trans HK2.out.size hk1.size
              have i3 := hk1.cell e3 hwg
              have i4 := hk1.cell e4 hwg
              clear hch hlk
              by_cases hlt : i < rs.length
              · obtain ⟨x, hx⟩ : ∃ x, rs[i]? = some x := ⟨rs[i], by simp⟩
                obtain ⟨bb, o, yi, yr, yb, ha, hS, ⟨d0, d1, d2, d3, d4, d5⟩, hT⟩ := HRS.out.at hx
                subst ha
                obtain ⟨a3, k3, a4, k4, a5, k5, rfl, rfl, rfl⟩ := hT.forms
                replace d0 := hk1.cell (HK2.out.cell d0 (HGS.out _ hS)) (HGS.out _ hS)
                replace d1 := hk1.cell (HK2.out.cell d1 (HGS.out _ hS)) (HGS.out _ hS)
                replace d2 := hk1.cell (HK2.out.cell d2 (HGS.out _ hS)) (HGS.out _ hS)
                replace d3 := hk1.cell (HK2.out.cell d3 (HGS.out _ hS)) (HGS.out _ hS)
                replace d4 := hk1.cell (HK2.out.cell d4 (HGS.out _ hS)) (HGS.out _ hS)
                replace d5 := hk1.cell (HK2.out.cell d5 (HGS.out _ hS)) (HGS.out _ hS)
                have HT2 := Lib.hid ((hT.keeps HK2.out HGS.out).keeps hk1 HGS.out)
                have HX := Lib.hid hx
                clear hT hx hk1
                go_wp2_with (first | (with_reducible refine wp_region_text (by kernel_rfl) (by kernel_rfl) ?_) | (with_reducible refine text_fin (by kernel_rfl) ?_) | (go_at_call 31; refine Stop.out ?_))
                refine ⟨(HIH.out _ S E _ x g r1 (dep + 1) (HT2.out.keeps (T := fun _ => False) (by repeat (first | with_reducible exact Keeps.refl _ _ | with_reducible apply Keeps.drew | with_reducible apply Keeps.alloc)) (fun _ _ h => h)) HGS.out (HLK.out.keeps (T := fun _ => False) (by repeat (first | with_reducible exact Keeps.refl _ _ | with_reducible apply Keeps.drew | with_reducible apply Keeps.alloc)) (fun h => h) fun _ _ h => h) HE1.out (fun y hy => HE2.out y (by first | omega | (simp at hy; omega))) (by omega) (by have := HFL.out; omega)).mono ?_⟩
                rintro e w3 ⟨rfl, hk3, hl3⟩
                have HK3 : Hid (Keeps (fun x => x = g) wc w3) := Lib.hid (HK1.out.trans (Keeps.trans (T := fun x => x = g) (w' := wr) (Keeps.refl _ _) hk3 fun _ _ h => h) fun _ _ h => h)
                have HL3 := Lib.hid hl3
                clear hk3 hl3
                go_wp2
                go_roundw
                case rel =>
                  (repeat apply Exists.intro)
                  refine ⟨?_, rfl⟩
                  refine ⟨i + 1, _, by go_num, by omega, ?_, HL3.out, HK3.out⟩
                  rw [← HCH.out, drop_cons HX.out]
                  cases r1 <;> rfl
                case measure => simp [intOf]; omega
              · have hr : r1 = (ra.bind fun st => chks rs (dep + 1) st) := by
                  rw [← HCH.out, List.drop_of_length_le (by omega)]
                  cases r1 <;> rfl
                have HRrs := Lib.hid hr
                clear hr
                go_wp2
                first | go_end0 | (simp only [Exit.inBlock, Exit.then]; refine bodyPost_ret (results_none rfl _ _ _) rfl ?_) | refine bodyPost_ret (results_none rfl _ _ _) rfl ?_
                refine ⟨rfl, HK2.out.trans HK1.out fun _ _ h => h, ?_⟩
                rw [HC.out, if_neg (by have := HFL.out; omega), if_neg (by simp)]
                have hra := HRis.out
                have hrb := HRrs.out
                rw [hra] at hrb
                have := HLK.out
                rw [hrb] at this
                exact this
end Go.Proofs.Ytgmieehheoknbaa

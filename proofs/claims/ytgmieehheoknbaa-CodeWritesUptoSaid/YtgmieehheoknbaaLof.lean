/-
  The document's look at a term, too great or deep: what (*L).look does.
-/
import Derived.Test.YtgmieehheoknbaaLo
namespace Go.Proofs.Ytgmieehheoknbaa
open Go.RowKit Go.Tx
set_option maxRecDepth 100000 in
set_option maxHeartbeats 12800000 in
theorem look_n_full (d : Nat) (IH : LookSpec d) (w : World) (S E : Nat → Prop) (v : Value) (k n : Int) (s : ByteArray) (is rs : List Tm) (bs : ByteArray) (g : Nat) (dep : Int) (h : TmD w S (d + 1) v (.mk k n s is rs bs)) (hgS : ∀ x, S x → ¬ x = g)
    (hE : ∀ x, E x → ¬ x = g) (hE2 : ∀ x, w.heap.size ≤ x → E x) (hd : 1 ≤ dep) (hd2 : dep ≤ 201) (p b : Int) (hl : LookIs w E g (.ok (p, b))) (hk8 : k ≠ 8) (hfl : p + 1 + (b + (Tm.mk k n s is rs bs).binSize) > 65536 ∨ dep > 200) :
    Calls Try.prog 31 #[.pointer (some ⟨g, 0, none⟩), v, .int .i64 dep] w (LookPost E g (chk (.mk k n s is rs bs) dep (p, b)) w) := by
  have HT := Lib.hid h
  obtain ⟨vi, vr, vb, rfl, hfine, hns, hi, hr, hbs⟩ := h
  have HIS := Lib.hid hi
  have HRS := Lib.hid hr
  obtain ⟨hil, ai, ci, rfl, hic, him, _⟩ := hi
  obtain ⟨hrl, ar, cr, rfl, hrc, hrm, _⟩ := hr
  obtain ⟨hbl, ab, cb, rfl, hbc, hbm, _⟩ := hbs
  simp only [Tm.kind, Tm.n, Tm.name, Tm.items, Tm.rest, Tm.bytes] at hil hrl hbl hic him hrc hrm hbc hbm hns HIS HRS
  have HIH := Lib.hid IH
  have HGS := Lib.hid hgS
  have HE1 := Lib.hid hE
  have HE2 := Lib.hid hE2
  obtain ⟨hb, hp, hb0, hpb⟩ := hl
  simp only at hb hp hb0 hpb
  obtain ⟨lf, hlf⟩ : ∃ lf : Int, lf = 65536 - (p + b) := ⟨_, rfl⟩
  rw [← hlf] at hb
  have HB := Lib.hid hb
  obtain ⟨q, hq⟩ : ∃ q, q = (Tm.mk k n s is rs bs).binSize := ⟨_, rfl⟩
  rw [← hq] at hfl
  obtain ⟨ok, hok⟩ : ∃ ok, ok = (Tm.mk k n s is rs bs).okB := ⟨_, rfl⟩
  have HOK := Lib.hid hok
  have HC : Hid (chk (.mk k n s is rs bs) dep (p, b) = if p + 1 + (b + q) > 65536 ∨ dep > 200 then .error (p, 2) else if ok = false then .error (p, 1) else (chks is (dep + 1) (p + 1, b + q)).bind fun st => chks rs (dep + 1) st) :=
    Lib.hid (by rw [chk, hq, hok])
  have c0 : w.cell? ⟨g, 0, none⟩ = some (.int .i64 lf) := hb.cell (i := 0) rfl
  have c1 : w.cell? ⟨g, 1, none⟩ = some (.int .i64 p) := hb.cell (i := 1) rfl
  have c2 : w.cell? ⟨g, 2, none⟩ = some (.pointer none) := hb.cell (i := 2) rfl
  have f0 := hb.free 0
  have f1 := hb.free 1
  have hg := hb.lt
  have l0 : 0 ≤ lf := by omega
  have l1 : lf ≤ 65536 := by omega
  have hq0 : (k = 8 → q = bs.size) ∧ (k ≠ 8 → q = 0) := by
    rw [hq]; unfold Tm.binSize
    by_cases h8 : k = 8
    · rw [if_pos (show (Tm.mk k n s is rs bs).kind = 8 from h8)]
      exact ⟨fun _ => rfl, fun h => absurd h8 h⟩
    · rw [if_neg (show ¬ (Tm.mk k n s is rs bs).kind = 8 from h8)]
      exact ⟨fun h => absurd h h8, fun _ => rfl⟩
  obtain ⟨hq2, hq3⟩ := hq0
  clear IH hq hok hb hgS hE hE2 HT hfine
  simp only [Tm.val, Tm.kind, Tm.n, Tm.name, Tm.items, Tm.rest, Tm.bytes]
  obtain rfl : q = 0 := hq3 hk8
  have hk8' : (k == 8) = false := by simpa using hk8
  have HC : Hid (chk (.mk k n s is rs bs) dep (p, b) = if p + 1 + b > 65536 ∨ dep > 200 then .error (p, 2) else if ok = false then .error (p, 1) else (chks is (dep + 1) (p + 1, b)).bind fun st => chks rs (dep + 1) st) := Lib.hid (by have := HC.out; rwa [Int.add_zero] at this)
  rw [Int.add_zero] at hfl
  have HK8 := Lib.hid hk8
  clear hq2 hq3 hk8
  have HCH : Hid (chk (.mk k n s is rs bs) dep (p, b) = .error (p, 2)) := Lib.hid (by rw [HC.out, if_pos hfl])
  have h12 : decide (lf - 1 < 0) = true ∨ (decide (lf - 1 < 0) = false ∧ decide (200 < dep) = true) := by
    by_cases h1 : lf - 1 < 0
    · exact .inl (decide_eq_true h1)
    · exact .inr ⟨decide_eq_false h1, decide_eq_true (by omega)⟩
  clear hfl hlf
  rcases h12 with g1 | ⟨g1, g2⟩
  all_goals
    go_enter Try.func31, Try.ntmps31
    go_wp2_with (first | (with_reducible refine wp_region_text (by kernel_rfl) (by kernel_rfl) ?_) | (with_reducible refine text_fin (by kernel_rfl) ?_) | (go_at_call 36; refine Stop.out ?_))
    refine ⟨(lfail_any _ g (lf - 1) (p + 1) _ _ (by repeat (first | with_reducible apply Blk.drew | with_reducible apply Blk.alloc | exact ((HB.out.set 1 (.int .i64 (p + 1))).set 0 (.int .i64 (lf - 1)))))).mono ?_⟩
    rintro e w2 ⟨rfl, hk2, c, hb2, hx2⟩
    have HK2 : Hid (Keeps (fun x => x = g) w w2) := Lib.hid (Keeps.trans (T := fun x => x = g) (by repeat (first | with_reducible exact Keeps.refl _ _ | with_reducible apply Keeps.drew | with_reducible apply Keeps.alloc | refine Keeps.setCell (S := fun x => x = g) (p := ⟨g, _, none⟩) ?_ (fun _ => rfl) _)) hk2 fun _ _ h => h)
    have HB2 := Lib.hid hb2
    have HX2 := Lib.hid hx2
    clear hk2 hb2 hx2
    go_wp2
    first | go_end0 | (simp only [Exit.inBlock, Exit.then]; refine bodyPost_ret (results_none rfl _ _ _) rfl ?_) | refine bodyPost_ret (results_none rfl _ _ _) rfl ?_
    exact look_fail (w1 := w) HCH.out HK2.out (Nat.le_refl _) HE2.out HB2.out (HX2.out.mono fun x hx => by simp at hx; omega)
set_option maxRecDepth 100000 in
set_option maxHeartbeats 12800000 in
theorem look_b_full (d : Nat) (IH : LookSpec d) (w : World) (S E : Nat → Prop) (v : Value) (k n : Int) (s : ByteArray) (is rs : List Tm) (bs : ByteArray) (g : Nat) (dep : Int) (h : TmD w S (d + 1) v (.mk k n s is rs bs)) (hgS : ∀ x, S x → ¬ x = g)
    (hE : ∀ x, E x → ¬ x = g) (hE2 : ∀ x, w.heap.size ≤ x → E x) (hd : 1 ≤ dep) (hd2 : dep ≤ 201) (p b : Int) (hl : LookIs w E g (.ok (p, b))) (hk8 : k = 8) (hfl : p + 1 + (b + (Tm.mk k n s is rs bs).binSize) > 65536 ∨ dep > 200) :
    Calls Try.prog 31 #[.pointer (some ⟨g, 0, none⟩), v, .int .i64 dep] w (LookPost E g (chk (.mk k n s is rs bs) dep (p, b)) w) := by
  have HT := Lib.hid h
  obtain ⟨vi, vr, vb, rfl, hfine, hns, hi, hr, hbs⟩ := h
  have HIS := Lib.hid hi
  have HRS := Lib.hid hr
  obtain ⟨hil, ai, ci, rfl, hic, him, _⟩ := hi
  obtain ⟨hrl, ar, cr, rfl, hrc, hrm, _⟩ := hr
  obtain ⟨hbl, ab, cb, rfl, hbc, hbm, _⟩ := hbs
  simp only [Tm.kind, Tm.n, Tm.name, Tm.items, Tm.rest, Tm.bytes] at hil hrl hbl hic him hrc hrm hbc hbm hns HIS HRS
  have HIH := Lib.hid IH
  have HGS := Lib.hid hgS
  have HE1 := Lib.hid hE
  have HE2 := Lib.hid hE2
  obtain ⟨hb, hp, hb0, hpb⟩ := hl
  simp only at hb hp hb0 hpb
  obtain ⟨lf, hlf⟩ : ∃ lf : Int, lf = 65536 - (p + b) := ⟨_, rfl⟩
  rw [← hlf] at hb
  have HB := Lib.hid hb
  obtain ⟨q, hq⟩ : ∃ q, q = (Tm.mk k n s is rs bs).binSize := ⟨_, rfl⟩
  rw [← hq] at hfl
  obtain ⟨ok, hok⟩ : ∃ ok, ok = (Tm.mk k n s is rs bs).okB := ⟨_, rfl⟩
  have HOK := Lib.hid hok
  have HC : Hid (chk (.mk k n s is rs bs) dep (p, b) = if p + 1 + (b + q) > 65536 ∨ dep > 200 then .error (p, 2) else if ok = false then .error (p, 1) else (chks is (dep + 1) (p + 1, b + q)).bind fun st => chks rs (dep + 1) st) :=
    Lib.hid (by rw [chk, hq, hok])
  have c0 : w.cell? ⟨g, 0, none⟩ = some (.int .i64 lf) := hb.cell (i := 0) rfl
  have c1 : w.cell? ⟨g, 1, none⟩ = some (.int .i64 p) := hb.cell (i := 1) rfl
  have c2 : w.cell? ⟨g, 2, none⟩ = some (.pointer none) := hb.cell (i := 2) rfl
  have f0 := hb.free 0
  have f1 := hb.free 1
  have hg := hb.lt
  have l0 : 0 ≤ lf := by omega
  have l1 : lf ≤ 65536 := by omega
  have hq0 : (k = 8 → q = bs.size) ∧ (k ≠ 8 → q = 0) := by
    rw [hq]; unfold Tm.binSize
    by_cases h8 : k = 8
    · rw [if_pos (show (Tm.mk k n s is rs bs).kind = 8 from h8)]
      exact ⟨fun _ => rfl, fun h => absurd h8 h⟩
    · rw [if_neg (show ¬ (Tm.mk k n s is rs bs).kind = 8 from h8)]
      exact ⟨fun h => absurd h h8, fun _ => rfl⟩
  obtain ⟨hq2, hq3⟩ := hq0
  clear IH hq hok hb hgS hE hE2 HT hfine
  simp only [Tm.val, Tm.kind, Tm.n, Tm.name, Tm.items, Tm.rest, Tm.bytes]
  obtain rfl : q = (bs.size : Int) := hq2 hk8
  clear hq2 hq3
  subst hk8
  have e0 : ((w.setCell ⟨g, 1, none⟩ (.int .i64 (p + 1))).setCell ⟨g, 0, none⟩ (.int .i64 (lf - 1))).cell? ⟨g, 0, none⟩ = some (.int .i64 (lf - 1)) := ((HB.out.set 1 (.int .i64 (p + 1))).set 0 (.int .i64 (lf - 1))).cell (i := 0) rfl
  have e9 : (((w.setCell ⟨g, 1, none⟩ (.int .i64 (p + 1))).setCell ⟨g, 0, none⟩ (.int .i64 (lf - 1))).setCell ⟨g, 0, none⟩ (.int .i64 (lf - 1 - bs.size))).cell? ⟨g, 0, none⟩ = some (.int .i64 (lf - 1 - bs.size)) := (((HB.out.set 1 (.int .i64 (p + 1))).set 0 (.int .i64 (lf - 1))).set 0 (.int .i64 (lf - 1 - bs.size))).cell (i := 0) rfl
  have HCH : Hid (chk (.mk 8 n s is rs bs) dep (p, b) = .error (p, 2)) := Lib.hid (by rw [HC.out, if_pos hfl])
  have h12 : decide (lf - 1 - bs.size < 0) = true ∨ (decide (lf - 1 - bs.size < 0) = false ∧ decide (200 < dep) = true) := by
    by_cases h1 : lf - 1 - bs.size < 0
    · exact .inl (decide_eq_true h1)
    · exact .inr ⟨decide_eq_false h1, decide_eq_true (by omega)⟩
  clear hfl hlf
  rcases h12 with g1 | ⟨g1, g2⟩
  all_goals
    go_enter Try.func31, Try.ntmps31
    go_wp2_with (first | (with_reducible refine wp_region_text (by kernel_rfl) (by kernel_rfl) ?_) | (with_reducible refine text_fin (by kernel_rfl) ?_) | (go_at_call 36; refine Stop.out ?_))
    refine ⟨(lfail_any _ g (lf - 1 - bs.size) (p + 1) _ _ (by repeat (first | with_reducible apply Blk.drew | with_reducible apply Blk.alloc | exact (((HB.out.set 1 (.int .i64 (p + 1))).set 0 (.int .i64 (lf - 1))).set 0 (.int .i64 (lf - 1 - bs.size)))))).mono ?_⟩
    rintro e w2 ⟨rfl, hk2, c, hb2, hx2⟩
    have HK2 : Hid (Keeps (fun x => x = g) w w2) := Lib.hid (Keeps.trans (T := fun x => x = g) (by repeat (first | with_reducible exact Keeps.refl _ _ | with_reducible apply Keeps.drew | with_reducible apply Keeps.alloc | refine Keeps.setCell (S := fun x => x = g) (p := ⟨g, _, none⟩) ?_ (fun _ => rfl) _)) hk2 fun _ _ h => h)
    have HB2 := Lib.hid hb2
    have HX2 := Lib.hid hx2
    clear hk2 hb2 hx2
    go_wp2
    first | go_end0 | (simp only [Exit.inBlock, Exit.then]; refine bodyPost_ret (results_none rfl _ _ _) rfl ?_) | refine bodyPost_ret (results_none rfl _ _ _) rfl ?_
    exact look_fail (w1 := w) HCH.out HK2.out (Nat.le_refl _) HE2.out HB2.out (HX2.out.mono fun x hx => by simp at hx; omega)
end Go.Proofs.Ytgmieehheoknbaa

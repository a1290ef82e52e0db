/-
  Whether a term is one that may be, the errors: what (*checker).term does.
-/
import Derived.Test.YtnmhodejffpblaaTr
namespace Go.Proofs.Ytnmhodejffpblaa
open Go.RowKit Go.Tx
set_option maxRecDepth 100000 in
set_option maxHeartbeats 1600000 in
theorem term_n_full (d : Nat) (IH : TermSpec d) (w : World) (S : Nat → Prop) (v : Value) (k n : Int) (s : ByteArray) (is rs : List Tm) (bs : ByteArray) (g : Nat) (p b dep : Int) (h : TmD w S (d + 1) v (.mk k n s is rs bs)) (hgS : ∀ x, S x → ¬ x = g)
    (hb : Blk w g 118 [.int .i64 p, .int .i64 b]) (hp : 0 ≤ p) (hb0 : 0 ≤ b) (hpb : p + b ≤ 65536) (hd : 1 ≤ dep) (hd2 : dep ≤ 201) (hk8 : k ≠ 8) (hfl : p + 1 + (b + (Tm.mk k n s is rs bs).binSize) > 65536 ∨ dep > 200) :
    Calls Try.prog 52 #[.pointer (some ⟨g, 0, none⟩), v, .int .i64 dep] w (ChkPost g (chk (.mk k n s is rs bs) dep (p, b)) w) := by
  have HT := Lib.hid h
  obtain ⟨vi, vr, vb, rfl, hfine, hns, hi, hr, hbs⟩ := h
  have HIS := Lib.hid hi
  have HRS := Lib.hid hr
  obtain ⟨hil, ai, ci, rfl, hic, him, _⟩ := hi
  obtain ⟨hrl, ar, cr, rfl, hrc, hrm, _⟩ := hr
  obtain ⟨hbl, ab, cb, rfl, hbc, hbm, _⟩ := hbs
  simp only [Tm.kind, Tm.n, Tm.name, Tm.items, Tm.rest, Tm.bytes] at hil hrl hbl hic him hrc hrm hbc hbm hns HIS HRS
  have HIH := Lib.hid IH
  have HGS := Lib.hid hgS
  have HB := Lib.hid hb
  obtain ⟨q, hq⟩ : ∃ q, q = (Tm.mk k n s is rs bs).binSize := ⟨_, rfl⟩
  rw [← hq] at hfl
  obtain ⟨ok, hok⟩ : ∃ ok, ok = (Tm.mk k n s is rs bs).okB := ⟨_, rfl⟩
  have HC : Hid (chk (.mk k n s is rs bs) dep (p, b) = if p + 1 + (b + q) > 65536 ∨ dep > 200 then .error (p, 2) else if ok = false then .error (p, 1) else (chks is (dep + 1) (p + 1, b + q)).bind fun st => chks rs (dep + 1) st) :=
    Lib.hid (by rw [chk, hq, hok])
  have HF : Hid (∀ w', Keeps (fun x => x = g) w w' → Calls Try.prog 56 #[.agg #[.int .i64 k, .int .i64 n, .string s, .slice ai is.length ci, .slice ar rs.length cr, .slice ab bs.size cb]] w' fun e w2 => e = .returned (.bool ok) ∧ Keeps (fun _ => False) w' w2) := by
    refine Lib.hid fun w' hk => ?_
    rw [hok]
    exact fields_any (HT.out.keeps hk fun x hx h => HGS.out x hx h)
  have c0 : w.cell? ⟨g, 0, none⟩ = some (.int .i64 p) := hb.cell (i := 0) rfl
  have c1 : w.cell? ⟨g, 1, none⟩ = some (.int .i64 b) := hb.cell (i := 1) rfl
  have f0 := hb.free 0
  have f1 := hb.free 1
  have hg := hb.lt
  have hq0 : 0 ≤ q ∧ q ≤ 140737488355328 ∧ (k = 8 → q = bs.size) ∧ (k ≠ 8 → q = 0) := by
    rw [hq]; unfold Tm.binSize
    by_cases h8 : k = 8
    · rw [if_pos (show (Tm.mk k n s is rs bs).kind = 8 from h8)]
      exact ⟨by simp only [Tm.bytes]; omega, by simp only [Tm.bytes]; omega, fun _ => rfl, fun h => absurd h8 h⟩
    · rw [if_neg (show ¬ (Tm.mk k n s is rs bs).kind = 8 from h8)]
      omega
  obtain ⟨hq0, hq1, hq2, hq3⟩ := hq0
  clear IH hq hok hb hgS HT hfine
  simp only [Tm.val, Tm.kind, Tm.n, Tm.name, Tm.items, Tm.rest, Tm.bytes]
  obtain rfl : q = 0 := hq3 hk8
  have hk8' : (k == 8) = false := by simpa using hk8
  have HC : Hid (chk (.mk k n s is rs bs) dep (p, b) = if p + 1 + b > 65536 ∨ dep > 200 then .error (p, 2) else if ok = false then .error (p, 1) else (chks is (dep + 1) (p + 1, b)).bind fun st => chks rs (dep + 1) st) := Lib.hid (by have := HC.out; rwa [Int.add_zero] at this)
  rw [Int.add_zero] at hfl
  clear hq0 hq1 hq2 hq3 hk8
  have HCH : Hid (chk (.mk k n s is rs bs) dep (p, b) = .error (p, 2)) := Lib.hid (by rw [HC.out, if_pos hfl])
  have h12 : decide (65536 < p + 1 + (b)) = true ∨ (decide (65536 < p + 1 + (b)) = false ∧ decide (200 < dep) = true) := by
    by_cases h1 : 65536 < p + 1 + (b)
    · exact .inl (decide_eq_true h1)
    · exact .inr ⟨decide_eq_false h1, decide_eq_true (by omega)⟩
  clear hfl
  rcases h12 with g1 | ⟨g1, g2⟩
  all_goals
   go_enter Try.func52, Try.ntmps52
   go_wp2_with (first | (with_reducible refine wp_region_text (by kernel_rfl) (by kernel_rfl) ?_) | (with_reducible refine text_fin (by kernel_rfl) ?_) | (go_at_call 35; refine (at_any _ _ _ _ _).mono ?_; rintro e w2 ⟨rfl, rfl⟩))
   go_ret
   refine chk_new HCH.out ?_ ?_
   · exact (by repeat (first | with_reducible exact Keeps.refl _ _ | with_reducible apply Keeps.drew | with_reducible apply Keeps.alloc | refine Keeps.setCell (S := fun x => x = g) (p := ⟨g, _, none⟩) ?_ (fun _ => rfl) _))
   · simp
set_option maxRecDepth 100000 in
set_option maxHeartbeats 1600000 in
theorem term_n_arg (d : Nat) (IH : TermSpec d) (w : World) (S : Nat → Prop) (v : Value) (k n : Int) (s : ByteArray) (is rs : List Tm) (bs : ByteArray) (g : Nat) (p b dep : Int) (h : TmD w S (d + 1) v (.mk k n s is rs bs)) (hgS : ∀ x, S x → ¬ x = g)
    (hb : Blk w g 118 [.int .i64 p, .int .i64 b]) (hp : 0 ≤ p) (hb0 : 0 ≤ b) (hpb : p + b ≤ 65536) (hd : 1 ≤ dep) (hd2 : dep ≤ 201) (hk8 : k ≠ 8) (hfl : p + 1 + (b + (Tm.mk k n s is rs bs).binSize) ≤ 65536 ∧ dep ≤ 200) (hko : (Tm.mk k n s is rs bs).okB = false) :
    Calls Try.prog 52 #[.pointer (some ⟨g, 0, none⟩), v, .int .i64 dep] w (ChkPost g (chk (.mk k n s is rs bs) dep (p, b)) w) := by
  have HT := Lib.hid h
  obtain ⟨vi, vr, vb, rfl, hfine, hns, hi, hr, hbs⟩ := h
  have HIS := Lib.hid hi
  have HRS := Lib.hid hr
  obtain ⟨hil, ai, ci, rfl, hic, him, _⟩ := hi
  obtain ⟨hrl, ar, cr, rfl, hrc, hrm, _⟩ := hr
  obtain ⟨hbl, ab, cb, rfl, hbc, hbm, _⟩ := hbs
  simp only [Tm.kind, Tm.n, Tm.name, Tm.items, Tm.rest, Tm.bytes] at hil hrl hbl hic him hrc hrm hbc hbm hns HIS HRS
  have HIH := Lib.hid IH
  have HGS := Lib.hid hgS
  have HB := Lib.hid hb
  obtain ⟨q, hq⟩ : ∃ q, q = (Tm.mk k n s is rs bs).binSize := ⟨_, rfl⟩
  rw [← hq] at hfl
  obtain ⟨ok, hok⟩ : ∃ ok, ok = (Tm.mk k n s is rs bs).okB := ⟨_, rfl⟩
  have HC : Hid (chk (.mk k n s is rs bs) dep (p, b) = if p + 1 + (b + q) > 65536 ∨ dep > 200 then .error (p, 2) else if ok = false then .error (p, 1) else (chks is (dep + 1) (p + 1, b + q)).bind fun st => chks rs (dep + 1) st) :=
    Lib.hid (by rw [chk, hq, hok])
  have HF : Hid (∀ w', Keeps (fun x => x = g) w w' → Calls Try.prog 56 #[.agg #[.int .i64 k, .int .i64 n, .string s, .slice ai is.length ci, .slice ar rs.length cr, .slice ab bs.size cb]] w' fun e w2 => e = .returned (.bool ok) ∧ Keeps (fun _ => False) w' w2) := by
    refine Lib.hid fun w' hk => ?_
    rw [hok]
    exact fields_any (HT.out.keeps hk fun x hx h => HGS.out x hx h)
  have c0 : w.cell? ⟨g, 0, none⟩ = some (.int .i64 p) := hb.cell (i := 0) rfl
  have c1 : w.cell? ⟨g, 1, none⟩ = some (.int .i64 b) := hb.cell (i := 1) rfl
  have f0 := hb.free 0
  have f1 := hb.free 1
  have hg := hb.lt
  have hq0 : 0 ≤ q ∧ q ≤ 140737488355328 ∧ (k = 8 → q = bs.size) ∧ (k ≠ 8 → q = 0) := by
    rw [hq]; unfold Tm.binSize
    by_cases h8 : k = 8
    · rw [if_pos (show (Tm.mk k n s is rs bs).kind = 8 from h8)]
      exact ⟨by simp only [Tm.bytes]; omega, by simp only [Tm.bytes]; omega, fun _ => rfl, fun h => absurd h8 h⟩
    · rw [if_neg (show ¬ (Tm.mk k n s is rs bs).kind = 8 from h8)]
      omega
  obtain ⟨hq0, hq1, hq2, hq3⟩ := hq0
  rw [← hok] at hko
  subst hko
  clear IH hq hok hb hgS HT hfine
  simp only [Tm.val, Tm.kind, Tm.n, Tm.name, Tm.items, Tm.rest, Tm.bytes]
  obtain rfl : q = 0 := hq3 hk8
  have hk8' : (k == 8) = false := by simpa using hk8
  have HC : Hid (chk (.mk k n s is rs bs) dep (p, b) = if p + 1 + b > 65536 ∨ dep > 200 then .error (p, 2) else if false = false then .error (p, 1) else (chks is (dep + 1) (p + 1, b)).bind fun st => chks rs (dep + 1) st) := Lib.hid (by have := HC.out; rwa [Int.add_zero] at this)
  rw [Int.add_zero] at hfl
  clear hq0 hq1 hq2 hq3 hk8
  have HCH : Hid (chk (.mk k n s is rs bs) dep (p, b) = .error (p, 1)) := Lib.hid (by rw [HC.out, if_neg (by omega), if_pos rfl])
  have HFL := Lib.hid hfl
  have g1 : decide (65536 < p + 1 + (b)) = false := decide_eq_false (by omega)
  have g2 : decide (200 < dep) = false := decide_eq_false (by omega)
  clear hfl
  go_enter Try.func52, Try.ntmps52
  go_wp2_with (first | (with_reducible refine wp_region_text (by kernel_rfl) (by kernel_rfl) ?_) | (with_reducible refine text_fin (by kernel_rfl) ?_) | (go_at_call 56; refine Stop.out ?_))
  refine ⟨(HF.out _ (by repeat (first | with_reducible exact Keeps.refl _ _ | with_reducible apply Keeps.drew | with_reducible apply Keeps.alloc | refine Keeps.setCell (S := fun x => x = g) (p := ⟨g, _, none⟩) ?_ (fun _ => rfl) _))).mono ?_⟩
  rintro e w2 ⟨rfl, hk2⟩
  have HK2 : Hid (Keeps (fun x => x = g) w w2) := Lib.hid (Keeps.trans (T := fun _ => False) (by repeat (first | with_reducible exact Keeps.refl _ _ | with_reducible apply Keeps.drew | with_reducible apply Keeps.alloc | refine Keeps.setCell (S := fun x => x = g) (p := ⟨g, _, none⟩) ?_ (fun _ => rfl) _)) hk2 fun _ _ h => h.elim)
  clear hk2
  go_wp2_with (first | (with_reducible refine wp_region_text (by kernel_rfl) (by kernel_rfl) ?_) | (with_reducible refine text_fin (by kernel_rfl) ?_) | (go_at_call 35; refine (at_any _ _ _ _ _).mono ?_; rintro e w3 ⟨rfl, rfl⟩))
  go_ret
  exact chk_new' HCH.out HK2.out rfl
end Go.Proofs.Ytnmhodejffpblaa

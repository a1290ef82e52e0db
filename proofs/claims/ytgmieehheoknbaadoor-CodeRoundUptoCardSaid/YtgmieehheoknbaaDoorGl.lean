import Derived.Test.YtgmieehheoknbaaDoorGk
section
/-
  Whether a term is one that may be, the errors: what (*checker).term does.
-/
namespace Go.Proofs.YtgmieehheoknbaaDoor
open Go.RowKit Go.Tx
set_option maxRecDepth 100000 in
set_option maxHeartbeats 1600000 in
theorem term_n_full (d : Nat) (IH : TermSpec d) (w : World) (S : Nat → Prop) (v : Value) (k n : Int) (s : ByteArray) (is rs : List Tm) (bs : ByteArray) (g : Nat) (p b dep : Int) (h : TmD w S (d + 1) v (.mk k n s is rs bs)) (hgS : ∀ x, S x → ¬ x = g)
    (hb : Blk w g 79 [.int .i64 p, .int .i64 b]) (hp : 0 ≤ p) (hb0 : 0 ≤ b) (hpb : p + b ≤ 65536) (hd : 1 ≤ dep) (hd2 : dep ≤ 201) (hk8 : k ≠ 8) (hfl : p + 1 + (b + (Tm.mk k n s is rs bs).binSize) > 65536 ∨ dep > 200) :
    Calls Tryd.prog 30 #[.pointer (some ⟨g, 0, none⟩), v, .int .i64 dep] w (ChkPost g (chk (.mk k n s is rs bs) dep (p, b)) w) := by
  have HT := Lib.hid h
  obtain ⟨vi, vr, vb, rfl, hfine, hns, hi, hr, hbs⟩ := h
  have HIS := Lib.hid hi
  have HRS := Lib.hid hr
  obtain ⟨hil, ai, ci, rfl, hic, him, _⟩ := hi
  obtain ⟨hrl, ar, cr, rfl, hrc, hrm, _⟩ := hr
  obtain ⟨hbl, ab, cb, rfl, hbc, hbm, _⟩ := hbs
  simp only [Tm.kind, Tm.n, Tm.name, Tm.items, Tm.rest, Tm.bytes] at hil hrl hbl hic him hrc hrm hbc hbm hns HIS HRS
  have HIH := Lib.hid IH
  have HGS := Lib.hid hgS
  have HB := Lib.hid hb
  obtain ⟨q, hq⟩ : ∃ q, q = (Tm.mk k n s is rs bs).binSize := ⟨_, rfl⟩
  rw [← hq] at hfl
  obtain ⟨ok, hok⟩ : ∃ ok, ok = (Tm.mk k n s is rs bs).okB := ⟨_, rfl⟩
  have HC : Hid (chk (.mk k n s is rs bs) dep (p, b) = if p + 1 + (b + q) > 65536 ∨ dep > 200 then .error (p, 2) else if ok = false then .error (p, 1) else (chks is (dep + 1) (p + 1, b + q)).bind fun st => chks rs (dep + 1) st) :=
    Lib.hid (by rw [chk, hq, hok])
  have HF : Hid (∀ w', Keeps (fun x => x = g) w w' → Calls Tryd.prog 44 #[.agg #[.int .i64 k, .int .i64 n, .string s, .slice ai is.length ci, .slice ar rs.length cr, .slice ab bs.size cb]] w' fun e w2 => e = .returned (.bool ok) ∧ Keeps (fun _ => False) w' w2) := by
    refine Lib.hid fun w' hk => ?_
    rw [hok]
    exact fields_any (HT.out.keeps hk fun x hx h => HGS.out x hx h)
  have c0 : w.cell? ⟨g, 0, none⟩ = some (.int .i64 p) := hb.cell (i := 0) rfl
  have c1 : w.cell? ⟨g, 1, none⟩ = some (.int .i64 b) := hb.cell (i := 1) rfl
  have f0 := hb.free 0
  have f1 := hb.free 1
  have hg := hb.lt
  have hq0 : 0 ≤ q ∧ q ≤ 140737488355328 ∧ (k = 8 → q = bs.size) ∧ (k ≠ 8 → q = 0) := by
    rw [hq]; unfold Tm.binSize
    by_cases h8 : k = 8
    · rw [if_pos (show (Tm.mk k n s is rs bs).kind = 8 from h8)]
      exact ⟨by simp only [Tm.bytes]; omega, by simp only [Tm.bytes]; omega, fun _ => rfl, fun h => absurd h8 h⟩
    · rw [if_neg (show ¬ (Tm.mk k n s is rs bs).kind = 8 from h8)]
      omega
  obtain ⟨hq0, hq1, hq2, hq3⟩ := hq0
  clear IH hq hok hb hgS HT hfine
  simp only [Tm.val, Tm.kind, Tm.n, Tm.name, Tm.items, Tm.rest, Tm.bytes]
  obtain rfl : q = 0 := hq3 hk8
  have hk8' : (k == 8) = false := by simpa using hk8
  have HC : Hid (chk (.mk k n s is rs bs) dep (p, b) = if p + 1 + b > 65536 ∨ dep > 200 then .error (p, 2) else if ok = false then .error (p, 1) else (chks is (dep + 1) (p + 1, b)).bind fun st => chks rs (dep + 1) st) := Lib.hid (by have := HC.out; rwa [Int.add_zero] at this)
  rw [Int.add_zero] at hfl
  clear hq0 hq1 hq2 hq3 hk8
  have HCH : Hid (chk (.mk k n s is rs bs) dep (p, b) = .error (p, 2)) := Lib.hid (by rw [HC.out, if_pos hfl])
  have h12 : decide (65536 < p + 1 + (b)) = true ∨ (decide (65536 < p + 1 + (b)) = false ∧ decide (200 < dep) = true) := by
    by_cases h1 : 65536 < p + 1 + (b)
    · exact .inl (decide_eq_true h1)
    · exact .inr ⟨decide_eq_false h1, decide_eq_true (by omega)⟩
  clear hfl
  rcases h12 with g1 | ⟨g1, g2⟩
  all_goals
   go_enter Tryd.func30, Tryd.ntmps30
   go_wp2_with (first | (with_reducible refine wp_region_text (by kernel_rfl) (by kernel_rfl) ?_) | (with_reducible refine text_fin (by kernel_rfl) ?_) | (go_at_call 19; refine (at_any _ _ _ _ _).mono ?_; rintro e w2 ⟨rfl, rfl⟩))
   go_ret
   refine chk_new HCH.out ?_ ?_
   · exact (by repeat (first | with_reducible exact Keeps.refl _ _ | with_reducible apply Keeps.drew | with_reducible apply Keeps.alloc | refine Keeps.setCell (S := fun x => x = g) (p := ⟨g, _, none⟩) ?_ (fun _ => rfl) _))
   · simp
set_option maxRecDepth 100000 in
set_option maxHeartbeats 1600000 in
theorem term_n_arg (d : Nat) (IH : TermSpec d) (w : World) (S : Nat → Prop) (v : Value) (k n : Int) (s : ByteArray) (is rs : List Tm) (bs : ByteArray) (g : Nat) (p b dep : Int) (h : TmD w S (d + 1) v (.mk k n s is rs bs)) (hgS : ∀ x, S x → ¬ x = g)
    (hb : Blk w g 79 [.int .i64 p, .int .i64 b]) (hp : 0 ≤ p) (hb0 : 0 ≤ b) (hpb : p + b ≤ 65536) (hd : 1 ≤ dep) (hd2 : dep ≤ 201) (hk8 : k ≠ 8) (hfl : p + 1 + (b + (Tm.mk k n s is rs bs).binSize) ≤ 65536 ∧ dep ≤ 200) (hko : (Tm.mk k n s is rs bs).okB = false) :
    Calls Tryd.prog 30 #[.pointer (some ⟨g, 0, none⟩), v, .int .i64 dep] w (ChkPost g (chk (.mk k n s is rs bs) dep (p, b)) w) := by
  have HT := Lib.hid h
  obtain ⟨vi, vr, vb, rfl, hfine, hns, hi, hr, hbs⟩ := h
  have HIS := Lib.hid hi
  have HRS := Lib.hid hr
  obtain ⟨hil, ai, ci, rfl, hic, him, _⟩ := hi
  obtain ⟨hrl, ar, cr, rfl, hrc, hrm, _⟩ := hr
  obtain ⟨hbl, ab, cb, rfl, hbc, hbm, _⟩ := hbs
  simp only [Tm.kind, Tm.n, Tm.name, Tm.items, Tm.rest, Tm.bytes] at hil hrl hbl hic him hrc hrm hbc hbm hns HIS HRS
  have HIH := Lib.hid IH
  have HGS := Lib.hid hgS
  have HB := Lib.hid hb
  obtain ⟨q, hq⟩ : ∃ q, q = (Tm.mk k n s is rs bs).binSize := ⟨_, rfl⟩
  rw [← hq] at hfl
  obtain ⟨ok, hok⟩ : ∃ ok, ok = (Tm.mk k n s is rs bs).okB := ⟨_, rfl⟩
  have HC : Hid (chk (.mk k n s is rs bs) dep (p, b) = if p + 1 + (b + q) > 65536 ∨ dep > 200 then .error (p, 2) else if ok = false then .error (p, 1) else (chks is (dep + 1) (p + 1, b + q)).bind fun st => chks rs (dep + 1) st) :=
    Lib.hid (by rw [chk, hq, hok])
  have HF : Hid (∀ w', Keeps (fun x => x = g) w w' → Calls Tryd.prog 44 #[.agg #[.int .i64 k, .int .i64 n, .string s, .slice ai is.length ci, .slice ar rs.length cr, .slice ab bs.size cb]] w' fun e w2 => e = .returned (.bool ok) ∧ Keeps (fun _ => False) w' w2) := by
    refine Lib.hid fun w' hk => ?_
    rw [hok]
    exact fields_any (HT.out.keeps hk fun x hx h => HGS.out x hx h)
  have c0 : w.cell? ⟨g, 0, none⟩ = some (.int .i64 p) := hb.cell (i := 0) rfl
  have c1 : w.cell? ⟨g, 1, none⟩ = some (.int .i64 b) := hb.cell (i := 1) rfl
  have f0 := hb.free 0
  have f1 := hb.free 1
  have hg := hb.lt
  have hq0 : 0 ≤ q ∧ q ≤ 140737488355328 ∧ (k = 8 → q = bs.size) ∧ (k ≠ 8 → q = 0) := by
    rw [hq]; unfold Tm.binSize
    by_cases h8 : k = 8
    · rw [if_pos (show (Tm.mk k n s is rs bs).kind = 8 from h8)]
      exact ⟨by simp only [Tm.bytes]; omega, by simp only [Tm.bytes]; omega, fun _ => rfl, fun h => absurd h8 h⟩
    · rw [if_neg (show ¬ (Tm.mk k n s is rs bs).kind = 8 from h8)]
      omega
  obtain ⟨hq0, hq1, hq2, hq3⟩ := hq0
  rw [← hok] at hko
  subst hko
  clear IH hq hok hb hgS HT hfine
  simp only [Tm.val, Tm.kind, Tm.n, Tm.name, Tm.items, Tm.rest, Tm.bytes]
  obtain rfl : q = 0 := hq3 hk8
  have hk8' : (k == 8) = false := by simpa using hk8
  have HC : Hid (chk (.mk k n s is rs bs) dep (p, b) = if p + 1 + b > 65536 ∨ dep > 200 then .error (p, 2) else if false = false then .error (p, 1) else (chks is (dep + 1) (p + 1, b)).bind fun st => chks rs (dep + 1) st) := Lib.hid (by have := HC.out; rwa [Int.add_zero] at this)
  rw [Int.add_zero] at hfl
  clear hq0 hq1 hq2 hq3 hk8
  have HCH : Hid (chk (.mk k n s is rs bs) dep (p, b) = .error (p, 1)) := Lib.hid (by rw [HC.out, if_neg (by omega), if_pos rfl])
  have HFL := Lib.hid hfl
  have g1 : decide (65536 < p + 1 + (b)) = false := decide_eq_false (by omega)
  have g2 : decide (200 < dep) = false := decide_eq_false (by omega)
  clear hfl
  go_enter Tryd.func30, Tryd.ntmps30
  go_wp2_with (first | (with_reducible refine wp_region_text (by kernel_rfl) (by kernel_rfl) ?_) | (with_reducible refine text_fin (by kernel_rfl) ?_) | (go_at_call 44; refine Stop.out ?_))
  refine ⟨(HF.out _ (by repeat (first | with_reducible exact Keeps.refl _ _ | with_reducible apply Keeps.drew | with_reducible apply Keeps.alloc | refine Keeps.setCell (S := fun x => x = g) (p := ⟨g, _, none⟩) ?_ (fun _ => rfl) _))).mono ?_⟩
  rintro e w2 ⟨rfl, hk2⟩
  have HK2 : Hid (Keeps (fun x => x = g) w w2) := Lib.hid (Keeps.trans (T := fun _ => False) (by repeat (first | with_reducible exact Keeps.refl _ _ | with_reducible apply Keeps.drew | with_reducible apply Keeps.alloc | refine Keeps.setCell (S := fun x => x = g) (p := ⟨g, _, none⟩) ?_ (fun _ => rfl) _)) hk2 fun _ _ h => h.elim)
  clear hk2
  go_wp2_with (first | (with_reducible refine wp_region_text (by kernel_rfl) (by kernel_rfl) ?_) | (with_reducible refine text_fin (by kernel_rfl) ?_) | (go_at_call 19; refine (at_any _ _ _ _ _).mono ?_; rintro e w3 ⟨rfl, rfl⟩))
  go_ret
  exact chk_new' HCH.out HK2.out rfl
end Go.Proofs.YtgmieehheoknbaaDoor
end
section
/-
  Whether a term is one that may be, the errors of bytes: what (*checker).term does.
-/
namespace Go.Proofs.YtgmieehheoknbaaDoor
open Go.RowKit Go.Tx
set_option maxRecDepth 100000 in
set_option maxHeartbeats 1600000 in
theorem term_b_full (d : Nat) (IH : TermSpec d) (w : World) (S : Nat → Prop) (v : Value) (k n : Int) (s : ByteArray) (is rs : List Tm) (bs : ByteArray) (g : Nat) (p b dep : Int) (h : TmD w S (d + 1) v (.mk k n s is rs bs)) (hgS : ∀ x, S x → ¬ x = g)
    (hb : Blk w g 79 [.int .i64 p, .int .i64 b]) (hp : 0 ≤ p) (hb0 : 0 ≤ b) (hpb : p + b ≤ 65536) (hd : 1 ≤ dep) (hd2 : dep ≤ 201) (hk8 : k = 8) (hfl : p + 1 + (b + (Tm.mk k n s is rs bs).binSize) > 65536 ∨ dep > 200) :
    Calls Tryd.prog 30 #[.pointer (some ⟨g, 0, none⟩), v, .int .i64 dep] w (ChkPost g (chk (.mk k n s is rs bs) dep (p, b)) w) := by
  have HT := Lib.hid h
  obtain ⟨vi, vr, vb, rfl, hfine, hns, hi, hr, hbs⟩ := h
  have HIS := Lib.hid hi
  have HRS := Lib.hid hr
  obtain ⟨hil, ai, ci, rfl, hic, him, _⟩ := hi
  obtain ⟨hrl, ar, cr, rfl, hrc, hrm, _⟩ := hr
  obtain ⟨hbl, ab, cb, rfl, hbc, hbm, _⟩ := hbs
  simp only [Tm.kind, Tm.n, Tm.name, Tm.items, Tm.rest, Tm.bytes] at hil hrl hbl hic him hrc hrm hbc hbm hns HIS HRS
  have HIH := Lib.hid IH
  have HGS := Lib.hid hgS
  have HB := Lib.hid hb
  obtain ⟨q, hq⟩ : ∃ q, q = (Tm.mk k n s is rs bs).binSize := ⟨_, rfl⟩
  rw [← hq] at hfl
  obtain ⟨ok, hok⟩ : ∃ ok, ok = (Tm.mk k n s is rs bs).okB := ⟨_, rfl⟩
  have HC : Hid (chk (.mk k n s is rs bs) dep (p, b) = if p + 1 + (b + q) > 65536 ∨ dep > 200 then .error (p, 2) else if ok = false then .error (p, 1) else (chks is (dep + 1) (p + 1, b + q)).bind fun st => chks rs (dep + 1) st) :=
    Lib.hid (by rw [chk, hq, hok])
  have HF : Hid (∀ w', Keeps (fun x => x = g) w w' → Calls Tryd.prog 44 #[.agg #[.int .i64 k, .int .i64 n, .string s, .slice ai is.length ci, .slice ar rs.length cr, .slice ab bs.size cb]] w' fun e w2 => e = .returned (.bool ok) ∧ Keeps (fun _ => False) w' w2) := by
    refine Lib.hid fun w' hk => ?_
    rw [hok]
    exact fields_any (HT.out.keeps hk fun x hx h => HGS.out x hx h)
  have c0 : w.cell? ⟨g, 0, none⟩ = some (.int .i64 p) := hb.cell (i := 0) rfl
  have c1 : w.cell? ⟨g, 1, none⟩ = some (.int .i64 b) := hb.cell (i := 1) rfl
  have f0 := hb.free 0
  have f1 := hb.free 1
  have hg := hb.lt
  have hq0 : 0 ≤ q ∧ q ≤ 140737488355328 ∧ (k = 8 → q = bs.size) ∧ (k ≠ 8 → q = 0) := by
    rw [hq]; unfold Tm.binSize
    by_cases h8 : k = 8
    · rw [if_pos (show (Tm.mk k n s is rs bs).kind = 8 from h8)]
      exact ⟨by simp only [Tm.bytes]; omega, by simp only [Tm.bytes]; omega, fun _ => rfl, fun h => absurd h8 h⟩
    · rw [if_neg (show ¬ (Tm.mk k n s is rs bs).kind = 8 from h8)]
      omega
  obtain ⟨hq0, hq1, hq2, hq3⟩ := hq0
  clear IH hq hok hb hgS HT hfine
  simp only [Tm.val, Tm.kind, Tm.n, Tm.name, Tm.items, Tm.rest, Tm.bytes]
  obtain rfl : q = (bs.size : Int) := hq2 hk8
  clear hq2 hq3
  subst hk8
  have HCH : Hid (chk (.mk 8 n s is rs bs) dep (p, b) = .error (p, 2)) := Lib.hid (by rw [HC.out, if_pos hfl])
  have h12 : decide (65536 < p + 1 + (b + bs.size)) = true ∨ (decide (65536 < p + 1 + (b + bs.size)) = false ∧ decide (200 < dep) = true) := by
    by_cases h1 : 65536 < p + 1 + (b + bs.size)
    · exact .inl (decide_eq_true h1)
    · exact .inr ⟨decide_eq_false h1, decide_eq_true (by omega)⟩
  clear hfl
  rcases h12 with g1 | ⟨g1, g2⟩
  all_goals
   go_enter Tryd.func30, Tryd.ntmps30
   go_wp2_with (first | (with_reducible refine wp_region_text (by kernel_rfl) (by kernel_rfl) ?_) | (with_reducible refine text_fin (by kernel_rfl) ?_) | (go_at_call 19; refine (at_any _ _ _ _ _).mono ?_; rintro e w2 ⟨rfl, rfl⟩))
   go_ret
   refine chk_new2 HCH.out ?_ ?_
   · exact (by repeat (first | with_reducible exact Keeps.refl _ _ | with_reducible apply Keeps.drew | with_reducible apply Keeps.alloc | refine Keeps.setCell (S := fun x => x = g) (p := ⟨g, _, none⟩) ?_ (fun _ => rfl) _))
   · simp
set_option maxRecDepth 100000 in
set_option maxHeartbeats 1600000 in
theorem term_b_arg (d : Nat) (IH : TermSpec d) (w : World) (S : Nat → Prop) (v : Value) (k n : Int) (s : ByteArray) (is rs : List Tm) (bs : ByteArray) (g : Nat) (p b dep : Int) (h : TmD w S (d + 1) v (.mk k n s is rs bs)) (hgS : ∀ x, S x → ¬ x = g)
    (hb : Blk w g 79 [.int .i64 p, .int .i64 b]) (hp : 0 ≤ p) (hb0 : 0 ≤ b) (hpb : p + b ≤ 65536) (hd : 1 ≤ dep) (hd2 : dep ≤ 201) (hk8 : k = 8) (hfl : p + 1 + (b + (Tm.mk k n s is rs bs).binSize) ≤ 65536 ∧ dep ≤ 200) (hko : (Tm.mk k n s is rs bs).okB = false) :
    Calls Tryd.prog 30 #[.pointer (some ⟨g, 0, none⟩), v, .int .i64 dep] w (ChkPost g (chk (.mk k n s is rs bs) dep (p, b)) w) := by
  have HT := Lib.hid h
  obtain ⟨vi, vr, vb, rfl, hfine, hns, hi, hr, hbs⟩ := h
  have HIS := Lib.hid hi
  have HRS := Lib.hid hr
  obtain ⟨hil, ai, ci, rfl, hic, him, _⟩ := hi
  obtain ⟨hrl, ar, cr, rfl, hrc, hrm, _⟩ := hr
  obtain ⟨hbl, ab, cb, rfl, hbc, hbm, _⟩ := hbs
  simp only [Tm.kind, Tm.n, Tm.name, Tm.items, Tm.rest, Tm.bytes] at hil hrl hbl hic him hrc hrm hbc hbm hns HIS HRS
  have HIH := Lib.hid IH
  have HGS := Lib.hid hgS
  have HB := Lib.hid hb
  obtain ⟨q, hq⟩ : ∃ q, q = (Tm.mk k n s is rs bs).binSize := ⟨_, rfl⟩
  rw [← hq] at hfl
  obtain ⟨ok, hok⟩ : ∃ ok, ok = (Tm.mk k n s is rs bs).okB := ⟨_, rfl⟩
  have HC : Hid (chk (.mk k n s is rs bs) dep (p, b) = if p + 1 + (b + q) > 65536 ∨ dep > 200 then .error (p, 2) else if ok = false then .error (p, 1) else (chks is (dep + 1) (p + 1, b + q)).bind fun st => chks rs (dep + 1) st) :=
    Lib.hid (by rw [chk, hq, hok])
  have HF : Hid (∀ w', Keeps (fun x => x = g) w w' → Calls Tryd.prog 44 #[.agg #[.int .i64 k, .int .i64 n, .string s, .slice ai is.length ci, .slice ar rs.length cr, .slice ab bs.size cb]] w' fun e w2 => e = .returned (.bool ok) ∧ Keeps (fun _ => False) w' w2) := by
    refine Lib.hid fun w' hk => ?_
    rw [hok]
    exact fields_any (HT.out.keeps hk fun x hx h => HGS.out x hx h)
  have c0 : w.cell? ⟨g, 0, none⟩ = some (.int .i64 p) := hb.cell (i := 0) rfl
  have c1 : w.cell? ⟨g, 1, none⟩ = some (.int .i64 b) := hb.cell (i := 1) rfl
  have f0 := hb.free 0
  have f1 := hb.free 1
  have hg := hb.lt
  have hq0 : 0 ≤ q ∧ q ≤ 140737488355328 ∧ (k = 8 → q = bs.size) ∧ (k ≠ 8 → q = 0) := by
    rw [hq]; unfold Tm.binSize
    by_cases h8 : k = 8
    · rw [if_pos (show (Tm.mk k n s is rs bs).kind = 8 from h8)]
      exact ⟨by simp only [Tm.bytes]; omega, by simp only [Tm.bytes]; omega, fun _ => rfl, fun h => absurd h8 h⟩
    · rw [if_neg (show ¬ (Tm.mk k n s is rs bs).kind = 8 from h8)]
      omega
  obtain ⟨hq0, hq1, hq2, hq3⟩ := hq0
  rw [← hok] at hko
  subst hko
  clear IH hq hok hb hgS HT hfine
  simp only [Tm.val, Tm.kind, Tm.n, Tm.name, Tm.items, Tm.rest, Tm.bytes]
  obtain rfl : q = (bs.size : Int) := hq2 hk8
  clear hq2 hq3
  subst hk8
  have HCH : Hid (chk (.mk 8 n s is rs bs) dep (p, b) = .error (p, 1)) := Lib.hid (by rw [HC.out, if_neg (by omega), if_pos rfl])
  have HFL := Lib.hid hfl
  have g1 : decide (65536 < p + 1 + (b + bs.size)) = false := decide_eq_false (by omega)
  have g2 : decide (200 < dep) = false := decide_eq_false (by omega)
  clear hfl
  go_enter Tryd.func30, Tryd.ntmps30
  go_wp2_with (first | (with_reducible refine wp_region_text (by kernel_rfl) (by kernel_rfl) ?_) | (with_reducible refine text_fin (by kernel_rfl) ?_) | (go_at_call 44; refine Stop.out ?_))
  refine ⟨(HF.out _ (by repeat (first | with_reducible exact Keeps.refl _ _ | with_reducible apply Keeps.drew | with_reducible apply Keeps.alloc | refine Keeps.setCell (S := fun x => x = g) (p := ⟨g, _, none⟩) ?_ (fun _ => rfl) _))).mono ?_⟩
  rintro e w2 ⟨rfl, hk2⟩
  have HK2 : Hid (Keeps (fun x => x = g) w w2) := Lib.hid (Keeps.trans (T := fun _ => False) (by repeat (first | with_reducible exact Keeps.refl _ _ | with_reducible apply Keeps.drew | with_reducible apply Keeps.alloc | refine Keeps.setCell (S := fun x => x = g) (p := ⟨g, _, none⟩) ?_ (fun _ => rfl) _)) hk2 fun _ _ h => h.elim)
  clear hk2
  go_wp2_with (first | (with_reducible refine wp_region_text (by kernel_rfl) (by kernel_rfl) ?_) | (with_reducible refine text_fin (by kernel_rfl) ?_) | (go_at_call 19; refine (at_any _ _ _ _ _).mono ?_; rintro e w3 ⟨rfl, rfl⟩))
  go_ret
  exact chk_new' HCH.out HK2.out rfl
end Go.Proofs.YtgmieehheoknbaaDoor
end
section
/-
  Whether a term is one that may be, its parts: what (*checker).term does.
-/
namespace Go.Proofs.YtgmieehheoknbaaDoor
open Go.RowKit Go.Tx
set_option maxRecDepth 100000 in
set_option maxHeartbeats 1600000 in
theorem term_n_parts (d : Nat) (IH : TermSpec d) (w : World) (S : Nat → Prop) (v : Value) (k n : Int) (s : ByteArray) (is rs : List Tm) (bs : ByteArray) (g : Nat) (p b dep : Int) (h : TmD w S (d + 1) v (.mk k n s is rs bs)) (hgS : ∀ x, S x → ¬ x = g)
    (hb : Blk w g 79 [.int .i64 p, .int .i64 b]) (hp : 0 ≤ p) (hb0 : 0 ≤ b) (hpb : p + b ≤ 65536) (hd : 1 ≤ dep) (hd2 : dep ≤ 201) (hk8 : k ≠ 8) (hfl : p + 1 + (b + (Tm.mk k n s is rs bs).binSize) ≤ 65536 ∧ dep ≤ 200) (hko : (Tm.mk k n s is rs bs).okB = true) :
    Calls Tryd.prog 30 #[.pointer (some ⟨g, 0, none⟩), v, .int .i64 dep] w (ChkPost g (chk (.mk k n s is rs bs) dep (p, b)) w) := by
  have HT := Lib.hid h
  obtain ⟨vi, vr, vb, rfl, hfine, hns, hi, hr, hbs⟩ := h
  have HIS := Lib.hid hi
  have HRS := Lib.hid hr
  obtain ⟨hil, ai, ci, rfl, hic, him, _⟩ := hi
  obtain ⟨hrl, ar, cr, rfl, hrc, hrm, _⟩ := hr
  obtain ⟨hbl, ab, cb, rfl, hbc, hbm, _⟩ := hbs
  simp only [Tm.kind, Tm.n, Tm.name, Tm.items, Tm.rest, Tm.bytes] at hil hrl hbl hic him hrc hrm hbc hbm hns HIS HRS
  have HIH := Lib.hid IH
  have HGS := Lib.hid hgS
  have HB := Lib.hid hb
  obtain ⟨q, hq⟩ : ∃ q, q = (Tm.mk k n s is rs bs).binSize := ⟨_, rfl⟩
  rw [← hq] at hfl
  obtain ⟨ok, hok⟩ : ∃ ok, ok = (Tm.mk k n s is rs bs).okB := ⟨_, rfl⟩
  have HC : Hid (chk (.mk k n s is rs bs) dep (p, b) = if p + 1 + (b + q) > 65536 ∨ dep > 200 then .error (p, 2) else if ok = false then .error (p, 1) else (chks is (dep + 1) (p + 1, b + q)).bind fun st => chks rs (dep + 1) st) :=
    Lib.hid (by rw [chk, hq, hok])
  have HF : Hid (∀ w', Keeps (fun x => x = g) w w' → Calls Tryd.prog 44 #[.agg #[.int .i64 k, .int .i64 n, .string s, .slice ai is.length ci, .slice ar rs.length cr, .slice ab bs.size cb]] w' fun e w2 => e = .returned (.bool ok) ∧ Keeps (fun _ => False) w' w2) := by
    refine Lib.hid fun w' hk => ?_
    rw [hok]
    exact fields_any (HT.out.keeps hk fun x hx h => HGS.out x hx h)
  have c0 : w.cell? ⟨g, 0, none⟩ = some (.int .i64 p) := hb.cell (i := 0) rfl
  have c1 : w.cell? ⟨g, 1, none⟩ = some (.int .i64 b) := hb.cell (i := 1) rfl
  have f0 := hb.free 0
  have f1 := hb.free 1
  have hg := hb.lt
  have hq0 : 0 ≤ q ∧ q ≤ 140737488355328 ∧ (k = 8 → q = bs.size) ∧ (k ≠ 8 → q = 0) := by
    rw [hq]; unfold Tm.binSize
    by_cases h8 : k = 8
    · rw [if_pos (show (Tm.mk k n s is rs bs).kind = 8 from h8)]
      exact ⟨by simp only [Tm.bytes]; omega, by simp only [Tm.bytes]; omega, fun _ => rfl, fun h => absurd h8 h⟩
    · rw [if_neg (show ¬ (Tm.mk k n s is rs bs).kind = 8 from h8)]
      omega
  obtain ⟨hq0, hq1, hq2, hq3⟩ := hq0
  rw [← hok] at hko
  subst hko
  clear IH hq hok hb hgS HT hfine
  simp only [Tm.val, Tm.kind, Tm.n, Tm.name, Tm.items, Tm.rest, Tm.bytes]
  obtain rfl : q = 0 := hq3 hk8
  have hk8' : (k == 8) = false := by simpa using hk8
  have HC : Hid (chk (.mk k n s is rs bs) dep (p, b) = if p + 1 + b > 65536 ∨ dep > 200 then .error (p, 2) else if true = false then .error (p, 1) else (chks is (dep + 1) (p + 1, b)).bind fun st => chks rs (dep + 1) st) := Lib.hid (by have := HC.out; rwa [Int.add_zero] at this)
  rw [Int.add_zero] at hfl
  clear hq0 hq1 hq2 hq3 hk8
  have HFL := Lib.hid hfl
  have g1 : decide (65536 < p + 1 + (b)) = false := decide_eq_false (by omega)
  have g2 : decide (200 < dep) = false := decide_eq_false (by omega)
  clear hfl
  go_enter Tryd.func30, Tryd.ntmps30
  go_wp2_with (first | (with_reducible refine wp_region_text (by kernel_rfl) (by kernel_rfl) ?_) | (with_reducible refine text_fin (by kernel_rfl) ?_) | (go_at_call 44; refine Stop.out ?_))
  refine ⟨(HF.out _ (by repeat (first | with_reducible exact Keeps.refl _ _ | with_reducible apply Keeps.drew | with_reducible apply Keeps.alloc | refine Keeps.setCell (S := fun x => x = g) (p := ⟨g, _, none⟩) ?_ (fun _ => rfl) _))).mono ?_⟩
  rintro e w2 ⟨rfl, hk2⟩
  have HKis : Hid (Keeps (fun x => x = g) w w2) := Lib.hid (Keeps.trans (T := fun _ => False) (by repeat (first | with_reducible exact Keeps.refl _ _ | with_reducible apply Keeps.drew | with_reducible apply Keeps.alloc | refine Keeps.setCell (S := fun x => x = g) (p := ⟨g, _, none⟩) ?_ (fun _ => rfl) _)) hk2 fun _ _ h => h.elim)
  have HBis : Hid (Blk w2 g 79 [.int .i64 (p + 1), .int .i64 (b)]) := Lib.hid (Blk.keeps (S := fun _ => False) ((HB.out.set 0 (.int .i64 (p + 1))).alloc _) hk2.of_drew fun h => h)
  have hbl : Blk w2 w.heap.size 46 [.int .i64 k, .int .i64 n, .string s, .slice ai is.length ci, .slice ar rs.length cr, .slice ab bs.size cb] := by
    refine Blk.keeps (S := fun _ => False) ?_ hk2.of_drew (fun h => h)
    have := Blk.new (w.setCell ⟨g, 0, none⟩ (.int .i64 (p + 1))) [.int .i64 k, .int .i64 n, .string s, .slice ai is.length ci, .slice ar rs.length cr, .slice ab bs.size cb] 46
    rw [World.size_setCell] at this
    exact this
  have e3 : w2.cell? ⟨w.heap.size, 3, none⟩ = some (.slice ai is.length ci) := hbl.cell (i := 3) rfl
  have e4 : w2.cell? ⟨w.heap.size, 4, none⟩ = some (.slice ar rs.length cr) := hbl.cell (i := 4) rfl
  clear hk2 hbl HF c0 c1 f0 f1
  go_wp2
  refine wp_loop_rounds 3 ?_
  rw [rounds_succ]
  go_wp2
  generalize hwb : w2.alloc (.cells #[.slice ai is.length ci, .slice ar rs.length cr] 22) = wb
  have hlb := Blk.new w2 [.slice ai is.length ci, .slice ar rs.length cr] 22
  rw [hwb] at hlb
  have e5 : wb.cell? ⟨w2.heap.size, 1, none⟩ = some (.slice ar rs.length cr) := hlb.cell (i := 1) rfl
  have hg2 : ¬ w2.heap.size = g := by have := HBis.out.lt; omega
  have HKB : Hid (Keeps (fun x => x = g) w wb) := Lib.hid (hwb ▸ HKis.out.alloc _)
  have HBB : Hid (Blk wb g 79 [.int .i64 (p + 1), .int .i64 (b)]) := Lib.hid (hwb ▸ HBis.out.alloc _)
  clear hlb hwb e3 e4
  go_loopw [72] (fun v wr => PartsAt wb g is (dep + 1) (chks is (dep + 1) (p + 1, b)) v wr) (fun v _ => is.length - (intOf v).toNat)
  case atStart => exact ⟨0, _, _, rfl, Nat.zero_le _, rfl, by omega, by omega, by have := HFL.out; omega, HBB.out, Keeps.refl _ _⟩
  case round =>
    obtain ⟨i, p1, b1, rfl, hil1, hch, hp1, hb1, hpb1, hblk, hk1⟩ := hrel
    have HCH := Lib.hid hch
    have HBL := Lib.hid hblk
    have HK1 := Lib.hid hk1
    clear hch hblk
    by_cases hlt : i < is.length
    · obtain ⟨x, hx⟩ : ∃ x, is[i]? = some x := ⟨is[i], by simp⟩
      obtain ⟨bb, o, yi, yr, yb, ha, hS, ⟨d0, d1, d2, d3, d4, d5⟩, hT⟩ := HIS.out.at hx
      subst ha
      obtain ⟨a3, k3, a4, k4, a5, k5, rfl, rfl, rfl⟩ := hT.forms
      replace d0 := hk1.cell (HKB.out.cell d0 (HGS.out _ hS)) (HGS.out _ hS)
      replace d1 := hk1.cell (HKB.out.cell d1 (HGS.out _ hS)) (HGS.out _ hS)
      replace d2 := hk1.cell (HKB.out.cell d2 (HGS.out _ hS)) (HGS.out _ hS)
      replace d3 := hk1.cell (HKB.out.cell d3 (HGS.out _ hS)) (HGS.out _ hS)
      replace d4 := hk1.cell (HKB.out.cell d4 (HGS.out _ hS)) (HGS.out _ hS)
      replace d5 := hk1.cell (HKB.out.cell d5 (HGS.out _ hS)) (HGS.out _ hS)
      have HT2 := Lib.hid ((hT.keeps HKB.out HGS.out).keeps hk1 HGS.out)
      have HD : Hid (chks (is.drop i) (dep + 1) (p1, b1) = (chk x (dep + 1) (p1, b1)).bind fun st => chks (is.drop (i + 1)) (dep + 1) st) := Lib.hid (by rw [drop_cons hx, chks])
      clear hT hx hk1
      go_wp2_with (first | (with_reducible refine wp_region_text (by kernel_rfl) (by kernel_rfl) ?_) | (with_reducible refine text_fin (by kernel_rfl) ?_) | (go_at_call 30; refine Stop.out ?_))
      refine ⟨(HIH.out _ S _ x g p1 b1 (dep + 1) (HT2.out.keeps (T := fun _ => False) (by repeat (first | with_reducible exact Keeps.refl _ _ | with_reducible apply Keeps.drew | with_reducible apply Keeps.alloc | refine Keeps.setCell (S := fun x => x = g) (p := ⟨g, _, none⟩) ?_ (fun _ => rfl) _)) (fun _ _ h => h)) HGS.out (HBL.out.keeps (S := fun _ => False) (by repeat (first | with_reducible exact Keeps.refl _ _ | with_reducible apply Keeps.drew | with_reducible apply Keeps.alloc | refine Keeps.setCell (S := fun x => x = g) (p := ⟨g, _, none⟩) ?_ (fun _ => rfl) _)) (fun h => h)) hp1 hb1 hpb1 (by omega) (by have := HFL.out; omega)).mono ?_⟩
      rintro e w3 ⟨hk3, hp3⟩
      have HK3 : Hid (Keeps (fun x => x = g) wb w3) := Lib.hid (HK1.out.trans (((Keeps.refl (fun x => x = g) wr).alloc _).trans hk3 fun _ _ h => h) fun _ _ h => h)
      have hsz : w.heap.size ≤ wr.heap.size := Nat.le_trans HKB.out.size HK1.out.size
      clear hk3
      rcases hres : chk x (dep + 1) (p1, b1) with er | st
      · rw [hres] at hp3
        obtain ⟨E, rfl, hE⟩ := hp3
        have HE := Lib.hid hE
        obtain ⟨bE, uE, rfl, _⟩ := hE
        have HR := Lib.hid hres
        clear hres
        go_wp2
        go_ret
        refine chkPost_err ?_ (HKB.out.trans HK3.out fun _ _ h => h) HE.out (by rw [World.size_alloc]; omega)
        rw [HC.out, if_neg (by have := HFL.out; omega), if_neg (by simp)]
        rw [← HCH.out, HD.out, HR.out]
        rfl
      · rw [hres] at hp3
        obtain ⟨p2, b2⟩ := st
        obtain ⟨rfl, hb3, h1, h2, h3⟩ := hp3
        have HB3 := Lib.hid hb3
        have HR := Lib.hid hres
        clear hb3 hres
        go_wp2
        go_roundw
        case rel =>
          refine ⟨i + 1, p2, b2, by go_num, by omega, ?_, h1, h2, h3, HB3.out, HK3.out⟩
          rw [← HCH.out, HD.out, HR.out]
          rfl
        case measure => simp [intOf]; omega
    · have hr : chks is (dep + 1) (p + 1, b) = .ok (p1, b1) := by
        rw [← HCH.out, List.drop_of_length_le (by omega), chks]
      have HRis := Lib.hid hr
      clear hr
      have HBrs := HBL
      have HKrs := HK1
      obtain ⟨pa, hpa⟩ : ∃ z, z = p1 := ⟨_, rfl⟩
      obtain ⟨ba, hba⟩ : ∃ z, z = b1 := ⟨_, rfl⟩
      subst hpa hba
      replace e5 := hk1.cell e5 hg2
      clear HBL HK1 hk1 HCH
      go_wp2
      rw [rounds_succ]
      go_wp2
      go_loopw [72] (fun v wr => PartsAt wb g rs (dep + 1) (chks rs (dep + 1) (pa, ba)) v wr) (fun v _ => rs.length - (intOf v).toNat)
      case atStart => exact ⟨0, _, _, rfl, Nat.zero_le _, rfl, by omega, by omega, by have := HFL.out; omega, HBrs.out, HKrs.out⟩
      case round =>
        obtain ⟨i, p1, b1, rfl, hil1, hch, hp1, hb1, hpb1, hblk, hk1⟩ := hrel
        have HCH := Lib.hid hch
        have HBL := Lib.hid hblk
        have HK1 := Lib.hid hk1
        clear hch hblk
        by_cases hlt : i < rs.length
        · obtain ⟨x, hx⟩ : ∃ x, rs[i]? = some x := ⟨rs[i], by simp⟩
          obtain ⟨bb, o, yi, yr, yb, ha, hS, ⟨d0, d1, d2, d3, d4, d5⟩, hT⟩ := HRS.out.at hx
          subst ha
          obtain ⟨a3, k3, a4, k4, a5, k5, rfl, rfl, rfl⟩ := hT.forms
          replace d0 := hk1.cell (HKB.out.cell d0 (HGS.out _ hS)) (HGS.out _ hS)
          replace d1 := hk1.cell (HKB.out.cell d1 (HGS.out _ hS)) (HGS.out _ hS)
          replace d2 := hk1.cell (HKB.out.cell d2 (HGS.out _ hS)) (HGS.out _ hS)
          replace d3 := hk1.cell (HKB.out.cell d3 (HGS.out _ hS)) (HGS.out _ hS)
          replace d4 := hk1.cell (HKB.out.cell d4 (HGS.out _ hS)) (HGS.out _ hS)
          replace d5 := hk1.cell (HKB.out.cell d5 (HGS.out _ hS)) (HGS.out _ hS)
          have HT2 := Lib.hid ((hT.keeps HKB.out HGS.out).keeps hk1 HGS.out)
          have HD : Hid (chks (rs.drop i) (dep + 1) (p1, b1) = (chk x (dep + 1) (p1, b1)).bind fun st => chks (rs.drop (i + 1)) (dep + 1) st) := Lib.hid (by rw [drop_cons hx, chks])
          clear hT hx hk1
          go_wp2_with (first | (with_reducible refine wp_region_text (by kernel_rfl) (by kernel_rfl) ?_) | (with_reducible refine text_fin (by kernel_rfl) ?_) | (go_at_call 30; refine Stop.out ?_))
          refine ⟨(HIH.out _ S _ x g p1 b1 (dep + 1) (HT2.out.keeps (T := fun _ => False) (by repeat (first | with_reducible exact Keeps.refl _ _ | with_reducible apply Keeps.drew | with_reducible apply Keeps.alloc | refine Keeps.setCell (S := fun x => x = g) (p := ⟨g, _, none⟩) ?_ (fun _ => rfl) _)) (fun _ _ h => h)) HGS.out (HBL.out.keeps (S := fun _ => False) (by repeat (first | with_reducible exact Keeps.refl _ _ | with_reducible apply Keeps.drew | with_reducible apply Keeps.alloc | refine Keeps.setCell (S := fun x => x = g) (p := ⟨g, _, none⟩) ?_ (fun _ => rfl) _)) (fun h => h)) hp1 hb1 hpb1 (by omega) (by have := HFL.out; omega)).mono ?_⟩
          rintro e w3 ⟨hk3, hp3⟩
          have HK3 : Hid (Keeps (fun x => x = g) wb w3) := Lib.hid (HK1.out.trans (((Keeps.refl (fun x => x = g) wr).alloc _).trans hk3 fun _ _ h => h) fun _ _ h => h)
          have hsz : w.heap.size ≤ wr.heap.size := Nat.le_trans HKB.out.size HK1.out.size
          clear hk3
          rcases hres : chk x (dep + 1) (p1, b1) with er | st
          · rw [hres] at hp3
            obtain ⟨E, rfl, hE⟩ := hp3
            have HE := Lib.hid hE
            obtain ⟨bE, uE, rfl, _⟩ := hE
            have HR := Lib.hid hres
            clear hres
            go_wp2
            go_ret
            refine chkPost_err ?_ (HKB.out.trans HK3.out fun _ _ h => h) HE.out (by rw [World.size_alloc]; omega)
            rw [HC.out, if_neg (by have := HFL.out; omega), if_neg (by simp)]
            rw [HRis.out, exc_ok]
            show chks rs (dep + 1) (pa, ba) = _
            rw [← HCH.out, HD.out, HR.out]
            rfl
          · rw [hres] at hp3
            obtain ⟨p2, b2⟩ := st
            obtain ⟨rfl, hb3, h1, h2, h3⟩ := hp3
            have HB3 := Lib.hid hb3
            have HR := Lib.hid hres
            clear hb3 hres
            go_wp2
            go_roundw
            case rel =>
              refine ⟨i + 1, p2, b2, by go_num, by omega, ?_, h1, h2, h3, HB3.out, HK3.out⟩
              rw [← HCH.out, HD.out, HR.out]
              rfl
            case measure => simp [intOf]; omega
        · have hr : chks rs (dep + 1) (pa, ba) = .ok (p1, b1) := by
            rw [← HCH.out, List.drop_of_length_le (by omega), chks]
          have HRrs := Lib.hid hr
          clear hr
          go_wp2
          rw [rounds_succ]
          go_wp2
          go_ret
          exact chkPost_ok (by rw [HC.out, if_neg (by have := HFL.out; omega), if_neg (by simp), HRis.out, exc_ok]; exact HRrs.out) (HKB.out.trans HK1.out fun _ _ h => h) HBL.out hp1 hb1 hpb1
end Go.Proofs.YtgmieehheoknbaaDoor
end
section
/-
  Whether a term is one that may be, bytes: what (*checker).term does.
-/
namespace Go.Proofs.YtgmieehheoknbaaDoor
open Go.RowKit Go.Tx
set_option maxRecDepth 100000 in
set_option maxHeartbeats 1600000 in
theorem term_b_parts (d : Nat) (IH : TermSpec d) (w : World) (S : Nat → Prop) (v : Value) (k n : Int) (s : ByteArray) (is rs : List Tm) (bs : ByteArray) (g : Nat) (p b dep : Int) (h : TmD w S (d + 1) v (.mk k n s is rs bs)) (hgS : ∀ x, S x → ¬ x = g)
    (hb : Blk w g 79 [.int .i64 p, .int .i64 b]) (hp : 0 ≤ p) (hb0 : 0 ≤ b) (hpb : p + b ≤ 65536) (hd : 1 ≤ dep) (hd2 : dep ≤ 201) (hk8 : k = 8) (hfl : p + 1 + (b + (Tm.mk k n s is rs bs).binSize) ≤ 65536 ∧ dep ≤ 200) (hko : (Tm.mk k n s is rs bs).okB = true) :
    Calls Tryd.prog 30 #[.pointer (some ⟨g, 0, none⟩), v, .int .i64 dep] w (ChkPost g (chk (.mk k n s is rs bs) dep (p, b)) w) := by
  have HT := Lib.hid h
  obtain ⟨vi, vr, vb, rfl, hfine, hns, hi, hr, hbs⟩ := h
  have HIS := Lib.hid hi
  have HRS := Lib.hid hr
  obtain ⟨hil, ai, ci, rfl, hic, him, _⟩ := hi
  obtain ⟨hrl, ar, cr, rfl, hrc, hrm, _⟩ := hr
  obtain ⟨hbl, ab, cb, rfl, hbc, hbm, _⟩ := hbs
  simp only [Tm.kind, Tm.n, Tm.name, Tm.items, Tm.rest, Tm.bytes] at hil hrl hbl hic him hrc hrm hbc hbm hns HIS HRS
  have HIH := Lib.hid IH
  have HGS := Lib.hid hgS
  have HB := Lib.hid hb
  obtain ⟨q, hq⟩ : ∃ q, q = (Tm.mk k n s is rs bs).binSize := ⟨_, rfl⟩
  rw [← hq] at hfl
  obtain ⟨ok, hok⟩ : ∃ ok, ok = (Tm.mk k n s is rs bs).okB := ⟨_, rfl⟩
  have HC : Hid (chk (.mk k n s is rs bs) dep (p, b) = if p + 1 + (b + q) > 65536 ∨ dep > 200 then .error (p, 2) else if ok = false then .error (p, 1) else (chks is (dep + 1) (p + 1, b + q)).bind fun st => chks rs (dep + 1) st) :=
    Lib.hid (by rw [chk, hq, hok])
  have HF : Hid (∀ w', Keeps (fun x => x = g) w w' → Calls Tryd.prog 44 #[.agg #[.int .i64 k, .int .i64 n, .string s, .slice ai is.length ci, .slice ar rs.length cr, .slice ab bs.size cb]] w' fun e w2 => e = .returned (.bool ok) ∧ Keeps (fun _ => False) w' w2) := by
    refine Lib.hid fun w' hk => ?_
    rw [hok]
    exact fields_any (HT.out.keeps hk fun x hx h => HGS.out x hx h)
  have c0 : w.cell? ⟨g, 0, none⟩ = some (.int .i64 p) := hb.cell (i := 0) rfl
  have c1 : w.cell? ⟨g, 1, none⟩ = some (.int .i64 b) := hb.cell (i := 1) rfl
  have f0 := hb.free 0
  have f1 := hb.free 1
  have hg := hb.lt
  have hq0 : 0 ≤ q ∧ q ≤ 140737488355328 ∧ (k = 8 → q = bs.size) ∧ (k ≠ 8 → q = 0) := by
    rw [hq]; unfold Tm.binSize
    by_cases h8 : k = 8
    · rw [if_pos (show (Tm.mk k n s is rs bs).kind = 8 from h8)]
      exact ⟨by simp only [Tm.bytes]; omega, by simp only [Tm.bytes]; omega, fun _ => rfl, fun h => absurd h8 h⟩
    · rw [if_neg (show ¬ (Tm.mk k n s is rs bs).kind = 8 from h8)]
      omega
  obtain ⟨hq0, hq1, hq2, hq3⟩ := hq0
  rw [← hok] at hko
  subst hko
  clear IH hq hok hb hgS HT hfine
  simp only [Tm.val, Tm.kind, Tm.n, Tm.name, Tm.items, Tm.rest, Tm.bytes]
  obtain rfl : q = (bs.size : Int) := hq2 hk8
  clear hq2 hq3
  subst hk8
  have HFL := Lib.hid hfl
  have g1 : decide (65536 < p + 1 + (b + bs.size)) = false := decide_eq_false (by omega)
  have g2 : decide (200 < dep) = false := decide_eq_false (by omega)
  clear hfl
  go_enter Tryd.func30, Tryd.ntmps30
  go_wp2_with (first | (with_reducible refine wp_region_text (by kernel_rfl) (by kernel_rfl) ?_) | (with_reducible refine text_fin (by kernel_rfl) ?_) | (go_at_call 44; refine Stop.out ?_))
  refine ⟨(HF.out _ (by repeat (first | with_reducible exact Keeps.refl _ _ | with_reducible apply Keeps.drew | with_reducible apply Keeps.alloc | refine Keeps.setCell (S := fun x => x = g) (p := ⟨g, _, none⟩) ?_ (fun _ => rfl) _))).mono ?_⟩
  rintro e w2 ⟨rfl, hk2⟩
  have HKis : Hid (Keeps (fun x => x = g) w w2) := Lib.hid (Keeps.trans (T := fun _ => False) (by repeat (first | with_reducible exact Keeps.refl _ _ | with_reducible apply Keeps.drew | with_reducible apply Keeps.alloc | refine Keeps.setCell (S := fun x => x = g) (p := ⟨g, _, none⟩) ?_ (fun _ => rfl) _)) hk2 fun _ _ h => h.elim)
  have HBis : Hid (Blk w2 g 79 [.int .i64 (p + 1), .int .i64 (b + bs.size)]) := Lib.hid (Blk.keeps (S := fun _ => False) (((HB.out.set 0 (.int .i64 (p + 1))).set 1 (.int .i64 (b + bs.size))).alloc _) hk2.of_drew.of_drew fun h => h)
  have hbl : Blk w2 w.heap.size 46 [.int .i64 8, .int .i64 n, .string s, .slice ai is.length ci, .slice ar rs.length cr, .slice ab bs.size cb] := by
    refine Blk.keeps (S := fun _ => False) ?_ hk2.of_drew.of_drew (fun h => h)
    have := Blk.new ((w.setCell ⟨g, 0, none⟩ (.int .i64 (p + 1))).setCell ⟨g, 1, none⟩ (.int .i64 (b + bs.size))) [.int .i64 8, .int .i64 n, .string s, .slice ai is.length ci, .slice ar rs.length cr, .slice ab bs.size cb] 46
    rw [World.size_setCell, World.size_setCell] at this
    exact this
  have e3 : w2.cell? ⟨w.heap.size, 3, none⟩ = some (.slice ai is.length ci) := hbl.cell (i := 3) rfl
  have e4 : w2.cell? ⟨w.heap.size, 4, none⟩ = some (.slice ar rs.length cr) := hbl.cell (i := 4) rfl
  clear hk2 hbl HF c0 c1 f0 f1
  go_wp2
  refine wp_loop_rounds 3 ?_
  rw [rounds_succ]
  go_wp2
  generalize hwb : w2.alloc (.cells #[.slice ai is.length ci, .slice ar rs.length cr] 22) = wb
  have hlb := Blk.new w2 [.slice ai is.length ci, .slice ar rs.length cr] 22
  rw [hwb] at hlb
  have e5 : wb.cell? ⟨w2.heap.size, 1, none⟩ = some (.slice ar rs.length cr) := hlb.cell (i := 1) rfl
  have hg2 : ¬ w2.heap.size = g := by have := HBis.out.lt; omega
  have HKB : Hid (Keeps (fun x => x = g) w wb) := Lib.hid (hwb ▸ HKis.out.alloc _)
  have HBB : Hid (Blk wb g 79 [.int .i64 (p + 1), .int .i64 (b + bs.size)]) := Lib.hid (hwb ▸ HBis.out.alloc _)
  clear hlb hwb e3 e4
  go_loopw [72] (fun v wr => PartsAt wb g is (dep + 1) (chks is (dep + 1) (p + 1, b + bs.size)) v wr) (fun v _ => is.length - (intOf v).toNat)
  case atStart => exact ⟨0, _, _, rfl, Nat.zero_le _, rfl, by omega, by omega, by have := HFL.out; omega, HBB.out, Keeps.refl _ _⟩
  case round =>
    obtain ⟨i, p1, b1, rfl, hil1, hch, hp1, hb1, hpb1, hblk, hk1⟩ := hrel
    have HCH := Lib.hid hch
    have HBL := Lib.hid hblk
    have HK1 := Lib.hid hk1
    clear hch hblk
    by_cases hlt : i < is.length
    · obtain ⟨x, hx⟩ : ∃ x, is[i]? = some x := ⟨is[i], by simp⟩
      obtain ⟨bb, o, yi, yr, yb, ha, hS, ⟨d0, d1, d2, d3, d4, d5⟩, hT⟩ := HIS.out.at hx
      subst ha
      obtain ⟨a3, k3, a4, k4, a5, k5, rfl, rfl, rfl⟩ := hT.forms
      replace d0 := hk1.cell (HKB.out.cell d0 (HGS.out _ hS)) (HGS.out _ hS)
      replace d1 := hk1.cell (HKB.out.cell d1 (HGS.out _ hS)) (HGS.out _ hS)
      replace d2 := hk1.cell (HKB.out.cell d2 (HGS.out _ hS)) (HGS.out _ hS)
      replace d3 := hk1.cell (HKB.out.cell d3 (HGS.out _ hS)) (HGS.out _ hS)
      replace d4 := hk1.cell (HKB.out.cell d4 (HGS.out _ hS)) (HGS.out _ hS)
      replace d5 := hk1.cell (HKB.out.cell d5 (HGS.out _ hS)) (HGS.out _ hS)
      have HT2 := Lib.hid ((hT.keeps HKB.out HGS.out).keeps hk1 HGS.out)
      have HD : Hid (chks (is.drop i) (dep + 1) (p1, b1) = (chk x (dep + 1) (p1, b1)).bind fun st => chks (is.drop (i + 1)) (dep + 1) st) := Lib.hid (by rw [drop_cons hx, chks])
      clear hT hx hk1
      go_wp2_with (first | (with_reducible refine wp_region_text (by kernel_rfl) (by kernel_rfl) ?_) | (with_reducible refine text_fin (by kernel_rfl) ?_) | (go_at_call 30; refine Stop.out ?_))
      refine ⟨(HIH.out _ S _ x g p1 b1 (dep + 1) (HT2.out.keeps (T := fun _ => False) (by repeat (first | with_reducible exact Keeps.refl _ _ | with_reducible apply Keeps.drew | with_reducible apply Keeps.alloc | refine Keeps.setCell (S := fun x => x = g) (p := ⟨g, _, none⟩) ?_ (fun _ => rfl) _)) (fun _ _ h => h)) HGS.out (HBL.out.keeps (S := fun _ => False) (by repeat (first | with_reducible exact Keeps.refl _ _ | with_reducible apply Keeps.drew | with_reducible apply Keeps.alloc | refine Keeps.setCell (S := fun x => x = g) (p := ⟨g, _, none⟩) ?_ (fun _ => rfl) _)) (fun h => h)) hp1 hb1 hpb1 (by omega) (by have := HFL.out; omega)).mono ?_⟩
      rintro e w3 ⟨hk3, hp3⟩
      have HK3 : Hid (Keeps (fun x => x = g) wb w3) := Lib.hid (HK1.out.trans (((Keeps.refl (fun x => x = g) wr).alloc _).trans hk3 fun _ _ h => h) fun _ _ h => h)
      have hsz : w.heap.size ≤ wr.heap.size := Nat.le_trans HKB.out.size HK1.out.size
      clear hk3
      rcases hres : chk x (dep + 1) (p1, b1) with er | st
      · rw [hres] at hp3
        obtain ⟨E, rfl, hE⟩ := hp3
        have HE := Lib.hid hE
        obtain ⟨bE, uE, rfl, _⟩ := hE
        have HR := Lib.hid hres
        clear hres
        go_wp2
        go_ret
        refine chkPost_err ?_ (HKB.out.trans HK3.out fun _ _ h => h) HE.out (by rw [World.size_alloc]; omega)
        rw [HC.out, if_neg (by have := HFL.out; omega), if_neg (by simp)]
        rw [← HCH.out, HD.out, HR.out]
        rfl
      · rw [hres] at hp3
        obtain ⟨p2, b2⟩ := st
        obtain ⟨rfl, hb3, h1, h2, h3⟩ := hp3
        have HB3 := Lib.hid hb3
        have HR := Lib.hid hres
        clear hb3 hres
        go_wp2
        go_roundw
        case rel =>
          refine ⟨i + 1, p2, b2, by go_num, by omega, ?_, h1, h2, h3, HB3.out, HK3.out⟩
          rw [← HCH.out, HD.out, HR.out]
          rfl
        case measure => simp [intOf]; omega
    · have hr : chks is (dep + 1) (p + 1, b + bs.size) = .ok (p1, b1) := by
        rw [← HCH.out, List.drop_of_length_le (by omega), chks]
      have HRis := Lib.hid hr
      clear hr
      have HBrs := HBL
      have HKrs := HK1
      obtain ⟨pa, hpa⟩ : ∃ z, z = p1 := ⟨_, rfl⟩
      obtain ⟨ba, hba⟩ : ∃ z, z = b1 := ⟨_, rfl⟩
      subst hpa hba
      replace e5 := hk1.cell e5 hg2
      clear HBL HK1 hk1 HCH
      go_wp2
      rw [rounds_succ]
      go_wp2
      go_loopw [72] (fun v wr => PartsAt wb g rs (dep + 1) (chks rs (dep + 1) (pa, ba)) v wr) (fun v _ => rs.length - (intOf v).toNat)
      case atStart => exact ⟨0, _, _, rfl, Nat.zero_le _, rfl, by omega, by omega, by have := HFL.out; omega, HBrs.out, HKrs.out⟩
      case round =>
        obtain ⟨i, p1, b1, rfl, hil1, hch, hp1, hb1, hpb1, hblk, hk1⟩ := hrel
        have HCH := Lib.hid hch
        have HBL := Lib.hid hblk
        have HK1 := Lib.hid hk1
        clear hch hblk
        by_cases hlt : i < rs.length
        · obtain ⟨x, hx⟩ : ∃ x, rs[i]? = some x := ⟨rs[i], by simp⟩
          obtain ⟨bb, o, yi, yr, yb, ha, hS, ⟨d0, d1, d2, d3, d4, d5⟩, hT⟩ := HRS.out.at hx
          subst ha
          obtain ⟨a3, k3, a4, k4, a5, k5, rfl, rfl, rfl⟩ := hT.forms
          replace d0 := hk1.cell (HKB.out.cell d0 (HGS.out _ hS)) (HGS.out _ hS)
          replace d1 := hk1.cell (HKB.out.cell d1 (HGS.out _ hS)) (HGS.out _ hS)
          replace d2 := hk1.cell (HKB.out.cell d2 (HGS.out _ hS)) (HGS.out _ hS)
          replace d3 := hk1.cell (HKB.out.cell d3 (HGS.out _ hS)) (HGS.out _ hS)
          replace d4 := hk1.cell (HKB.out.cell d4 (HGS.out _ hS)) (HGS.out _ hS)
          replace d5 := hk1.cell (HKB.out.cell d5 (HGS.out _ hS)) (HGS.out _ hS)
          have HT2 := Lib.hid ((hT.keeps HKB.out HGS.out).keeps hk1 HGS.out)
          have HD : Hid (chks (rs.drop i) (dep + 1) (p1, b1) = (chk x (dep + 1) (p1, b1)).bind fun st => chks (rs.drop (i + 1)) (dep + 1) st) := Lib.hid (by rw [drop_cons hx, chks])
          clear hT hx hk1
          go_wp2_with (first | (with_reducible refine wp_region_text (by kernel_rfl) (by kernel_rfl) ?_) | (with_reducible refine text_fin (by kernel_rfl) ?_) | (go_at_call 30; refine Stop.out ?_))
          refine ⟨(HIH.out _ S _ x g p1 b1 (dep + 1) (HT2.out.keeps (T := fun _ => False) (by repeat (first | with_reducible exact Keeps.refl _ _ | with_reducible apply Keeps.drew | with_reducible apply Keeps.alloc | refine Keeps.setCell (S := fun x => x = g) (p := ⟨g, _, none⟩) ?_ (fun _ => rfl) _)) (fun _ _ h => h)) HGS.out (HBL.out.keeps (S := fun _ => False) (by repeat (first | with_reducible exact Keeps.refl _ _ | with_reducible apply Keeps.drew | with_reducible apply Keeps.alloc | refine Keeps.setCell (S := fun x => x = g) (p := ⟨g, _, none⟩) ?_ (fun _ => rfl) _)) (fun h => h)) hp1 hb1 hpb1 (by omega) (by have := HFL.out; omega)).mono ?_⟩
          rintro e w3 ⟨hk3, hp3⟩
          have HK3 : Hid (Keeps (fun x => x = g) wb w3) := Lib.hid (HK1.out.trans (((Keeps.refl (fun x => x = g) wr).alloc _).trans hk3 fun _ _ h => h) fun _ _ h => h)
          have hsz : w.heap.size ≤ wr.heap.size := Nat.le_trans HKB.out.size HK1.out.size
          clear hk3
          rcases hres : chk x (dep + 1) (p1, b1) with er | st
          · rw [hres] at hp3
            obtain ⟨E, rfl, hE⟩ := hp3
            have HE := Lib.hid hE
            obtain ⟨bE, uE, rfl, _⟩ := hE
            have HR := Lib.hid hres
            clear hres
            go_wp2
            go_ret
            refine chkPost_err ?_ (HKB.out.trans HK3.out fun _ _ h => h) HE.out (by rw [World.size_alloc]; omega)
            rw [HC.out, if_neg (by have := HFL.out; omega), if_neg (by simp)]
            rw [HRis.out, exc_ok]
            show chks rs (dep + 1) (pa, ba) = _
            rw [← HCH.out, HD.out, HR.out]
            rfl
          · rw [hres] at hp3
            obtain ⟨p2, b2⟩ := st
            obtain ⟨rfl, hb3, h1, h2, h3⟩ := hp3
            have HB3 := Lib.hid hb3
            have HR := Lib.hid hres
            clear hb3 hres
            go_wp2
            go_roundw
            case rel =>
              refine ⟨i + 1, p2, b2, by go_num, by omega, ?_, h1, h2, h3, HB3.out, HK3.out⟩
              rw [← HCH.out, HD.out, HR.out]
              rfl
            case measure => simp [intOf]; omega
        · have hr : chks rs (dep + 1) (pa, ba) = .ok (p1, b1) := by
            rw [← HCH.out, List.drop_of_length_le (by omega), chks]
          have HRrs := Lib.hid hr
          clear hr
          go_wp2
          rw [rounds_succ]
          go_wp2
          go_ret
          exact chkPost_ok (by rw [HC.out, if_neg (by have := HFL.out; omega), if_neg (by simp), HRis.out, exc_ok]; exact HRrs.out) (HKB.out.trans HK1.out fun _ _ h => h) HBL.out hp1 hb1 hpb1
end Go.Proofs.YtgmieehheoknbaaDoor
end
section
/-
  Whether a term is one that may be: what tree.Right does, at any term.
-/
namespace Go.Tx
open Go Go.RowKit
/-- an answer: an error, or none; nothing that was there has turned -/
def ErrOPost (f : Value → Value) (o : ErrO) (w : World) (e : Ending) (w' : World) : Prop := ∃ E, e = .returned (f E) ∧ IsErrO w' (Fresh w w') E o ∧ Keeps (fun _ => False) w w'
theorem right_post {w w' : World} {r : Except (Int × Int) (Int × Int)} {g : Nat} {e : Ending} (w1 : World) (hk : Keeps (fun _ => False) w w1) (hg : w.heap.size ≤ g) (h : ChkPost g r w1 e w') : ErrOPost id (errTm r) w e w' := by
  obtain ⟨h1, h2⟩ := h
  have hk2 : Keeps (fun _ => False) w w' := hk.trans h1 fun b hb hx => by omega
  cases r with
  | ok st => exact ⟨_, h2.1, rfl, hk2⟩
  | error x =>
    obtain ⟨E, he, hE⟩ := h2
    exact ⟨E, he, ⟨hE.mono fun x hx => hx.mono hk.size (Nat.le_refl _), by simp⟩, hk2⟩
end Go.Tx
namespace Go.Proofs.YtgmieehheoknbaaDoor
open Go.RowKit Go.Tx
theorem term_step (d : Nat) (IH : TermSpec d) : TermSpec (d + 1) := by
  intro w S v t g p b dep h hgS hb hp hb0 hpb hd hd2
  obtain ⟨k, n, s, is, rs, bs⟩ := t
  by_cases hk8 : k = 8
  · by_cases hfl : p + 1 + (b + (Tm.mk k n s is rs bs).binSize) > 65536 ∨ dep > 200
    · exact term_b_full d IH w S v k n s is rs bs g p b dep h hgS hb hp hb0 hpb hd hd2 hk8 hfl
    · by_cases hok : (Tm.mk k n s is rs bs).okB = true
      · exact term_b_parts d IH w S v k n s is rs bs g p b dep h hgS hb hp hb0 hpb hd hd2 hk8 (by omega) hok
      · exact term_b_arg d IH w S v k n s is rs bs g p b dep h hgS hb hp hb0 hpb hd hd2 hk8 (by omega) (by simpa using hok)
  · by_cases hfl : p + 1 + (b + (Tm.mk k n s is rs bs).binSize) > 65536 ∨ dep > 200
    · exact term_n_full d IH w S v k n s is rs bs g p b dep h hgS hb hp hb0 hpb hd hd2 hk8 hfl
    · by_cases hok : (Tm.mk k n s is rs bs).okB = true
      · exact term_n_parts d IH w S v k n s is rs bs g p b dep h hgS hb hp hb0 hpb hd hd2 hk8 (by omega) hok
      · exact term_n_arg d IH w S v k n s is rs bs g p b dep h hgS hb hp hb0 hpb hd hd2 hk8 (by omega) (by simpa using hok)
theorem term_any : ∀ d, TermSpec d
  | 0 => fun _ _ _ _ _ _ _ _ h => h.elim
  | d + 1 => term_step d (term_any d)
set_option maxRecDepth 100000 in
set_option maxHeartbeats 400000 in
/-- tree.Right, at any term -/
theorem right_any {w : World} {S : Nat → Prop} {d : Nat} {v : Value} {t : Tm} (h : TmD w S d v t) (hS : ∀ x, S x → x < w.heap.size) : Calls Tryd.prog 18 #[v] w (ErrOPost id (rightTm t) w) := by
  have HT := Lib.hid h
  have HS := Lib.hid hS
  obtain ⟨k, n, s, ai, ar, ab, il, ci, rl, cr, bl, cb, rfl⟩ : ∃ k n s ai ar ab il ci rl cr bl cb, v = .agg #[.int .i64 k, .int .i64 n, .string s, .slice ai il ci, .slice ar rl cr, .slice ab bl cb] := by
    cases d with
    | zero => exact h.elim
    | succ d =>
      obtain ⟨vi, vr, vb, he, _⟩ := h
      subst he
      obtain ⟨a3, k3, a4, k4, a5, k5, rfl, rfl, rfl⟩ := HT.out.forms
      exact ⟨_, _, _, _, _, _, _, _, _, _, _, _, rfl⟩
  clear h hS
  go_enter Tryd.func18, Tryd.ntmps18
  go_wp2_with (go_at_call 30; refine Stop.out ?_)
  refine ⟨(term_any d _ S _ t (w.heap.size + 1) 0 0 1 (HT.out.keeps (T := fun _ => False) (by repeat (first | with_reducible exact Keeps.refl _ _ | with_reducible apply Keeps.drew | with_reducible apply Keeps.alloc)) (fun _ _ h => h)) (fun x hx => by have := HS.out x hx; omega)
    (by have := Blk.new (w.alloc (.cells #[.int .i64 k, .int .i64 n, .string s, .slice ai il ci, .slice ar rl cr, .slice ab bl cb] 46)) [.int .i64 0, .int .i64 0] 79; rwa [World.size_alloc] at this)
    (by omega) (by omega) (by omega) (by omega) (by omega)).mono ?_⟩
  intro e w2 hp
  obtain ⟨E, rfl, hE, hk⟩ := right_post (w := w) _ (by repeat (first | with_reducible exact Keeps.refl _ _ | with_reducible apply Keeps.drew | with_reducible apply Keeps.alloc)) (by omega) hp
  have HE := Lib.hid hE
  have HK := Lib.hid hk
  clear hE hk hp
  go_wp2
  go_ret
  exact ⟨_, rfl, HE.out, HK.out⟩
end Go.Proofs.YtgmieehheoknbaaDoor
end

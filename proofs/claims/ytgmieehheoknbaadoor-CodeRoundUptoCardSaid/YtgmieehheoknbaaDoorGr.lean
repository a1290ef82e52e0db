import Derived.Test.YtgmieehheoknbaaDoorGg
section
/-
  Terms of any form: whether two are the same (troupelaw00.Same, SameAll).
-/
namespace Go.Tx
open Go Go.RowKit
theorem Tm.same_iff {a b : Tm} : a = b ↔ a.kind = b.kind ∧ a.n = b.n ∧ a.name = b.name ∧ a.bytes = b.bytes ∧ a.items = b.items ∧ a.rest = b.rest := by
  cases a; cases b
  simp only [Tm.mk.injEq, Tm.kind, Tm.n, Tm.name, Tm.bytes, Tm.items, Tm.rest]
  constructor
  · rintro ⟨h1, h2, h3, h4, h5, h6⟩; exact ⟨h1, h2, h3, h6, h4, h5⟩
  · rintro ⟨h1, h2, h3, h6, h4, h5⟩; exact ⟨h1, h2, h3, h4, h5, h6⟩
theorem toList_ne {s t : ByteArray} (h : ¬ s = t) : ¬ s.toList = t.toList := fun e => h (by
  rw [ByteArray.toList_eq, ByteArray.toList_eq] at e
  obtain ⟨⟨a⟩⟩ := s
  obtain ⟨⟨b⟩⟩ := t
  simp at e
  rw [e])
end Go.Tx
namespace Go.Proofs.YtgmieehheoknbaaDoor
open Go.RowKit Go.Tx
def SameSpec (d : Nat) : Prop := ∀ (w : World) (S : Nat → Prop) (va vb : Value) (ta tb : Tm), TmD w S d va ta → TmD w S d vb tb → (∀ x, S x → x < w.heap.size) →
  Calls Tryd.prog 43 #[va, vb] w fun e w' => ∃ r, e = .returned (.bool r) ∧ (r = true ↔ ta = tb) ∧ Keeps (fun _ => False) w w'
def SameAllSpec (d : Nat) : Prop := ∀ (w : World) (S : Nat → Prop) (va vb : Value) (la lb : List Tm), RowD w S (TmD w S d) va la → RowD w S (TmD w S d) vb lb → (∀ x, S x → x < w.heap.size) →
  Calls Tryd.prog 27 #[va, vb] w fun e w' => ∃ r, e = .returned (.bool r) ∧ (r = true ↔ la = lb) ∧ Keeps (fun _ => False) w w'
set_option maxRecDepth 100000 in
set_option maxHeartbeats 800000 in
theorem same_step (d : Nat) (IH : SameAllSpec d) : SameSpec (d + 1) := by
  rintro w S va vb ⟨k, n, s, is, rs, bs⟩ ⟨k', n', s', is', rs', bs'⟩ h1 h2 hS
  obtain ⟨vi, vr, vb, rfl, hf, hn, hi, hr, hb⟩ := h1
  obtain ⟨ui, ur, ub, rfl, kf, kn, ki, kr, kb⟩ := h2
  obtain ⟨hf1, hf2, hf3, hf4⟩ := hf
  obtain ⟨kf1, kf2, kf3, kf4⟩ := kf
  simp only [Tm.kind, Tm.n, Tm.name, Tm.bytes, Tm.items, Tm.rest] at *
  have HS := Lib.hid hS
  have HIH := Lib.hid IH
  have HI := Lib.hid hi
  have HR := Lib.hid hr
  have KI := Lib.hid ki
  have KR := Lib.hid kr
  have cA : ∀ o1 o2, (convert 26 9 vb).run Tryd.prog ((w.alloc o1).alloc o2) = .ok (.string bs) ((w.alloc o1).alloc o2) := fun o1 o2 => by
    obtain ⟨_, a, c, rfl, _, _, hc⟩ := (hb.keeps (T := fun _ => False) (((Keeps.refl _ w).alloc o1).alloc o2) fun _ _ h => h)
    exact conv_bytes bs Tryd.underlying26 Tryd.underlying5 Tryd.underlying9 rfl fun h => by obtain ⟨b, o, e, _, k⟩ := hc h; exact ⟨b, o, e, k⟩
  have cB : ∀ o1 o2, (convert 26 9 ub).run Tryd.prog ((w.alloc o1).alloc o2) = .ok (.string bs') ((w.alloc o1).alloc o2) := fun o1 o2 => by
    obtain ⟨_, a, c, rfl, _, _, hc⟩ := (kb.keeps (T := fun _ => False) (((Keeps.refl _ w).alloc o1).alloc o2) fun _ _ h => h)
    exact conv_bytes bs' Tryd.underlying26 Tryd.underlying5 Tryd.underlying9 rfl fun h => by obtain ⟨b, o, e, _, k⟩ := hc h; exact ⟨b, o, e, k⟩
  obtain ⟨ai, ci, rfl⟩ := hi.form
  obtain ⟨ar, cr, rfl⟩ := hr.form
  obtain ⟨ab, cb, rfl⟩ := hb.form
  obtain ⟨bi, di, rfl⟩ := ki.form
  obtain ⟨br, dr, rfl⟩ := kr.form
  obtain ⟨bb, db, rfl⟩ := kb.form
  rw [Tm.same_iff]
  simp only [Tm.val, Tm.kind, Tm.n, Tm.name, Tm.bytes, Tm.items, Tm.rest]
  generalize bs.size = zb at *
  generalize bs'.size = zb' at *
  clear hi hr hb ki kr kb IH hS
  by_cases q1 : k = k'
  rotate_left
  · go_enter Tryd.func43, Tryd.ntmps43
    go_wp2_with (first | (with_reducible refine wp_region_text (by kernel_rfl) (by kernel_rfl) ?_) | (with_reducible refine text_fin (by kernel_rfl) ?_))
    go_ret
    exact ⟨false, rfl, by simp [q1], ((Keeps.refl _ w).alloc _).alloc _⟩
  subst q1
  by_cases q2 : n = n'
  rotate_left
  · go_enter Tryd.func43, Tryd.ntmps43
    go_wp2_with (first | (with_reducible refine wp_region_text (by kernel_rfl) (by kernel_rfl) ?_) | (with_reducible refine text_fin (by kernel_rfl) ?_))
    go_ret
    exact ⟨false, rfl, by simp [q2], ((Keeps.refl _ w).alloc _).alloc _⟩
  subst q2
  by_cases q3 : s = s'
  rotate_left
  · go_enter Tryd.func43, Tryd.ntmps43
    have nq3 := toList_ne q3
    replace q3 := Lib.hid q3
    go_wp2_with (first | (with_reducible refine wp_region_text (by kernel_rfl) (by kernel_rfl) ?_) | (with_reducible refine text_fin (by kernel_rfl) ?_))
    go_ret
    exact ⟨false, rfl, by simp [q3.out], ((Keeps.refl _ w).alloc _).alloc _⟩
  subst q3
  by_cases q4 : bs = bs'
  rotate_left
  · go_enter Tryd.func43, Tryd.ntmps43
    have nq4 := toList_ne q4
    replace q4 := Lib.hid q4
    go_wp2_with (first | (with_reducible refine wp_region_text (by kernel_rfl) (by kernel_rfl) ?_) | (with_reducible refine text_fin (by kernel_rfl) ?_))
    go_ret
    exact ⟨false, rfl, by simp [q4.out], ((Keeps.refl _ w).alloc _).alloc _⟩
  subst q4
  go_enter Tryd.func43, Tryd.ntmps43
  go_wp2_with (first | (with_reducible refine wp_region_text (by kernel_rfl) (by kernel_rfl) ?_) | (with_reducible refine text_fin (by kernel_rfl) ?_) | (go_at_call 27; refine Stop.out ?_))
  refine ⟨(HIH.out _ S _ _ is is' (HI.out.keeps (T := fun _ => False) (by repeat (first | with_reducible exact Keeps.refl _ _ | with_reducible apply Keeps.drew | with_reducible apply Keeps.alloc)) fun _ _ h => h) (KI.out.keeps (T := fun _ => False) (by repeat (first | with_reducible exact Keeps.refl _ _ | with_reducible apply Keeps.drew | with_reducible apply Keeps.alloc)) fun _ _ h => h) (fun x hx => by have := HS.out x hx; simp; omega)).mono ?_⟩
  rintro e w2 ⟨r, rfl, hr1, hk⟩
  have hb1 : Blk w2 w.heap.size 46 [.int .i64 k, .int .i64 n, .string s, .slice ai is.length ci, .slice ar rs.length cr, .slice ab zb cb] := ((Blk.new w _ _).alloc _).keeps hk fun h => h
  have hb2 : Blk w2 (w.heap.size + 1) 46 [.int .i64 k, .int .i64 n, .string s, .slice bi is'.length di, .slice br rs'.length dr, .slice bb zb' db] := by
    refine Blk.keeps (S := fun _ => False) ?_ hk fun h => h
    have := Blk.new (w.alloc (.cells #[.int .i64 k, .int .i64 n, .string s, .slice ai is.length ci, .slice ar rs.length cr, .slice ab zb cb] 46)) [.int .i64 k, .int .i64 n, .string s, .slice bi is'.length di, .slice br rs'.length dr, .slice bb zb' db] 46
    rwa [World.size_alloc] at this
  replace hk : Keeps (fun _ => False) w w2 := (((Keeps.refl _ w).alloc _).alloc _).trans hk fun _ _ h => h
  have hks := hk.size
  have HK := Lib.hid hk
  have HR1 := Lib.hid hr1
  have x4 : w2.cell? ⟨w.heap.size, 4, none⟩ = some (.slice ar rs.length cr) := hb1.cell (i := 4) rfl
  have y4 : w2.cell? ⟨w.heap.size + 1, 4, none⟩ = some (.slice br rs'.length dr) := hb2.cell (i := 4) rfl
  clear hk hr1 cA cB hb1 hb2
  cases r with
  | false =>
    go_wp2_with (first | (with_reducible refine text_fin (by kernel_rfl) ?_))
    go_ret
    exact ⟨false, rfl, by simpa using fun e => absurd (HR1.out.2 e) (by simp), HK.out⟩
  | true =>
    go_wp2_with (first | (with_reducible refine text_fin (by kernel_rfl) ?_) | (go_at_call 27; refine Stop.out ?_))
    refine ⟨(HIH.out _ S _ _ rs rs' (HR.out.keeps HK.out fun _ _ h => h) (KR.out.keeps HK.out fun _ _ h => h) (fun x hx => by have := HS.out x hx; omega)).mono ?_⟩
    rintro e w3 ⟨r, rfl, hr2, hk3⟩
    have HK3 := Lib.hid hk3
    have HR2 := Lib.hid hr2
    clear hk3 hr2
    go_wp2_with (first | (with_reducible refine text_fin (by kernel_rfl) ?_))
    go_ret
    exact ⟨r, rfl, by rw [HR2.out]; have e : is = is' := (by simpa using HR1.out); simp [e], HK.out.trans HK3.out fun _ _ h => h⟩
/-- so many looked at, all alike -/
def SameAt {α : Type} (la lb : List α) (w : World) (c : Value) (wr : World) : Prop :=
  ∃ i : Nat, c = .int .i64 i ∧ i ≤ la.length ∧ la.take i = lb.take i ∧ Keeps (fun _ => False) w wr
theorem same_next {α : Type} {la lb : List α} {i : Nat} {x y : α} (hl : la.length = lb.length) (hx : la[i]? = some x) (hy : lb[i]? = some y) (ht : la.take i = lb.take i) : (x = y → la.take (i + 1) = lb.take (i + 1)) ∧ (¬ x = y → ¬ la = lb) := by
  refine ⟨fun e => ?_, fun h e => h ?_⟩
  · rw [List.take_add_one, List.take_add_one, ht, hx, hy, e]
  · subst e; rw [hx] at hy; exact Option.some.inj hy
theorem same_done {α : Type} {la lb : List α} (hl : la.length = lb.length) (ht : la.take la.length = lb.take la.length) : la = lb := by
  rw [List.take_length, hl, List.take_length] at ht
  exact ht
set_option maxRecDepth 100000 in
set_option maxHeartbeats 1600000 in
theorem sameAll_step (d : Nat) (IH : SameSpec d) : SameAllSpec d := by
  intro w S va vb la lb h1 h2 hS
  have HIH := Lib.hid IH
  have HS := Lib.hid hS
  obtain ⟨h0, a, cap, rfl, hc1, hc2, hel⟩ := h1
  obtain ⟨k0, a', cap', rfl, kc1, kc2, kel⟩ := h2
  unfold maxLen at hc2 kc2
  have HEL := Lib.hid hel
  have KEL := Lib.hid kel
  clear hel kel IH hS
  by_cases hl : la.length = lb.length
  rotate_left
  · go_enter Tryd.func27, Tryd.ntmps27
    go_wp2
    go_ret
    exact ⟨false, rfl, by simpa using fun e => hl (by rw [e]), Keeps.refl _ _⟩
  have HL := Lib.hid hl
  rw [← hl] at k0 kc1 ⊢
  clear hl
  go_enter Tryd.func27, Tryd.ntmps27
  go_wp2
  go_loopw [5] (fun c wr => SameAt la lb w c wr) (fun c _ => la.length - (intOf c).toNat)
  case atStart => exact ⟨0, rfl, Nat.zero_le _, rfl, Keeps.refl _ _⟩
  case round =>
    obtain ⟨i, rfl, hi, ht, hk⟩ := hrel
    have HK := Lib.hid hk
    have HT := Lib.hid ht
    clear ht
    by_cases hlt : i < la.length
    · obtain ⟨x, hx⟩ : ∃ t, la[i]? = some t := ⟨la[i], by simp⟩
      obtain ⟨y, hy⟩ : ∃ t, lb[i]? = some t := ⟨lb[i]'(by have := HL.out; omega), by simp⟩
      obtain ⟨b, o, vi, vr, vb, rfl, hSb, ⟨d0, d1, d2, d3, d4, d5⟩, htm⟩ := HEL.out i x hx
      obtain ⟨b', o', vi', vr', vb', rfl, hSb', ⟨e0, e1, e2, e3, e4, e5⟩, htm'⟩ := KEL.out i y hy
      replace d0 := hk.cell d0 fun h => h
      replace d1 := hk.cell d1 fun h => h
      replace d2 := hk.cell d2 fun h => h
      replace d3 := hk.cell d3 fun h => h
      replace d4 := hk.cell d4 fun h => h
      replace d5 := hk.cell d5 fun h => h
      replace e0 := hk.cell e0 fun h => h
      replace e1 := hk.cell e1 fun h => h
      replace e2 := hk.cell e2 fun h => h
      replace e3 := hk.cell e3 fun h => h
      replace e4 := hk.cell e4 fun h => h
      replace e5 := hk.cell e5 fun h => h
      have HX := Lib.hid hx
      have HY := Lib.hid hy
      have HTM := Lib.hid (htm.keeps hk fun _ _ h => h)
      have HTM' := Lib.hid (htm'.keeps hk fun _ _ h => h)
      have hks := hk.size
      clear hx hy htm htm' hk hSb hSb'
      go_wp2_with (first | (with_reducible refine wp_region_text (by kernel_rfl) (by kernel_rfl) ?_) | (with_reducible refine text_fin (by kernel_rfl) ?_) | (go_at_call 43; refine Stop.out ?_))
      refine ⟨(HIH.out wr.drew S _ _ x y (HTM.out.keeps (T := fun _ => False) ((Keeps.refl _ wr).drew) fun _ _ h => h) (HTM'.out.keeps (T := fun _ => False) ((Keeps.refl _ wr).drew) fun _ _ h => h) fun x hx => Nat.lt_of_lt_of_le (HS.out x hx) hks).mono ?_⟩
      rintro e w2 ⟨r, rfl, hr, hk2⟩
      replace hk2 : Keeps (fun _ => False) wr w2 := (Keeps.refl _ wr).drew.trans hk2 fun _ _ h => h
      have HK2 := Lib.hid hk2
      have HR := Lib.hid hr
      clear hk2 hr d0 d1 d2 d3 d4 d5 e0 e1 e2 e3 e4 e5
      have hn := same_next HL.out HX.out HY.out HT.out
      have HN := Lib.hid hn
      clear hn
      cases r with
      | false =>
        go_wp2_with (first | (with_reducible refine text_fin (by kernel_rfl) ?_))
        go_ret
        exact ⟨false, rfl, by simpa using HN.out.2 fun e => absurd (HR.out.2 e) (by simp), HK.out.trans HK2.out fun _ _ h => h⟩
      | true =>
        go_wp2_with (first | (with_reducible refine text_fin (by kernel_rfl) ?_))
        exact ⟨⟨i + 1, by go_num, by omega, HN.out.1 (by simpa using HR.out), HK.out.trans HK2.out fun _ _ h => h⟩, by simp [intOf]; omega⟩
    · go_wp2
      obtain rfl : i = la.length := by omega
      go_ret
      exact ⟨true, rfl, by simpa using same_done HL.out HT.out, HK.out⟩
theorem same_both (d : Nat) : SameSpec d ∧ SameAllSpec d := by
  induction d with
  | zero =>
    have h : SameSpec 0 := fun w S va vb ta tb h _ _ => h.elim
    exact ⟨h, sameAll_step 0 h⟩
  | succ d ih =>
    have h : SameSpec (d + 1) := same_step d ih.2
    exact ⟨h, sameAll_step (d + 1) h⟩
end Go.Proofs.YtgmieehheoknbaaDoor
end
section
/-
  Modules: whether two are the same (troupelaw00.SameModule).
-/
namespace Go.Tx
open Go Go.RowKit
theorem Md.same_iff {a b : Md} : a = b ↔ a.name = b.name ∧ a.lits = b.lits ∧ a.funcs = b.funcs := by
  cases a; cases b
  simp only [Md.mk.injEq]
def SameP (p : Prop) (w : World) (e : Ending) (w' : World) : Prop := ∃ r, e = .returned (.bool r) ∧ (r = true ↔ p) ∧ Keeps (fun _ => False) w w'
theorem sameP {p : Prop} {w w' : World} {e : Ending} (r : Bool) (he : e = .returned (.bool r)) (h : r = true ↔ p) (k : Keeps (fun _ => False) w w') : SameP p w e w' := ⟨r, he, h, k⟩
end Go.Tx
namespace Go.Proofs.YtgmieehheoknbaaDoor
open Go.RowKit Go.Tx
set_option maxRecDepth 100000 in
set_option maxHeartbeats 800000 in
theorem sameModule_any {w : World} {S : Nat → Prop} {d : Nat} {va vb : Value} (ma mb : Md) (h1 : MdD w S d va ma) (h2 : MdD w S d vb mb) (hS : ∀ x, S x → x < w.heap.size) :
    Calls Tryd.prog 11 #[va, vb] w fun e w' => SameP (ma = mb) w e w' := by
  obtain ⟨vl, vf, rfl, hn, hl, hf⟩ := h1
  obtain ⟨ul, uf, rfl, kn, kl, kf⟩ := h2
  have HS := Lib.hid hS
  have HL := Lib.hid hl
  have KL := Lib.hid kl
  have HF := Lib.hid hf
  have KF := Lib.hid kf
  obtain ⟨al, cl, rfl⟩ := hl.form
  obtain ⟨bl, dl, rfl⟩ := kl.form
  obtain ⟨af, cf, rfl⟩ := hf.form
  obtain ⟨bf, df, rfl⟩ := kf.form
  have hfl : ma.funcs.length ≤ 1099511627776 := hf.1
  have kfl : mb.funcs.length ≤ 1099511627776 := kf.1
  rw [Md.same_iff]
  clear hl kl hf kf hS
  obtain ⟨s, ls, fs⟩ := ma
  obtain ⟨s', ls', fs'⟩ := mb
  simp only at *
  by_cases q1 : s = s'
  rotate_left
  · have nq := toList_ne q1
    replace q1 := Lib.hid q1
    go_enter Tryd.func11, Tryd.ntmps11
    go_wp2_with (first | (with_reducible refine wp_region_text (by kernel_rfl) (by kernel_rfl) ?_) | (with_reducible refine text_fin (by kernel_rfl) ?_))
    go_ret
    exact sameP false rfl (by simp [q1.out]) (((Keeps.refl _ w).alloc _).alloc _)
  subst q1
  go_enter Tryd.func11, Tryd.ntmps11
  go_wp2_with (first | (with_reducible refine wp_region_text (by kernel_rfl) (by kernel_rfl) ?_) | (with_reducible refine text_fin (by kernel_rfl) ?_) | (go_at_call 27; refine Stop.out ?_))
  refine ⟨((same_both d).2 _ S _ _ ls ls' (HL.out.keeps (T := fun _ => False) (by repeat (first | with_reducible exact Keeps.refl _ _ | with_reducible apply Keeps.drew | with_reducible apply Keeps.alloc)) fun _ _ h => h) (KL.out.keeps (T := fun _ => False) (by repeat (first | with_reducible exact Keeps.refl _ _ | with_reducible apply Keeps.drew | with_reducible apply Keeps.alloc)) fun _ _ h => h) (fun x hx => by have := HS.out x hx; simp; omega)).mono ?_⟩
  rintro e w2 ⟨r, rfl, hr1, hk0⟩
  have hk : Keeps (fun _ => False) w w2 := (((Keeps.refl _ w).alloc _).alloc _).trans hk0 fun _ _ h => h
  have hb1 : Blk w2 w.heap.size 25 [.string s, .slice al ls.length cl, .slice af fs.length cf] := ((Blk.new w _ _).alloc _).keeps hk0 fun h => h
  have hb2 : Blk w2 (w.heap.size + 1) 25 [.string s, .slice bl ls'.length dl, .slice bf fs'.length df] := by
    refine Blk.keeps (S := fun _ => False) ?_ hk0 fun h => h
    have := Blk.new (w.alloc (.cells #[.string s, .slice al ls.length cl, .slice af fs.length cf] 25)) [.string s, .slice bl ls'.length dl, .slice bf fs'.length df] 25
    rwa [World.size_alloc] at this
  have hks := hk.size
  have HK := Lib.hid hk
  have HR1 := Lib.hid hr1
  have HB1 := Lib.hid hb1
  have HB2 := Lib.hid hb2
  have x2 : w2.cell? ⟨w.heap.size, 2, none⟩ = some (.slice af fs.length cf) := hb1.cell (i := 2) rfl
  have y2 : w2.cell? ⟨w.heap.size + 1, 2, none⟩ = some (.slice bf fs'.length df) := hb2.cell (i := 2) rfl
  clear hk hk0 hr1 hb1 hb2
  cases r with
  | false =>
    go_wp2_with (first | (with_reducible refine wp_region_text (by kernel_rfl) (by kernel_rfl) ?_) | (with_reducible refine text_fin (by kernel_rfl) ?_))
    go_ret
    exact sameP false rfl (by simpa using fun e => absurd (HR1.out.2 e) (by simp)) (HK.out)
  | true =>
    have e0 : ls = ls' := (by simpa using HR1.out)
    have E0 := Lib.hid e0
    clear e0 HR1
    by_cases hl : fs.length = fs'.length
    rotate_left
    · go_wp2_with (first | (with_reducible refine wp_region_text (by kernel_rfl) (by kernel_rfl) ?_) | (with_reducible refine text_fin (by kernel_rfl) ?_))
      go_ret
      exact sameP false rfl (by simpa using fun _ e => hl (by rw [e])) (HK.out)
    go_wp2_with (first | (with_reducible refine wp_region_text (by kernel_rfl) (by kernel_rfl) ?_) | (with_reducible refine text_fin (by kernel_rfl) ?_))
    have HLN := Lib.hid hl
    rw [← hl] at y2 HB2 ⊢
    clear hl x2 y2
    go_loopw [5] (fun c wr => SameAt fs fs' w2 c wr) (fun c _ => fs.length - (intOf c).toNat)
    case atStart => exact ⟨0, rfl, Nat.zero_le _, rfl, Keeps.refl _ _⟩
    case round =>
      obtain ⟨i, rfl, hi, ht, hk⟩ := hrel
      have hkk := HK.out.trans hk fun _ _ h => h
      have HKW := Lib.hid hk
      have HKK := Lib.hid hkk
      have HT := Lib.hid ht
      have m2 : wr.cell? ⟨w.heap.size, 2, none⟩ = some (.slice af fs.length cf) := (HB1.out.keeps hk fun h => h).cell (i := 2) rfl
      have m3 : wr.cell? ⟨w.heap.size + 1, 2, none⟩ = some (.slice bf fs.length df) := (HB2.out.keeps hk fun h => h).cell (i := 2) rfl
      have hb2l := HB2.out.lt
      have hkz := hk.size
      have hwl : w.heap.size + 1 < wr.heap.size := by omega
      clear ht hb2l
      by_cases hlt : i < fs.length
      · obtain ⟨x, hx⟩ : ∃ t, fs[i]? = some t := ⟨fs[i], by simp⟩
        obtain ⟨y, hy⟩ : ∃ t, fs'[i]? = some t := ⟨fs'[i]'(by have := HLN.out; omega), by simp⟩
        have HN := Lib.hid (same_next HLN.out hx hy HT.out)
        obtain ⟨_, _, _, e, _, hcm, hel⟩ := HF.out.keeps hkk (fun _ _ h => h)
        cases e
        obtain ⟨_, _, _, e, _, kcm, kel⟩ := KF.out.keeps hkk (fun _ _ h => h)
        rw [← HLN.out] at e
        cases e
        obtain ⟨hff, b, o, vc, rfl, hSb, ⟨e0, e1, e2, e3⟩, hcd⟩ := hel i x hx
        obtain ⟨hff', b', o', vc', rfl, hSb', ⟨e0', e1', e2', e3'⟩, hcd'⟩ := kel i y hy
        obtain ⟨fn, fa, fz, cd⟩ := x
        obtain ⟨fn', fa', fz', cd'⟩ := y
        obtain ⟨ac, cc, rfl⟩ := hcd.form
        obtain ⟨ac', cc', rfl⟩ := hcd'.form
        obtain ⟨fa1, fa2, fz1, fz2, _⟩ := hff
        obtain ⟨ga1, ga2, gz1, gz2, _⟩ := hff'
        have hcdl := hcd.1
        have hcdl' := hcd'.1
        simp only at e0 e1 e2 e3 e0' e1' e2' e3' fa1 fa2 fz1 fz2 ga1 ga2 gz1 gz2 hcdl hcdl'
        have HCD := Lib.hid hcd
        have HCD' := Lib.hid hcd'
        have hbr : b < wr.heap.size := by have := HS.out b hSb; omega
        have hbr' : b' < wr.heap.size := by have := HS.out b' hSb'; omega
        unfold maxLen at hcm kcm
        clear hcd hcd' hel kel hk hkk hx hy hSb hSb'
        by_cases q1 : fn = fn'
        rotate_left
        · have nn := HN.out.2 (fun e => q1 (congrArg Fnc.name e))
          have NN := Lib.hid nn
          clear nn HN
          have nq := toList_ne q1
          clear q1
          go_wp2_with (first | (with_reducible refine wp_region_text (by kernel_rfl) (by kernel_rfl) ?_) | (with_reducible refine text_fin (by kernel_rfl) ?_))
          go_ret
          exact sameP false rfl (by simp [NN.out]) (HKK.out.trans (by repeat (first | with_reducible exact Keeps.refl _ _ | with_reducible apply Keeps.drew | with_reducible apply Keeps.alloc)) fun _ _ h => h)
        subst q1
        by_cases q2 : fa = fa'
        rotate_left
        · have nn := HN.out.2 (fun e => q2 (congrArg Fnc.args e))
          have NN := Lib.hid nn
          clear nn HN
          go_wp2_with (first | (with_reducible refine wp_region_text (by kernel_rfl) (by kernel_rfl) ?_) | (with_reducible refine text_fin (by kernel_rfl) ?_))
          go_ret
          exact sameP false rfl (by simp [NN.out]) (HKK.out.trans (by repeat (first | with_reducible exact Keeps.refl _ _ | with_reducible apply Keeps.drew | with_reducible apply Keeps.alloc)) fun _ _ h => h)
        subst q2
        by_cases q3 : fz = fz'
        rotate_left
        · have nn := HN.out.2 (fun e => q3 (congrArg Fnc.slots e))
          have NN := Lib.hid nn
          clear nn HN
          go_wp2_with (first | (with_reducible refine wp_region_text (by kernel_rfl) (by kernel_rfl) ?_) | (with_reducible refine text_fin (by kernel_rfl) ?_))
          go_ret
          exact sameP false rfl (by simp [NN.out]) (HKK.out.trans (by repeat (first | with_reducible exact Keeps.refl _ _ | with_reducible apply Keeps.drew | with_reducible apply Keeps.alloc)) fun _ _ h => h)
        subst q3
        by_cases q4 : cd.length = cd'.length
        rotate_left
        · have nn := HN.out.2 (fun e => q4 (congrArg (fun f : Fnc => f.code.length) e))
          have NN := Lib.hid nn
          clear nn HN
          go_wp2_with (first | (with_reducible refine wp_region_text (by kernel_rfl) (by kernel_rfl) ?_) | (with_reducible refine text_fin (by kernel_rfl) ?_))
          go_ret
          exact sameP false rfl (by simp [NN.out]) (HKK.out.trans (by repeat (first | with_reducible exact Keeps.refl _ _ | with_reducible apply Keeps.drew | with_reducible apply Keeps.alloc)) fun _ _ h => h)
        have Q4 := Lib.hid q4
        rw [← q4] at e3' HCD'
        clear q4
        go_wp2_with (first | (with_reducible refine wp_region_text (by kernel_rfl) (by kernel_rfl) ?_) | (with_reducible refine text_fin (by kernel_rfl) ?_))
        rename World => wq
        obtain ⟨w3, hw3⟩ : ∃ w3, w3 = ((wq.alloc (Obj.cells #[.string fn, .int .i64 fa, .int .i64 fz, .slice ac cd.length cc] 51)).alloc (Obj.cells #[.string fn, .int .i64 fa, .int .i64 fz, .slice ac' cd.length cc'] 51)) := ⟨_, rfl⟩
        rw [← hw3]
        have HK3 : Hid (Keeps (fun _ => False) wq w3) := Lib.hid (by rw [hw3]; exact ((Keeps.refl _ wq).alloc _).alloc _)
        have HM1 : Hid (Blk w3 wq.heap.size 51 [.string fn, .int .i64 fa, .int .i64 fz, .slice ac cd.length cc]) := Lib.hid (by rw [hw3]; exact (Blk.new wq _ _).alloc _)
        have HM2 : Hid (Blk w3 (wq.heap.size + 1) 51 [.string fn, .int .i64 fa, .int .i64 fz, .slice ac' cd.length cc']) := Lib.hid (by
          rw [hw3]
          have := Blk.new (wq.alloc (Obj.cells #[.string fn, .int .i64 fa, .int .i64 fz, .slice ac cd.length cc] 51)) [.string fn, .int .i64 fa, .int .i64 fz, .slice ac' cd.length cc'] 51
          rwa [World.size_alloc] at this)
        clear hw3 e0 e1 e2 e3 e0' e1' e2' e3' m2 m3 hwl
        go_loopw [8] (fun c wr => SameAt cd cd' w3 c wr) (fun c _ => cd.length - (intOf c).toNat)
        case atStart => exact ⟨0, rfl, Nat.zero_le _, rfl, Keeps.refl _ _⟩
        case round =>
          obtain ⟨j, rfl, hj, htj, hkj⟩ := hrel
          have HKJ := Lib.hid hkj
          have HTJ := Lib.hid htj
          have n3 : wr.cell? ⟨wq.heap.size, 3, none⟩ = some (.slice ac cd.length cc) := (HM1.out.keeps hkj fun h => h).cell (i := 3) rfl
          have n4 : wr.cell? ⟨wq.heap.size + 1, 3, none⟩ = some (.slice ac' cd.length cc') := (HM2.out.keeps hkj fun h => h).cell (i := 3) rfl
          have hwl : wq.heap.size + 1 < wr.heap.size := (HM2.out.keeps hkj fun h => h).lt
          clear htj
          by_cases hltj : j < cd.length
          · obtain ⟨x, hx⟩ : ∃ t, cd[j]? = some t := ⟨cd[j], by simp⟩
            obtain ⟨y, hy⟩ : ∃ t, cd'[j]? = some t := ⟨cd'[j]'(by have := Q4.out; omega), by simp⟩
            have HNJ := Lib.hid (same_next Q4.out hx hy HTJ.out)
            obtain ⟨_, _, _, e, _, hcm2, hel⟩ := HCD.out.keeps (HK3.out.trans hkj fun _ _ h => h) (fun _ _ h => h)
            cases e
            obtain ⟨_, _, _, e, _, kcm2, kel⟩ := HCD'.out.keeps (HK3.out.trans hkj fun _ _ h => h) (fun _ _ h => h)
            try simp only at e
            rw [← Q4.out] at e
            cases e
            obtain ⟨hox, b2, o2, rfl, hSb2, ⟨e0, e1, e2, e3⟩⟩ := hel j x hx
            obtain ⟨hoy, b3, o3, rfl, hSb3, ⟨e0', e1', e2', e3'⟩⟩ := kel j y hy
            obtain ⟨p1, p2, p3, p4⟩ := x
            obtain ⟨q1, q2, q3, q4⟩ := y
            obtain ⟨⟨i1, i2⟩, ⟨i3, i4⟩, ⟨i5, i6⟩, ⟨i7, i8⟩⟩ := hox
            obtain ⟨⟨j1, j2⟩, ⟨j3, j4⟩, ⟨j5, j6⟩, ⟨j7, j8⟩⟩ := hoy
            simp only at e0 e1 e2 e3 e0' e1' e2' e3' i1 i2 i3 i4 i5 i6 i7 i8 j1 j2 j3 j4 j5 j6 j7 j8
            unfold maxLen at hcm2 kcm2
            clear hel kel hx hy hSb2 hSb3 hkj
            by_cases hpq : (p1, p2, p3, p4) = (q1, q2, q3, q4)
            · cases hpq
              go_wp2_with (first | (with_reducible refine wp_region_text (by kernel_rfl) (by kernel_rfl) ?_) | (with_reducible refine text_fin (by kernel_rfl) ?_))
              exact ⟨⟨j + 1, by go_num, by omega, HNJ.out.1 rfl, by have := HKJ.out; first | exact this | exact this.drew⟩, by simp [intOf]; omega⟩
            · have nn := HN.out.2 fun e => HNJ.out.2 hpq (congrArg Fnc.code e)
              have NN := Lib.hid nn
              clear nn HN
              have hor : ¬ p1 = q1 ∨ ¬ p2 = q2 ∨ ¬ p3 = q3 ∨ ¬ p4 = q4 := by
                by_cases h1 : p1 = q1 <;> by_cases h2 : p2 = q2 <;> by_cases h3 : p3 = q3 <;> by_cases h4 : p4 = q4 <;> simp_all
              clear hpq
              rcases hor with hne | hne | hne | hne
              · go_wp2_with (first | (with_reducible refine wp_region_text (by kernel_rfl) (by kernel_rfl) ?_) | (with_reducible refine text_fin (by kernel_rfl) ?_))
                go_ret
                exact sameP false rfl (by simp [NN.out]) ((HKK.out.trans HK3.out fun _ _ h => h).trans (by have := HKJ.out; first | exact this | exact this.drew) fun _ _ h => h)
              · go_wp2_with (first | (with_reducible refine wp_region_text (by kernel_rfl) (by kernel_rfl) ?_) | (with_reducible refine text_fin (by kernel_rfl) ?_))
                go_ret
                exact sameP false rfl (by simp [NN.out]) ((HKK.out.trans HK3.out fun _ _ h => h).trans (by have := HKJ.out; first | exact this | exact this.drew) fun _ _ h => h)
              · go_wp2_with (first | (with_reducible refine wp_region_text (by kernel_rfl) (by kernel_rfl) ?_) | (with_reducible refine text_fin (by kernel_rfl) ?_))
                go_ret
                exact sameP false rfl (by simp [NN.out]) ((HKK.out.trans HK3.out fun _ _ h => h).trans (by have := HKJ.out; first | exact this | exact this.drew) fun _ _ h => h)
              · go_wp2_with (first | (with_reducible refine wp_region_text (by kernel_rfl) (by kernel_rfl) ?_) | (with_reducible refine text_fin (by kernel_rfl) ?_))
                go_ret
                exact sameP false rfl (by simp [NN.out]) ((HKK.out.trans HK3.out fun _ _ h => h).trans (by have := HKJ.out; first | exact this | exact this.drew) fun _ _ h => h)
          · go_wp2_with (first | (with_reducible refine wp_region_text (by kernel_rfl) (by kernel_rfl) ?_) | (with_reducible refine text_fin (by kernel_rfl) ?_))
            obtain rfl : j = cd.length := by omega
            refine ⟨⟨i + 1, by go_num, by omega, HN.out.1 ?_, (HKW.out.trans HK3.out fun _ _ h => h).trans HKJ.out fun _ _ h => h⟩, by simp [intOf]; omega⟩
            rw [same_done Q4.out HTJ.out]
      · go_wp2_with (first | (with_reducible refine wp_region_text (by kernel_rfl) (by kernel_rfl) ?_) | (with_reducible refine text_fin (by kernel_rfl) ?_))
        obtain rfl : i = fs.length := by omega
        go_ret
        exact sameP true rfl (by simpa using ⟨E0.out, same_done HLN.out HT.out⟩) (HKK.out)
end Go.Proofs.YtgmieehheoknbaaDoor
end

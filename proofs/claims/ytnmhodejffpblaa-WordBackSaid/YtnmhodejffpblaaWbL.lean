/-
  The law WordBack: what the Go code does.
-/
import Derived.Test.YtnmhodejffpblaaWb
import Derived.Test.YtnmhodejffpblaaHg
namespace Go.Tx
open Go Go.RowKit
theorem TmD.slices {w : World} {S : Nat → Prop} {d : Nat} {v : Value} {t : Tm} (h : TmD w S d v t) : ∃ a b c k l m, v = .agg #[.int .i64 t.kind, .int .i64 t.n, .string t.name, .slice a t.items.length k, .slice b t.rest.length l, .slice c t.bytes.size m] := by
  cases d with
  | zero => exact h.elim
  | succ d =>
    obtain ⟨y3, y4, y5, e, _, _, h3, h4, h5⟩ := h
    obtain ⟨a, k, rfl⟩ := h3.form
    obtain ⟨b, l, rfl⟩ := h4.form
    obtain ⟨c, m, rfl⟩ := h5.form
    exact ⟨a, b, c, k, l, m, e⟩
theorem IsErrO.kinds {w : World} {E : Nat → Prop} {v : Value} {o : ErrO} (h : IsErrO w E v o) : v = .nilIface ∨ ∃ t u, v = .iface t u := by
  cases o with
  | none => exact .inl h
  | some p => exact .inr h.1.iface
end Go.Tx
namespace Go.Proofs.Ytnmhodejffpblaa
open Go.RowKit Go.Tx
set_option maxRecDepth 100000 in
set_option maxHeartbeats 1600000 in
theorem back_any {w : World} {d : Nat} {S : Nat → Prop} {u : Value} {s : Tm} (hs : TmD w S d u s) (hsl : Slim d s) {d2 : Nat} {S2 : Nat → Prop} {v : Value} {t : Tm} (ht : TmD w S2 d2 v t) (htl : Slim d2 t)
    (hS : ∀ x, S x → x < w.heap.size) (hS2 : ∀ x, S2 x → x < w.heap.size) :
    Calls Try.prog 9 #[u, v] w fun e w' => e = .returned (.bool true) ∧ Keeps (fun _ => False) w w' := by
  have HU := Lib.hid hs
  have HV := Lib.hid ht
  have HS := Lib.hid hS
  have HS2 := Lib.hid hS2
  have HSL := Lib.hid hsl
  have HTL := Lib.hid htl
  obtain ⟨a3, a4, a5, c3, c4, c5, rfl⟩ := hs.slices
  obtain ⟨b3, b4, b5, e3, e4, e5, rfl⟩ := ht.slices
  clear hs ht hS hS2 hsl htl
  go_enter Try.func9, Try.ntmps9
  go_wp2_with (first | (go_at_call 18; refine Stop.out ?_))
  refine ⟨(newAtoms_any _).mono ?_⟩
  have hba := (Blk.new w [.int .i64 s.kind, .int .i64 s.n, .string s.name, .slice a3 s.items.length c3, .slice a4 s.rest.length c4, .slice a5 s.bytes.size c5] 26).keeps ((Keeps.refl (fun _ => False) _).alloc (.cells #[.int .i64 t.kind, .int .i64 t.n, .string t.name, .slice b3 t.items.length e3, .slice b4 t.rest.length e4, .slice b5 t.bytes.size e5] 26)) fun h => h
  have hbb := Blk.new (w.alloc (.cells #[.int .i64 s.kind, .int .i64 s.n, .string s.name, .slice a3 s.items.length c3, .slice a4 s.rest.length c4, .slice a5 s.bytes.size c5] 26)) [.int .i64 t.kind, .int .i64 t.n, .string t.name, .slice b3 t.items.length e3, .slice b4 t.rest.length e4, .slice b5 t.bytes.size e5] 26
  rintro e w1 ⟨rfl, ha, hk, _⟩
  have hba1 := hba.keeps hk fun h => h
  have hbb1 := hbb.keeps hk fun h => h
  have HK1 : Hid (Keeps (fun _ => False) w w1) := Lib.hid ((((Keeps.refl _ w).alloc _).alloc _).trans hk fun _ _ h => h)
  rw [World.size_alloc, World.size_alloc] at ha
  rw [World.size_alloc] at hbb1
  simp only [World.size_alloc]
  have d0 : w1.cell? ⟨w.heap.size, 0, none⟩ = some (.int .i64 s.kind) := hba1.cell (i := 0) rfl
  have d1 : w1.cell? ⟨w.heap.size, 1, none⟩ = some (.int .i64 s.n) := hba1.cell (i := 1) rfl
  have d2_ : w1.cell? ⟨w.heap.size, 2, none⟩ = some (.string s.name) := hba1.cell (i := 2) rfl
  have d3 : w1.cell? ⟨w.heap.size, 3, none⟩ = some (.slice a3 s.items.length c3) := hba1.cell (i := 3) rfl
  have d4 : w1.cell? ⟨w.heap.size, 4, none⟩ = some (.slice a4 s.rest.length c4) := hba1.cell (i := 4) rfl
  have d5 : w1.cell? ⟨w.heap.size, 5, none⟩ = some (.slice a5 s.bytes.size c5) := hba1.cell (i := 5) rfl
  have HA := Lib.hid ha
  have HBA := Lib.hid hba1
  have HBB := Lib.hid hbb1
  clear hba hbb ha hk hba1 hbb1
  go_wp2_with (first | (go_at_call 13; refine Stop.out ?_))
  refine ⟨((copy_both d).1 w1 S _ s (HU.out.keeps HK1.out fun _ _ h => h) HSL.out fun x hx => Nat.lt_of_lt_of_le (HS.out x hx) HK1.out.size).mono ?_⟩
  rintro e w2 ⟨v2, rfl, ht2, hk2⟩
  have HA2 := Lib.hid (HA.out.keeps hk2 fun _ _ h => h)
  have HK2 := Lib.hid hk2
  have HV2 := Lib.hid ht2
  have HBA2 := Lib.hid (HBA.out.keeps hk2 fun h => h)
  have HBB2 := Lib.hid (HBB.out.keeps hk2 fun h => h)
  obtain ⟨z3, z4, z5, rfl, _⟩ := ht2.form
  unfold Tm.val
  clear ht2 hk2 d0 d1 d2_ d3 d4 d5 HA HBA HBB
  go_wp2_with (first | (go_at_call 12; refine Stop.out ?_))
  obtain ⟨x, ok, er, l, hq⟩ : ∃ x ok er l, smallOf [] s = ((x, ok, er), l) := ⟨_, _, _, _, rfl⟩
  have HSm := Lib.hid (small_any HA2.out HV2.out fun x hx => hx.2)
  rw [hq] at HSm
  have HQ := Lib.hid hq
  clear hq
  refine ⟨HSm.out.mono ?_⟩
  rintro e w3 ⟨v3, rfl, he3, ha3, hk3⟩
  have hs1 := HK1.out.size
  have hs2 := HK2.out.size
  have hba3 := HBA2.out.keeps hk3 fun h => by omega
  have hbb3 := HBB2.out.keeps hk3 fun h => by omega
  have HK3 : Hid (Keeps (fun _ => False) w w3) := Lib.hid ((HK1.out.trans HK2.out fun _ _ h => h).trans hk3 fun b hb h => by omega)
  have hlow : ∀ b, Wider (fun x => x = w.heap.size + 1 + 1) w2 w3 b → w.heap.size + 1 < b := fun b h => by
    have := HA2.out.lt _ rfl
    rcases h with h | h
    · omega
    · have := h.1; omega
  have HLow := Lib.hid hlow
  have d0 : w3.cell? ⟨w.heap.size + 1, 0, none⟩ = some (.int .i64 t.kind) := hbb3.cell (i := 0) rfl
  have d1 : w3.cell? ⟨w.heap.size + 1, 1, none⟩ = some (.int .i64 t.n) := hbb3.cell (i := 1) rfl
  have d2_ : w3.cell? ⟨w.heap.size + 1, 2, none⟩ = some (.string t.name) := hbb3.cell (i := 2) rfl
  have d3 : w3.cell? ⟨w.heap.size + 1, 3, none⟩ = some (.slice b3 t.items.length e3) := hbb3.cell (i := 3) rfl
  have d4 : w3.cell? ⟨w.heap.size + 1, 4, none⟩ = some (.slice b4 t.rest.length e4) := hbb3.cell (i := 4) rfl
  have d5 : w3.cell? ⟨w.heap.size + 1, 5, none⟩ = some (.slice b5 t.bytes.size e5) := hbb3.cell (i := 5) rfl
  have HA3 := Lib.hid ha3
  have HE3 := Lib.hid he3
  have HBA3 := Lib.hid hba3
  have HBB3 := Lib.hid hbb3
  clear ha3 hk3 hba3 hbb3 hs1 hs2 hlow HK1 HK2 HBA2 HBB2 HA2 HV2 HSm he3
  go_wp2_with (first | (go_at_call 13; refine Stop.out ?_))
  refine ⟨((copy_both d2).1 w3 S2 _ t (HV.out.keeps HK3.out fun _ _ h => h) HTL.out fun x hx => Nat.lt_of_lt_of_le (HS2.out x hx) HK3.out.size).mono ?_⟩
  rintro e w4 ⟨v4, rfl, ht4, hk4⟩
  have HA4 := Lib.hid (HA3.out.keeps hk4 fun _ _ h => h)
  have HK4 := Lib.hid (HK3.out.trans hk4 fun _ _ h => h)
  have HV4 := Lib.hid ht4
  have HBA4 := Lib.hid (HBA3.out.keeps hk4 fun h => h)
  have HBB4 := Lib.hid (HBB3.out.keeps hk4 fun h => h)
  obtain ⟨y3, y4, y5, rfl, _⟩ := ht4.form
  unfold Tm.val
  clear ht4 hk4 d0 d1 d2_ d3 d4 d5 HBA3 HBB3
  go_wp2_with (first | (go_at_call 12; refine Stop.out ?_))
  obtain ⟨y, ok2, er2, l2, hq⟩ : ∃ x ok er l2, smallOf l t = ((x, ok, er), l2) := ⟨_, _, _, _, rfl⟩
  have HSm := Lib.hid (small_any HA4.out HV4.out fun x hx => hx.2)
  rw [hq] at HSm
  have HQ2 := Lib.hid hq
  have HP : Hid (l <+: l2) := Lib.hid (by have := small_prefix l t; rwa [hq] at this)
  clear hq
  refine ⟨HSm.out.mono ?_⟩
  rintro e w5 ⟨v5, rfl, he5, ha5, hk5⟩
  have hba5 := HBA4.out.keeps hk5 fun h => by have := HLow.out _ h; omega
  have hbb5 := HBB4.out.keeps hk5 fun h => by have := HLow.out _ h; omega
  have HK5 : Hid (Keeps (fun _ => False) w w5) := Lib.hid (HK4.out.trans hk5 fun b hb h => by have := HLow.out _ h; omega)
  have HA5 := Lib.hid ha5
  have HBA5 := Lib.hid hba5
  have HBB5 := Lib.hid hbb5
  have hv5 := he5.kinds
  have HE5 := Lib.hid he5
  clear ha5 hk5 hba5 hbb5 he5 HK4 HBA4 HBB4 HA4 HV4 HSm
  cases ok with
  | false =>
    have hv3 := HE3.out.kinds
    go_wp2_with (first | (go_at_call 17; refine (awake_any _).mono ?_; rintro e w7 ⟨rfl, hk7⟩; have HK7 := Lib.hid (HK5.out.trans hk7 fun _ _ h => h); clear hk7))
    go_ret
    exact ⟨rfl, HK7.out⟩
  | true =>
  obtain ⟨rfl, i1, i2, i3, hlw⟩ := small_true HQ.out HA3.out.few
  have hv3 : v3 = .nilIface := HE3.out
  subst hv3
  have HL := Lib.hid (hlw.more HP.out)
  have hxr := hlw.range
  clear hlw
  go_wp2_with (first | (go_at_call 29; refine Stop.out ?_))
  refine ⟨(plain_any HA5.out x hxr.1 hxr.2).mono ?_⟩
  rw [plain_back HL.out]
  rintro e w6 ⟨v6, rfl, he6, hk6⟩
  have hv6 : v6 = .nilIface := he6
  subst hv6
  have hba6 := HBA5.out.keeps hk6 fun h => h
  have HBB6 := Lib.hid (HBB5.out.keeps hk6 fun h => h)
  have HK6 := Lib.hid (HK5.out.trans hk6 fun _ _ h => h)
  have g1 : s.items.length = 0 := by rw [i1]; rfl
  have g2 : s.rest.length = 0 := by rw [i2]; rfl
  have g3 : s.bytes.size = 0 := by rw [i3]; rfl
  rw [g1, g2, g3] at hba6
  have HBA6 := Lib.hid hba6
  have hba7 := hba6.keeps ((Keeps.refl (fun _ => False) w6).alloc (.cells #[.int .i64 s.kind, .int .i64 s.n, .string s.name, .slice none 0 0, .slice none 0 0, .slice none 0 0] 26)) fun h => h
  have d0 := hba7.cell (i := 0) rfl
  have d1 := hba7.cell (i := 1) rfl
  have d2_ := hba7.cell (i := 2) rfl
  have d3 := hba7.cell (i := 3) rfl
  have d4 := hba7.cell (i := 4) rfl
  have d5 := hba7.cell (i := 5) rfl
  unfold leaf
  clear hba6 hba7 he6 hk6 hxr
  go_wp2_with (first | (go_at_call 31; refine (same_leaf _ _ _ _ _ _ _ _ _ _ _ _ _ _ _ _).mono ?_; rintro e w7 ⟨rfl, hk7⟩; refine Stop.out ?_))
  refine ⟨?_⟩
  have hk7' : Keeps (fun _ => False) w6 w7 := ((Keeps.refl _ w6).alloc _).trans hk7 fun _ _ h => h
  have hba8 := HBA6.out.keeps hk7' fun h => h
  have hbb8 := HBB6.out.keeps hk7' fun h => h
  have HK7 := Lib.hid (HK6.out.trans hk7' fun _ _ h => h)
  clear d0 d1 d2_ d3 d4 d5 hk7
  cases ok2 with
  | false =>
    clear hk7'
    go_wp2_with (first | (go_at_call 17; refine (awake_any _).mono ?_; rintro e w8 ⟨rfl, hk8⟩; have HK8 := Lib.hid (HK7.out.trans hk8 fun _ _ h => h); clear hk8))
    go_ret
    exact ⟨rfl, HK8.out⟩
  | true =>
  obtain ⟨rfl, j1, j2, j3, hlw⟩ := small_true HQ2.out HA5.out.few
  have hv5' : v5 = .nilIface := HE5.out
  subst hv5'
  have d0 : w7.cell? ⟨w.heap.size, 0, none⟩ = some (.int .i64 s.kind) := hba8.cell (i := 0) rfl
  have d1 : w7.cell? ⟨w.heap.size, 1, none⟩ = some (.int .i64 s.n) := hba8.cell (i := 1) rfl
  have d2_ : w7.cell? ⟨w.heap.size, 2, none⟩ = some (.string s.name) := hba8.cell (i := 2) rfl
  have d3 : w7.cell? ⟨w.heap.size, 3, none⟩ = some (.slice a3 0 c3) := hba8.cell (i := 3) rfl
  have d4 : w7.cell? ⟨w.heap.size, 4, none⟩ = some (.slice a4 0 c4) := hba8.cell (i := 4) rfl
  have d5 : w7.cell? ⟨w.heap.size, 5, none⟩ = some (.slice a5 0 c5) := hba8.cell (i := 5) rfl
  have r1 : t.items.length = 0 := by rw [j1]; rfl
  have r2 : t.rest.length = 0 := by rw [j2]; rfl
  have r3 : t.bytes.size = 0 := by rw [j3]; rfl
  rw [r1, r2, r3] at hbb8
  have f0 : w7.cell? ⟨w.heap.size + 1, 0, none⟩ = some (.int .i64 t.kind) := hbb8.cell (i := 0) rfl
  have f1 : w7.cell? ⟨w.heap.size + 1, 1, none⟩ = some (.int .i64 t.n) := hbb8.cell (i := 1) rfl
  have f2 : w7.cell? ⟨w.heap.size + 1, 2, none⟩ = some (.string t.name) := hbb8.cell (i := 2) rfl
  have f3 : w7.cell? ⟨w.heap.size + 1, 3, none⟩ = some (.slice b3 0 e3) := hbb8.cell (i := 3) rfl
  have f4 : w7.cell? ⟨w.heap.size + 1, 4, none⟩ = some (.slice b4 0 e4) := hbb8.cell (i := 4) rfl
  have f5 : w7.cell? ⟨w.heap.size + 1, 5, none⟩ = some (.slice b5 0 e5) := hbb8.cell (i := 5) rfl
  have HW := Lib.hid (word_iff HL.out hlw HA5.out.once)
  have HL2 := Lib.hid hlw
  clear hba8 hbb8 hlw hk7'
  have hxy : ∃ q : Bool, (x == y) = q := ⟨_, rfl⟩
  obtain ⟨q, hxy⟩ := hxy
  go_wp2_with (first | (go_at_call 32; refine Stop.out ?_))
  refine ⟨(cmp_leaf _ HL.out HL2.out _ _ _ _ _ _ _ _ _ _ _ _).mono ?_⟩
  rintro e w8 ⟨r, rfl, hr, hk8⟩
  have HK8 := Lib.hid (HK7.out.trans hk8 fun _ _ h => h)
  have hr0 : (r == 0) = q := by
    rw [← hxy, Bool.eq_iff_iff]
    simp only [beq_iff_eq]
    exact hr.trans HW.out.symm
  clear hr hk8
  go_wp2_with (first | (go_at_call 17; refine (awake_any _).mono ?_; rintro e w9 ⟨rfl, hk9⟩; have HK9 := Lib.hid (HK8.out.trans hk9 fun _ _ h => h); clear hk9))
  all_goals
    go_ret
    exact ⟨rfl, HK9.out⟩
end Go.Proofs.Ytnmhodejffpblaa

/-
  The law WordSmalls: what the Go code does.
-/
import Derived.Test.YtnmhodejffpblaaSr
import Derived.Test.YtnmhodejffpblaaWdL
import Derived.Test.YtnmhodejffpblaaHg
namespace Go.Tx
open Go Go.RowKit
theorem StrsD.keeps {w w' : World} {v : Value} {l : List ByteArray} (h : StrsD w v l) (hk : Keeps (fun _ => False) w w') : StrsD w' v l := by
  obtain ⟨h0, a, cap, rfl, h1⟩ := h
  refine ⟨h0, a, cap, rfl, fun i s hs => ?_⟩
  obtain ⟨b, o, e, hb, hc⟩ := h1 i s hs
  exact ⟨b, o, e, Nat.lt_of_lt_of_le hb hk.size, hk.cell hc fun h => h⟩
mutual
theorem chk_kind : ∀ (t : Tm), ∀ dep st x, chk t dep st = .error x → x.2 = 1 ∨ x.2 = 2
  | .mk k n s is rs bs => by
    intro dep st x h
    unfold chk at h
    dsimp only at h
    split at h
    · cases h; exact .inr rfl
    · split at h
      · cases h; exact .inl rfl
      · cases hc : chks is (dep + 1) (st.1 + 1, st.2 + (Tm.mk k n s is rs bs).binSize) with
        | error y =>
          rw [hc] at h
          cases h
          exact chks_kind is _ _ _ hc
        | ok st2 =>
          rw [hc] at h
          exact chks_kind rs _ _ _ h
theorem chks_kind : ∀ (l : List Tm), ∀ dep st x, chks l dep st = .error x → x.2 = 1 ∨ x.2 = 2
  | [] => by
    intro dep st x h
    unfold chks at h
    cases h
  | t :: l => by
    intro dep st x h
    unfold chks at h
    cases hc : chk t dep st with
    | error y =>
      rw [hc] at h
      cases h
      exact chk_kind t _ _ _ hc
    | ok st2 =>
      rw [hc] at h
      exact chks_kind l _ _ _ h
end
theorem fine_right (t : Tm) : fineO (rightTm t) = true := by
  unfold rightTm
  have h : ∀ t dep st x, chk t dep st = .error x → x.2 = 1 ∨ x.2 = 2 := chk_kind
  cases hc : chk t 1 (0, 0) with
  | ok st => rfl
  | error x =>
    rcases h t 1 (0, 0) x hc with e | e <;> simp [errTm, fineO, e]
theorem fine_small (l : List ByteArray) (t : Tm) : fineO (smallOf l t).1.2.2 = true := by
  unfold smallOf
  have h := fine_right t
  split
  · next c k hq => rw [hq] at h; exact h
  · unfold smallK
    split
    · split <;> rfl
    split
    · have ha := fine_ask l t.name
      split
      · rfl
      · next hq => rw [hq] at ha; exact ha
    split
    · rfl
    split
    · rfl
    split <;> rfl
end Go.Tx
namespace Go.Proofs.Ytnmhodejffpblaa
open Go.RowKit Go.Tx
set_option maxRecDepth 100000 in
set_option maxHeartbeats 1600000 in
theorem smalls_any {w : World} {v : Value} {names : List ByteArray} (h : StrsD w v names) {d : Nat} {S : Nat → Prop} {u : Value} {t : Tm} (ht : TmD w S d u t) (hsl : Slim d t) (hS : ∀ x, S x → x < w.heap.size) :
    Calls Try.prog 3 #[v, u] w fun e w' => e = .returned (.bool true) ∧ Keeps (fun _ => False) w w' := by
  have HB := Lib.hid (fun o => both_any (h.keeps ((Keeps.refl _ w).alloc o)))
  have HTm := Lib.hid ht
  have HS := Lib.hid hS
  have HSL := Lib.hid hsl
  obtain ⟨hn, na, nc, rfl, _⟩ := h
  obtain ⟨y3, y4, y5, rfl, o3, o4, o5⟩ := ht.form
  unfold Tm.val
  clear ht hS hsl
  go_enter Try.func3, Try.ntmps3
  go_wp2_with (first | (go_at_call 11; refine Stop.out ?_))
  refine ⟨(HB.out _).mono ?_⟩
  rintro e w1 ⟨a, b, Ea, Eb, l, rfl, htw⟩
  have hbt : Blk w1 w.heap.size 26 [.int .i64 t.kind, .int .i64 t.n, .string t.name, y3, y4, y5] := (Blk.new w _ _).keeps htw.keeps fun h => h
  have HK1 : Hid (Keeps (fun _ => False) w w1) := Lib.hid (((Keeps.refl _ w).alloc _).trans htw.keeps fun _ _ h => h)
  have d0 : w1.cell? ⟨w.heap.size, 0, none⟩ = some (.int .i64 t.kind) := hbt.cell (i := 0) rfl
  have d1 : w1.cell? ⟨w.heap.size, 1, none⟩ = some (.int .i64 t.n) := hbt.cell (i := 1) rfl
  have d2 : w1.cell? ⟨w.heap.size, 2, none⟩ = some (.string t.name) := hbt.cell (i := 2) rfl
  have d3 : w1.cell? ⟨w.heap.size, 3, none⟩ = some y3 := hbt.cell (i := 3) rfl
  have d4 : w1.cell? ⟨w.heap.size, 4, none⟩ = some y4 := hbt.cell (i := 4) rfl
  have d5 : w1.cell? ⟨w.heap.size, 5, none⟩ = some y5 := hbt.cell (i := 5) rfl
  have HT := Lib.hid htw
  have HBT := Lib.hid hbt
  clear htw hbt
  go_wp2_with (first | (go_at_call 13; refine Stop.out ?_))
  refine ⟨((copy_both d).1 w1 S _ t (HTm.out.keeps HK1.out fun _ _ h => h) HSL.out fun x hx => Nat.lt_of_lt_of_le (HS.out x hx) HK1.out.size).mono ?_⟩
  rintro e w2 ⟨v2, rfl, ht2, hk2⟩
  have HT2 := Lib.hid (HT.out.still hk2)
  have HK2 := Lib.hid hk2
  have HV2 := Lib.hid ht2
  obtain ⟨z3, z4, z5, rfl, _⟩ := ht2.form
  unfold Tm.val
  clear ht2 hk2 d0 d1 d2 d3 d4 d5
  go_wp2_with (first | (go_at_call 12; refine Stop.out ?_))
  obtain ⟨x, ok, er, l2, hq⟩ : ∃ x ok er l2, smallOf l t = ((x, ok, er), l2) := ⟨_, _, _, _, rfl⟩
  have HF : Hid (fineO er = true) := Lib.hid (by have := fine_small l t; rwa [hq] at this)
  have HSm := Lib.hid (small_any HT2.out.ha HV2.out fun x hx => hx.2)
  have HRm : Hid (∀ W u, IsNames W b Eb l → TmD W S d u t → w.heap.size ≤ W.heap.size → Calls Try.prog 14 #[u, .pointer (some ⟨b, 0, none⟩)] W (SmallXPost b Eb x ok er l2 W)) := Lib.hid fun W u hb hu hs => by
    have := rsmall_any hb hu fun x hx => Nat.lt_of_lt_of_le (HS.out x hx) hs
    rwa [hq] at this
  rw [hq] at HSm
  clear hq
  refine ⟨HSm.out.mono ?_⟩
  rintro e w3 ⟨v3, rfl, he3, ha3, hk3⟩
  have hs0 := HK1.out.size
  have hs1 := HT2.out.keeps.size
  rw [World.size_alloc] at hs1
  have hs3 := hk3.size
  have hfa := HT.out.fa
  have hbt3 : Blk w3 w.heap.size 26 [.int .i64 t.kind, .int .i64 t.n, .string t.name, y3, y4, y5] := (HBT.out.keeps HK2.out fun h => h).keeps hk3 fun h => by have := hfa _ h; rw [World.size_alloc] at this; omega
  have d0 : w3.cell? ⟨w.heap.size, 0, none⟩ = some (.int .i64 t.kind) := hbt3.cell (i := 0) rfl
  have d1 : w3.cell? ⟨w.heap.size, 1, none⟩ = some (.int .i64 t.n) := hbt3.cell (i := 1) rfl
  have d2 : w3.cell? ⟨w.heap.size, 2, none⟩ = some (.string t.name) := hbt3.cell (i := 2) rfl
  have d3 : w3.cell? ⟨w.heap.size, 3, none⟩ = some y3 := hbt3.cell (i := 3) rfl
  have d4 : w3.cell? ⟨w.heap.size, 4, none⟩ = some y4 := hbt3.cell (i := 4) rfl
  have d5 : w3.cell? ⟨w.heap.size, 5, none⟩ = some y5 := hbt3.cell (i := 5) rfl
  have HE3 := Lib.hid he3
  have HA3 := Lib.hid ha3
  have HK3 := Lib.hid hk3
  have HTM3 := Lib.hid ((HTm.out.keeps (HK1.out.trans HK2.out fun _ _ h => h) fun _ _ h => h).keeps hk3 fun g hg he => by have := HS.out g hg; have := hfa g he; rw [World.size_alloc] at this; omega)
  have HB3 := Lib.hid (HT2.out.hb.keeps hk3 fun g hg he => HT2.out.apart g he hg)
  clear he3 ha3 hk3 hbt3 hfa hs0 hs1 hs3
  go_wp2_with (first | (go_at_call 14; refine Stop.out ?_))
  refine ⟨(HRm.out _ _ HB3.out HTM3.out (Nat.le_trans (Nat.le_trans HK1.out.size HK2.out.size) HK3.out.size)).mono ?_⟩
  rintro e w4 ⟨v4, rfl, he4, hb4, hk4⟩
  have HTW := Lib.hid (HT2.out.ask HA3.out HK3.out hb4 hk4)
  have HE4 := Lib.hid he4
  have HE3' := Lib.hid (HE3.out.keeps hk4 fun g hg he => by have := HT2.out.hb.lt g he; have := hg.1; omega)
  clear he4 hb4 hk4 d0 d1 d2 d3 d4 d5
  obtain ⟨lb, lc, c0, _⟩ := HTW.out.hb.list
  have HC0 : Hid (∀ W, Keeps (fun _ => False) w4 W → W.cell? ⟨b, 0, none⟩ = some (.slice lb l2.length lc)) := Lib.hid fun W hW => hW.cell c0 fun h => h
  have HKW : Hid (Keeps (fun _ => False) w w4) := Lib.hid (((Keeps.refl _ w).alloc _).trans HTW.out.keeps fun _ _ h => h)
  clear c0
  go_wp2_with (first | (show Code.wp _ (Code.region 6 _ _) _ _ _; refine Stop.out ?_))
  refine ⟨?_⟩
  refine wp_region_held_text (fun W => W.cell? ⟨b, 0, none⟩ = some (.slice lb l2.length lc)) [19] (by kernel_rfl) (by kernel_rfl) (HC0.out _ (Keeps.refl _ _).drew) ?_
  go_wp2_with (first | (refine wpH_loadG _ _ rfl _ rfl rfl _ _ (by kernel_rfl) rfl (fun _ h => h) (HC0.out _ (by repeat (first | with_reducible exact Keeps.refl _ _ | with_reducible exact HK5.out | with_reducible exact HK7.out | with_reducible apply Keeps.drew | with_reducible apply Keeps.alloc))) ?_) | (refine wpH_walkG rfl ?_) | (refine held_fin (HC0.out _ (by repeat (first | with_reducible exact Keeps.refl _ _ | with_reducible exact HK5.out | with_reducible exact HK7.out | with_reducible apply Keeps.drew | with_reducible apply Keeps.alloc))) ?_) | (refine wpH_nil ?_) | (with_reducible refine text_fin (by kernel_rfl) ?_) | (go_at_call 15; refine (ref_same (HE3'.out.keeps (Keeps.refl (fun _ => False) w4).drew fun _ _ h => h) (HE4.out.keeps (Keeps.refl (fun _ => False) w4).drew fun _ _ h => h) HF.out).mono ?_; rintro e w5 ⟨rfl, hk5⟩; have HK5 := Lib.hid hk5.of_drew; clear hk5) | (go_at_call 16; refine (len_any (HTW.out.ha.keeps HK5.out fun _ _ h => h)).mono ?_; rintro e w6 ⟨rfl, rfl⟩) | (go_at_call 17; refine (awake_any _).mono ?_; rintro e w7 ⟨rfl, hk7⟩; have HK7 := Lib.hid (HK5.out.trans hk7 fun _ _ h => h); clear hk7))
  go_ret
  exact ⟨rfl, HKW.out.trans HK7.out fun _ _ h => h⟩
end Go.Proofs.Ytnmhodejffpblaa

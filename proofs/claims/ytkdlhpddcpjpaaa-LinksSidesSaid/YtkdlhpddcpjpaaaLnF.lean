/-
  Links: an end: what the Go code does.
-/
import Derived.Test.YtkdlhpddcpjpaaaLnE
namespace Go.Tx
open Go Go.RowKit
namespace NM
/-- the links but for those to so many others -/
def less (N : NM) (a : Int) (l : List Int) : List (Int × Int) := N.ls.filter fun p => decide (∀ x ∈ l, p ≠ pairK a x)
theorem less_nil (N : NM) (a : Int) : N.less a [] = N.ls := by unfold less; rw [List.filter_eq_self]; simp
theorem less_snoc (N : NM) (a x : Int) (l : List Int) : (N.less a l).filter (fun q => decide (q ≠ pairK a x)) = N.less a (l ++ [x]) := by
  unfold less
  rw [List.filter_filter]
  apply List.filter_congr
  intro p _
  rw [Bool.eq_iff_iff]
  simp only [Bool.and_eq_true, decide_eq_true_eq, List.mem_append, List.mem_singleton]
  constructor
  · rintro ⟨h1, h2⟩ y hy
    rcases hy with hy | rfl
    · exact h2 y hy
    · exact h1
  · intro h
    exact ⟨h x (.inr rfl), fun y hy => h y (.inl hy)⟩
theorem less_all {N : NM} (h : N.Ok) (a : Int) : N.less a (N.linked a) = N.ls.filter fun p => decide (p.1 ≠ a ∧ p.2 ≠ a) := by
  unfold less
  apply List.filter_congr
  intro p hp
  have hlt := h.lt p hp
  rw [decide_eq_decide]
  constructor
  · intro h1
    refine ⟨fun e => ?_, fun e => ?_⟩
    · have hq : p = pairK a p.2 := (pairK_mem hlt).2 (.inl ⟨e, rfl⟩)
      exact h1 p.2 ((mem_linked h).2 ⟨hq ▸ hp, by omega⟩) hq
    · have hq : p = pairK a p.1 := (pairK_mem hlt).2 (.inr ⟨rfl, e⟩)
      exact h1 p.1 ((mem_linked h).2 ⟨hq ▸ hp, by omega⟩) hq
  · rintro ⟨h1, h2⟩ x _ e
    rcases (pairK_mem hlt).1 e with ⟨e, _⟩ | ⟨_, e⟩
    · exact h1 e
    · exact h2 e
/-- the monitors but for those of so many references -/
def lessW (N : NM) (l : List Int) : List (Int × Int × Int) := N.ws.filter fun t => decide (t.1 ∉ l)
theorem lessW_nil (N : NM) : N.lessW [] = N.ws := by unfold lessW; rw [List.filter_eq_self]; simp
theorem lessW_snoc (N : NM) (x : Int) (l : List Int) : (N.lessW l).filter (fun t => decide (t.1 ≠ x)) = N.lessW (l ++ [x]) := by
  unfold lessW
  rw [List.filter_filter]
  apply List.filter_congr
  intro p _
  rw [Bool.eq_iff_iff]
  simp only [Bool.and_eq_true, decide_eq_true_eq, List.mem_append, List.mem_singleton, not_or]
  exact And.comm
theorem inj_ref {l : List (Int × Int × Int)} (hn : (l.map (·.1)).Nodup) {t u : Int × Int × Int} (ht : t ∈ l) (hu : u ∈ l) (e : t.1 = u.1) : t = u := by
  induction l with
  | nil => cases ht
  | cons x l ih =>
    simp only [List.map_cons, List.nodup_cons] at hn
    rcases List.mem_cons.1 ht with h1 | h1 <;> rcases List.mem_cons.1 hu with h2 | h2
    · rw [h1, h2]
    · exact absurd (List.mem_map.2 ⟨u, h2, by rw [← e, h1]⟩) hn.1
    · exact absurd (List.mem_map.2 ⟨t, h1, by rw [e, h2]⟩) hn.1
    · exact ih hn.2 h1 h2
theorem lessW_all {N : NM} (h : N.Ok) (a : Int) {l : List Int} (hl : l.Perm (N.ws.filterMap (part a))) : N.lessW l = N.ws.filter fun t => decide (t.2.1 ≠ a ∧ t.2.2 ≠ a) := by
  unfold lessW
  apply List.filter_congr
  intro t ht
  rw [decide_eq_decide, hl.mem_iff, List.mem_filterMap]
  constructor
  · intro h1
    have : ¬ (t.2.1 = a ∨ t.2.2 = a) := fun e => h1 ⟨t, ht, by unfold part; rw [if_pos e]⟩
    exact ⟨fun e => this (.inl e), fun e => this (.inr e)⟩
  · rintro ⟨h1, h2⟩ ⟨u, hu, e⟩
    unfold part at e
    split at e
    · rename_i hp
      simp at e
      have := inj_ref h.wnodup hu ht e
      subst this
      rcases hp with hp | hp
      · exact h1 hp
      · exact h2 hp
    · cases e
end NM
/-- before each round of the first loop: so many links were struck -/
def EndA (w : World) (b : Nat) (N : NM) (S : Nat → Prop) (a : Int) (iv : Value) (wr : World) : Prop :=
  ∃ i : Nat, iv = .int .i64 i ∧ i ≤ (N.linked a).length ∧ IsNet wr b { N with ls := N.less a ((N.linked a).take i) } S ∧ Keeps S w wr
/-- before each round of the last loop: so many monitors were struck -/
def EndC (w : World) (b : Nat) (N : NM) (S : Nat → Prop) (a : Int) (l : List Int) (iv : Value) (wr : World) : Prop :=
  ∃ i : Nat, iv = .int .i64 i ∧ i ≤ l.length ∧ IsNet wr b { N with ls := N.less a (N.linked a), ws := N.lessW (l.take i) } S ∧ Keeps S w wr
def EndPost (w : World) (b : Nat) (N : NM) (S : Nat → Prop) (a : Int) (e : Ending) (w' : World) : Prop :=
  ∃ lv rv, e = .returned (.tuple #[lv, rv]) ∧ Row w' 2 1 lv (N.linked a).length (longs (N.linked a)) ∧ Row w' 2 1 rv (N.watchers a).length (longs (N.watchers a)) ∧ IsNet w' b (N.ended a) S ∧ Keeps S w w' ∧
    (∀ g, lv.ownBlock = some g → w.heap.size ≤ g) ∧ ∀ g, rv.ownBlock = some g → w.heap.size ≤ g
theorem take_one {l : List Int} {i : Nat} {x : Int} (h : l[i]? = some x) : l.take (i + 1) = l.take i ++ [x] := by rw [List.take_add_one, h]; rfl
theorem longs_get {l : List Int} {i : Nat} {x : Int} (h : l[i]? = some x) : (longs l)[i]? = some (.int .i64 x) := by simp [longs, h]
end Go.Tx
namespace Go.Proofs.Ytkdlhpddcpjpaaa
open Go.RowKit Go.Tx
set_option maxRecDepth 100000 in
set_option maxHeartbeats 1600000 in
theorem end_any {w : World} {b : Nat} {N : NM} {S : Nat → Prop} (h : IsNet w b N S) (hN : N.Ok) (hl1 : N.ls.length ≤ 8796093022208) (hl2 : N.ws.length ≤ 8796093022208) (a : Int) :
    Calls Try.prog 11 #[.pointer (some ⟨b, 0, none⟩), .int .i64 a] w (EndPost w b N S a) := by
  have HN := Lib.hid h
  have HOK := Lib.hid hN
  have HSB : Hid (S b ∧ ∀ x, S x → x < w.heap.size) := Lib.hid (by obtain ⟨_, _, h⟩ := h; exact ⟨h.sb, h.lt⟩)
  have hbs := HSB.out.2 b HSB.out.1
  clear h hN
  go_enter Try.func11, Try.ntmps11
  go_wp2_with (go_at_call 9; refine Stop.out ?_)
  refine ⟨(linked_any HN.out HOK.out hl1 a).mono ?_⟩
  rintro e w1 ⟨lv, rfl, hr1, hn1, hk1, ho1⟩
  obtain ⟨la, lc, rfl, hlc, hlm⟩ := hr1.len
  have HR1 := Lib.hid hr1
  have HN1 := Lib.hid hn1
  have HK1 := Lib.hid hk1
  have HO1 := Lib.hid ho1
  clear hr1 hn1 hk1 ho1
  go_wp2_with (go_at_call 10; refine Stop.out ?_)
  refine ⟨(watchers_any HN1.out hl2 a).mono ?_⟩
  rintro e w2 ⟨rv, rfl, hr2, hn2, hk2, ho2⟩
  obtain ⟨ra, rc, rfl, hrc, hrm⟩ := hr2.len
  have HR2 := Lib.hid hr2
  have HN2 := Lib.hid hn2
  have HK2 : Hid (Keeps (fun _ => False) w w2) := Lib.hid (HK1.out.trans hk2 fun _ _ h => h)
  have HO2 : Hid (∀ g, (Value.slice ra (N.watchers a).length rc).ownBlock = some g → w.heap.size ≤ g) := Lib.hid fun g hg => Nat.le_trans HK1.out.size (ho2 g hg)
  have HR1b : Hid (Row w2 2 1 (.slice la (N.linked a).length lc) (N.linked a).length (longs (N.linked a))) := Lib.hid (HR1.out.keeps hk2 fun _ _ h => h)
  clear hr2 hn2 hk2 ho2
  unfold maxLen at hlm hrm
  go_wp2
  go_loopw [21] (fun iv wr => EndA w2 b N S a iv wr) (fun iv _ => (N.linked a).length - (intOf iv).toNat)
  case atStart => exact ⟨0, rfl, Nat.zero_le _, by rw [List.take_zero, NM.less_nil]; exact HN2.out, Keeps.refl _ _⟩
  case round =>
    obtain ⟨i, rfl, hi, hnet, hk⟩ := hrel
    have HNR := Lib.hid hnet
    have HKR := Lib.hid hk
    have hbr : b < wr.heap.size := by have := HK2.out.size; have := hk.size; omega
    clear hnet hk
    by_cases hil : i < (N.linked a).length
    · obtain ⟨x, hx⟩ : ∃ x, (N.linked a)[i]? = some x := ⟨(N.linked a)[i]'hil, by simp⟩
      obtain ⟨g, lc2, e, _, _⟩ := HR1b.out.form (by omega)
      obtain ⟨rfl, rfl⟩ : la = some ⟨g, 0, none⟩ ∧ lc = lc2 := by cases e; exact ⟨rfl, rfl⟩
      have hgo : w.heap.size ≤ g := HO1.out g rfl
      have hrr := HR1b.out.keeps HKR.out fun z hz hs => by have e2 : g = z := Option.some.inj hz; have := HSB.out.2 _ hs; omega
      have hcx := hrr.cell (longs_get hx)
      have HX := Lib.hid hx
      obtain ⟨lv, wv, hnt⟩ := HNR.out
      obtain ⟨o, rfl⟩ := hnt.ml.form
      have HHo : Hid (∀ W, Keeps (fun _ => False) wr W → W.cell? ⟨b, 0, none⟩ = some (.map o)) := Lib.hid fun W hk => (hnt.keeps hk fun _ _ h => h).blk.cell (i := 0) rfl
      have HML : Hid (∀ W, Keeps (fun _ => False) wr W → MapO pairV W (.map o) (lsKV (N.less a ((N.linked a).take i)))) := Lib.hid fun W hk => (hnt.keeps hk fun _ _ h => h).ml
      have HNo : Hid (∀ W W2, Keeps (fun _ => False) wr W → Keeps (mapB (.map o)) W W2 → MapO pairV W2 (.map o) (lsKV ((N.less a ((N.linked a).take i)).filter fun q => decide (q ≠ pairK a x))) → NetAt W2 b { N with ls := N.less a ((N.linked a).take (i + 1)) } S (.map o) wv ∧ Keeps S wr W2) := Lib.hid fun W W2 k1 k2 hm => ⟨by
          rw [NM.less_snoc, ← take_one HX.out] at hm
          exact (hnt.keeps k1 fun _ _ h => h).turnL k2 hm, (k1.mono fun _ _ h => h.elim).trans k2 fun z _ hz => hnt.sl z hz⟩
      clear hnt hrr e hx
      go_wp2
      refine wp_region_held_text (fun W => W.cell? ⟨b, 0, none⟩ = some (.map o)) [3] (by kernel_rfl) (by kernel_rfl) (HHo.out _ (by repeat (first | with_reducible exact Keeps.refl _ _ | with_reducible exact HKk.out | with_reducible apply Keeps.drew | with_reducible apply Keeps.alloc))) ?_
      go_wp2_with (first | (refine wpH_load rfl _ _ rfl _ rfl rfl _ _ rfl (fun _ h => h) (by first | exact HH3.out | exact HHo.out _ (by repeat (first | with_reducible exact Keeps.refl _ _ | with_reducible exact HKk.out | with_reducible apply Keeps.drew | with_reducible apply Keeps.alloc))) ?_) | (refine wpH_walk rfl rfl ?_) | (refine held_fin (by first | exact HH3.out | exact HHo.out _ (by repeat (first | with_reducible exact Keeps.refl _ _ | with_reducible exact HKk.out | with_reducible apply Keeps.drew | with_reducible apply Keeps.alloc))) ?_) | (refine wpH_nil ?_) | (with_reducible refine text_fin (by kernel_rfl) ?_) | (go_at_call 17; refine (key_any a x _).mono ?_; rintro e wk ⟨rfl, hkk⟩; have HKk : Hid (Keeps (fun _ => False) wr wk) := Lib.hid (Keeps.trans (S := fun _ => False) (T := fun _ => False) (by repeat (first | with_reducible exact Keeps.refl _ _ | with_reducible exact HKk.out | with_reducible apply Keeps.drew | with_reducible apply Keeps.alloc)) hkk fun _ _ h => h); clear hkk) | ((show wpList _ _ _ (⟨_, Op.call ⟨Callee.builtin Builtin.delete, _, _⟩, _, _, _, _⟩ :: _) _ _); go_must (refine wpList_delete_o rfl _ _ 24 47 rfl 47 2 keyPair Try.underlying24 (.map o) rfl (HML.out _ (by repeat (first | with_reducible exact Keeps.refl _ _ | with_reducible exact HKk.out | with_reducible apply Keeps.drew | with_reducible apply Keeps.alloc))) (pairK a x) rfl ?_); intro w3 hm3 hk3 hs3; rw [kvDel_ls] at hm3; have HN3 := Lib.hid (HNo.out _ _ (by repeat (first | with_reducible exact Keeps.refl _ _ | with_reducible exact HKk.out | with_reducible apply Keeps.drew | with_reducible apply Keeps.alloc)) hk3 hm3); have HH3 : Hid (w3.cell? ⟨b, 0, none⟩ = some (.map o)) := Lib.hid (HN3.out.1.blk.cell (i := 0) rfl); clear hm3 hk3 hs3))
      go_roundw
      case rel => exact ⟨i + 1, by go_num, by omega, ⟨_, _, HN3.out.1⟩, HKR.out.trans HN3.out.2 fun _ _ h => h⟩
      case measure => simp [intOf]; omega
    · obtain rfl : i = (N.linked a).length := by omega
      have HNR2 : Hid (IsNet wr b { N with ls := N.less a (N.linked a) } S) := Lib.hid (by have := HNR.out; rwa [List.take_length] at this)
      have HKW : Hid (Keeps S w wr) := Lib.hid ((HK2.out.mono (T := S) fun _ _ h => h.elim).trans HKR.out fun _ _ h => h)
      have HRL : Hid (Row wr 2 1 (.slice la (N.linked a).length lc) (N.linked a).length (longs (N.linked a))) := Lib.hid (HR1b.out.keeps HKR.out fun z hz hs => by have := HO1.out z hz; have := HSB.out.2 _ hs; omega)
      have HRR : Hid (Row wr 2 1 (.slice ra (N.watchers a).length rc) (N.watchers a).length (longs (N.watchers a))) := Lib.hid (HR2.out.keeps HKR.out fun z hz hs => by have := HO2.out z hz; have := HSB.out.2 _ hs; omega)
      clear hi hil
      obtain ⟨wo, hwo⟩ : ∃ wo : World, wo = wr := ⟨_, rfl⟩
      subst hwo
      obtain ⟨lv, wv, hnt⟩ := HNR2.out
      obtain ⟨o, rfl⟩ := hnt.mw.form
      have c1 : wo.cell? ⟨b, 1, none⟩ = some (.map o) := hnt.blk.cell (i := 1) rfl
      have HNT := Lib.hid hnt
      have HM := Lib.hid hnt.mw
      obtain ⟨F, hF⟩ : ∃ F : Int × Value → Option Int, F = fun p => match p.2 with | .agg ⟨[.int _ q, .int _ m]⟩ => if q = a ∨ m = a then some p.1 else none | _ => none := ⟨_, rfl⟩
      have HF : Hid (∀ r x y, F (r, .agg #[.int .i64 x, .int .i64 y]) = if x = a ∨ y = a then some r else none) := Lib.hid fun r x y => by rw [hF]
      have HW : Hid ((wsKV N.ws).filterMap F = N.ws.filterMap (NM.part a)) := Lib.hid (by
        unfold wsKV
        rw [List.filterMap_map]
        congr 1
        funext t
        rw [hF]
        rfl)
      have HB : Hid (∀ p ∈ wsKV N.ws, ∃ r x y, p = (r, .agg #[.int .i64 x, .int .i64 y])) := Lib.hid fun p hp => by
        obtain ⟨t, _, rfl⟩ := List.mem_map.1 hp
        exact ⟨_, _, _, rfl⟩
      have HL : Hid ((wsKV N.ws).length ≤ 8796093022208) := Lib.hid (by rw [wsKV_length]; exact hl2)
      clear hnt hF
      go_wp2_with (at_range; refine Stop.out ?_)
      refine ⟨?_⟩
      refine wpList_range_o rfl _ 25 rfl 2 51 Try.underlying25 (.map o) rfl HM.out ?_
      intro w5 hi5 hk5 hs5
      have HI := Lib.hid hi5
      have HK := Lib.hid hk5
      have HS := Lib.hid hs5
      clear hi5 hk5 hs5
      go_simp
      go_wp2
      go_loopg [8] (wsKV N.ws).length (fun k lv wr => CollAt longKey F wo (.map o) (wsKV N.ws) k lv wr)
      case atStart => exact ⟨_, [], rfl, HI.out, World.ownsRow_nil _ _ _ _, by simp, fun _ h => h, HK.out, by rw [HS.out]; omega, fun g hg => by simp [Value.ownBlock] at hg⟩
      case round =>
        obtain ⟨left, acc, rfl, hit, hr, hperm, hsub, hkp, hsz, hown⟩ := hrel
        have HIt := Lib.hid hit
        have HR := Lib.hid hr
        have HP := Lib.hid hperm
        have HKp := Lib.hid hkp
        have HO := Lib.hid hown
        have HSub := Lib.hid hsub
        have HSz := Lib.hid hsz
        clear hit hr hperm hkp hown hsub hsz
        go_wp2_with (at_next; refine Stop.out ?_)
        refine ⟨?_⟩
        refine wpList_next_o rfl _ rfl wo.heap.size (.map o) rfl HIt.out ?_ ?_
        · intro hl
          subst hl
          have hp : acc.Perm (N.ws.filterMap (NM.part a)) := by
            have := HP.out
            rw [HW.out] at this
            simpa using this
          have HPP := Lib.hid hp
          obtain ⟨ga, gc, hu8, hgc, hgm⟩ := HR.out.len
          have hr8 := HR.out
          have ho8 := HO.out
          rw [hu8] at hr8 ho8
          have HR8 := Lib.hid hr8
          have HO8 := Lib.hid ho8
          have hal : acc.length ≤ 8796093022208 := by
            have h1 := hp.length_eq
            have h2 := List.length_filterMap_le (NM.part a) N.ws
            omega
          have hwl : w.heap.size ≤ wo.heap.size := HKW.out.size
          have HNX : Hid (IsNet wr b { N with ls := N.less a (N.linked a) } S) := Lib.hid (IsNet.keeps ⟨_, _, HNT.out⟩ HKp.out fun _ _ h => h)
          unfold maxLen at hgm
          rw [hu8]
          clear hp hr8 ho8 hu8
          obtain ⟨wc, hwc⟩ : ∃ wc : World, wc = wr := ⟨_, rfl⟩
          subst hwc
          go_wp2
          go_loopw [59] (fun iv wr => EndC wc b N S a acc iv wr) (fun iv _ => acc.length - (intOf iv).toNat)
          case atStart => exact ⟨0, rfl, Nat.zero_le _, by rw [List.take_zero, NM.lessW_nil]; exact HNX.out, Keeps.refl _ _⟩
          case round =>
            obtain ⟨i, rfl, hi, hnet, hk⟩ := hrel
            have HKR2 := Lib.hid hk
            have hbr2 : b < wr.heap.size := by have := HKp.out.size; have := hk.size; omega
            by_cases hil : i < acc.length
            · obtain ⟨x, hx⟩ : ∃ x, acc[i]? = some x := ⟨acc[i]'hil, by simp⟩
              obtain ⟨g, gc2, e, _, _⟩ := HR8.out.form (by omega)
              obtain ⟨rfl, rfl⟩ : ga = some ⟨g, 0, none⟩ ∧ gc = gc2 := by cases e; exact ⟨rfl, rfl⟩
              have hgo : wo.heap.size < g := HO8.out g rfl
              have hrr := HR8.out.keeps hk fun z hz hs => by have e2 : g = z := Option.some.inj hz; have := HSB.out.2 _ hs; omega
              have hcx := hrr.cell (longs_get hx)
              have HX := Lib.hid hx
              obtain ⟨lv2, wv2, hnt2⟩ := hnet
              obtain ⟨o2, rfl⟩ := hnt2.mw.form
              have d1 : wr.cell? ⟨b, 1, none⟩ = some (.map o2) := hnt2.blk.cell (i := 1) rfl
              have HNT2 := Lib.hid hnt2
              clear hnt2 hrr e hx hk
              go_wp2_with ((show wpList _ _ _ (⟨_, Op.call ⟨Callee.builtin Builtin.delete, _, _⟩, _, _, _, _⟩ :: _) _ _); refine Stop.out ?_)
              refine ⟨?_⟩
              refine wpList_delete_o rfl _ _ 25 2 rfl 2 51 keyLong Try.underlying25 (.map o2) rfl HNT2.out.mw x rfl ?_
              intro w7 hm7 hk7 hs7
              rw [kvDel_ws, NM.lessW_snoc, ← take_one HX.out] at hm7
              have HN7 := Lib.hid (HNT2.out.turnW hk7 hm7)
              have HK7 : Hid (Keeps S wc w7) := Lib.hid (HKR2.out.trans hk7 fun z _ hz => HNT2.out.sw z hz)
              clear hm7 hk7 hs7 hcx d1
              go_wp2
              go_roundw
              case rel => exact ⟨i + 1, by go_num, by omega, ⟨_, _, HN7.out⟩, HK7.out⟩
              case measure => simp [intOf]; omega
            · obtain rfl : i = acc.length := by omega
              have hfin : IsNet wr b (N.ended a) S := by
                have h1 := hnet
                rw [List.take_length] at h1
                unfold NM.ended
                rw [← NM.less_all HOK.out, ← NM.lessW_all HOK.out a HPP.out]
                exact h1
              have hkw : Keeps S w wr := (HKW.out.trans (HKp.out.mono (T := S) fun _ _ h => h.elim) fun _ _ h => h).trans hk fun _ _ h => h
              have HFin : Hid (EndPost w b N S a (.returned (.tuple #[.slice la (N.linked a).length lc, .slice ra (N.watchers a).length rc])) wr) := Lib.hid ⟨_, _, rfl,
                (HRL.out.keeps HKp.out fun _ _ h => h).keeps hk fun z hz hs => by have := HO1.out z hz; have := HSB.out.2 _ hs; omega,
                (HRR.out.keeps HKp.out fun _ _ h => h).keeps hk fun z hz hs => by have := HO2.out z hz; have := HSB.out.2 _ hs; omega, hfin, hkw, HO1.out, HO2.out⟩
              clear hnet hk hfin hkw hi hil
              go_wp2
              go_ret2
              exact HFin.out
        · intro j p w6 hj hi2 hk2 hs2 hen
          obtain ⟨r, x, y, rfl⟩ := HB.out p (HSub.out p (List.mem_of_getElem? hj))
          have HJ := Lib.hid hj
          have HI2 := Lib.hid hi2
          have HEN := Lib.hid hen
          have hsz2 : wo.heap.size < w6.heap.size := by rw [hs2]; exact HSz.out
          have HK6 : Hid (Keeps (fun _ => False) wo w6) := Lib.hid (HKp.out.trans hk2 fun g hg e => by omega)
          have HR6 : Hid (Row w6 2 1 u8 acc.length (longs acc)) := Lib.hid (HR.out.keeps hk2 fun g hg e => by have := HO.out g hg; omega)
          clear hj hi2 hk2 hs2 hen
          have hfx := HF.out r x y
          by_cases hx1 : x = a
          · subst hx1
            rw [if_pos (.inl rfl)] at hfx
            have HFX := Lib.hid hfx
            have hal := coll_len HJ.out hfx HP.out
            have hal2 := HL.out
            clear hfx
            go_wp2_with (first | (show wpList _ _ _ (⟨_, Op.entry _, _, _, _, _⟩ :: _) _ _; refine wpList_entry_kv rfl _ rfl wo.heap.size (r, .agg #[.int .i64 x, .int .i64 y]) rfl HEN.out ?_; simp only [longKey]) | (at_builtin; go_must (refine wpList_append_row _ rfl _ _ 33 33 rfl 2 (.slice 2) 1 8 (.int .i64 0) info_i64 Try.underlying33 Try.underlying33 (by intro k h; cases h) rfl u8 acc.length (longs acc) rfl (HR6.out.keeps (S := fun _ => False) (by repeat (first | with_reducible exact Keeps.refl _ _ | with_reducible exact HKk.out | with_reducible apply Keeps.drew | with_reducible apply Keeps.alloc)) (fun _ _ h => h)) _ 1 [.int .i64 r] rfl rfl (lenOf_slice _ _ _) (firstCells_at _ rfl (oneAt (World.size_alloc ..).symm)) (by intro u hu; simp at hu; subst hu; rfl) (by unfold maxLen; omega) (by omega) ?_); intro v' w4 ha; obtain ⟨va, vc, rfl, _, _⟩ := ha.row.len; obtain ⟨g1, g2, g3, g4⟩ := rowKeep HK6.out HO.out hsz2 (by repeat (first | with_reducible exact Keeps.refl _ _ | with_reducible exact HKk.out | with_reducible apply Keeps.drew | with_reducible apply Keeps.alloc)) ha; have HIT : Hid (IterO longKey w4 wo.heap.size (.map o) (wsKV N.ws) (left.eraseIdx j)) := Lib.hid (HI2.out.keeps g4 (fun m hm => by have := HM.out.lt hm; omega) (Nat.lt_irrefl _)); have G1 := Lib.hid g1; have G2 := Lib.hid g2; have G3 := Lib.hid g3; have G5 := Lib.hid ha.row; clear g1 g2 g3 g4 ha))
            go_roundg (left.eraseIdx j).length
            case measure => exact erase_len HJ.out
            case rel => exact ⟨left.eraseIdx j, acc ++ [r], rfl, HIT.out, by have := G5.out; rw [longs_snoc] at this; simpa using this, coll_some HJ.out HFX.out HP.out, erase_sub HSub.out, G1.out, G2.out, G3.out⟩
          · by_cases hy1 : y = a
            · subst hy1
              rw [if_pos (.inr rfl)] at hfx
              have HFX := Lib.hid hfx
              have hal := coll_len HJ.out hfx HP.out
              have hal2 := HL.out
              have hx2 : (x == y) = false := by simpa using hx1
              clear hfx
              go_wp2_with (first | (show wpList _ _ _ (⟨_, Op.entry _, _, _, _, _⟩ :: _) _ _; refine wpList_entry_kv rfl _ rfl wo.heap.size (r, .agg #[.int .i64 x, .int .i64 y]) rfl HEN.out ?_; simp only [longKey]) | (at_builtin; go_must (refine wpList_append_row _ rfl _ _ 33 33 rfl 2 (.slice 2) 1 8 (.int .i64 0) info_i64 Try.underlying33 Try.underlying33 (by intro k h; cases h) rfl u8 acc.length (longs acc) rfl (HR6.out.keeps (S := fun _ => False) (by repeat (first | with_reducible exact Keeps.refl _ _ | with_reducible exact HKk.out | with_reducible apply Keeps.drew | with_reducible apply Keeps.alloc)) (fun _ _ h => h)) _ 1 [.int .i64 r] rfl rfl (lenOf_slice _ _ _) (firstCells_at _ rfl (oneAt (World.size_alloc ..).symm)) (by intro u hu; simp at hu; subst hu; rfl) (by unfold maxLen; omega) (by omega) ?_); intro v' w4 ha; obtain ⟨va, vc, rfl, _, _⟩ := ha.row.len; obtain ⟨g1, g2, g3, g4⟩ := rowKeep HK6.out HO.out hsz2 (by repeat (first | with_reducible exact Keeps.refl _ _ | with_reducible exact HKk.out | with_reducible apply Keeps.drew | with_reducible apply Keeps.alloc)) ha; have HIT : Hid (IterO longKey w4 wo.heap.size (.map o) (wsKV N.ws) (left.eraseIdx j)) := Lib.hid (HI2.out.keeps g4 (fun m hm => by have := HM.out.lt hm; omega) (Nat.lt_irrefl _)); have G1 := Lib.hid g1; have G2 := Lib.hid g2; have G3 := Lib.hid g3; have G5 := Lib.hid ha.row; clear g1 g2 g3 g4 ha))
              go_roundg (left.eraseIdx j).length
              case measure => exact erase_len HJ.out
              case rel => exact ⟨left.eraseIdx j, acc ++ [r], rfl, HIT.out, by have := G5.out; rw [longs_snoc] at this; simpa using this, coll_some HJ.out HFX.out HP.out, erase_sub HSub.out, G1.out, G2.out, G3.out⟩
            · rw [if_neg (fun h => h.elim hx1 hy1)] at hfx
              have HFX := Lib.hid hfx
              have hx2 : (x == a) = false := by simpa using hx1
              have hy2 : (y == a) = false := by simpa using hy1
              clear hfx
              go_wp2_with (show wpList _ _ _ (⟨_, Op.entry _, _, _, _, _⟩ :: _) _ _; refine wpList_entry_kv rfl _ rfl wo.heap.size (r, .agg #[.int .i64 x, .int .i64 y]) rfl HEN.out ?_; simp only [longKey])
              go_roundg (left.eraseIdx j).length
              case measure => exact erase_len HJ.out
              case rel => exact ⟨left.eraseIdx j, acc, rfl, HI2.out.keeps (S := fun _ => False) (by repeat (first | with_reducible exact Keeps.refl _ _ | with_reducible exact HKk.out | with_reducible apply Keeps.drew | with_reducible apply Keeps.alloc)) (fun _ _ h => h) (fun h => h), HR6.out.keeps (S := fun _ => False) (by repeat (first | with_reducible exact Keeps.refl _ _ | with_reducible exact HKk.out | with_reducible apply Keeps.drew | with_reducible apply Keeps.alloc)) (fun _ _ h => h), coll_none HJ.out HFX.out HP.out, erase_sub HSub.out, HK6.out.trans (T := fun _ => False) (by repeat (first | with_reducible exact Keeps.refl _ _ | with_reducible exact HKk.out | with_reducible apply Keeps.drew | with_reducible apply Keeps.alloc)) (fun _ _ h => h), by simp; omega, HO.out⟩
end Go.Proofs.Ytkdlhpddcpjpaaa

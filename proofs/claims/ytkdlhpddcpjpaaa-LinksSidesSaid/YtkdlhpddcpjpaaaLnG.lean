/-
  The laws of links: what they share: lists of numbers, the document's example.
-/
import Derived.Test.YtkdlhpddcpjpaaaLnF
namespace Go.Tx
open Go Go.RowKit
/-- a block of cells as a row -/
theorem Blk.row {w : World} {b : Nat} {T : TypeId} {xs : List Value} (h : Blk w b T xs) (hm : xs.length ≤ maxLen) : Row w T 1 (.slice (some ⟨b, 0, none⟩) xs.length xs.length) xs.length xs := by
  refine ⟨by simp, .inr ⟨b, xs.length, xs.toArray, rfl, Nat.zero_le _, h, Nat.le_refl _, hm, by simp, by simp⟩⟩
/-- a call that has turned the blocks of S alone, all of them new since w -/
theorem net_step {w wk w' : World} {b : Nat} {N : NM} {S : Nat → Prop} (K : Keeps (fun _ => False) w wk) (hS : ∀ x, S x → w.heap.size ≤ x) (h : IsNet w' b N (ExtN S wk w')) (k : Keeps S wk w') :
    (∀ x, ExtN S wk w' x → w.heap.size ≤ x) ∧ Keeps (fun _ => False) w w' :=
  ⟨fun x hx => hx.elim (hS x) fun hx => Nat.le_trans K.size hx.1, K.trans k fun x hx hs => by have := hS x hs; omega⟩
def LongsAt (w : World) (la lb : List Int) (n : Nat) (v : Value) (wr : World) : Prop :=
  ∃ i : Nat, v = .int .i64 i ∧ i ≤ n ∧ la.take i = lb.take i ∧ Keeps (fun _ => False) w wr
def HasAt (l : List Int) (x : Int) (n : Nat) (v : Value) : Prop := ∃ i : Nat, v = .int .i64 i ∧ i ≤ n ∧ x ∉ l.take i
end Go.Tx
namespace Go.Proofs.Ytkdlhpddcpjpaaa
open Go.RowKit Go.Tx
set_option maxRecDepth 100000 in
set_option maxHeartbeats 400000 in
theorem sameLongs_any {w : World} {x y : Value} {la lb : List Int} {n m : Nat} (hx : Row w 2 1 x n (longs la)) (hy : Row w 2 1 y m (longs lb)) :
    Calls Try.prog 12 #[x, y] w fun e w' => e = .returned (.bool (decide (la = lb))) ∧ Keeps (fun _ => False) w w' := by
  obtain ⟨a, c, rfl, hc, hmc⟩ := hx.len
  obtain ⟨a', c', rfl, hc', hmc'⟩ := hy.len
  have hn : la.length = n := by have := hx.1; simpa [longs] using this
  have hm : lb.length = m := by have := hy.1; simpa [longs] using this
  have HX := Lib.hid hx
  have HY := Lib.hid hy
  have HN := Lib.hid hn
  have HM := Lib.hid hm
  unfold maxLen at hmc hmc'
  clear hx hy hn hm
  by_cases hlen : n = m
  · subst hlen
    go_enter Try.func12, Try.ntmps12
    go_wp2
    go_loopw [5] (fun v wr => LongsAt w la lb n v wr) (fun v _ => n - (intOf v).toNat)
    case atStart => exact ⟨0, rfl, Nat.zero_le _, by simp, Keeps.refl _ _⟩
    case round =>
      obtain ⟨i, rfl, hi, ht, hk⟩ := hrel
      have HT := Lib.hid ht
      have HK := Lib.hid hk
      clear ht
      by_cases hil : i < n
      · obtain ⟨t, hti⟩ : ∃ t, la[i]? = some t := ⟨la[i]'(by rw [HN.out]; exact hil), by simp⟩
        obtain ⟨u, hui⟩ : ∃ t, lb[i]? = some t := ⟨lb[i]'(by rw [HM.out]; exact hil), by simp⟩
        obtain ⟨g, c1, e1, _, _⟩ := HX.out.form (by omega)
        obtain ⟨g', c2, e2, _, _⟩ := HY.out.form (by omega)
        obtain ⟨rfl, rfl⟩ : a = some ⟨g, 0, none⟩ ∧ c = c1 := by cases e1; exact ⟨rfl, rfl⟩
        obtain ⟨rfl, rfl⟩ : a' = some ⟨g', 0, none⟩ ∧ c' = c2 := by cases e2; exact ⟨rfl, rfl⟩
        have x0 := (HX.out.keeps hk (fun _ _ h => h)).cell (longs_get hti)
        have y0 := (HY.out.keeps hk (fun _ _ h => h)).cell (longs_get hui)
        have HTI := Lib.hid hti
        have HUI := Lib.hid hui
        clear e1 e2 hk hti hui
        by_cases htu : t = u
        · subst htu
          go_wp2_with (first | (with_reducible refine wp_region_text (by kernel_rfl) (by kernel_rfl) ?_) | (with_reducible refine text_fin (by kernel_rfl) ?_))
          go_roundw
          case rel =>
            refine ⟨i + 1, by go_num, by omega, ?_, HK.out.drew⟩
            rw [List.take_add_one, List.take_add_one, HT.out, HTI.out, HUI.out]
          case measure => simp [intOf]; omega
        · have hne : ¬ (la = lb) := fun he => by
            have e1 := HTI.out; rw [he, HUI.out] at e1
            exact htu (Option.some.inj e1).symm
          have HNE := Lib.hid hne
          clear hne
          go_wp2_with (first | (with_reducible refine wp_region_text (by kernel_rfl) (by kernel_rfl) ?_) | (with_reducible refine text_fin (by kernel_rfl) ?_))
          go_ret
          exact ⟨by rw [decide_eq_false HNE.out]; rfl, HK.out.drew⟩
      · have he : la = lb := by
          have h1 := HT.out
          rw [List.take_of_length_le (by rw [HN.out]; omega), List.take_of_length_le (by rw [HM.out]; omega)] at h1
          exact h1
        have HE := Lib.hid he
        clear he
        go_wp2
        go_ret
        exact ⟨by rw [decide_eq_true HE.out]; rfl, HK.out⟩
  · go_enter Try.func12, Try.ntmps12
    go_wp2
    have hne : ¬ (la = lb) := fun he => hlen (by rw [← HN.out, ← HM.out, he])
    go_ret
    exact ⟨by rw [decide_eq_false hne]; rfl, Keeps.refl _ _⟩
set_option maxRecDepth 100000 in
theorem has_any {w : World} {x : Value} {l : List Int} {n : Nat} (hx : Row w 2 1 x n (longs l)) (v : Int) :
    Calls Try.prog 8 #[x, .int .i64 v] w fun e w' => e = .returned (.bool (decide (v ∈ l))) ∧ w = w' := by
  obtain ⟨a, c, rfl, hc, hmc⟩ := hx.len
  have hn : l.length = n := by have := hx.1; simpa [longs] using this
  have HX := Lib.hid hx
  have HN := Lib.hid hn
  unfold maxLen at hmc
  clear hx hn
  go_enter Try.func8, Try.ntmps8
  go_wp2
  go_loop [5] (fun iv => HasAt l v n iv) (fun iv => n - (intOf iv).toNat)
  case atStart => exact ⟨0, rfl, Nat.zero_le _, by simp⟩
  case round =>
    obtain ⟨i, rfl, hi, ht⟩ := hrel
    have HT := Lib.hid ht
    clear ht
    by_cases hil : i < n
    · obtain ⟨t, hti⟩ : ∃ t, l[i]? = some t := ⟨l[i]'(by rw [HN.out]; exact hil), by simp⟩
      obtain ⟨g, c1, e1, _, _⟩ := HX.out.form (by omega)
      obtain ⟨rfl, rfl⟩ : a = some ⟨g, 0, none⟩ ∧ c = c1 := by cases e1; exact ⟨rfl, rfl⟩
      have x0 := HX.out.cell (longs_get hti)
      have HTI := Lib.hid hti
      clear e1 hti
      by_cases htv : t = v
      · subst htv
        have HM : Hid (t ∈ l) := Lib.hid (List.mem_of_getElem? HTI.out)
        go_wp2
        go_ret
        exact ⟨by rw [decide_eq_true HM.out]; rfl, rfl⟩
      · go_wp2
        go_round
        case rel =>
          refine ⟨i + 1, by go_num, by omega, ?_⟩
          rw [List.take_add_one, HTI.out]
          simp only [Option.toList_some, List.mem_append, List.mem_singleton, not_or]
          exact ⟨HT.out, fun e => htv e.symm⟩
        case measure => simp [intOf]; omega
    · have hnm : v ∉ l := by
        have h1 := HT.out
        rw [List.take_of_length_le (by rw [HN.out]; omega)] at h1
        exact h1
      have HNM := Lib.hid hnm
      clear hnm
      go_wp2
      go_ret
      exact ⟨by rw [decide_eq_false HNM.out]; rfl, rfl⟩

/-- the document's example -/
def exN : NM := ((NM.new.link 1 2).link 2 1).monitor 3 1
theorem ex_one : NM.new.fits 1 2 = true := by decide
theorem ex_two : (NM.new.link 1 2).fits 2 1 = false := by decide
theorem ex_linked : exN.linked 1 = [2] := sortI_eq (by rw [show exN.ls.filterMap (NM.other 1) = [2] by decide]) (by simp)
theorem ex_watchers : exN.watchers 1 = [0] := sortI_eq (by rw [show exN.ws.filterMap (NM.seen 1) = [0] by decide]) (by simp)
set_option maxRecDepth 100000 in
set_option maxHeartbeats 800000 in
theorem awake_any (w : World) : Calls Try.prog 14 #[] w fun e w' => e = .returned (.bool true) ∧ Keeps (fun _ => False) w w' := by
  have K0 : Hid (Keeps (fun _ => False) w (w.alloc (.cells #[.map none, .map none, .int .i64 0] 27))) := Lib.hid ((Keeps.refl _ w).alloc _)
  have G0 := Lib.hid (net_new w)
  have S0 : Hid (∀ x, Fresh w (w.alloc (.cells #[.map none, .map none, .int .i64 0] 27)) x → w.heap.size ≤ x) := Lib.hid fun x hx => hx.1
  go_enter Try.func14, Try.ntmps14
  go_wp2_with (go_at_call 5; refine Stop.out ?_)
  refine ⟨(link_yes G0.out 1 2 ex_one).mono ?_⟩
  rintro e w1 ⟨rfl, h1, k1⟩
  obtain ⟨s1, k1'⟩ := net_step K0.out S0.out h1 k1
  have G1 := Lib.hid h1
  have K1 := Lib.hid k1'
  have S1 := Lib.hid s1
  clear h1 k1 s1 k1'
  go_wp2_with (go_at_call 5; refine Stop.out ?_)
  refine ⟨(link_no G1.out 2 1 ex_two).mono ?_⟩
  rintro e w2 ⟨rfl, h1, k1⟩
  obtain ⟨s1, k1'⟩ := net_step K1.out S1.out h1 k1
  have G2 := Lib.hid h1
  have K2 := Lib.hid k1'
  have S2 := Lib.hid s1
  clear h1 k1 s1 k1'
  go_wp2_with (go_at_call 7; refine Stop.out ?_)
  refine ⟨(monitor_any G2.out (NM.link_ok (NM.link_ok NM.new_ok 1 2) 2 1) (by decide) 3 1).mono ?_⟩
  rintro e w3 ⟨rfl, h1, k1⟩
  obtain ⟨s1, k1'⟩ := net_step K2.out S2.out h1 k1
  have G3 : Hid (IsNet w3 w.heap.size exN _) := Lib.hid h1
  have K3 := Lib.hid k1'
  have S3 := Lib.hid s1
  rw [show (((NM.new.link 1 2).link 2 1).next : Int) = 0 by decide]
  clear h1 k1 s1 k1'
  go_wp2_with (go_at_call 11; refine Stop.out ?_)
  refine ⟨(end_any G3.out (NM.monitor_ok (NM.link_ok (NM.link_ok NM.new_ok 1 2) 2 1) 3 1) (by decide) (by decide) 1).mono ?_⟩
  rintro e w4 ⟨lv, rv, rfl, hl, hr, hn, hk, ho1, ho2⟩
  rw [ex_linked] at hl
  rw [ex_watchers] at hr
  have HL := Lib.hid hl
  have HR := Lib.hid hr
  have K4 : Hid (Keeps (fun _ => False) w w4) := Lib.hid (K3.out.trans hk fun x hx hs => by have := S3.out x hs; omega)
  obtain ⟨la, lc, rfl, _, _⟩ := hl.len
  obtain ⟨ra, rc, rfl, _, _⟩ := hr.len
  clear hl hr hn hk ho1 ho2
  go_wp2_with (go_at_call 12; refine Stop.out ?_)
  refine ⟨(sameLongs_any (HL.out.keeps (S := fun _ => False) (by repeat (first | with_reducible exact Keeps.refl _ _ | with_reducible apply Keeps.drew | with_reducible apply Keeps.alloc)) (fun _ _ h => h)) (Blk.row (xs := longs [2]) (Blk.new w4 [.int .i64 2] 2) (by decide))).mono ?_⟩
  rintro e w5 ⟨rfl, hk5⟩
  have K5 : Hid (Keeps (fun _ => False) w4 w5) := Lib.hid (Keeps.trans (S := fun _ => False) (T := fun _ => False) (by repeat (first | with_reducible exact Keeps.refl _ _ | with_reducible apply Keeps.drew | with_reducible apply Keeps.alloc)) hk5 fun _ _ h => h)
  clear hk5
  rw [show decide (([2] : List Int) = [2]) = true from rfl]
  go_wp2_with (go_at_call 12; refine Stop.out ?_)
  refine ⟨(sameLongs_any ((HR.out.keeps K5.out fun _ _ h => h).keeps (S := fun _ => False) (by repeat (first | with_reducible exact Keeps.refl _ _ | with_reducible apply Keeps.drew | with_reducible apply Keeps.alloc)) (fun _ _ h => h)) (Blk.row (xs := longs [0]) (Blk.new w5 [.int .i64 0] 2) (by decide))).mono ?_⟩
  rintro e w6 ⟨rfl, hk6⟩
  have K6 : Hid (Keeps (fun _ => False) w5 w6) := Lib.hid (Keeps.trans (S := fun _ => False) (T := fun _ => False) (by repeat (first | with_reducible exact Keeps.refl _ _ | with_reducible apply Keeps.drew | with_reducible apply Keeps.alloc)) hk6 fun _ _ h => h)
  clear hk6
  rw [show decide (([0] : List Int) = [0]) = true from rfl]
  go_wp2
  go_ret
  exact ⟨rfl, (K4.out.trans K5.out fun _ _ h => h).trans K6.out fun _ _ h => h⟩
end Go.Proofs.Ytkdlhpddcpjpaaa

/-
  The law ArenaApart: what the Go code does.
-/
import Derived.Test.YtacedeaopgbdhaaArRs
import Derived.Test.YtacedeaopgbdhaaArApP
import Derived.Deep.CutBlock
import Derived.Deep.DeepCutAuto
import Derived.Deep.Light
namespace Go.Tx
open Go Go.RowKit
/-- marks are small -/
def MarksB (T : List Trip) : Prop := ∀ t ∈ T, t.2.2 ≤ 104857600
def ApartAt (w : World) (b len : Nat) (nv lv mv iv : Value) (wr : World) : Prop :=
  ∃ (i : Nat) (A : AM) (S : Nat → Prop) (T : List Trip), iv = .int .i64 i ∧ i ≤ len ∧ i ≤ 100 ∧ A.Kept T ∧ T.length ≤ i ∧ MarksB T ∧ ArW w b A S wr ∧ RowsT w S nv lv mv T wr
/-- behind the loop -/
def ApartEnd (w : World) (b : Nat) (nv lv mv : Value) (wr : World) : Prop :=
  ∃ (A : AM) (S : Nat → Prop) (T : List Trip), A.Kept T ∧ T.length ≤ 100 ∧ MarksB T ∧ ArW w b A S wr ∧ RowsT w S nv lv mv T wr
def SetAt (w : World) (b : Nat) (nv lv mv : Value) (T : List Trip) (q n m : Nat) (kv : Value) (wr : World) : Prop :=
  ∃ (k : Nat) (A : AM) (S : Nat → Prop), kv = .int .i64 k ∧ k ≤ n ∧ A.Setting T q n m k ∧ ArW w b A S wr ∧ RowsT w S nv lv mv T wr
/-- reading them all -/
def TellAt (w : World) (b : Nat) (A : AM) (S : Nat → Prop) (nv lv mv : Value) (T : List Trip) (n : Nat) (iv : Value) (wr : World) : Prop :=
  ∃ i : Nat, iv = .int .i64 i ∧ i ≤ n ∧ ArW w b A S wr ∧ RowsT w S nv lv mv T wr
theorem RowsT.cells {w wr : World} {S : Nat → Prop} {g lg mg n nc lc mc : Nat} {T : List Trip} (h : RowsT w S (.slice (some ⟨g, 0, none⟩) n nc) (.slice (some ⟨lg, 0, none⟩) n lc) (.slice (some ⟨mg, 0, none⟩) n mc) T wr) (hn : n = T.length) {i : Nat} {t : Trip} (ht : T[i]? = some t) :
    wr.cell? ⟨g, i, none⟩ = some (.int .i64 (t.1 : Nat)) ∧ wr.cell? ⟨lg, i, none⟩ = some (.int .i64 (t.2.1 : Nat)) ∧ wr.cell? ⟨mg, i, none⟩ = some (.int .u64 (t.2.2 : Nat)) := by
  subst hn
  exact ⟨h.n.cell (ints_nth (by simp [ht])), h.l.cell (ints_nth (by simp [ht])), h.m.cell (by simp [u64n, ht])⟩
end Go.Tx
namespace Go.Proofs.Ytacedeaopgbdhaa
open Go.RowKit Go.Tx
set_option maxRecDepth 100000 in
set_option maxHeartbeats 1600000 in
theorem apart_any (w : World) (a0 : Option Addr) (len0 cap0 : Nat) (zs : Nat → Int) (hm0 : len0 ≤ maxLen)
    (hcell0 : ∀ i, i < len0 → ∃ ad, a0 = some ad ∧ ad.block < w.heap.size ∧ w.cell? (ad.add i) = some (.int .i64 (zs i)) ∧ -9223372036854775808 ≤ zs i ∧ zs i ≤ 9223372036854775807)
    (a1 : Option Addr) (len1 cap1 : Nat) (ys : Nat → Int) (hm1 : len1 ≤ maxLen)
    (hcell1 : ∀ i, i < len1 → ∃ ad, a1 = some ad ∧ ad.block < w.heap.size ∧ w.cell? (ad.add i) = some (.int .i64 (ys i)) ∧ -9223372036854775808 ≤ ys i ∧ ys i ≤ 9223372036854775807) :
    Calls Try.prog 7 #[.slice a0 len0 cap0, .slice a1 len1 cap1] w fun e w' => e = .returned (.bool true) ∧ Keeps (fun _ => False) w w' := by
  unfold maxLen at hm0 hm1
  have HC0 := Lib.hid hcell0
  have HC1 := Lib.hid hcell1
  clear hcell0 hcell1
  go_enter Try.func7, Try.ntmps7
  go_upto_block 0 with (first | (go_at_call 10; refine (new_any 4000 4000 (by decide) (by decide) (by decide) (by decide) _).mono ?_; rintro e w1 ⟨b, rfl, ha, hkk⟩; have G1 : Hid (ArW w b (AM.new 4000 4000) (Fresh w w1) w1) := Lib.hid ⟨ha, fun x hx => hx.1, hkk⟩; clear ha hkk))
  go_cut [7, 8, 9] (fun nv lv mv wc => ApartEnd w b nv lv mv wc)
  case first =>
    go_wp2
    go_loopw [7, 8, 9, 10] (fun nv lv mv iv wr => ApartAt w b len0 nv lv mv iv wr) (fun _ _ _ iv _ => len0 - (intOf iv).toNat)
    case atStart => exact ⟨0, _, _, [], rfl, Nat.zero_le _, by omega, AM.kept_new, Nat.le_refl _, by simp [MarksB], G1.out, rowsT_nil⟩
    case round =>
      clear G1
      obtain ⟨i, A, S, T, rfl, hi, hi2, hA, hTl, hMB, hw, hr⟩ := hrel
      have HA := Lib.hid hA
      have HW := Lib.hid hw
      have HR := Lib.hid hr
      have HMB := Lib.hid hMB
      clear hA hw hr hMB
      by_cases hil : i < len0
      · by_cases hi100 : i < 100
        · obtain ⟨ad, rfl, hb, hc, hz1, hz2⟩ := HC0.out i hil
          have hcr := HW.out.keep.cell hc (fun h => h)
          clear hc
          obtain ⟨n, hn, hn39⟩ : ∃ n : Nat, zs i % 40 = n ∧ n ≤ 39 := ⟨(zs i % 40).toNat, by omega, by omega⟩
          have HN := Lib.hid hn
          clear hn
          go_wp2_with (first | (go_at_call 9; refine (place_any _ 40 (by decide) (by decide) hz1 hz2 _).mono ?_; rintro e w2 ⟨he, rfl⟩; rw [HN.out] at he; subst he) | (go_at_call 11; refine Stop.out ?_))
          refine ⟨(alloc_any HW.out.net HA.out.ok n (by omega)).mono ?_⟩
          intro e w2 hp
          rcases hal : A.alloc n with _ | ⟨q, B⟩
          · obtain ⟨g, rfl, ha, hk⟩ := allocPost_no hp hal
            have HW2 := Lib.hid (HW.out.read hk)
            have HR2 := Lib.hid (HR.out.read hk)
            clear hp hal ha hk
            go_wp2
            go_meet
            exact ⟨A, S, T, HA.out, by omega, HMB.out, HW2.out, HR2.out⟩
          · obtain ⟨rfl, ha, hk⟩ := allocPost_get hp hal
            obtain ⟨m, hm⟩ : ∃ m : Nat, m = (i + 1) * 1048576 := ⟨_, rfl⟩
            have HB := Lib.hid (HA.out.alloc hn39 hal m)
            have HW2 := Lib.hid (HW.out.step ha hk)
            have HR2 := Lib.hid (HR.out.step hk)
            clear hp hal ha hk
            go_wp2
            rw [show ((i : Int) + 1) * 1048576 = (m : Int) from by omega]
            have hmb : m ≤ 104857600 := by omega
            clear hm
            go_loopw [15] (fun kv wr => SetAt w b u7 u8 u9 T q n m kv wr) (fun kv _ => n - (intOf kv).toNat)
            case atStart => exact ⟨0, B, _, rfl, Nat.zero_le _, HB.out, HW2.out, HR2.out⟩
            case round =>
              clear HB HW2 HR2 HA HW HR
              obtain ⟨k, B, S, rfl, hk, hB, hw, hr⟩ := hrel
              have HB := Lib.hid hB
              have HW := Lib.hid hw
              have HR := Lib.hid hr
              clear hB hw hr
              by_cases hkn : k < n
              · go_wp2_with (first | (go_at_call 18; refine Stop.out ?_))
                refine ⟨(set_some HW.out.net HB.out.ok _ _ ((m : Int) + (k : Int)) (cls n) n HB.out.look (by omega) (by omega)).mono ?_⟩
                rintro e w4 ⟨rfl, ha, hkk⟩
                rw [show ((q : Int) + (k : Int)).toNat = q + k from by omega, show (m : Int) + (k : Int) = ((m + k : Nat) : Int) from by omega] at ha
                have HB3 := Lib.hid (HB.out.set hkn)
                have HW3 := Lib.hid (HW.out.same ha hkk)
                have HR3 := Lib.hid (HR.out.same hkk)
                clear ha hkk
                go_wp2
                go_roundw
                case rel => exact ⟨k + 1, _, _, by go_num, by omega, HB3.out, HW3.out, HR3.out⟩
                case measure => simp [intOf]; omega
              · obtain rfl : k = n := by omega
                have HKP := Lib.hid (HB.out.done hn39)
                clear HB hk
                go_wp2_with (at_builtin; refine Stop.out ?_)
                refine ⟨?_⟩
                refine wpList_append_wide _ rfl _ _ 40 40 rfl 3 (.slice 3) 1 8 (.int .i64 0) info_int Try.underlying40 Try.underlying40 (by intro k h; cases h) rfl u7 T.length (ints (T.map (·.1))) rfl (HR.out.n.keeps (S := fun _ => False) (by repeat (first | with_reducible exact Keeps.refl _ _ | with_reducible apply Keeps.drew | with_reducible apply Keeps.alloc)) (fun _ _ h => h)) _ 1 [.int .i64 (q : Nat)] rfl rfl (lenOf_slice _ _ _) (firstCells_at _ rfl (one_newAt rfl)) (by intro u hu; simp at hu; subst hu; rfl) (by unfold maxLen; omega) (by omega) ?_
                intro nv x1 a1
                obtain ⟨y1, r1⟩ := RowsAt.put HW.out HR.out.open a1 (by repeat (first | with_reducible exact Keeps.refl _ _ | with_reducible apply Keeps.drew | with_reducible apply Keeps.alloc)) rfl
                obtain ⟨na, nc, rfl, _, hnm⟩ := a1.row.len
                have HW1 := Lib.hid y1
                have HR1 := Lib.hid (r1.perm swap1)
                clear a1 y1 r1
                go_wp2_with (at_builtin; refine Stop.out ?_)
                refine ⟨?_⟩
                refine wpList_append_wide _ rfl _ _ 40 40 rfl 3 (.slice 3) 1 8 (.int .i64 0) info_int Try.underlying40 Try.underlying40 (by intro k h; cases h) rfl u8 T.length (ints (T.map (·.2.1))) rfl ((HR1.out.rows _ (List.mem_cons_self ..)).keeps (S := fun _ => False) (by repeat (first | with_reducible exact Keeps.refl _ _ | with_reducible apply Keeps.drew | with_reducible apply Keeps.alloc)) (fun _ _ h => h)) _ 1 [.int .i64 (k : Nat)] rfl rfl (lenOf_slice _ _ _) (firstCells_at _ rfl (one_newAt rfl)) (by intro u hu; simp at hu; subst hu; rfl) (by unfold maxLen; omega) (by omega) ?_
                intro lv x2 a2
                obtain ⟨y1, r1⟩ := RowsAt.put HW1.out HR1.out a2 (by repeat (first | with_reducible exact Keeps.refl _ _ | with_reducible apply Keeps.drew | with_reducible apply Keeps.alloc)) rfl
                obtain ⟨la, lc, rfl, _, hlm⟩ := a2.row.len
                have HW2 := Lib.hid y1
                have HR2 := Lib.hid (r1.perm swap2)
                clear a2 y1 r1
                go_wp2_with (at_builtin; refine Stop.out ?_)
                refine ⟨?_⟩
                refine wpList_append_wide _ rfl _ _ 49 49 rfl 41 (.slice 41) 1 8 (.int .u64 0) info_u64 Try.underlying49 Try.underlying49 (by intro k h; cases h) rfl u9 T.length (u64n (T.map (·.2.2))) rfl ((HR2.out.rows _ (List.mem_cons_self ..)).keeps (S := fun _ => False) (by repeat (first | with_reducible exact Keeps.refl _ _ | with_reducible apply Keeps.drew | with_reducible apply Keeps.alloc)) (fun _ _ h => h)) _ 1 [.int .u64 (m : Nat)] rfl rfl (lenOf_slice _ _ _) (firstCells_at _ rfl (one_newAt rfl)) (by intro u hu; simp at hu; subst hu; rfl) (by unfold maxLen; omega) (by omega) ?_
                intro mv x3 a3
                obtain ⟨y1, r1⟩ := RowsAt.put HW2.out HR2.out a3 (by repeat (first | with_reducible exact Keeps.refl _ _ | with_reducible apply Keeps.drew | with_reducible apply Keeps.alloc)) rfl
                obtain ⟨ma, mc, rfl, _, hmm⟩ := a3.row.len
                have HW3 := Lib.hid y1
                have HR3 : Hid (RowsT w S _ _ _ (T ++ [(q, k, m)]) x3) := Lib.hid (rows_close r1 (by simp) (by simp [ints]) (by simp [ints]) (by simp [u64n]))
                have HMB2 : Hid (MarksB (T ++ [(q, k, m)])) := Lib.hid fun t ht => by
                  rcases List.mem_append.1 ht with h1 | h1
                  · exact HMB.out t h1
                  · simp at h1; subst h1; exact hmb
                clear a3 y1 r1 HW1 HR1 HW2 HR2 HW HR HMB
                obtain ⟨T2, hT2⟩ : ∃ T2, T ++ [(q, k, m)] = T2 := ⟨_, rfl⟩
                have hT2l : T.length + 1 = T2.length := by rw [← hT2]; simp
                rw [hT2] at HKP HMB2 HR3
                rw [hT2l]
                rw [hT2l] at HR3
                have hT2i : T2.length ≤ i + 1 := by omega
                have hT20 : 0 < T2.length := by omega
                clear hT2 hT2l hkn
                by_cases hi1 : i < len1
                · obtain ⟨ad1, rfl, hb1, hc1, hy1, hy2⟩ := HC1.out i hi1
                  have hcr1 := HW3.out.keep.cell hc1 (fun h => h)
                  clear hc1
                  by_cases h3 : (ys i).tmod 3 = 0
                  · by_cases ht1 : 1 < T2.length
                    · obtain ⟨j, hj, hjk⟩ : ∃ j : Nat, ys i % (T2.length : Int) = j ∧ j < T2.length := ⟨(ys i % (T2.length : Int)).toNat, by have := Int.emod_nonneg (ys i) (show (T2.length : Int) ≠ 0 by omega); omega, by have := Int.emod_lt_of_pos (ys i) (show (0 : Int) < T2.length by omega); have := Int.emod_nonneg (ys i) (show (T2.length : Int) ≠ 0 by omega); omega⟩
                      have HJ := Lib.hid hj
                      clear hj
                      obtain ⟨⟨q2, n2, m2⟩, ht⟩ : ∃ t, T2[j]? = some t := ⟨T2[j]'hjk, by simp⟩
                      obtain ⟨g, nc2, e, hnc1, hnc2⟩ := HR3.out.n.form hT20
                      obtain ⟨rfl, rfl⟩ : na = some ⟨g, 0, none⟩ ∧ nc = nc2 := by cases e; exact ⟨rfl, rfl⟩
                      obtain ⟨lg, lc2, e, hlc1, hlc2⟩ := HR3.out.l.form hT20
                      obtain ⟨rfl, rfl⟩ : la = some ⟨lg, 0, none⟩ ∧ lc = lc2 := by cases e; exact ⟨rfl, rfl⟩
                      obtain ⟨mg, mc2, e, hmc1, hmc2⟩ := HR3.out.m.form hT20
                      obtain ⟨rfl, rfl⟩ : ma = some ⟨mg, 0, none⟩ ∧ mc = mc2 := by cases e; exact ⟨rfl, rfl⟩
                      have hcx := HR3.out.n.cell (ints_nth (L := T2.map (·.1)) (i := j) (x := q2) (by simp [ht]))
                      obtain ⟨hK4, hno⟩ := HKP.out.give ht
                      have HMEM := Lib.hid (HKP.out.mem ht)
                      have HT := Lib.hid ht
                      have HK4 := Lib.hid hK4
                      have HNO := Lib.hid hno
                      clear ht hK4 hno e hnm hlm hmm
                      unfold maxLen at hnc2 hlc2 hmc2
                      go_wp2_with (first | (go_at_call 9; refine (place_any (ys i) T2.length (by omega) (by omega) hy1 hy2 _).mono ?_; rintro e w2 ⟨he, rfl⟩; rw [HJ.out] at he; subst he) | (go_at_call 12; refine Stop.out ?_))
                      refine ⟨(free_some HW3.out.net HKP.out.ok q2 (cls n2) n2 HMEM.out).mono ?_⟩
                      rintro e x4 ⟨rfl, ha, hk⟩
                      have HW4 := Lib.hid (HW3.out.step ha hk)
                      have HR4 := Lib.hid (HR3.out.step hk)
                      have hcx4 := HR4.out.n.cell (ints_nth (L := T2.map (·.1)) (i := j) (x := q2) (by simp [HT.out]))
                      clear ha hk
                      go_wp2_with (go_at_call 12; refine Stop.out ?_)
                      refine ⟨(free_none HW4.out.net (q2 : Int) HNO.out).mono ?_⟩
                      rintro e x5 ⟨E, rfl, he, ha, hk⟩
                      obtain ⟨g2, rfl⟩ := he.iface
                      have HW5 := Lib.hid (HW4.out.read hk)
                      have HR5 := Lib.hid (HR4.out.read hk)
                      clear he ha hk
                      go_wp2_with (first | (with_reducible refine wp_region_text (by kernel_rfl) (by kernel_rfl) ?_) | (with_reducible refine text_fin (by kernel_rfl) ?_) | (at_builtin; refine Stop.out ?_))
                      all_goals
                        refine ⟨?_⟩
                        refine wpList_append_wide _ rfl _ _ 40 40 rfl 3 (.slice 3) 1 8 (.int .i64 0) info_int Try.underlying40 Try.underlying40 (by intro k h; cases h) rfl (.slice (some ⟨g, 0, none⟩) j j) j _ rfl ((Wide.cut HR5.out.n (k := j) (by omega)).keeps (S := fun _ => False) (by repeat (first | with_reducible exact Keeps.refl _ _ | with_reducible apply Keeps.drew | with_reducible apply Keeps.alloc)) (fun _ _ h => h)) _ (T2.length - (j + 1)) _ rfl (by rw [List.length_drop]; simp [ints]) (lenOf_slice _ _ _) (tail_one (HR5.out.n.keeps (S := fun _ => False) (by repeat (first | with_reducible exact Keeps.refl _ _ | with_reducible apply Keeps.drew | with_reducible apply Keeps.alloc)) (fun _ _ h => h)) _ _ (by first | exact .inl rfl | (right; omega))) (tail_cells ints_cell) (by unfold maxLen; omega) (by omega) ?_
                        intro nv1 x6 a6
                        obtain ⟨y1, r1⟩ := RowsAt.put HW5.out HR5.out.open a6 (by repeat (first | with_reducible exact Keeps.refl _ _ | with_reducible apply Keeps.drew | with_reducible apply Keeps.alloc)) rfl
                        have HW6 := Lib.hid y1
                        have HR6 := Lib.hid (r1.perm swap1)
                        clear a6 y1 r1
                        go_wp2_with (first | (with_reducible refine wp_region_text (by kernel_rfl) (by kernel_rfl) ?_) | (with_reducible refine text_fin (by kernel_rfl) ?_) | (at_builtin; refine Stop.out ?_))
                        all_goals
                          refine ⟨?_⟩
                          refine wpList_append_wide _ rfl _ _ 40 40 rfl 3 (.slice 3) 1 8 (.int .i64 0) info_int Try.underlying40 Try.underlying40 (by intro k h; cases h) rfl (.slice (some ⟨lg, 0, none⟩) j j) j _ rfl ((Wide.cut (HR6.out.rows _ (List.mem_cons_self ..)) (k := j) (by omega)).keeps (S := fun _ => False) (by repeat (first | with_reducible exact Keeps.refl _ _ | with_reducible apply Keeps.drew | with_reducible apply Keeps.alloc)) (fun _ _ h => h)) _ (T2.length - (j + 1)) _ rfl (by rw [List.length_drop]; simp [ints]) (lenOf_slice _ _ _) (tail_one ((HR6.out.rows _ (List.mem_cons_self ..)).keeps (S := fun _ => False) (by repeat (first | with_reducible exact Keeps.refl _ _ | with_reducible apply Keeps.drew | with_reducible apply Keeps.alloc)) (fun _ _ h => h)) _ _ (by first | exact .inl rfl | (right; omega))) (tail_cells ints_cell) (by unfold maxLen; omega) (by omega) ?_
                          intro lv1 x7 a7
                          obtain ⟨y1, r1⟩ := RowsAt.put HW6.out HR6.out a7 (by repeat (first | with_reducible exact Keeps.refl _ _ | with_reducible apply Keeps.drew | with_reducible apply Keeps.alloc)) rfl
                          have HW7 := Lib.hid y1
                          have HR7 := Lib.hid (r1.perm swap2)
                          clear a7 y1 r1
                          go_wp2_with (first | (with_reducible refine wp_region_text (by kernel_rfl) (by kernel_rfl) ?_) | (with_reducible refine text_fin (by kernel_rfl) ?_) | (at_builtin; refine Stop.out ?_))
                          all_goals
                            refine ⟨?_⟩
                            refine wpList_append_wide _ rfl _ _ 49 49 rfl 41 (.slice 41) 1 8 (.int .u64 0) info_u64 Try.underlying49 Try.underlying49 (by intro k h; cases h) rfl (.slice (some ⟨mg, 0, none⟩) j j) j _ rfl ((Wide.cut (HR7.out.rows _ (List.mem_cons_self ..)) (k := j) (by omega)).keeps (S := fun _ => False) (by repeat (first | with_reducible exact Keeps.refl _ _ | with_reducible apply Keeps.drew | with_reducible apply Keeps.alloc)) (fun _ _ h => h)) _ (T2.length - (j + 1)) _ rfl (by rw [List.length_drop]; simp [u64n]) (lenOf_slice _ _ _) (tail_one ((HR7.out.rows _ (List.mem_cons_self ..)).keeps (S := fun _ => False) (by repeat (first | with_reducible exact Keeps.refl _ _ | with_reducible apply Keeps.drew | with_reducible apply Keeps.alloc)) (fun _ _ h => h)) _ _ (by first | exact .inl rfl | (right; omega))) (tail_cells u64n_cell) (by unfold maxLen; omega) (by omega) ?_
                            intro mv1 x8 a8
                            obtain ⟨y1, r1⟩ := RowsAt.put HW7.out HR7.out a8 (by repeat (first | with_reducible exact Keeps.refl _ _ | with_reducible apply Keeps.drew | with_reducible apply Keeps.alloc)) rfl
                            have HW8 := Lib.hid y1
                            have HR8 : Hid (RowsT w _ nv1 lv1 mv1 (T2.eraseIdx j) x8) := Lib.hid (rows_close r1 (erase_len1 hjk) (erase_ints _) (erase_ints _) (erase_u64n _))
                            clear a8 y1 r1
                            go_wp2_with (first | (with_reducible refine wp_region_text (by kernel_rfl) (by kernel_rfl) ?_) | (with_reducible refine text_fin (by kernel_rfl) ?_) | (at_builtin; refine Stop.out ?_))
                            go_roundw
                            case rel => exact ⟨i + 1, _, _, T2.eraseIdx j, by go_num, by omega, by omega, HK4.out, by have := erase_len1 hjk; omega, fun t ht => HMB2.out t ((List.eraseIdx_sublist _ _).subset ht), HW8.out, HR8.out⟩
                            case measure => simp [intOf]; omega
                    · go_wp2
                      go_roundw
                      case rel => exact ⟨i + 1, _, _, T2, by go_num, by omega, by omega, HKP.out, by omega, HMB2.out, HW3.out, HR3.out⟩
                      case measure => simp [intOf]; omega
                  · have h3b : ((ys i).tmod 3 == 0) = false := by simpa using h3
                    clear h3
                    go_wp2
                    go_roundw
                    case rel => exact ⟨i + 1, _, _, T2, by go_num, by omega, by omega, HKP.out, by omega, HMB2.out, HW3.out, HR3.out⟩
                    case measure => simp [intOf]; omega
                · go_wp2
                  go_roundw
                  case rel => exact ⟨i + 1, _, _, T2, by go_num, by omega, by omega, HKP.out, by omega, HMB2.out, HW3.out, HR3.out⟩
                  case measure => simp [intOf]; omega
        · go_wp2
          go_meet
          exact ⟨A, S, T, HA.out, by omega, HMB.out, HW.out, HR.out⟩
      · go_wp2
        go_meet
        exact ⟨A, S, T, HA.out, by omega, HMB.out, HW.out, HR.out⟩
  case rest =>
    obtain ⟨A, S, T, hA, hTl, hMB, hw, hr⟩ := hcut
    obtain ⟨na, nc, hn7, hnc, hnm⟩ := hr.n.len
    obtain ⟨la, lc, hn8, hlc, hlm⟩ := hr.l.len
    obtain ⟨ma, mc, hn9, hmc, hmm⟩ := hr.m.len
    subst hn7 hn8 hn9
    unfold maxLen at hnm hlm hmm
    have HA := Lib.hid hA
    have HW := Lib.hid hw
    have HR := Lib.hid hr
    have HMB := Lib.hid hMB
    clear hA hw hr hMB G1
    go_wp2
    go_loopw [17] (fun iv wr => TellAt w b A S (.slice na T.length nc) (.slice la T.length lc) (.slice ma T.length mc) T T.length iv wr) (fun iv _ => T.length - (intOf iv).toNat)
    case atStart => exact ⟨0, rfl, Nat.zero_le _, HW.out, HR.out⟩
    case round =>
      clear HW HR
      obtain ⟨i, rfl, hi, hw, hr⟩ := hrel
      have HW := Lib.hid hw
      have HR := Lib.hid hr
      clear hw hr
      by_cases hil : i < T.length
      · obtain ⟨⟨q, n, m⟩, ht⟩ : ∃ t, T[i]? = some t := ⟨T[i]'hil, by simp⟩
        obtain ⟨g, nc2, e, hnc1, hnc2⟩ := HR.out.n.form (by omega)
        obtain ⟨rfl, rfl⟩ : na = some ⟨g, 0, none⟩ ∧ nc = nc2 := by cases e; exact ⟨rfl, rfl⟩
        obtain ⟨lg, lc2, e, hlc1, hlc2⟩ := HR.out.l.form (by omega)
        obtain ⟨rfl, rfl⟩ : la = some ⟨lg, 0, none⟩ ∧ lc = lc2 := by cases e; exact ⟨rfl, rfl⟩
        obtain ⟨mg, mc2, e, hmc1, hmc2⟩ := HR.out.m.form (by omega)
        obtain ⟨rfl, rfl⟩ : ma = some ⟨mg, 0, none⟩ ∧ mc = mc2 := by cases e; exact ⟨rfl, rfl⟩
        have hmb : m ≤ 104857600 := HMB.out _ (List.mem_of_getElem? ht)
        have hn39 : n ≤ 39 := HA.out.len _ (List.mem_of_getElem? ht)
        have HT := Lib.hid ht
        have HLK := Lib.hid (HA.out.look ht)
        have HWD : Hid (∀ k, k < n → A.words.getD (q + k) 0 = (m : Int) + (k : Int)) := Lib.hid fun k hk => (HA.out.words _ (List.mem_of_getElem? ht) k hk).trans (by simp)
        clear ht e hnc1 hnc2 hlc1 hlc2 hmc1 hmc2
        go_wp2
        go_loopw [18] (fun kv wr => TellAt w b A S (.slice (some ⟨g, 0, none⟩) T.length nc) (.slice (some ⟨lg, 0, none⟩) T.length lc) (.slice (some ⟨mg, 0, none⟩) T.length mc) T n kv wr) (fun kv _ => n - (intOf kv).toNat)
        case atStart => exact ⟨0, rfl, Nat.zero_le _, HW.out, HR.out⟩
        case round =>
          clear HW HR
          obtain ⟨k, rfl, hk, hw, hr⟩ := hrel
          have HW := Lib.hid hw
          have HR := Lib.hid hr
          obtain ⟨c1, c2, c3⟩ := HR.out.cells rfl HT.out
          clear hw hr
          by_cases hkn : k < n
          · go_wp2_with (go_at_call 17; refine Stop.out ?_)
            refine ⟨(get_some HW.out.net HA.out.ok _ _ (cls n) n HLK.out (by omega) (by omega)).mono ?_⟩
            rintro e w3 ⟨he, ha, hkk⟩
            rw [show ((q : Int) + (k : Int)).toNat = q + k from by omega, HWD.out k hkn] at he
            subst he
            have HW3 := Lib.hid (HW.out.read hkk)
            have HR3 := Lib.hid (HR.out.read hkk)
            obtain ⟨d1, d2, d3⟩ := HR3.out.cells rfl HT.out
            clear ha hkk c1 c2 c3
            go_wp2
            go_roundw
            case rel => exact ⟨k + 1, by go_num, by omega, HW3.out, HR3.out⟩
            case measure => simp [intOf]; omega
          · obtain rfl : k = n := by omega
            go_wp2_with (go_at_call 20; refine Stop.out ?_)
            refine ⟨(len_some HW.out.net _ (cls k) k HLK.out).mono ?_⟩
            rintro e w3 ⟨rfl, ha, hkk⟩
            have HW3 := Lib.hid (HW.out.read hkk)
            have HR3 := Lib.hid (HR.out.read hkk)
            obtain ⟨d1, d2, d3⟩ := HR3.out.cells rfl HT.out
            clear ha hkk c1 c2 c3
            go_wp2
            go_roundw
            case rel => exact ⟨i + 1, by go_num, by omega, HW3.out, HR3.out⟩
            case measure => simp [intOf]; omega
      · have HTC := Lib.hid HA.out.count
        go_wp2_with (first | (go_at_call 19; refine (blocks_any HW.out.net HA.out.ok).mono ?_; rintro e x1 ⟨bv, ns, rfl, hp, _, hr, _, hk⟩; obtain ⟨ba, bc, rfl, _, _⟩ := hr.len; rw [show ns.length = T.length from (by rw [hp.length_eq, List.length_map]; exact HTC.out)]; have HK1 := Lib.hid hk; clear hr hk hp) | (go_at_call 16; refine (awake_any _).mono ?_; rintro e x2 ⟨rfl, hk2⟩; have HK2 := Lib.hid hk2; clear hk2))
        go_ret
        exact ⟨rfl, (HW.out.keep.trans HK1.out fun _ _ h => h).trans HK2.out fun _ _ h => h⟩
end Go.Proofs.Ytacedeaopgbdhaa

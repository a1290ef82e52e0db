/-
  Faults: whether one of some kinds is in a chain; the law FaultApart: what the Go code does.
-/
import Derived.Test.YtnmhodejffpblaaDoorIs
import Derived.Test.YtnmhodejffpblaaDoorFl
namespace Go.Proofs.YtnmhodejffpblaaDoor
open Go.RowKit Go.Tx
set_option maxHeartbeats 400000 in
theorem fis_none {w : World} {E : Nat → Prop} {v : Value} {c : List (ByteArray × Int)} {k : Int} (h : IsErr w E v c k) :
    Calls Tryd.prog 11 #[v, .slice none 0 0] w fun e w' => e = .returned (.bool false) ∧ w' = w := by
  obtain ⟨tt, tv, rfl⟩ := h.iface
  clear h
  go_enter Tryd.func11, Tryd.ntmps11
  go_wp2
  refine wp_loop_rounds 1 ?_
  rw [rounds_succ]
  go_wp2
  go_ret
  exact ⟨rfl, rfl⟩
set_option maxRecDepth 100000 in
set_option maxHeartbeats 800000 in
theorem fis_any {w : World} {E : Nat → Prop} {v : Value} {c : List (ByteArray × Int)} {k : Int} (h : IsErr w E v c k) (ks : List Int) (h0 : ∀ x ∈ ks, x ≠ 0) (hl : ks.length ≤ 9000) {g cap : Nat} (hb : Blk w g 23 (ks.map (Value.int .i64))) :
    Calls Tryd.prog 11 #[v, .slice (some ⟨g, 0, none⟩) ks.length cap] w fun e w' => e = .returned (.bool (ks.any fun x => k == x)) ∧ w' = w := by
  have HE := Lib.hid h
  have HB := Lib.hid hb
  have H0 := Lib.hid h0
  obtain ⟨tt, tv, rfl⟩ := h.iface
  clear h hb h0
  go_enter Tryd.func11, Tryd.ntmps11
  go_wp2
  go_loopw [9] (fun iv wr => wr = w ∧ ∃ i : Nat, iv = .int .i64 i ∧ i ≤ ks.length ∧ (ks.take i).any (fun x => k == x) = false) (fun iv _ => ks.length - (intOf iv).toNat)
  case atStart => exact ⟨rfl, 0, rfl, Nat.zero_le _, rfl⟩
  case round =>
    obtain ⟨rfl, i, rfl, hi, hall⟩ := hrel
    have HALL := Lib.hid hall
    clear hall
    by_cases hlt : i < ks.length
    · obtain ⟨x, hx⟩ : ∃ x, ks[i]? = some x := ⟨_, List.getElem?_eq_getElem hlt⟩
      have d0 : wr.cell? ⟨g, i, none⟩ = some (.int .i64 x) := HB.out.cell (by rw [List.getElem?_map, hx]; rfl)
      have g1 : decide ((i : Int) < (ks.length : Int)) = true := decide_eq_true (by omega)
      have gx0 : ¬ x = 0 := H0.out x (List.mem_of_getElem? hx)
      have gx : (x == 0) = false := by simpa using gx0
      have gx1 : decide (x = 0) = false := decide_eq_false gx0
      have ht : ks.take (i + 1) = ks.take i ++ [x] := by
        obtain ⟨_, hge⟩ := List.getElem?_eq_some_iff.1 hx
        rw [List.take_succ_eq_append_getElem hlt, hge]
      have HT := Lib.hid ht
      have HX := Lib.hid (List.mem_of_getElem? hx)
      clear hx ht
      cases hk : (k == x) with
      | true =>
        have HR : Hid (ks.any (fun x => k == x) = true) := Lib.hid (List.any_eq_true.2 ⟨x, HX.out, hk⟩)
        go_wp2_with (go_at_call 16; refine (is_any HE.out x).mono ?_; rw [hk]; rintro e w2 ⟨rfl, rfl⟩)
        go_ret
        rw [HR.out]
        exact ⟨rfl, rfl⟩
      | false =>
        go_wp2_with (go_at_call 16; refine (is_any HE.out x).mono ?_; rw [hk]; rintro e w2 ⟨rfl, rfl⟩)
        go_roundw
        case rel => exact ⟨by first | rfl | trivial, i + 1, by simp, by omega, by rw [HT.out, List.any_append, HALL.out]; simp [hk]⟩
        case measure => simp [intOf]; omega
    · have g1 : decide ((i : Int) < (ks.length : Int)) = false := decide_eq_false (by omega)
      have HR : Hid (ks.any (fun x => k == x) = false) := Lib.hid (by have := HALL.out; rwa [List.take_of_length_le (by omega)] at this)
      go_wp2
      go_ret
      rw [HR.out]
      exact ⟨rfl, rfl⟩
/-- the kinds, in FaultApart's order -/
def kindList : List Int := [1, 2, 3, 4, 5, 10, 11, 12, 13, 14, 15, 20, 21]
theorem kind_at (n : Int) : ∃ (i : Nat) (x : Int), n % 13 = i ∧ i < 13 ∧ kindList[i]? = some x ∧ x ∈ kindList := by
  have h0 := Int.emod_nonneg n (b := 13) (by decide)
  have h1 := Int.emod_lt_of_pos n (b := 13) (by decide)
  have hi : (n % 13).toNat < kindList.length := by show (n % 13).toNat < 13; omega
  exact ⟨(n % 13).toNat, kindList[(n % 13).toNat], by omega, hi, List.getElem?_eq_getElem hi, List.getElem_mem hi⟩
theorem kind_pos {x : Int} (h : x ∈ kindList) : x ≠ 0 := by
  intro e
  subst e
  revert h
  decide
set_option maxRecDepth 100000 in
set_option maxHeartbeats 1600000 in
theorem apart_any (w : World) (a b : Int) (op : ByteArray) (n : Int) (h1 : -9223372036854775808 ≤ a) (h2 : a ≤ 9223372036854775807) (h3 : -9223372036854775808 ≤ b) (h4 : b ≤ 9223372036854775807) (hg : ErrorType w) :
    Calls Tryd.prog 4 #[.int .i64 a, .int .i64 b, .string op, .int .i64 n] w fun e w' => e = .returned (.bool true) ∧ Keeps (fun _ => False) w w' := by
  have HG := Lib.hid hg
  clear hg
  obtain ⟨i, x, hi, hil, hx, hxm⟩ := kind_at a
  obtain ⟨j, y, hj, hjl, hy, hym⟩ := kind_at b
  have hb0 := Blk.new w (kindList.map (Value.int .i64)) 23
  have d1 : (w.alloc (.cells (kindList.map (Value.int .i64)).toArray 23)).cell? ⟨w.heap.size, i, none⟩ = some (.int .i64 x) := hb0.cell (by rw [List.getElem?_map, hx]; rfl)
  have d2 : (w.alloc (.cells (kindList.map (Value.int .i64)).toArray 23)).cell? ⟨w.heap.size, j, none⟩ = some (.int .i64 y) := hb0.cell (by rw [List.getElem?_map, hy]; rfl)
  have HXM := Lib.hid hxm
  have HYM := Lib.hid hym
  have HI := Lib.hid hi
  have HJ := Lib.hid hj
  simp only [kindList, List.map_cons, List.map_nil] at d1 d2
  clear hx hy hxm hym hb0 hi hj
  go_enter Tryd.func4, Tryd.ntmps4
  go_wp2_with (first | (go_at_call 8; refine Stop.out ?_))
  refine ⟨(place_any _ _ (by decide) (by decide) h1 h2 _).mono ?_⟩
  rw [HI.out]
  rintro e w1 ⟨rfl, rfl⟩
  go_wp2_with (first | (go_at_call 8; refine Stop.out ?_))
  refine ⟨(place_any _ _ (by decide) (by decide) h3 h4 _).mono ?_⟩
  rw [HJ.out]
  rintro e w1 ⟨rfl, rfl⟩
  go_wp2_with (first | (go_at_call 10; refine Stop.out ?_))
  refine ⟨(at_any _ _ _ _ _).mono ?_⟩
  rintro e w1 ⟨rfl, hw1⟩
  have hk1 : Keeps (fun _ => False) w w1 := by rw [hw1]; exact ((Keeps.refl _ w).alloc _).alloc _
  have hb1 : Blk w1 (w.heap.size + 1) 46 [.string ⟨#[105, 110]⟩, .int .i64 1, .iface 23 (.int .i64 x)] := by
    rw [hw1]
    have := Blk.new (w.alloc (.cells (kindList.map (Value.int .i64)).toArray 23)) [.string ⟨#[105, 110]⟩, .int .i64 1, .iface 23 (.int .i64 x)] 46
    rw [World.size_alloc] at this
    exact this
  rw [World.size_alloc]
  have HK1 := Lib.hid hk1
  have HB1 := Lib.hid hb1
  clear hw1 hk1 hb1 d1 d2
  go_wp2_with (first | (go_at_call 10; refine Stop.out ?_))
  refine ⟨(at_any _ _ _ _ _).mono ?_⟩
  rintro e w2 ⟨rfl, hw2⟩
  have hk2 : Keeps (fun _ => False) w1 w2 := by rw [hw2]; exact (Keeps.refl _ w1).alloc _
  have hb2 : Blk w2 w1.heap.size 46 [.string op, .int .i64 n, .iface 44 (.pointer (some ⟨w.heap.size + 1, 0, none⟩))] := by rw [hw2]; exact Blk.new w1 _ _
  have he : IsErr w2 (fun _ => True) (.iface 44 (.pointer (some ⟨w1.heap.size, 0, none⟩))) [(op, n), ((⟨#[105, 110]⟩ : ByteArray), 1)] x := ⟨_, _, rfl, hb2, trivial, _, _, rfl, HB1.out.keeps hk2 fun h => h, trivial, rfl⟩
  have HE : Hid (∀ W, Keeps (fun _ => False) w2 W → IsErr W (fun _ => True) (.iface 44 (.pointer (some ⟨w1.heap.size, 0, none⟩))) [(op, n), ((⟨#[105, 110]⟩ : ByteArray), 1)] x) := Lib.hid fun W hW => he.keeps hW fun _ _ h => h
  have HK2 := Lib.hid (HK1.out.trans hk2 fun _ _ h => h)
  clear hw2 hk2 hb2 he HB1 HK1
  obtain ⟨q, hq⟩ : ∃ q, (x == y) = q := ⟨_, rfl⟩
  have r1 : ([y].any fun z => x == z) = q := by simp [hq]
  have r2 : ([y, x].any fun z => x == z) = true := by simp
  have R1 := Lib.hid r1
  have R2 := Lib.hid r2
  clear r1 r2
  go_wp2_with (first | (go_at_call 11; refine Stop.out ?_))
  refine ⟨(fis_any (HE.out _ ((Keeps.refl _ _).alloc _)) [y] (by intro z hz; rw [List.mem_singleton.1 hz]; exact kind_pos HYM.out) (by simp) (Blk.new w2 ([y].map (Value.int .i64)) 23)).mono ?_⟩
  rw [R1.out]
  rintro e w3 ⟨rfl, rfl⟩
  go_wp2_with (first | (go_at_call 11; refine Stop.out ?_))
  refine ⟨(fis_any (HE.out _ (((Keeps.refl _ _).alloc _).alloc _)) [y, x] (by intro z hz; simp only [List.mem_cons, List.not_mem_nil, or_false] at hz; rcases hz with rfl | rfl; exact kind_pos HYM.out; exact kind_pos HXM.out) (by simp) (g := w2.heap.size + 1) (by
    have := Blk.new (w2.alloc (.cells #[.int .i64 y] 23)) ([y, x].map (Value.int .i64)) 23
    rw [World.size_alloc] at this
    exact this)).mono ?_⟩
  rw [R2.out]
  rintro e w3 ⟨rfl, hw3⟩
  have hk3 : Keeps (fun _ => False) w2 w3 := by rw [hw3]; exact ((Keeps.refl _ _).alloc _).alloc _
  have HK3 := Lib.hid hk3
  clear hw3 hk3
  have HG3 := Lib.hid (HG.out.keeps (HK2.out.trans HK3.out fun _ _ h => h) fun h => h)
  obtain ⟨c, hc⟩ : ∃ c, classOf x = c := ⟨_, rfl⟩
  have hx := HXM.out
  simp only [kindList, List.mem_cons, List.not_mem_nil, or_false] at hx
  clear HXM R1 R2
  rcases hx with rfl | rfl | rfl | rfl | rfl | rfl | rfl | rfl | rfl | rfl | rfl | rfl | rfl
  all_goals
    simp [classOf] at hc
    subst hc
    go_wp2_with (first | (go_at_call 11; refine (fis_none (HE.out _ HK3.out)).mono ?_; rintro e w4 ⟨rfl, rfl⟩) | (go_at_call 12; refine (kind_any (HE.out _ HK3.out) HG3.out).mono ?_; rintro e w5 ⟨rfl, hk5⟩; have HK5 := Lib.hid hk5; clear hk5) | (go_at_call 6; refine (class_any _ _).mono ?_; simp only [classOf]; rintro e w6 ⟨rfl, rfl⟩) | (go_at_call 9; refine (awake_any _ (HG3.out.keeps HK5.out fun h => h)).mono ?_; rintro e w7 ⟨rfl, hk7⟩; have HK7 := Lib.hid hk7; clear hk7))
    go_ret
    exact ⟨rfl, ((HK2.out.trans HK3.out fun _ _ h => h).trans HK5.out fun _ _ h => h).trans HK7.out fun _ _ h => h⟩
end Go.Proofs.YtnmhodejffpblaaDoor

import Derived.Test.YtgmieehheoknbaaDoorGn
import Derived.Test.YtgmieehheoknbaaDoorGp
import Derived.Test.YtgmieehheoknbaaDoorGd
import Derived.Test.YtgmieehheoknbaaDoorGb
/-
  The law CodeDeep: what the Go code does.
-/
namespace Go.Tx
open Go Go.RowKit
theorem Bytes.bsAt {w : World} {v : Value} {q : List UInt8} (h : Bytes w v q) : BsAt w v q := by
  obtain ⟨a, c, rfl, h1, h2⟩ := Row.len h
  refine ⟨a, c, rfl, h1, h2, fun i x hx => ?_⟩
  have hi := (List.getElem?_eq_some_iff.1 hx).1
  obtain ⟨g, c2, e, _, _⟩ := Row.form h (by omega)
  cases e
  refine ⟨g, rfl, Row.lt h rfl, Row.cell3 h ?_⟩
  simp [byteV, hx]
theorem Bytes.lt {w : World} {v : Value} {q : List UInt8} (h : Bytes w v q) : ∀ x, v.ownBlock = some x → x < w.heap.size := fun _ hx => Row.lt h hx
def deepQ (j : Nat) : List UInt8 := [84, 82, 80, 69, 0, 1] ++ deepB j
theorem deepQ_length (j : Nat) : (deepQ j).length = 2 * j + 6 := by
  have h := deepM_length j
  unfold deepM at h
  unfold deepQ
  rw [List.length_append] at h
  simp at h ⊢
  omega
/-- the error of a literal that is too deep -/
def deepO : ErrO := some ([(⟨#[114, 101, 97, 100]⟩, 6), (⟨#[116, 101, 114, 109]⟩, 200)], 2)
theorem deep_err {w4 w5 W : World} {E : Value} (h : IsErr w5 (Fresh w4 w5) E ((⟨#[114, 101, 97, 100]⟩, ((6 : Nat) : Int)) :: [("term".toUTF8, 200)]) 2) (o : Obj) {n : Nat} (hn : n = w5.heap.size)
    (hW : W = ((w5.alloc o).alloc (.cells #[.string ⟨#[116, 101, 114, 109]⟩, .int .i64 200, .iface 41 (.int .i64 2)] 43)).alloc (.cells #[.string ⟨#[114, 101, 97, 100]⟩, .int .i64 6, .iface 40 (.pointer (some ⟨n + 1, 0, none⟩))] 43)) :
    IsErrO W (Fresh w4 w5) E deepO ∧ IsErrO W (fun _ => True) (.iface 40 (.pointer (some ⟨n + 1 + 1, 0, none⟩))) deepO := by
  subst hn hW
  have ht : "term".toUTF8 = ⟨#[116, 101, 114, 109]⟩ := by rfl
  rw [ht] at h
  have k : Keeps (fun _ => False) w5 (((w5.alloc o).alloc (.cells #[.string ⟨#[116, 101, 114, 109]⟩, .int .i64 200, .iface 41 (.int .i64 2)] 43)).alloc (.cells #[.string ⟨#[114, 101, 97, 100]⟩, .int .i64 6, .iface 40 (.pointer (some ⟨w5.heap.size + 1, 0, none⟩))] 43)) := (((Keeps.refl (fun _ => False) w5).alloc _).alloc _).alloc _
  refine ⟨⟨h.keeps k fun _ _ h => h, by decide⟩, ⟨w5.heap.size + 1 + 1, .iface 40 (.pointer (some ⟨w5.heap.size + 1, 0, none⟩)), rfl, ?_, True.intro, ⟨w5.heap.size + 1, .iface 41 (.int .i64 2), rfl, ?_, True.intro, rfl⟩⟩, by decide⟩
  · have := Blk.new ((w5.alloc o).alloc (.cells #[.string ⟨#[116, 101, 114, 109]⟩, .int .i64 200, .iface 41 (.int .i64 2)] 43)) [.string ⟨#[114, 101, 97, 100]⟩, .int .i64 6, .iface 40 (.pointer (some ⟨w5.heap.size + 1, 0, none⟩))] 43
    rwa [World.size_alloc, World.size_alloc] at this
  · have := (Blk.new (w5.alloc o) [.string ⟨#[116, 101, 114, 109]⟩, .int .i64 200, .iface 41 (.int .i64 2)] 43).alloc (.cells #[.string ⟨#[114, 101, 97, 100]⟩, .int .i64 6, .iface 40 (.pointer (some ⟨w5.heap.size + 1, 0, none⟩))] 43)
    rwa [World.size_alloc] at this
/-- so many tuples are begun -/
def DeepAt (w : World) (k : Nat) (b i : Value) (wr : World) : Prop := ∃ j : Nat, i = .int .i64 ((j : Int) + 1) ∧ j + 1 ≤ k ∧ Bytes wr b (deepQ j) ∧ New w wr b
end Go.Tx
namespace Go.Proofs.YtgmieehheoknbaaDoor
open Go.RowKit Go.Tx
set_option maxRecDepth 100000 in
set_option maxHeartbeats 1600000 in
theorem deep_any (w : World) (n : Int) (h1 : -9223372036854775808 ≤ n) (h2 : n ≤ 9223372036854775807) (hg : ErrorType w) :
    Calls Tryd.prog 7 #[.int .i64 n] w fun e w' => e = .returned (.bool true) ∧ Keeps (fun _ => False) w w' := by
  have HG := Lib.hid hg
  clear hg
  go_enter Tryd.func7, Tryd.ntmps7
  go_wp2_with (first | (go_at_call 14; refine Stop.out ?_))
  refine ⟨(place_any n 400 (by decide) (by decide) h1 h2 w).mono ?_⟩
  rintro e w1 ⟨rfl, rfl⟩
  obtain ⟨r, hr⟩ : ∃ r : Nat, n % 400 = (r : Int) := ⟨(n % 400).toNat, by omega⟩
  have hr4 : r < 400 := by omega
  rw [hr]
  clear hr h1 h2
  have g0 : wrap64 (195 + (r : Int)) = ((195 + r : Nat) : Int) := by unfold wrap64; omega
  generalize hk : 195 + r = k at *
  have hk1 : 195 ≤ k := by omega
  have hk2 : k < 595 := by omega
  clear hk hr4
  go_wp2
  simp only [g0]
  clear g0
  go_loopw [4, 5] (fun b i wr => DeepAt w k b i wr) (fun _ i _ => k - (intOf i).toNat)
  case atStart => exact ⟨0, rfl, by omega, bytes_new (l := deepQ 0) (Blk.new w _ _) rfl (by decide), ⟨(Keeps.refl _ _).alloc _, fun g hg => by have e : w.heap.size = g := Option.some.inj hg; omega⟩⟩
  case round =>
    obtain ⟨j, rfl, hj, hb, hn⟩ := hrel
    obtain ⟨a, c, rfl⟩ := hb.form
    have HB := Lib.hid hb
    have HN := Lib.hid hn
    have hql := deepQ_length j
    clear hb hn
    by_cases hjk : j + 1 < k
    · have g1 : decide ((j : Int) + 1 < (k : Int)) = true := decide_eq_true (by omega)
      have g2 : wrap64 ((j : Int) + 1 + 1) = (j : Int) + 1 + 1 := by unfold wrap64; omega
      go_wp2_with (first | (at_builtin; go_must (refine wpList_append_bytes rfl _ _ 26 26 rfl (.slice 5) info_u8 Tryd.underlying26 Tryd.underlying26 (by intro k h; cases h) (.slice a (deepQ j).length c) (deepQ j) rfl (.inl (HB.out.still ((Keeps.refl _ wr).alloc _))) _ [.int .u8 5, .int .u8 1] [5, 1] rfl (by decide) rfl (lenOf_slice _ _ _) (firstCells_at _ rfl (cells_newAt rfl)) (by rw [hql]; simp only [List.length_cons, List.length_nil]; omega) ?_); intro v' w4 q4 hq4 hb4 hg4; obtain ⟨va, vc, rfl⟩ := hb4.form; have HB4 := Lib.hid hb4; have HG4 := Lib.hid (hg4.ahead ((Keeps.refl _ wr).alloc _)); have HQ4 := Lib.hid hq4; clear hb4 hg4 hq4))
      refine ⟨⟨j + 1, by go_num, by omega, ?_, HN.out.grown HG4.out⟩, by simp [intOf]; omega⟩
      have e : q4 = deepQ (j + 1) := by rw [HQ4.out]; unfold deepQ; rw [deepB, List.append_assoc]
      rw [← e]
      exact HB4.out
    · have g1 : decide ((j : Int) + 1 < (k : Int)) = false := decide_eq_false (by omega)
      have hjk2 : k = j + 1 := by omega
      go_wp2_with (first | (at_builtin; go_must (refine wpList_append_bytes rfl _ _ 26 26 rfl (.slice 5) info_u8 Tryd.underlying26 Tryd.underlying26 (by intro k h; cases h) (.slice a (deepQ j).length c) (deepQ j) rfl (.inl (HB.out.still ((Keeps.refl _ wr).alloc _))) _ [.int .u8 6, .int .u8 0] [6, 0] rfl (by decide) rfl (lenOf_slice _ _ _) (firstCells_at _ rfl (cells_newAt rfl)) (by rw [hql]; simp only [List.length_cons, List.length_nil]; omega) ?_); intro v' w4 q4 hq4 hb4 hg4; obtain ⟨va, vc, rfl⟩ := hb4.form; have HB4 := Lib.hid hb4; have HG4 := Lib.hid (hg4.ahead ((Keeps.refl _ wr).alloc _)); have HQ4 := Lib.hid hq4; clear hb4 hg4 hq4) | (go_at_call 10; refine Stop.out ?_))
      have e : q4 = deepM j := by rw [HQ4.out]; unfold deepQ deepM; rfl
      subst e
      have hn4 := HN.out.grown HG4.out
      have hg4 : ErrorType w4 := hn4.keeps.cell HG.out fun h => h
      have hlen := deepM_length j
      refine ⟨(read_any HB4.out.bsAt HB4.out.lt (by omega) hg4).mono ?_⟩
      rintro e w5 ⟨hk5, hr5⟩
      by_cases hj2 : j < 200
      · rw [pMod_deep j hj2] at hr5
        obtain ⟨u, rfl, hm5⟩ := hr5
        obtain ⟨a3, c3, a4, c4, rfl⟩ := hm5.form
        have HK5 := Lib.hid (hn4.keeps.trans hk5 fun _ _ h => h)
        have g3 : decide ((k : Int) ≤ 200) = true := decide_eq_true (by omega)
        clear hk5 hm5 hn4 hg4 hql hlen
        go_wp2_with (first | (go_at_call 13; refine (awake_any _).mono ?_; rintro e w6 ⟨rfl, hk6⟩; have HK6 := Lib.hid hk6; clear hk6))
        go_ret
        exact ⟨rfl, (HK5.out.alloc _).trans HK6.out fun _ _ h => h⟩
      · rw [pMod_deeper j (by omega)] at hr5
        obtain ⟨E, rfl, hE5⟩ := hr5
        rw [show (deepM j).length - ((deepM j).length - 6) = 6 by omega] at hE5
        have HK5 := Lib.hid (hn4.keeps.trans hk5 fun _ _ h => h)
        have HE5 := Lib.hid hE5
        have g3 : decide ((k : Int) ≤ 200) = false := decide_eq_false (by omega)
        clear hk5 hE5 hn4 hg4 hql hlen
        go_wp2_with (first | (go_at_call 15; refine Stop.out ?_))
        refine ⟨(err_any (deep_err HE5.out _ rfl rfl).1 (deep_err HE5.out _ rfl rfl).2).mono ?_⟩
        rintro e w6 ⟨rfl, hk6⟩
        have HK6 := Lib.hid hk6
        clear hk6
        rw [show (fineO deepO && fineO deepO && decide (deepO = deepO)) = true by simp [fineO, deepO]]
        go_wp2_with (first | (go_at_call 13; refine (awake_any _).mono ?_; rintro e w7 ⟨rfl, hk7⟩; have HK7 := Lib.hid hk7; clear hk7))
        go_ret
        exact ⟨rfl, ((((HK5.out.alloc _).alloc _).alloc _).trans HK6.out fun _ _ h => h).trans HK7.out fun _ _ h => h⟩
end Go.Proofs.YtgmieehheoknbaaDoor

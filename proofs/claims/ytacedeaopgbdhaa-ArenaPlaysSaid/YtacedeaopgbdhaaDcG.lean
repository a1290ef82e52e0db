import Derived.Test.YtacedeaopgbdhaaDcF
import Derived.Test.YtacedeaopgbdhaaArL
/-
  The law's On: New; the law ArenaPlays: what the Go code does.
-/
namespace Go.Tx
open Go Go.RowKit
/-- two new arenas -/
theorem plays_new {w w1 w2 w3 w4 : World} {b d : Nat} {size quota : Nat} (h1 : size ≤ 1048576) (h2 : quota ≤ size) (ha : IsArena w1 b (AM.new size quota) (Fresh w w1)) (k1 : Keeps (fun _ => False) w w1) (hd : IsDoc w2 d (DM.new size quota) (Fresh w1 w2)) (k2 : Keeps (fun _ => False) w1 w2)
    (hw3 : w3 = w2.alloc (.cells #[.pointer (some ⟨b, 0, none⟩), .pointer (some ⟨d, 0, none⟩), .slice none 0 0] 57)) (k4 : Keeps (fun _ => False) w3 w4) : Plays w w2.heap.size 0 w4 := by
  have s1 := k1.size
  have s2 := k2.size
  have k3 : Keeps (fun _ => False) w2 w3 := by rw [hw3]; exact (Keeps.refl _ w2).alloc _
  have kb : Keeps (fun _ => False) w2 w4 := k3.trans k4 fun _ _ h => h
  have ka : Keeps (fun _ => False) w1 w4 := k2.trans kb fun _ _ h => h
  have hb : Blk w3 w2.heap.size 57 [.pointer (some ⟨b, 0, none⟩), .pointer (some ⟨d, 0, none⟩), .slice none 0 0] := by rw [hw3]; exact Blk.new w2 [.pointer (some ⟨b, 0, none⟩), .pointer (some ⟨d, 0, none⟩), .slice none 0 0] _
  refine ⟨b, d, _, [], _, _, _, _, ⟨hb.keeps k4 id, ha.keeps ka fun _ _ h => h, hd.keeps kb fun _ _ h => h, World.ownsRow_nil _ _ _ _, fun g hg ht => ?_, fun hg => ?_, fun hg => ?_, fun g hg => by simp [Value.ownBlock] at hg, fun g hg => ?_, k1.trans ka fun _ _ h => h⟩, like_new size quota, AM.new_ok h1 h2, Nat.le_refl _⟩
  · have := hg.2; have := ht.1; omega
  · have := hg.2; omega
  · have := hg.2; omega
  · rcases hg with hg | hg | rfl | hg
    · exact hg.1
    · have := hg.1; omega
    · omega
    · simp [Value.ownBlock] at hg
theorem Plays.kept {w wr w' : World} {o n : Nat} (h : Plays w o n wr) (k : Keeps (fun _ => False) wr w') : Plays w o n w' := by
  obtain ⟨b, d, rv, ns, A, D, S, T, hP, rest⟩ := h
  exact ⟨b, d, rv, ns, A, D, S, T, hP.read k, rest⟩
theorem Plays.keep {w wr : World} {o n : Nat} (h : Plays w o n wr) : Keeps (fun _ => False) w wr := by
  obtain ⟨b, d, rv, ns, A, D, S, T, hP, rest⟩ := h
  exact hP.keep
theorem Plays.cell {w wr : World} {o n : Nat} (h : Plays w o n wr) : ∃ b, wr.cell? ⟨o, 0, none⟩ = some (.pointer (some ⟨b, 0, none⟩)) := by
  obtain ⟨b, d, rv, ns, A, D, S, T, hP, rest⟩ := h
  exact ⟨b, hP.on.cell (i := 0) rfl⟩
/-- a call of the script in memory -/
def OpAt (w : World) (a : Option Addr) (i : Nat) (x : OpV) : Prop :=
  ∃ b o, a = some ⟨b, o, none⟩ ∧ w.cell? ⟨b, o + i * 5, none⟩ = some (.int .i64 x.kind) ∧ w.cell? ⟨b, o + i * 5 + 1, none⟩ = some (.int .i64 x.a) ∧ w.cell? ⟨b, o + i * 5 + 2, none⟩ = some (.int .i64 x.b) ∧ w.cell? ⟨b, o + i * 5 + 3, none⟩ = some (.int .u64 x.w) ∧ w.cell? ⟨b, o + i * 5 + 4, none⟩ = some (.bool x.raw) ∧ x.In
def LoopAt (w : World) (o n : Nat) (iv : Value) (wr : World) : Prop := ∃ i : Nat, iv = .int .i64 i ∧ i ≤ n ∧ Plays w o i wr
def LawPost (w : World) (e : Ending) (w' : World) : Prop := e = .returned (.bool true) ∧ Keeps (fun _ => False) w w'
end Go.Tx
namespace Go.Proofs.Ytacedeaopgbdhaa
open Go.RowKit Go.Tx
set_option maxRecDepth 100000 in
set_option maxHeartbeats 800000 in
theorem on_bad (w : World) (size quota z : Int) (hna : ∀ V, Calls Try.prog 10 #[.int .i64 size, .int .i64 quota] V (ErrPost (fun E => .tuple #[.pointer none, E]) [(txtArena, z)] 1 (fun _ => True) V))
    (hnb : ∀ V, Calls Try.prog 31 #[.int .i64 size, .int .i64 quota] V (XTell (fun E => .tuple #[.pointer none, E]) [(txtArena, z)] 1 V)) :
    Calls Try.prog 21 #[.int .i64 size, .int .i64 quota] w (OnNew w) := by
  have HNA := Lib.hid hna
  have HNB := Lib.hid hnb
  clear hna hnb
  go_enter Try.func21, Try.ntmps21
  go_wp2_with (first | (go_at_call 10; refine Stop.out ?_))
  refine ⟨(HNA.out _).mono ?_⟩
  rintro e w1 ⟨E, rfl, he, _, hk1⟩
  have HE := Lib.hid he
  have HK1 := Lib.hid hk1
  clear he hk1
  go_wp2_with (first | (go_at_call 31; refine Stop.out ?_))
  refine ⟨(HNB.out _).mono ?_⟩
  rintro e w2 ⟨g, rfl, hx, hk2⟩
  have HX := Lib.hid hx
  have HK2 := Lib.hid hk2
  clear hx hk2
  go_wp2_with (first | (go_at_call 32; refine Stop.out ?_))
  refine ⟨(ref_same ((HE.out.keeps HK2.out fun _ _ h => h).keeps (T := fun _ => False) (by repeat (first | with_reducible exact Keeps.refl _ _ | with_reducible apply Keeps.drew | with_reducible apply Keeps.alloc)) fun _ _ h => h) (HX.out.keeps (T := fun _ => False) (by repeat (first | with_reducible exact Keeps.refl _ _ | with_reducible apply Keeps.drew | with_reducible apply Keeps.alloc)) fun _ _ h => h) (by decide) (by simp)).mono ?_⟩
  rintro e w4 ⟨rfl, hk4⟩
  have HK4 := Lib.hid hk4
  clear hk4
  go_wp2
  go_ret2
  exact ⟨_, rfl, ((HK1.out.trans HK2.out fun _ _ h => h).alloc _).trans HK4.out fun _ _ h => h, .inr (HK4.out.cell ((Blk.new w2 [.pointer none, .pointer none, .slice none 0 0] 57).cell (i := 0) rfl) id)⟩
set_option maxRecDepth 100000 in
set_option maxHeartbeats 800000 in
theorem on_good (w : World) (size quota : Nat) (h1 : 2 ≤ size) (h2 : size ≤ 1048576) (h3 : 1 ≤ quota) (h4 : quota ≤ size) :
    Calls Try.prog 21 #[.int .i64 size, .int .i64 quota] w (OnNew w) := by
  have HNA := Lib.hid (new_any size quota h1 h2 h3 h4 w)
  have HNB := Lib.hid (fun V => dnew_ok V size quota h1 h2 h3 h4)
  have HH : Hid (size ≤ 1048576 ∧ quota ≤ size) := Lib.hid ⟨h2, h4⟩
  clear h1 h2 h3 h4
  go_enter Try.func21, Try.ntmps21
  go_wp2_with (first | (go_at_call 10; refine Stop.out ?_))
  refine ⟨HNA.out.mono ?_⟩
  rintro e w1 ⟨b, rfl, ha, hk1⟩
  have HA := Lib.hid ha
  have HK1 := Lib.hid hk1
  clear ha hk1
  go_wp2_with (first | (go_at_call 31; refine Stop.out ?_))
  refine ⟨(HNB.out _).mono ?_⟩
  rintro e w2 ⟨d, rfl, hd, hk2⟩
  have HD := Lib.hid hd
  have HK2 := Lib.hid hk2
  clear hd hk2
  go_wp2_with (first | (go_at_call 32; refine Stop.out ?_))
  refine ⟨(ref_nil _).mono ?_⟩
  rintro e w4 ⟨rfl, hk4⟩
  have HK4 := Lib.hid hk4
  clear hk4
  go_wp2
  go_ret2
  have hp := plays_new HH.out.1 HH.out.2 HA.out HK1.out HD.out HK2.out rfl HK4.out
  exact ⟨_, rfl, hp.keep, .inl hp⟩
theorem on_any (w : World) (size quota : Int) : Calls Try.prog 21 #[.int .i64 size, .int .i64 quota] w (OnNew w) := by
  by_cases h1 : size < 2 ∨ 1048576 < size
  · exact on_bad w size quota size (fun V => new_bad1 V size quota h1) (fun V => dnew_bad1 V size quota h1)
  · by_cases h2 : quota < 1 ∨ size < quota
    · exact on_bad w size quota quota (fun V => new_bad2 V size quota (by omega) (by omega) h2) (fun V => dnew_bad2 V size quota (by omega) (by omega) h2)
    · obtain ⟨s, rfl⟩ : ∃ s : Nat, size = (s : Nat) := ⟨size.toNat, by omega⟩
      obtain ⟨q, rfl⟩ : ∃ s : Nat, quota = (s : Nat) := ⟨quota.toNat, by omega⟩
      exact on_good w s q (by omega) (by omega) (by omega) (by omega)
set_option maxRecDepth 100000 in
set_option maxHeartbeats 1600000 in
theorem plays_any (w : World) (size quota : Int) (a0 : Option Addr) (len cap : Nat) (xs : Nat → OpV) (hm : len ≤ 8796093022200) (hcell : ∀ i, i < len → OpAt w a0 i (xs i)) :
    Calls Try.prog 8 #[.int .i64 size, .int .i64 quota, .slice a0 len cap] w (LawPost w) := by
  have HC := Lib.hid hcell
  have HON := Lib.hid (on_any w size quota)
  clear hcell
  go_enter Try.func8, Try.ntmps8
  go_wp2_with (first | (go_at_call 21; refine Stop.out ?_))
  refine ⟨HON.out.mono ?_⟩
  rintro e w1 ⟨o, rfl, hk1, hp | hp⟩
  · obtain ⟨b, c0⟩ := hp.cell
    have HP := Lib.hid hp
    clear hp hk1
    go_wp2
    go_loopw [9] (fun iv wr => LoopAt w o len iv wr) (fun iv _ => len - (intOf iv).toNat)
    case atStart => exact ⟨0, rfl, Nat.zero_le _, HP.out⟩
    case round =>
      clear HP c0
      obtain ⟨i, rfl, hi, hp⟩ := hrel
      have HP := Lib.hid hp
      by_cases hil : i < len
      · obtain ⟨bb, oo, rfl, x0, x1, x2, x3, x4, hin⟩ := HC.out i hil
        have hk := hp.keep
        have y0 := hk.cell x0 id
        have y1 := hk.cell x1 id
        have y2 := hk.cell x2 id
        have y3 := hk.cell x3 id
        have y4 := hk.cell x4 id
        have HDO : Hid (∀ V, Keeps (fun _ => False) wr V → Calls Try.prog 22 #[.pointer (some ⟨o, 0, none⟩), .agg #[.int .i64 (xs i).kind, .int .i64 (xs i).a, .int .i64 (xs i).b, .int .u64 (xs i).w, .bool (xs i).raw]] V (DoPost w o (i + 1))) := Lib.hid fun V hv => do_any (hp.kept hv) (by omega) (xs i) hin
        clear hk x0 x1 x2 x3 x4 hin hp
        go_wp2_with (first | (with_reducible refine wp_region_text (by kernel_rfl) (by kernel_rfl) ?_) | (with_reducible refine text_fin (by kernel_rfl) ?_) | (go_at_call 22; refine Stop.out ?_))
        refine ⟨(HDO.out _ (by repeat (first | with_reducible exact Keeps.refl _ _ | with_reducible apply Keeps.drew | with_reducible apply Keeps.alloc))).mono ?_⟩
        rintro e w2 ⟨rfl, hp2⟩
        have HP2 := Lib.hid hp2
        clear hp2 y0 y1 y2 y3 y4
        go_wp2_with (first | (with_reducible refine wp_region_text (by kernel_rfl) (by kernel_rfl) ?_) | (with_reducible refine text_fin (by kernel_rfl) ?_) | (go_at_call 23; refine Stop.out ?_))
        refine ⟨(onsame_any HP2.out).mono ?_⟩
        rintro e w3 ⟨rfl, hk3⟩
        have HP3 := Lib.hid (HP2.out.kept hk3)
        clear hk3
        go_wp2_with (first | (with_reducible refine wp_region_text (by kernel_rfl) (by kernel_rfl) ?_) | (with_reducible refine text_fin (by kernel_rfl) ?_))
        go_roundw
        case rel => exact ⟨i + 1, by go_num, by omega, HP3.out⟩
        case measure => simp [intOf]; omega
      · clear hp
        go_wp2_with (first | (go_at_call 16; refine Stop.out ?_))
        refine ⟨(awake_any _).mono ?_⟩
        rintro e w3 ⟨rfl, hk3⟩
        have HFin : Hid (LawPost w (.returned (.bool true)) w3) := Lib.hid ⟨rfl, HP.out.keep.trans hk3 fun _ _ h => h⟩
        clear hk3
        go_wp2
        go_ret
        exact HFin.out
  · have HK1 := Lib.hid hk1
    clear hk1
    go_wp2_with (first | (go_at_call 16; refine Stop.out ?_))
    refine ⟨(awake_any _).mono ?_⟩
    rintro e w3 ⟨rfl, hk3⟩
    have HFin : Hid (LawPost w (.returned (.bool true)) w3) := Lib.hid ⟨rfl, HK1.out.trans hk3 fun _ _ h => h⟩
    clear hk3
    go_wp2
    go_ret
    exact HFin.out
end Go.Proofs.Ytacedeaopgbdhaa

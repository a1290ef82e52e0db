/-
  The law ArenaQuota: what the Go code does.
-/
import Derived.Test.YtacedeaopgbdhaaArNm
import Derived.Test.YtacedeaopgbdhaaArQuP
namespace Go.Tx
open Go Go.RowKit
def QuotaAt (w : World) (b q len : Nat) (uv lv iv : Value) (wr : World) : Prop :=
  ∃ (i u : Nat) (A : AM) (S : Nat → Prop) (L : List Nat), iv = .int .i64 i ∧ i ≤ len ∧ uv = .int .i64 (u : Nat) ∧ u = A.used ∧ u ≤ q ∧ A.Held q L ∧ ArW w b A S wr ∧ NamesAt w S lv L wr
def ClassAt (n : Nat) (W : World) (cv : Value) (wr : World) : Prop := ∃ j : Nat, cv = .int .i64 ((pw j : Nat) : Int) ∧ 1 ≤ j ∧ j ≤ cls n ∧ wr = W
def DropAt (w : World) (b q : Nat) (lv : Value) (L : List Nat) (iv : Value) (wr : World) : Prop :=
  ∃ (i : Nat) (A : AM) (S : Nat → Prop), iv = .int .i64 i ∧ i ≤ L.length ∧ A.Held q (L.drop i) ∧ ArW w b A S wr ∧ NamesAt w S lv L wr
end Go.Tx
namespace Go.Proofs.Ytacedeaopgbdhaa
open Go.RowKit Go.Tx
set_option maxRecDepth 100000 in
set_option maxHeartbeats 800000 in
theorem quota_any (w : World) (z : Int) (hz1 : -9223372036854775808 ≤ z) (hz2 : z ≤ 9223372036854775807) (a : Option Addr) (len cap : Nat) (zs : Nat → Int) (hm : len ≤ maxLen)
    (hcell : ∀ i, i < len → ∃ ad, a = some ad ∧ ad.block < w.heap.size ∧ w.cell? (ad.add i) = some (.int .i64 (zs i)) ∧ -9223372036854775808 ≤ zs i ∧ zs i ≤ 9223372036854775807) :
    Calls Try.prog 6 #[.int .i64 z, .slice a len cap] w fun e w' => e = .returned (.bool true) ∧ Keeps (fun _ => False) w w' := by
  unfold maxLen at hm
  have HC := Lib.hid hcell
  clear hcell
  obtain ⟨q0, hq0, hq1⟩ : ∃ q : Nat, z % 1000 = q ∧ q < 1000 := ⟨(z % 1000).toNat, by omega, by omega⟩
  have HQ := Lib.hid hq0
  clear hq0
  go_enter Try.func6, Try.ntmps6
  go_wp2_with (first | (go_at_call 9; refine (place_any z 1000 (by decide) (by decide) hz1 hz2 _).mono ?_; rintro e w2 ⟨he, rfl⟩; rw [HQ.out] at he; subst he) | (go_at_call 10; refine Stop.out ?_))
  refine ⟨?_⟩
  obtain ⟨q, hq⟩ : ∃ q : Nat, q = 1 + q0 := ⟨_, rfl⟩
  rw [show (1 : Int) + (q0 : Int) = (q : Int) from by omega]
  refine (new_any 2000 q (by decide) (by decide) (by omega) (by omega) _).mono ?_
  rintro e w1 ⟨b, rfl, ha, hk⟩
  have hq2 : 1 ≤ q ∧ q ≤ 1000 := by omega
  clear hq hq1
  have G1 : Hid (ArW w b (AM.new 2000 q) (Fresh w w1) w1) := Lib.hid ⟨ha, fun x hx => hx.1, hk⟩
  have H1 := Lib.hid (AM.held_new (q := q) (by omega))
  clear ha hk
  go_wp2
  go_loopw [8, 9, 10] (fun uv lv iv wr => QuotaAt w b q len uv lv iv wr) (fun _ _ iv _ => len - (intOf iv).toNat)
  case atStart => exact ⟨0, 0, _, _, [], rfl, Nat.zero_le _, rfl, rfl, Nat.zero_le _, H1.out, G1.out, names_nil⟩
  case round =>
    clear G1 H1
    obtain ⟨i, u, A, S, L, rfl, hi, rfl, hu, huq, hA, hw, hn⟩ := hrel
    have HA := Lib.hid hA
    have HU := Lib.hid hu
    have HW := Lib.hid hw
    have HNM := Lib.hid hn
    have hLl := hA.len
    clear hA hu hw hn
    by_cases hil : i < len
    · obtain ⟨ad, rfl, hb, hc, hz1, hz2⟩ := HC.out i hil
      have hcr := HW.out.keep.cell hc (fun h => h)
      obtain ⟨n, hn, hn99⟩ : ∃ n : Nat, zs i % 70 = n ∧ n ≤ 69 := ⟨(zs i % 70).toNat, by omega, by omega⟩
      have HN := Lib.hid hn
      clear hn hc
      obtain ⟨c1, c7, c128⟩ := AM.cls_seven hn99
      go_wp2_with (first | (go_at_call 9; refine (place_any _ 70 (by decide) (by decide) hz1 hz2 _).mono ?_; rintro e w2 ⟨he, rfl⟩; rw [HN.out] at he; subst he))
      go_loopw [12] (fun cv wr2 => ClassAt n wr cv wr2) (fun cv _ => n + 1 - (intOf cv).toNat)
      case atStart => exact ⟨1, by rw [AM.pw_one]; rfl, Nat.le_refl _, c1, rfl⟩
      case round =>
        obtain ⟨j, rfl, hj1, hj2, rfl⟩ := hrel
        obtain ⟨g1, g2⟩ := AM.cls_next (n := n) (by omega) hj1 hj2
        have hp0 := pw_pos j
        have hpj := pw_mono hj2
        by_cases hjn : pw j < n + 1
        · have G1 := Lib.hid (g1 hjn)
          clear g1 g2
          go_wp2
          go_roundw
          case rel => exact ⟨j + 1, by rw [pw_succ]; go_num, by omega, G1.out, rfl⟩
          case measure => simp [intOf]; omega
        · obtain rfl : j = cls n := g2 hjn
          clear g1 g2 hj1 hj2 hpj
          go_wp2_with (first | (go_at_call 11; refine Stop.out ?_))
          refine ⟨(alloc_any HW.out.net HA.out.ok n (by omega)).mono ?_⟩
          intro e w2 hp
          obtain ⟨c, hcc⟩ : ∃ c, pw (cls n) = c := ⟨_, rfl⟩
          rcases hal : A.alloc n with _ | ⟨p, B⟩
          · obtain ⟨g, rfl, ha, hk⟩ := allocPost_no hp hal
            have hno := AM.alloc_none hal
            rw [HA.out.quota, HA.out.size, ← HU.out, hcc] at hno
            rw [hcc]
            rw [hcc] at c128 hp0 hjn
            have HW2 := Lib.hid (HW.out.read hk)
            have HNM2 := Lib.hid (HNM.out.read hk)
            clear hp hal ha hk hcc
            by_cases huc : u + c ≤ q
            · have HTO : Hid (((A.top : Nat) : Int) + (c : Int) ≤ 2000 → False) := Lib.hid (by intro h; omega)
              have hta := HA.out.ok.top
              rw [HA.out.size] at hta
              obtain ⟨tp, htp⟩ : ∃ tp, A.top = tp := ⟨_, rfl⟩
              rw [htp] at hta HTO
              have HTP := Lib.hid htp
              have htn : ¬ (tp + c ≤ 2000) := fun h => HTO.out (by omega)
              clear htp HTO hno
              go_wp2_with (first | (go_at_call 15; refine (top_any HW2.out.net).mono ?_; rintro e x ⟨rfl, rfl⟩; rw [HTP.out]) | (go_at_call 14; refine (used_any HW2.out.net).mono ?_; rintro e x ⟨rfl, rfl⟩; rw [← HU.out]))
              go_roundw
              case rel => exact ⟨i + 1, u, A, S, L, by go_num, by omega, rfl, HU.out, huq, HA.out, HW2.out, HNM2.out⟩
              case measure => simp [intOf]; omega
            · clear hno
              go_wp2_with (first | (go_at_call 14; refine (used_any HW2.out.net).mono ?_; rintro e x ⟨rfl, rfl⟩; rw [← HU.out]))
              go_roundw
              case rel => exact ⟨i + 1, u, A, S, L, by go_num, by omega, rfl, HU.out, huq, HA.out, HW2.out, HNM2.out⟩
              case measure => simp [intOf]; omega
          · obtain ⟨rfl, ha, hk⟩ := allocPost_get hp hal
            obtain ⟨hB, hbu, hbq⟩ := HA.out.alloc (by omega) hal
            rw [← HU.out, hcc] at hbu
            rw [hcc]
            rw [hcc] at c128 hp0 hjn
            have HW2 := Lib.hid (HW.out.step ha hk)
            have HNM2 := Lib.hid (HNM.out.step hk)
            have HB := Lib.hid hB
            have HBU : Hid (u + c = B.used) := Lib.hid hbu.symm
            have huc : u + c ≤ q := by omega
            clear hp hal ha hk hcc hB hbu hbq
            go_wp2_with (first | (at_builtin; go_must (refine wpList_append_row _ rfl _ _ 40 40 rfl 3 (.slice 3) 1 8 (.int .i64 0) info_int Try.underlying40 Try.underlying40 (by intro k h; cases h) rfl u9 L.length (ints L) rfl (HNM2.out.row.keeps (S := fun _ => False) (by repeat (first | with_reducible exact Keeps.refl _ _ | with_reducible apply Keeps.drew | with_reducible apply Keeps.alloc)) (fun _ _ h => h)) _ 1 [.int .i64 (p : Nat)] rfl rfl (lenOf_slice _ _ _) (firstCells_at _ rfl (one_newAt rfl)) (by intro u hu; simp at hu; subst hu; rfl) (by unfold maxLen; omega) (by omega) ?_); intro v' w4 ha; obtain ⟨va, vc, rfl, _, _⟩ := ha.row.len; have HW3 := Lib.hid (named HW2.out HNM2.out (by repeat (first | with_reducible exact Keeps.refl _ _ | with_reducible apply Keeps.drew | with_reducible apply Keeps.alloc)) ha); clear ha) | (go_at_call 14; refine (used_any HW3.out.1.net).mono ?_; rintro e x ⟨rfl, rfl⟩; rw [← HBU.out]))
            go_roundw
            case rel => exact ⟨i + 1, u + c, B, _, L ++ [p], by go_num, by omega, by go_num, HBU.out, huc, HB.out, HW3.out.1, HW3.out.2⟩
            case measure => simp [intOf]; omega
    · obtain ⟨la, lc, rfl, hlc, hlm⟩ := HNM.out.row.len
      unfold maxLen at hlm
      go_wp2
      clear hi hil
      go_loopw [15] (fun iv wr => DropAt w b q (.slice la L.length lc) L iv wr) (fun iv _ => L.length - (intOf iv).toNat)
      case atStart => exact ⟨0, A, S, rfl, Nat.zero_le _, HA.out, HW.out, HNM.out⟩
      case round =>
        clear HA HU HW HNM
        obtain ⟨i, A, S, rfl, hi, hA, hw, hn⟩ := hrel
        have HW := Lib.hid hw
        have HNM := Lib.hid hn
        by_cases hil : i < L.length
        · obtain ⟨x, hx⟩ : ∃ x, L[i]? = some x := ⟨L[i]'hil, by simp⟩
          have hd : L.drop i = x :: L.drop (i + 1) := by
            rw [List.drop_eq_getElem_cons hil]
            rw [List.getElem?_eq_getElem hil] at hx
            rw [Option.some.inj hx]
          rw [hd] at hA
          obtain ⟨c, m, hmem, hB⟩ := hA.head
          obtain ⟨g, lc2, e, _, _⟩ := hn.row.form (by omega)
          obtain ⟨rfl, rfl⟩ : la = some ⟨g, 0, none⟩ ∧ lc = lc2 := by cases e; exact ⟨rfl, rfl⟩
          have hcx := hn.row.cell (ints_nth hx)
          have HA := Lib.hid hA.ok
          have HB := Lib.hid hB
          have HM := Lib.hid hmem
          clear hw hn hA hB hmem hd hx e
          go_wp2_with (first | (go_at_call 12; refine Stop.out ?_))
          refine ⟨(free_some HW.out.net HA.out x c m HM.out).mono ?_⟩
          rintro e w3 ⟨rfl, ha, hk⟩
          have HW3 := Lib.hid (HW.out.step ha hk)
          have HNM3 := Lib.hid (HNM.out.step hk)
          clear ha hk
          go_wp2
          go_roundw
          case rel => exact ⟨i + 1, _, _, by go_num, by omega, HB.out, HW3.out, HNM3.out⟩
          case measure => simp [intOf]; omega
        · rw [List.drop_eq_nil_of_le (by omega)] at hA
          obtain ⟨hu0, ht0⟩ := hA.none
          have HA := Lib.hid hA.ok
          have HU0 := Lib.hid hu0
          have HT0 := Lib.hid ht0
          clear hw hn hA hu0 ht0
          go_wp2_with (first | (go_at_call 14; refine (used_any HW.out.net).mono ?_; rintro e x ⟨rfl, rfl⟩; rw [HU0.out]) | (go_at_call 19; refine (blocks_any HW.out.net HA.out).mono ?_; rintro e x1 ⟨bv, ns, rfl, hp, _, hr, _, hk⟩; rw [HT0.out] at hp; obtain rfl : ns = [] := (by simpa using hp.length_eq); obtain ⟨ba, bc, rfl, _, _⟩ := hr.len; have HK1 := Lib.hid hk; clear hr hk hp) | (go_at_call 16; refine (awake_any _).mono ?_; rintro e x2 ⟨rfl, hk2⟩; have HK2 := Lib.hid hk2; clear hk2))
          go_ret
          exact ⟨rfl, (HW.out.keep.trans HK1.out fun _ _ h => h).trans HK2.out fun _ _ h => h⟩
end Go.Proofs.Ytacedeaopgbdhaa

/-
  The law ArenaAgain: what the Go code does.
-/
import Derived.Test.YtacedeaopgbdhaaArNm
namespace Go.Tx
open Go Go.RowKit
def RiseAt (w : World) (b c k : Nat) (lv iv : Value) (wr : World) : Prop :=
  ∃ (i : Nat) (A : AM) (S : Nat → Prop) (L : List Nat), iv = .int .i64 i ∧ i ≤ k ∧ A.Rise c i L ∧ ArW w b A S wr ∧ NamesAt w S lv L wr
def ManyAt (w : World) (b c k len : Nat) (lv : Value) (L : List Nat) (fv iv : Value) (wr : World) : Prop :=
  ∃ (i : Nat) (A : AM) (S : Nat → Prop) (F : List Nat), iv = .int .i64 i ∧ i ≤ len ∧ A.Many c k F ∧ ArW w b A S wr ∧ NamesAt w S lv L wr ∧ NamesAt w (fun x => S x ∨ Own lv x) fv F wr
def BackAt (w : World) (b c k : Nat) (fv : Value) (F : List Nat) (iv : Value) (wr : World) : Prop :=
  ∃ (i : Nat) (A : AM) (S : Nat → Prop), iv = .int .i64 ((i : Int) - 1) ∧ i ≤ F.length ∧ A.Many c k (F.take i) ∧ ArW w b A S wr ∧ NamesAt w S fv F wr
theorem NamesAt.one {w wr : World} {S T : Nat → Prop} {fv : Value} {F : List Nat} (h : NamesAt w (fun x => S x ∨ T x) fv F wr) : NamesAt w S fv F wr := ⟨h.row, fun g hg => ⟨(h.own g hg).1, fun hs => (h.own g hg).2 (.inl hs)⟩⟩
theorem take_one {l : List Nat} {i : Nat} {x : Nat} (h : l[i]? = some x) : l.take (i + 1) = l.take i ++ [x] := by rw [List.take_add_one, h]; rfl
end Go.Tx
namespace Go.Proofs.Ytacedeaopgbdhaa
open Go.RowKit Go.Tx
set_option maxRecDepth 100000 in
set_option maxHeartbeats 800000 in
theorem again_any (w : World) (z y : Int) (hz1 : -9223372036854775808 ≤ z) (hz2 : z ≤ 9223372036854775807) (hy1 : -9223372036854775808 ≤ y) (hy2 : y ≤ 9223372036854775807) (a : Option Addr) (len cap : Nat) (zs : Nat → Int) (hm : len ≤ maxLen)
    (hcell : ∀ i, i < len → ∃ ad, a = some ad ∧ ad.block < w.heap.size ∧ w.cell? (ad.add i) = some (.int .i64 (zs i)) ∧ -9223372036854775808 ≤ zs i ∧ zs i ≤ 9223372036854775807) :
    Calls Try.prog 5 #[.int .i64 z, .int .i64 y, .slice a len cap] w fun e w' => e = .returned (.bool true) ∧ Keeps (fun _ => False) w w' := by
  unfold maxLen at hm
  have HC := Lib.hid hcell
  clear hcell
  obtain ⟨n, hn0, hn⟩ : ∃ n : Nat, z % 30 = n ∧ n ≤ 29 := ⟨(z % 30).toNat, by omega, by omega⟩
  have HN := Lib.hid hn0
  obtain ⟨k0, hk0, hk1⟩ : ∃ k : Nat, y % 20 = k ∧ k ≤ 19 := ⟨(y % 20).toNat, by omega, by omega⟩
  have HK0 := Lib.hid hk0
  clear hn0 hk0
  obtain ⟨c, hc⟩ : ∃ c, cls n = c := ⟨_, rfl⟩
  have HCL := Lib.hid hc
  clear hc
  go_enter Try.func5, Try.ntmps5
  go_wp2_with (first | (go_at_call 9; refine Stop.out ?_))
  refine ⟨(place_any z 30 (by decide) (by decide) hz1 hz2 _).mono ?_⟩
  rintro e w2 ⟨rfl, rfl⟩
  rw [HN.out]
  go_wp2_with (first | (go_at_call 9; refine Stop.out ?_))
  refine ⟨(place_any y 20 (by decide) (by decide) hy1 hy2 _).mono ?_⟩
  rintro e w2 ⟨rfl, rfl⟩
  rw [HK0.out]
  go_wp2_with (first | (go_at_call 10; refine Stop.out ?_))
  refine ⟨?_⟩
  obtain ⟨k, hk⟩ : ∃ k : Nat, k = 1 + k0 := ⟨_, rfl⟩
  rw [show (1 : Int) + (k0 : Int) = (k : Int) from by omega]
  refine (new_any 2000 2000 (by decide) (by decide) (by decide) (by decide) _).mono ?_
  rintro e w1 ⟨b, rfl, ha, hkk⟩
  have hk2 : 1 ≤ k ∧ k ≤ 20 := by omega
  clear hk hk1
  have G1 : Hid (ArW w b (AM.new 2000 2000) (Fresh w w1) w1) := Lib.hid ⟨ha, fun x hx => hx.1, hkk⟩
  clear ha hkk
  go_wp2
  go_loopw [11, 12] (fun lv iv wr => RiseAt w b c k lv iv wr) (fun _ iv _ => k - (intOf iv).toNat)
  case atStart => exact ⟨0, _, _, [], rfl, Nat.zero_le _, AM.rise_new c, G1.out, names_nil⟩
  case round =>
    clear G1
    obtain ⟨i, A, S, L, rfl, hi, hA, hw, hn1⟩ := hrel
    have HA := Lib.hid hA
    have HW := Lib.hid hw
    have HNM := Lib.hid hn1
    have HLL := Lib.hid hA.count
    have hLb : L.length ≤ 20 := by have := hA.count; omega
    clear hA hw hn1
    by_cases hil : i < k
    · obtain ⟨p, B, hal, hB⟩ := HA.out.alloc hn HCL.out (by omega)
      have HAL := Lib.hid hal
      have HB := Lib.hid hB
      clear hal hB
      go_wp2_with (first | (go_at_call 11; refine Stop.out ?_))
      refine ⟨(alloc_any HW.out.net HA.out.ok n (by omega)).mono ?_⟩
      intro e w2 hp
      obtain ⟨rfl, ha, hk⟩ := allocPost_get hp HAL.out
      have HW2 := Lib.hid (HW.out.step ha hk)
      have HNM2 := Lib.hid (HNM.out.step hk)
      clear hp ha hk
      go_wp2_with (first | (at_builtin; go_must (refine wpList_append_row _ rfl _ _ 40 40 rfl 3 (.slice 3) 1 8 (.int .i64 0) info_int Try.underlying40 Try.underlying40 (by intro k h; cases h) rfl u11 L.length (ints L) rfl (HNM2.out.row.keeps (S := fun _ => False) (by repeat (first | with_reducible exact Keeps.refl _ _ | with_reducible apply Keeps.drew | with_reducible apply Keeps.alloc)) (fun _ _ h => h)) _ 1 [.int .i64 (p : Nat)] rfl rfl (lenOf_slice _ _ _) (firstCells_at _ rfl (one_newAt rfl)) (by intro u hu; simp at hu; subst hu; rfl) (by unfold maxLen; omega) (by omega) ?_); intro v' w4 ha; obtain ⟨va, vc, rfl, _, _⟩ := ha.row.len; have HW3 := Lib.hid (named HW2.out HNM2.out (by repeat (first | with_reducible exact Keeps.refl _ _ | with_reducible apply Keeps.drew | with_reducible apply Keeps.alloc)) ha); clear ha))
      go_roundw
      case rel => exact ⟨i + 1, B, _, L ++ [p], by go_num, by omega, HB.out, HW3.out.1, HW3.out.2⟩
      case measure => simp [intOf]; omega
    · obtain rfl : i = k := by omega
      obtain ⟨la, lc, hlv, hlc, hlm⟩ := HNM.out.row.len
      subst hlv
      have hLl := HLL.out
      clear HLL
      subst hLl
      clear hi hil
      have HM0 := Lib.hid HA.out.many
      unfold maxLen at hlm
      go_wp2
      go_loopw [15, 16] (fun fv iv wr => ManyAt w b c L.length len (.slice la L.length lc) L fv iv wr) (fun _ iv _ => len - (intOf iv).toNat)
      case atStart => exact ⟨0, A, S, [], rfl, Nat.zero_le _, HM0.out, HW.out, HNM.out, names_nil⟩
      case round =>
        clear HA HW HNM HM0
        obtain ⟨i, A, S, F, rfl, hi, hA, hw, hl, hf⟩ := hrel
        have HA := Lib.hid hA
        have HW := Lib.hid hw
        have HL := Lib.hid hl
        have HF := Lib.hid hf
        have hFl := hA.count
        clear hA hw hl hf
        by_cases hil : i < len
        · obtain ⟨ad, rfl, hb, hcc, hz1, hz2⟩ := HC.out i hil
          have hcr := HW.out.keep.cell hcc (fun h => h)
          clear hcc
          obtain ⟨j, hj, hjk⟩ : ∃ j : Nat, zs i % (L.length : Int) = j ∧ j < L.length := ⟨(zs i % (L.length : Int)).toNat, by have := Int.emod_nonneg (zs i) (show (L.length : Int) ≠ 0 by omega); omega, by have := Int.emod_lt_of_pos (zs i) (show (0 : Int) < L.length by omega); have := Int.emod_nonneg (zs i) (show (L.length : Int) ≠ 0 by omega); omega⟩
          have HJ := Lib.hid hj
          clear hj
          obtain ⟨x, hx⟩ : ∃ x, L[j]? = some x := ⟨L[j]'hjk, by simp⟩
          obtain ⟨g, lc2, e, _, _⟩ := HL.out.row.form (by omega)
          obtain ⟨rfl, rfl⟩ : la = some ⟨g, 0, none⟩ ∧ lc = lc2 := by cases e; exact ⟨rfl, rfl⟩
          have hcx := HL.out.row.cell (ints_nth hx)
          clear hx e
          go_wp2_with (first | (go_at_call 9; refine (place_any _ L.length (by omega) (by omega) hz1 hz2 _).mono ?_; rintro e w2 ⟨he, rfl⟩; rw [HJ.out] at he; subst he) | (go_at_call 12; refine Stop.out ?_))
          refine ⟨?_⟩
          rcases hlk : A.look (x : Int) with _ | ⟨c', m⟩
          · refine (free_none HW.out.net (x : Int) hlk).mono ?_
            rintro e w3 ⟨E, rfl, he, ha, hk⟩
            obtain ⟨g2, rfl⟩ := he.iface
            have HW3 := Lib.hid (HW.out.read hk)
            have HL3 := Lib.hid (HL.out.read hk)
            have HF3 := Lib.hid (HF.out.read hk)
            clear he ha hk hlk
            go_wp2
            go_roundw
            case rel => exact ⟨i + 1, A, S, F, by go_num, by omega, HA.out, HW3.out, HL3.out, HF3.out⟩
            case measure => simp [intOf]; omega
          · have hmem := (AM.look_iff HA.out.ok).1 hlk
            obtain ⟨rfl, hG⟩ := HA.out.give hmem
            have HG := Lib.hid hG
            refine (free_some HW.out.net HA.out.ok x c' m hmem).mono ?_
            rintro e w3 ⟨rfl, ha, hk⟩
            have HW3 := Lib.hid (HW.out.step ha hk)
            have HL3 := Lib.hid (HL.out.step hk)
            have HF3 := Lib.hid (HF.out.step2 HL.out hk)
            clear ha hk hlk hmem hG
            go_wp2_with (first | (at_builtin; go_must (refine wpList_append_row _ rfl _ _ 40 40 rfl 3 (.slice 3) 1 8 (.int .i64 0) info_int Try.underlying40 Try.underlying40 (by intro k h; cases h) rfl u15 F.length (ints F) rfl (HF3.out.row.keeps (S := fun _ => False) (by repeat (first | with_reducible exact Keeps.refl _ _ | with_reducible apply Keeps.drew | with_reducible apply Keeps.alloc)) (fun _ _ h => h)) _ 1 [.int .i64 (x : Nat)] rfl rfl (lenOf_slice _ _ _) (firstCells_at _ rfl (one_newAt rfl)) (by intro u hu; simp at hu; subst hu; rfl) (by unfold maxLen; omega) (by omega) ?_); intro v' w4 ha; obtain ⟨va, vc, rfl, _, _⟩ := ha.row.len; have HW4 := Lib.hid (named2 HW3.out HL3.out HF3.out (by repeat (first | with_reducible exact Keeps.refl _ _ | with_reducible apply Keeps.drew | with_reducible apply Keeps.alloc)) ha); clear ha))
            go_roundw
            case rel => exact ⟨i + 1, _, _, F ++ [x], by go_num, by omega, HG.out, HW4.out.1, HW4.out.2.1, HW4.out.2.2⟩
            case measure => simp [intOf]; omega
        · obtain ⟨fa, fc, hfv, hfc, hfm⟩ := HF.out.row.len
          have HFN : Hid (NamesAt w S u15 F wr) := Lib.hid HF.out.one
          subst hfv
          unfold maxLen at hfm
          clear HF HL
          go_wp2
          clear hi hil
          go_loopw [18] (fun iv wr => BackAt w b c L.length (.slice fa F.length fc) F iv wr) (fun iv _ => (intOf iv + 1).toNat)
          case atStart => exact ⟨F.length, A, S, by go_num, Nat.le_refl _, by rw [List.take_length]; exact HA.out, HW.out, HFN.out⟩
          case round =>
            clear HA HW HFN
            obtain ⟨i, A, S, rfl, hi, hA, hw, hf⟩ := hrel
            have HW := Lib.hid hw
            have HF := Lib.hid hf
            clear hw
            rcases i with _ | j
            · have hl0 : A.taken.length = L.length := by have := hA.count; simpa using this
              have HOK := Lib.hid hA.ok
              have HT := Lib.hid hl0
              clear hA hf hl0
              go_wp2_with (first | (go_at_call 19; refine (blocks_any HW.out.net HOK.out).mono ?_; rintro e x1 ⟨bv, ns, rfl, hp, _, hr, _, hk⟩; obtain ⟨ba, bc, rfl, _, _⟩ := hr.len; rw [show ns.length = L.length from (by rw [hp.length_eq, List.length_map]; exact HT.out)]; have HK1 := Lib.hid hk; clear hr hk hp) | (go_at_call 16; refine (awake_any _).mono ?_; rintro e x2 ⟨rfl, hk2⟩; have HK2 := Lib.hid hk2; clear hk2))
              go_ret
              exact ⟨rfl, (HW.out.keep.trans HK1.out fun _ _ h => h).trans HK2.out fun _ _ h => h⟩
            · rw [show (((j + 1 : Nat) : Int) - 1) = (j : Int) from by omega]
              have hjf : j < F.length := by omega
              obtain ⟨x, hx⟩ : ∃ x, F[j]? = some x := ⟨F[j]'hjf, by simp⟩
              rw [take_one hx] at hA
              obtain ⟨g, lc2, e, _, _⟩ := hf.row.form (by omega)
              obtain ⟨rfl, rfl⟩ : fa = some ⟨g, 0, none⟩ ∧ fc = lc2 := by cases e; exact ⟨rfl, rfl⟩
              obtain ⟨B, hal, hB⟩ := hA.alloc hn HCL.out hk2.2
              have HOK := Lib.hid hA.ok
              have HAL := Lib.hid hal
              have HB := Lib.hid hB
              have HX := Lib.hid hx
              clear hA hf hal hB hx e
              go_wp2_with (first | (go_at_call 11; refine Stop.out ?_))
              refine ⟨(alloc_any HW.out.net HOK.out n (by omega)).mono ?_⟩
              intro e w2 hp
              obtain ⟨rfl, ha, hk⟩ := allocPost_get hp HAL.out
              have HW3 := Lib.hid (HW.out.step ha hk)
              have HF3 := Lib.hid (HF.out.step hk)
              have hcx := HF3.out.row.cell (ints_nth HX.out)
              clear hp ha hk
              go_wp2
              go_roundw
              case rel => exact ⟨j, B, _, rfl, by omega, HB.out, HW3.out, HF3.out⟩
              case measure => simp [intOf]
end Go.Proofs.Ytacedeaopgbdhaa

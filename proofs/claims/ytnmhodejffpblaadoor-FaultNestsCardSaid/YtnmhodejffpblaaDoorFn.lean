/-
  The law FaultNests: what the Go code does.
-/
import Derived.Test.YtnmhodejffpblaaDoorFp
import Derived.Test.YtnmhodejffpblaaDoorFi
import Derived.Lib.SlBytesRow
namespace Go.Tx
open Go Go.RowKit
def opText (r q : Nat) : ByteArray := ⟨#[UInt8.ofNat (97 + r), UInt8.ofNat (97 + q)]⟩
def opName (j : Nat) : ByteArray := ⟨#[111, 112]⟩ ++ opText (j % 26) (j / 26)
def nestOf (zs : Nat → Int) (L : Nat) : List (ByteArray × Int) := (List.range L).map fun j => (opName j, zs j)
end Go.Tx
namespace Go.Proofs.YtnmhodejffpblaaDoor
open Go.RowKit Go.Tx
theorem slice_first (a0 : Option Addr) (len cap : Nat) (h1 : 60 < len) (h2 : len ≤ cap) (w : World) : (Instr.slice 34 (.slice a0 len cap) none (some (.int .i64 60)) none).run Tryd.prog w = .ok (.slice a0 60 cap) w := by
  have hz : (sizeOf 3).run Tryd.prog w = .ok 1 w := by kernel_rfl
  have ha : a0.map (·.add 0) = a0 := by cases a0 <;> simp [Addr.add]
  have hb : (Instr.sliceBound (.int .i64 60) cap .sliceAcap).run Tryd.prog w = .ok 60 w := by
    have hc : (60 : Int) ≤ (cap : Int) := by omega
    simp [Instr.sliceBound, asIntOf, hc]
  simp [Instr.slice, run_underlying Tryd.underlying34, Instr.sliceBounds, hz, hb, ha]
theorem conv_two (r q : Nat) (hr : r < 26) (hq : q < 3) (w : World) : (convert 35 9 (.slice (some ⟨w.heap.size, 0, none⟩) 2 2)).run Tryd.prog (w.alloc (.cells #[.int .u8 (97 + (r : Int)), .int .u8 (97 + (q : Int))] 5)) = .ok (.string (opText r q)) (w.alloc (.cells #[.int .u8 (97 + (r : Int)), .int .u8 (97 + (q : Int))] 5)) := by
  have hb := Blk.new w [.int .u8 (97 + (r : Int)), .int .u8 (97 + (q : Int))] 5
  have h := Go.Lib.run_convert_whole (P := Tryd.prog) (w.alloc (.cells #[.int .u8 (97 + (r : Int)), .int .u8 (97 + (q : Int))] 5)) 35 5 9 Tryd.underlying35 Tryd.underlying5 Tryd.underlying9 w.heap.size 0 (opText r q) (fun i hi => by
    have e1 : (UInt8.ofNat (97 + r)).toNat = 97 + r := by simp; omega
    have e2 : (UInt8.ofNat (97 + q)).toNat = 97 + q := by simp; omega
    have hi2 : i < 2 := hi
    rw [Nat.zero_add]
    refine hb.cell ?_
    rcases i with _ | _ | i
    · show some _ = some (Value.int .u8 (((UInt8.ofNat (97 + r)).toNat : Nat) : Int))
      rw [e1]; simp
    · show some _ = some (Value.int .u8 (((UInt8.ofNat (97 + q)).toNat : Nat) : Int))
      rw [e2]; simp
    · omega) 2
  exact h
theorem op_once : ∀ i : Fin 60, ∀ j : Fin 60, opName i = opName j → i = j := by decide +kernel
theorem nest_step (zs : Nat → Int) {L m : Nat} (hm : m < L) : (nestOf zs L).drop (L - (m + 1)) = (opName (L - 1 - m), zs (L - 1 - m)) :: (nestOf zs L).drop (L - m) := by
  have hl : L - (m + 1) < (nestOf zs L).length := by simp [nestOf]; omega
  rw [List.drop_eq_getElem_cons hl]
  have e1 : L - (m + 1) + 1 = L - m := by omega
  have e2 : L - (m + 1) = L - 1 - m := by omega
  rw [e1]
  simp [nestOf, e2]
theorem nest_length (zs : Nat → Int) (L : Nat) : (nestOf zs L).length = L := by simp [nestOf]
theorem div26 (j : Nat) (hj : j < 60) : Int.tmod (j : Int) 26 = ((j % 26 : Nat) : Int) ∧ Int.tdiv (j : Int) 26 = ((j / 26 : Nat) : Int) ∧ j % 26 < 26 ∧ j / 26 < 3 := by
  refine ⟨?_, ?_, by omega, by omega⟩
  · rw [Int.tmod_eq_emod_of_nonneg (by omega)]; omega
  · rw [Int.tdiv_eq_ediv_of_nonneg (by omega)]; omega
theorem nest_drop (zs : Nat → Int) {L i : Nat} (hi : i < L) : (nestOf zs L).drop i = (opName i, zs i) :: (nestOf zs L).drop (i + 1) := by
  have hl : i < (nestOf zs L).length := by rw [nest_length]; exact hi
  rw [List.drop_eq_getElem_cons hl]
  simp [nestOf]
theorem nest_num (zs : Nat → Int) {L i : Nat} (hi : i < L) (hL : L ≤ 60) : numOf (nestOf zs L) (opName i) = (zs i, true) := by
  unfold numOf
  rw [find_drop (i := i) fun j t hj ht => ?_, nest_drop zs hi, List.find?_cons_of_pos (by rw [ba_beq]; exact decide_eq_true rfl)]
  rw [ba_beq]
  refine decide_eq_false fun e => ?_
  have hjl : j < (nestOf zs L).length := (List.getElem?_eq_some_iff.1 ht).1
  rw [nest_length] at hjl
  have h1 : t = (opName j, zs j) := by
    obtain ⟨_, h⟩ := List.getElem?_eq_some_iff.1 ht
    rw [← h]
    simp [nestOf]
  rw [h1] at e
  have := op_once ⟨j, by omega⟩ ⟨i, by omega⟩ e
  have := congrArg Fin.val this
  simp only at this
  omega
def threeKinds : List Int := [2, 3, 1]
theorem three_at (n : Int) : ∃ (i : Nat) (x : Int), n % 3 = i ∧ i < 3 ∧ threeKinds[i]? = some x ∧ x ≠ 0 := by
  have h0 := Int.emod_nonneg n (b := 3) (by decide)
  have h1 := Int.emod_lt_of_pos n (b := 3) (by decide)
  have hi : (n % 3).toNat < threeKinds.length := by show (n % 3).toNat < 3; omega
  refine ⟨(n % 3).toNat, threeKinds[(n % 3).toNat], by omega, hi, List.getElem?_eq_getElem hi, ?_⟩
  have hm : threeKinds[(n % 3).toNat] ∈ threeKinds := List.getElem_mem hi
  intro e
  rw [e] at hm
  revert hm
  decide
set_option maxRecDepth 100000 in
set_option maxHeartbeats 1600000 in
theorem nests_any (w : World) (a0 : Option Addr) (len cap : Nat) (zs : Nat → Int) (k : Int) (hlc : len ≤ cap) (hcm : cap ≤ maxLen) (k1 : -9223372036854775808 ≤ k) (k2 : k ≤ 9223372036854775807) (hg : ErrorType w)
    (hcell : ∀ i, i < len → ∃ ad, a0 = some ad ∧ ad.block < w.heap.size ∧ w.cell? (ad.add i) = some (.int .i64 (zs i)) ∧ -9223372036854775808 ≤ zs i ∧ zs i ≤ 9223372036854775807) :
    Calls Tryd.prog 5 #[.slice a0 len cap, .int .i64 k] w fun e w' => e = .returned (.bool true) ∧ Keeps (fun _ => False) w w' := by
  have HG := Lib.hid hg
  have HC := Lib.hid hcell
  clear hg hcell
  obtain ⟨ki, kd, hki, hkil, hkd, hk0⟩ := three_at k
  have hb0 := Blk.new w (threeKinds.map (Value.int .i64)) 23
  have d1 : (w.alloc (.cells (threeKinds.map (Value.int .i64)).toArray 23)).cell? ⟨w.heap.size, ki, none⟩ = some (.int .i64 kd) := hb0.cell (by rw [List.getElem?_map, hkd]; rfl)
  simp only [threeKinds, List.map_cons, List.map_nil] at d1
  have HKI := Lib.hid hki
  clear hki hkd hb0
  obtain ⟨L, hL, hLl, hL60⟩ : ∃ L : Nat, (if 60 < len then 60 else len) = L ∧ L ≤ len ∧ L ≤ 60 := ⟨_, rfl, by split <;> omega, by split <;> omega⟩
  go_enter Tryd.func5, Tryd.ntmps5
  by_cases h60 : 60 < len
  · rw [if_pos h60] at hL
    have g1 : decide ((60 : Int) < (len : Int)) = true := decide_eq_true (by omega)
    have sl : ∀ w, (Instr.slice 34 (.slice a0 len cap) none (some (.int .i64 60)) none).run Tryd.prog w = .ok (.slice a0 L cap) w := by subst hL; exact slice_first a0 len cap h60 hlc
    have HL := Lib.hid hL
    clear hL
    go_wp2_with (first | (go_at_call 8; refine Stop.out ?_))
    refine ⟨(place_any _ _ (by decide) (by decide) k1 k2 _).mono ?_⟩
    rw [HKI.out]
    rintro e w1 ⟨rfl, rfl⟩
    go_wp2
    obtain ⟨w0, hw0⟩ : ∃ w0, w0 = w.alloc (.cells #[.int .i64 2, .int .i64 3, .int .i64 1] 23) := ⟨_, rfl⟩
    rw [← hw0]
    have HK0 : Hid (Keeps (fun _ => False) w w0) := Lib.hid (by rw [hw0]; exact (Keeps.refl _ w).alloc _)
    clear d1 hw0 g1
    go_loopw [6, 7] (fun ev iv wr => ∃ m : Nat, m ≤ L ∧ iv = .int .i64 ((L : Int) - 1 - m) ∧ IsErr wr (fun _ => True) ev ((nestOf zs L).drop (L - m)) kd ∧ Keeps (fun _ => False) w0 wr) (fun _ iv _ => (intOf iv + 1).toNat)
    case atStart => exact ⟨0, Nat.zero_le _, by simp, by rw [Nat.sub_zero, List.drop_eq_nil_of_le (by rw [nest_length]; exact Nat.le_refl _)]; rfl, Keeps.refl _ _⟩
    case round =>
      obtain ⟨m, hm, rfl, he, hk⟩ := hrel
      have HE := Lib.hid he
      have HKr := Lib.hid hk
      clear he hk
      by_cases hml : m < L
      · obtain ⟨j, hj⟩ : ∃ j : Nat, j = L - 1 - m := ⟨_, rfl⟩
        have hj2 : (L : Int) - 1 - (m : Int) = (j : Int) := by omega
        rw [hj2]
        have hj60 : j < 60 := by omega
        have hjL : j < L := by omega
        have hjL2 : (j : Int) < (L : Int) := by omega
        obtain ⟨t1, t2, t3, t4⟩ := div26 j hj60
        obtain ⟨r, hr⟩ : ∃ r, j % 26 = r := ⟨_, rfl⟩
        obtain ⟨q, hq⟩ : ∃ q, j / 26 = q := ⟨_, rfl⟩
        rw [hr] at t1 t3
        rw [hq] at t2 t4
        have t1' : (j : Int) % 26 = (r : Int) := by omega
        have t2' : (j : Int) / 26 = (q : Int) := by omega
        have HJ : Hid (j = L - 1 - m) := Lib.hid hj
        have HRQ : Hid (j % 26 = r ∧ j / 26 = q) := Lib.hid ⟨hr, hq⟩
        have u1 : (97 + (r : Int)) % 256 = 97 + (r : Int) := by omega
        have u2 : (97 + (q : Int)) % 256 = 97 + (q : Int) := by omega
        have c1 : (convert 35 9 (.slice (some ⟨wr.heap.size, 0, none⟩) 2 2)).run Tryd.prog (wr.alloc (.cells #[.int .u8 (97 + (r : Int)), .int .u8 (97 + (q : Int))] 5)).drew = .ok (.string (opText r q)) (wr.alloc (.cells #[.int .u8 (97 + (r : Int)), .int .u8 (97 + (q : Int))] 5)).drew := conv_two r q t3 t4 wr.drew
        obtain ⟨ad, had, hadb, hadc, _⟩ := HC.out j (by omega)
        subst had
        have hcr : wr.cell? (ad.add j) = some (.int .i64 (zs j)) := HKr.out.cell (HK0.out.cell hadc fun h => h) fun h => h
        have hcr2 : (wr.alloc (.cells #[.int .u8 (97 + (r : Int)), .int .u8 (97 + (q : Int))] 5)).cell? (ad.add j) = some (.int .i64 (zs j)) := ((Keeps.refl (fun _ => False) wr).alloc _).cell hcr fun h => h
        obtain ⟨et, ev, rfl⟩ := HE.out.iface
        have HHo : Hid (∀ W, Keeps (fun _ => False) wr W → W.cell? (ad.add j) = some (.int .i64 (zs j))) := Lib.hid fun W hW => hW.cell hcr fun h => h
        clear hj hj2 hr hq hcr hcr2 hadc hadb
        go_wp2_with (first | (show Code.wp _ (Code.region 8 _ _) _ _ _; refine Stop.out ?_))
        refine ⟨?_⟩
        refine wp_region_held_text (fun W => W.cell? (ad.add j) = some (.int .i64 (zs j))) [14] (by kernel_rfl) (by kernel_rfl) (HHo.out _ (Keeps.refl _ _).drew) ?_
        go_wp2_with (first | (refine wpH_load rfl _ _ rfl _ rfl rfl _ _ rfl (fun _ h => h) (HHo.out _ (by repeat (first | with_reducible exact Keeps.refl _ _ | with_reducible apply Keeps.drew | with_reducible apply Keeps.alloc))) ?_) | (refine wpH_walk rfl rfl ?_) | (refine held_fin (HHo.out _ (by repeat (first | with_reducible exact Keeps.refl _ _ | with_reducible exact K2.out | with_reducible apply Keeps.drew | with_reducible apply Keeps.alloc))) ?_) | (refine wpH_nil ?_) | (with_reducible refine text_fin (by kernel_rfl) ?_) | (go_at_call 10; refine Stop.out ?_))
        refine ⟨(at_any _ _ _ _ _).mono ?_⟩
        rintro e w2 ⟨rfl, hw2⟩
        have hk2 : Keeps (fun _ => False) wr w2 := by rw [hw2]; exact ((Keeps.refl _ wr).alloc _).drew.alloc _
        have hb2 : Blk w2 (wr.heap.size + 1) 46 [.string (opName j), .int .i64 (zs j), .iface et ev] := by
          rw [hw2, opName, HRQ.out.1, HRQ.out.2]
          have := Blk.new (wr.alloc (.cells #[.int .u8 (97 + (r : Int)), .int .u8 (97 + (q : Int))] 5)).drew [.string (⟨#[111, 112]⟩ ++ opText r q), .int .i64 (zs j), .iface et ev] 46
          have e9 : (wr.alloc (.cells #[.int .u8 (97 + (r : Int)), .int .u8 (97 + (q : Int))] 5)).drew.heap.size = wr.heap.size + 1 := World.size_alloc ..
          rw [e9] at this
          exact this
        have K2 := Lib.hid hk2
        have B2 := Lib.hid hb2
        clear hk2 hb2 hw2 c1
        go_wp2_with (first | (refine wpH_load rfl _ _ rfl _ rfl rfl _ _ rfl (fun _ h => h) (HHo.out _ (by repeat (first | with_reducible exact Keeps.refl _ _ | with_reducible exact K2.out | with_reducible apply Keeps.drew | with_reducible apply Keeps.alloc))) ?_) | (refine wpH_walk rfl rfl ?_) | (refine held_fin (HHo.out _ (by repeat (first | with_reducible exact Keeps.refl _ _ | with_reducible exact K2.out | with_reducible apply Keeps.drew | with_reducible apply Keeps.alloc))) ?_) | (refine wpH_nil ?_) | (with_reducible refine text_fin (by kernel_rfl) ?_))
        have hjm := HJ.out
        refine ⟨⟨m + 1, by omega, by congr 1; omega, ?_, HKr.out.trans K2.out fun _ _ h => h⟩, ?_⟩
        · rw [nest_step zs hml, ← hjm]
          exact ⟨_, _, rfl, B2.out, trivial, HE.out.keeps K2.out fun _ _ h => h⟩
        · simp only [intOf]
          omega
      · obtain rfl : L = m := by omega
        have g0 : ((L : Int) - 1 - (L : Int)) = -1 := by omega
        rw [g0]
        obtain ⟨wo, rfl⟩ : ∃ wo : World, wo = wr := ⟨_, rfl⟩
        have he := HE.out
        rw [Nat.sub_self, List.drop_zero] at he
        have HEE : Hid (∀ W, Keeps (fun _ => False) wo W → IsErr W (fun _ => True) u6 (nestOf zs L) kd) := Lib.hid fun W hW => he.keeps hW fun _ _ h => h
        have HGG : Hid (∀ W, Keeps (fun _ => False) wo W → ErrorType W) := Lib.hid fun W hW => ((HG.out.keeps HK0.out fun h => h).keeps HKr.out fun h => h).keeps hW fun h => h
        obtain ⟨et, ev, rfl⟩ := HE.out.iface
        clear he
        go_wp2
        have HNL := Lib.hid (nest_length zs L)
        go_loopw [8] (fun iv W => ∃ i : Nat, i ≤ L ∧ iv = .int .i64 i ∧ Keeps (fun _ => False) wo W) (fun iv _ => L - (intOf iv).toNat)
        case atStart => exact ⟨0, Nat.zero_le _, rfl, Keeps.refl _ _⟩
        case round =>
          obtain ⟨i, hi, rfl, hk⟩ := hrel
          have HKi := Lib.hid hk
          clear hk
          by_cases hil : i < L
          · have hi60 : i < 60 := by omega
            obtain ⟨t1, t2, t3, t4⟩ := div26 i hi60
            obtain ⟨r, hr⟩ : ∃ r, i % 26 = r := ⟨_, rfl⟩
            obtain ⟨q, hq⟩ : ∃ q, i / 26 = q := ⟨_, rfl⟩
            rw [hr] at t1 t3
            rw [hq] at t2 t4
            have t1' : (i : Int) % 26 = (r : Int) := by omega
            have t2' : (i : Int) / 26 = (q : Int) := by omega
            have hname : (⟨#[111, 112]⟩ : ByteArray) ++ opText r q = opName i := by rw [opName, hr, hq]
            have HN := Lib.hid hname
            have u1 : (97 + (r : Int)) % 256 = 97 + (r : Int) := by omega
            have u2 : (97 + (q : Int)) % 256 = 97 + (q : Int) := by omega
            have g1 : (i : Int) < (L : Int) := by omega
            have c1 := conv_two r q t3 t4 wr
            have hl1 : (nestOf zs L).length ≤ 9000 := by rw [HNL.out]; omega
            have HNUM := Lib.hid (nest_num zs hil hL60)
            have HDROP := Lib.hid (nest_drop zs hil)
            clear hr hq
            go_wp2_with (first | (go_at_call 13; refine Stop.out ?_))
            have hka : Keeps (fun _ => False) wr (wr.alloc (.cells #[.int .u8 (97 + (r : Int)), .int .u8 (97 + (q : Int))] 5)) := (Keeps.refl _ _).alloc _
            refine ⟨(number_any (HEE.out _ (HKi.out.trans hka fun _ _ h => h)) hl1 (HGG.out _ (HKi.out.trans hka fun _ _ h => h)) _).mono ?_⟩
            rw [HNUM.out]
            rintro e w4 ⟨rfl, hk4⟩
            have HK4 := Lib.hid (HKi.out.trans (hka.trans hk4 fun _ _ h => h) fun _ _ h => h)
            clear hka hk4 c1
            obtain ⟨ad, had, hadb, hadc, _⟩ := HC.out i (by omega)
            subst had
            have hcr : w4.cell? (ad.add i) = some (.int .i64 (zs i)) := HK4.out.cell (HKr.out.cell (HK0.out.cell hadc fun h => h) fun h => h) fun h => h
            clear hadc hadb
            go_wp2_with (first | (go_at_call 14; refine Stop.out ?_))
            refine ⟨(trim_any (HEE.out _ HK4.out) hl1 i (by rw [HNL.out]; omega)).mono ?_⟩
            rintro e w5 ⟨u, rfl, hu, rfl⟩
            have hie : IsErr w5 (fun _ => True) u ((nestOf zs L).drop i) kd := by
              rcases hu with ⟨_, h⟩ | ⟨h, _⟩
              · exact h
              · rw [HNL.out] at h; omega
            have HIE := Lib.hid hie
            have hld : ((nestOf zs L).drop i).length = L - i := by rw [List.length_drop, HNL.out]
            have HLD := Lib.hid hld
            obtain ⟨ut, uv, rfl⟩ := hie.iface
            clear hu hie hld hcr
            go_wp2_with (first | (go_at_call 15; refine Stop.out ?_))
            refine ⟨(path_any HIE.out (by rw [HLD.out]; omega) (HGG.out _ HK4.out)).mono ?_⟩
            rintro e w6 ⟨pv, rfl, hp, hk6⟩
            have HK6 := Lib.hid (HK4.out.trans hk6 fun _ _ h => h)
            have HIE6 := Lib.hid (HIE.out.keeps hk6 fun _ _ h => h)
            rw [HLD.out, HDROP.out] at hp
            obtain ⟨pb, pc, e6, _⟩ := hp.form (by omega)
            subst e6
            have d6 : w6.cell? ⟨pb, 0, none⟩ = some (.string (opName i)) := hp.cell (i := 0) rfl
            obtain ⟨li, hli⟩ : ∃ li : Nat, li = L - i := ⟨_, rfl⟩
            have hli2 : (L : Int) - (i : Int) = (li : Int) := by omega
            rw [← hli] at hp ⊢
            clear hp hk6
            have hlp : (0 : Int) < (li : Int) := by omega
            have hkk : (kd == kd) = true := by simp
            have HIL : Hid (i + 1 ≤ L) := Lib.hid hil
            clear hli
            go_wp2_with (first | (go_at_call 12; refine (kind_any HIE6.out (HGG.out _ HK6.out)).mono ?_; rintro e w7 ⟨rfl, hk7⟩; have HIE7 := Lib.hid (HIE6.out.keeps hk7 fun _ _ h => h); have HK7 := Lib.hid (HK6.out.trans hk7 fun _ _ h => h); clear hk7) | (go_at_call 16; refine (is_any HIE7.out kd).mono ?_; rw [hkk]; rintro e w8 ⟨rfl, rfl⟩))
            refine ⟨⟨i + 1, HIL.out, by simp, HK7.out⟩, ?_⟩
            have := HIL.out
            simp only [intOf]
            omega
          · obtain rfl : i = L := by omega
            have hl1 : (nestOf zs i).length ≤ 9000 := by rw [HNL.out]; omega
            go_wp2_with (first | (go_at_call 14; refine Stop.out ?_))
            refine ⟨(trim_any (HEE.out _ HKi.out) hl1 i (by rw [HNL.out]; omega)).mono ?_⟩
            rintro e w5 ⟨u, rfl, hu, rfl⟩
            have hie : IsErr w5 (fun _ => True) u ((nestOf zs i).drop i) kd := by
              rcases hu with ⟨_, h⟩ | ⟨h, _⟩
              · exact h
              · rw [HNL.out] at h; omega
            rw [List.drop_eq_nil_of_le (by rw [HNL.out]; exact Nat.le_refl _)] at hie
            have HIE : Hid (∀ W, IsErr W (fun _ => True) (.iface 23 (.int .i64 kd)) [] kd) := Lib.hid fun W => rfl
            obtain rfl : u = _ := hie
            clear hu
            go_wp2_with (first | (go_at_call 12; refine (kind_any (HIE.out _) (HGG.out _ HKi.out)).mono ?_; rintro e w7 ⟨rfl, hk7⟩; have HK7 := Lib.hid (HKi.out.trans hk7 fun _ _ h => h); clear hk7) | (go_at_call 15; refine Stop.out ?_))
            refine ⟨(path_any (HIE.out _) (by simp) (HGG.out _ HK7.out)).mono ?_⟩
            rintro e w6 ⟨pv, rfl, hp, hk6⟩
            obtain ⟨pa, pc, e6, _⟩ := hp.len
            subst e6
            have HK6 := Lib.hid (HK7.out.trans hk6 fun _ _ h => h)
            clear hp hk6
            have HT := trim_any (HEE.out _ HK6.out) hl1 (i + 1) (by rw [HNL.out]; omega)
            rw [show ((i + 1 : Nat) : Int) = (i : Int) + 1 from by omega] at HT
            have HTT := Lib.hid HT
            clear HT
            go_wp2_with (first | (go_at_call 14; refine Stop.out ?_))
            refine ⟨HTT.out.mono ?_⟩
            rintro e w8 ⟨u, rfl, hu, rfl⟩
            have hun : u = .nilIface := by
              rcases hu with ⟨h, _⟩ | ⟨_, h⟩
              · rw [HNL.out] at h; omega
              · exact h
            subst hun
            clear hu
            go_wp2_with (first | (go_at_call 9; refine (awake_any _ (HGG.out _ HK6.out)).mono ?_; rintro e w9 ⟨rfl, hk9⟩; have HK9 := Lib.hid (HK6.out.trans hk9 fun _ _ h => h); clear hk9))
            go_ret
            exact ⟨rfl, ((HK0.out.trans HKr.out fun _ _ h => h).trans HK9.out fun _ _ h => h)⟩
  · rw [if_neg h60] at hL
    have hL' := hL.symm
    subst hL'
    have g1 : decide ((60 : Int) < (L : Int)) = false := decide_eq_false (by omega)
    go_wp2_with (first | (go_at_call 8; refine Stop.out ?_))
    refine ⟨(place_any _ _ (by decide) (by decide) k1 k2 _).mono ?_⟩
    rw [HKI.out]
    rintro e w1 ⟨rfl, rfl⟩
    go_wp2
    obtain ⟨w0, hw0⟩ : ∃ w0, w0 = w.alloc (.cells #[.int .i64 2, .int .i64 3, .int .i64 1] 23) := ⟨_, rfl⟩
    rw [← hw0]
    have HK0 : Hid (Keeps (fun _ => False) w w0) := Lib.hid (by rw [hw0]; exact (Keeps.refl _ w).alloc _)
    clear d1 hw0 g1
    go_loopw [6, 7] (fun ev iv wr => ∃ m : Nat, m ≤ L ∧ iv = .int .i64 ((L : Int) - 1 - m) ∧ IsErr wr (fun _ => True) ev ((nestOf zs L).drop (L - m)) kd ∧ Keeps (fun _ => False) w0 wr) (fun _ iv _ => (intOf iv + 1).toNat)
    case atStart => exact ⟨0, Nat.zero_le _, by simp, by rw [Nat.sub_zero, List.drop_eq_nil_of_le (by rw [nest_length]; exact Nat.le_refl _)]; rfl, Keeps.refl _ _⟩
    case round =>
      obtain ⟨m, hm, rfl, he, hk⟩ := hrel
      have HE := Lib.hid he
      have HKr := Lib.hid hk
      clear he hk
      by_cases hml : m < L
      · obtain ⟨j, hj⟩ : ∃ j : Nat, j = L - 1 - m := ⟨_, rfl⟩
        have hj2 : (L : Int) - 1 - (m : Int) = (j : Int) := by omega
        rw [hj2]
        have hj60 : j < 60 := by omega
        have hjL : j < L := by omega
        have hjL2 : (j : Int) < (L : Int) := by omega
        obtain ⟨t1, t2, t3, t4⟩ := div26 j hj60
        obtain ⟨r, hr⟩ : ∃ r, j % 26 = r := ⟨_, rfl⟩
        obtain ⟨q, hq⟩ : ∃ q, j / 26 = q := ⟨_, rfl⟩
        rw [hr] at t1 t3
        rw [hq] at t2 t4
        have t1' : (j : Int) % 26 = (r : Int) := by omega
        have t2' : (j : Int) / 26 = (q : Int) := by omega
        have HJ : Hid (j = L - 1 - m) := Lib.hid hj
        have HRQ : Hid (j % 26 = r ∧ j / 26 = q) := Lib.hid ⟨hr, hq⟩
        have u1 : (97 + (r : Int)) % 256 = 97 + (r : Int) := by omega
        have u2 : (97 + (q : Int)) % 256 = 97 + (q : Int) := by omega
        have c1 : (convert 35 9 (.slice (some ⟨wr.heap.size, 0, none⟩) 2 2)).run Tryd.prog (wr.alloc (.cells #[.int .u8 (97 + (r : Int)), .int .u8 (97 + (q : Int))] 5)).drew = .ok (.string (opText r q)) (wr.alloc (.cells #[.int .u8 (97 + (r : Int)), .int .u8 (97 + (q : Int))] 5)).drew := conv_two r q t3 t4 wr.drew
        obtain ⟨ad, had, hadb, hadc, _⟩ := HC.out j (by omega)
        subst had
        have hcr : wr.cell? (ad.add j) = some (.int .i64 (zs j)) := HKr.out.cell (HK0.out.cell hadc fun h => h) fun h => h
        have hcr2 : (wr.alloc (.cells #[.int .u8 (97 + (r : Int)), .int .u8 (97 + (q : Int))] 5)).cell? (ad.add j) = some (.int .i64 (zs j)) := ((Keeps.refl (fun _ => False) wr).alloc _).cell hcr fun h => h
        obtain ⟨et, ev, rfl⟩ := HE.out.iface
        have HHo : Hid (∀ W, Keeps (fun _ => False) wr W → W.cell? (ad.add j) = some (.int .i64 (zs j))) := Lib.hid fun W hW => hW.cell hcr fun h => h
        clear hj hj2 hr hq hcr hcr2 hadc hadb
        go_wp2_with (first | (show Code.wp _ (Code.region 8 _ _) _ _ _; refine Stop.out ?_))
        refine ⟨?_⟩
        refine wp_region_held_text (fun W => W.cell? (ad.add j) = some (.int .i64 (zs j))) [14] (by kernel_rfl) (by kernel_rfl) (HHo.out _ (Keeps.refl _ _).drew) ?_
        go_wp2_with (first | (refine wpH_load rfl _ _ rfl _ rfl rfl _ _ rfl (fun _ h => h) (HHo.out _ (by repeat (first | with_reducible exact Keeps.refl _ _ | with_reducible apply Keeps.drew | with_reducible apply Keeps.alloc))) ?_) | (refine wpH_walk rfl rfl ?_) | (refine held_fin (HHo.out _ (by repeat (first | with_reducible exact Keeps.refl _ _ | with_reducible exact K2.out | with_reducible apply Keeps.drew | with_reducible apply Keeps.alloc))) ?_) | (refine wpH_nil ?_) | (with_reducible refine text_fin (by kernel_rfl) ?_) | (go_at_call 10; refine Stop.out ?_))
        refine ⟨(at_any _ _ _ _ _).mono ?_⟩
        rintro e w2 ⟨rfl, hw2⟩
        have hk2 : Keeps (fun _ => False) wr w2 := by rw [hw2]; exact ((Keeps.refl _ wr).alloc _).drew.alloc _
        have hb2 : Blk w2 (wr.heap.size + 1) 46 [.string (opName j), .int .i64 (zs j), .iface et ev] := by
          rw [hw2, opName, HRQ.out.1, HRQ.out.2]
          have := Blk.new (wr.alloc (.cells #[.int .u8 (97 + (r : Int)), .int .u8 (97 + (q : Int))] 5)).drew [.string (⟨#[111, 112]⟩ ++ opText r q), .int .i64 (zs j), .iface et ev] 46
          have e9 : (wr.alloc (.cells #[.int .u8 (97 + (r : Int)), .int .u8 (97 + (q : Int))] 5)).drew.heap.size = wr.heap.size + 1 := World.size_alloc ..
          rw [e9] at this
          exact this
        have K2 := Lib.hid hk2
        have B2 := Lib.hid hb2
        clear hk2 hb2 hw2 c1
        go_wp2_with (first | (refine wpH_load rfl _ _ rfl _ rfl rfl _ _ rfl (fun _ h => h) (HHo.out _ (by repeat (first | with_reducible exact Keeps.refl _ _ | with_reducible exact K2.out | with_reducible apply Keeps.drew | with_reducible apply Keeps.alloc))) ?_) | (refine wpH_walk rfl rfl ?_) | (refine held_fin (HHo.out _ (by repeat (first | with_reducible exact Keeps.refl _ _ | with_reducible exact K2.out | with_reducible apply Keeps.drew | with_reducible apply Keeps.alloc))) ?_) | (refine wpH_nil ?_) | (with_reducible refine text_fin (by kernel_rfl) ?_))
        have hjm := HJ.out
        refine ⟨⟨m + 1, by omega, by congr 1; omega, ?_, HKr.out.trans K2.out fun _ _ h => h⟩, ?_⟩
        · rw [nest_step zs hml, ← hjm]
          exact ⟨_, _, rfl, B2.out, trivial, HE.out.keeps K2.out fun _ _ h => h⟩
        · simp only [intOf]
          omega
      · obtain rfl : L = m := by omega
        have g0 : ((L : Int) - 1 - (L : Int)) = -1 := by omega
        rw [g0]
        obtain ⟨wo, rfl⟩ : ∃ wo : World, wo = wr := ⟨_, rfl⟩
        have he := HE.out
        rw [Nat.sub_self, List.drop_zero] at he
        have HEE : Hid (∀ W, Keeps (fun _ => False) wo W → IsErr W (fun _ => True) u6 (nestOf zs L) kd) := Lib.hid fun W hW => he.keeps hW fun _ _ h => h
        have HGG : Hid (∀ W, Keeps (fun _ => False) wo W → ErrorType W) := Lib.hid fun W hW => ((HG.out.keeps HK0.out fun h => h).keeps HKr.out fun h => h).keeps hW fun h => h
        obtain ⟨et, ev, rfl⟩ := HE.out.iface
        clear he
        go_wp2
        have HNL := Lib.hid (nest_length zs L)
        go_loopw [8] (fun iv W => ∃ i : Nat, i ≤ L ∧ iv = .int .i64 i ∧ Keeps (fun _ => False) wo W) (fun iv _ => L - (intOf iv).toNat)
        case atStart => exact ⟨0, Nat.zero_le _, rfl, Keeps.refl _ _⟩
        case round =>
          obtain ⟨i, hi, rfl, hk⟩ := hrel
          have HKi := Lib.hid hk
          clear hk
          by_cases hil : i < L
          · have hi60 : i < 60 := by omega
            obtain ⟨t1, t2, t3, t4⟩ := div26 i hi60
            obtain ⟨r, hr⟩ : ∃ r, i % 26 = r := ⟨_, rfl⟩
            obtain ⟨q, hq⟩ : ∃ q, i / 26 = q := ⟨_, rfl⟩
            rw [hr] at t1 t3
            rw [hq] at t2 t4
            have t1' : (i : Int) % 26 = (r : Int) := by omega
            have t2' : (i : Int) / 26 = (q : Int) := by omega
            have hname : (⟨#[111, 112]⟩ : ByteArray) ++ opText r q = opName i := by rw [opName, hr, hq]
            have HN := Lib.hid hname
            have u1 : (97 + (r : Int)) % 256 = 97 + (r : Int) := by omega
            have u2 : (97 + (q : Int)) % 256 = 97 + (q : Int) := by omega
            have g1 : (i : Int) < (L : Int) := by omega
            have c1 := conv_two r q t3 t4 wr
            have hl1 : (nestOf zs L).length ≤ 9000 := by rw [HNL.out]; omega
            have HNUM := Lib.hid (nest_num zs hil hL60)
            have HDROP := Lib.hid (nest_drop zs hil)
            clear hr hq
            go_wp2_with (first | (go_at_call 13; refine Stop.out ?_))
            have hka : Keeps (fun _ => False) wr (wr.alloc (.cells #[.int .u8 (97 + (r : Int)), .int .u8 (97 + (q : Int))] 5)) := (Keeps.refl _ _).alloc _
            refine ⟨(number_any (HEE.out _ (HKi.out.trans hka fun _ _ h => h)) hl1 (HGG.out _ (HKi.out.trans hka fun _ _ h => h)) _).mono ?_⟩
            rw [HNUM.out]
            rintro e w4 ⟨rfl, hk4⟩
            have HK4 := Lib.hid (HKi.out.trans (hka.trans hk4 fun _ _ h => h) fun _ _ h => h)
            clear hka hk4 c1
            obtain ⟨ad, had, hadb, hadc, _⟩ := HC.out i (by omega)
            subst had
            have hcr : w4.cell? (ad.add i) = some (.int .i64 (zs i)) := HK4.out.cell (HKr.out.cell (HK0.out.cell hadc fun h => h) fun h => h) fun h => h
            clear hadc hadb
            go_wp2_with (first | (go_at_call 14; refine Stop.out ?_))
            refine ⟨(trim_any (HEE.out _ HK4.out) hl1 i (by rw [HNL.out]; omega)).mono ?_⟩
            rintro e w5 ⟨u, rfl, hu, rfl⟩
            have hie : IsErr w5 (fun _ => True) u ((nestOf zs L).drop i) kd := by
              rcases hu with ⟨_, h⟩ | ⟨h, _⟩
              · exact h
              · rw [HNL.out] at h; omega
            have HIE := Lib.hid hie
            have hld : ((nestOf zs L).drop i).length = L - i := by rw [List.length_drop, HNL.out]
            have HLD := Lib.hid hld
            obtain ⟨ut, uv, rfl⟩ := hie.iface
            clear hu hie hld hcr
            go_wp2_with (first | (go_at_call 15; refine Stop.out ?_))
            refine ⟨(path_any HIE.out (by rw [HLD.out]; omega) (HGG.out _ HK4.out)).mono ?_⟩
            rintro e w6 ⟨pv, rfl, hp, hk6⟩
            have HK6 := Lib.hid (HK4.out.trans hk6 fun _ _ h => h)
            have HIE6 := Lib.hid (HIE.out.keeps hk6 fun _ _ h => h)
            rw [HLD.out, HDROP.out] at hp
            obtain ⟨pb, pc, e6, _⟩ := hp.form (by omega)
            subst e6
            have d6 : w6.cell? ⟨pb, 0, none⟩ = some (.string (opName i)) := hp.cell (i := 0) rfl
            obtain ⟨li, hli⟩ : ∃ li : Nat, li = L - i := ⟨_, rfl⟩
            have hli2 : (L : Int) - (i : Int) = (li : Int) := by omega
            rw [← hli] at hp ⊢
            clear hp hk6
            have hlp : (0 : Int) < (li : Int) := by omega
            have hkk : (kd == kd) = true := by simp
            have HIL : Hid (i + 1 ≤ L) := Lib.hid hil
            clear hli
            go_wp2_with (first | (go_at_call 12; refine (kind_any HIE6.out (HGG.out _ HK6.out)).mono ?_; rintro e w7 ⟨rfl, hk7⟩; have HIE7 := Lib.hid (HIE6.out.keeps hk7 fun _ _ h => h); have HK7 := Lib.hid (HK6.out.trans hk7 fun _ _ h => h); clear hk7) | (go_at_call 16; refine (is_any HIE7.out kd).mono ?_; rw [hkk]; rintro e w8 ⟨rfl, rfl⟩))
            refine ⟨⟨i + 1, HIL.out, by simp, HK7.out⟩, ?_⟩
            have := HIL.out
            simp only [intOf]
            omega
          · obtain rfl : i = L := by omega
            have hl1 : (nestOf zs i).length ≤ 9000 := by rw [HNL.out]; omega
            go_wp2_with (first | (go_at_call 14; refine Stop.out ?_))
            refine ⟨(trim_any (HEE.out _ HKi.out) hl1 i (by rw [HNL.out]; omega)).mono ?_⟩
            rintro e w5 ⟨u, rfl, hu, rfl⟩
            have hie : IsErr w5 (fun _ => True) u ((nestOf zs i).drop i) kd := by
              rcases hu with ⟨_, h⟩ | ⟨h, _⟩
              · exact h
              · rw [HNL.out] at h; omega
            rw [List.drop_eq_nil_of_le (by rw [HNL.out]; exact Nat.le_refl _)] at hie
            have HIE : Hid (∀ W, IsErr W (fun _ => True) (.iface 23 (.int .i64 kd)) [] kd) := Lib.hid fun W => rfl
            obtain rfl : u = _ := hie
            clear hu
            go_wp2_with (first | (go_at_call 12; refine (kind_any (HIE.out _) (HGG.out _ HKi.out)).mono ?_; rintro e w7 ⟨rfl, hk7⟩; have HK7 := Lib.hid (HKi.out.trans hk7 fun _ _ h => h); clear hk7) | (go_at_call 15; refine Stop.out ?_))
            refine ⟨(path_any (HIE.out _) (by simp) (HGG.out _ HK7.out)).mono ?_⟩
            rintro e w6 ⟨pv, rfl, hp, hk6⟩
            obtain ⟨pa, pc, e6, _⟩ := hp.len
            subst e6
            have HK6 := Lib.hid (HK7.out.trans hk6 fun _ _ h => h)
            clear hp hk6
            have HT := trim_any (HEE.out _ HK6.out) hl1 (i + 1) (by rw [HNL.out]; omega)
            rw [show ((i + 1 : Nat) : Int) = (i : Int) + 1 from by omega] at HT
            have HTT := Lib.hid HT
            clear HT
            go_wp2_with (first | (go_at_call 14; refine Stop.out ?_))
            refine ⟨HTT.out.mono ?_⟩
            rintro e w8 ⟨u, rfl, hu, rfl⟩
            have hun : u = .nilIface := by
              rcases hu with ⟨h, _⟩ | ⟨_, h⟩
              · rw [HNL.out] at h; omega
              · exact h
            subst hun
            clear hu
            go_wp2_with (first | (go_at_call 9; refine (awake_any _ (HGG.out _ HK6.out)).mono ?_; rintro e w9 ⟨rfl, hk9⟩; have HK9 := Lib.hid (HK6.out.trans hk9 fun _ _ h => h); clear hk9))
            go_ret
            exact ⟨rfl, ((HK0.out.trans HKr.out fun _ _ h => h).trans HK9.out fun _ _ h => h)⟩
end Go.Proofs.YtnmhodejffpblaaDoor

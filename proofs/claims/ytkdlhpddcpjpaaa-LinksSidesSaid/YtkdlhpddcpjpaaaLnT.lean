/-
  The law LinksSides: what the Go code does.
-/
import Derived.Test.YtkdlhpddcpjpaaaLnG
namespace Go.Tx
open Go Go.RowKit
namespace NM
theorem linked_sym {N : NM} (h : N.Ok) (a b : Int) : b ∈ N.linked a ↔ a ∈ N.linked b := by
  rw [mem_linked h, mem_linked h, pairK_comm]
  constructor <;> exact fun ⟨h1, h2⟩ => ⟨h1, fun e => h2 e.symm⟩
theorem linked_self {N : NM} (h : N.Ok) (a : Int) : a ∉ N.linked a := fun hm => ((mem_linked h).1 hm).2 rfl
theorem ended_far {N : NM} (h : N.Ok) (a e : Int) : e ∉ (N.ended e).linked a := fun hm => by
  obtain ⟨h1, h2⟩ := (mem_linked (ended_ok h e)).1 hm
  have h3 := (List.mem_filter.1 h1).2
  simp only [decide_eq_true_eq] at h3
  rcases (pairK_mem (pairK_lt h2)).1 rfl with ⟨_, e2⟩ | ⟨e1, _⟩
  · exact h3.2 e2
  · exact h3.1 e1
theorem ended_watch {N : NM} {e r x y : Int} (h : (N.ended e).watch r = some (x, y)) : x ≠ e ∧ y ≠ e := by
  have := (List.mem_filter.1 (watch_mem h)).2
  simpa using this
theorem link_length (N : NM) (a b : Int) : (N.link a b).ls.length ≤ N.ls.length + 1 := by
  unfold link
  split
  · simp
  · simp
theorem link_ws (N : NM) (a b : Int) : (N.link a b).ws = N.ws := by unfold link; split <;> rfl
theorem link_next (N : NM) (a b : Int) : (N.link a b).next = N.next := by unfold link; split <;> rfl
end NM
/-- the net of the law: new blocks alone -/
theorem IsNet.drewN {w : World} {b : Nat} {N : NM} {S : Nat → Prop} (h : IsNet w b N S) : IsNet w.drew b N S := h.keeps (Keeps.refl (fun _ => False) w).drew fun _ _ h => h
theorem IsNet.of_drew {w w' : World} {b : Nat} {N : NM} {S : Nat → Prop} (h : IsNet w' b N (ExtN S w.drew w')) : IsNet w' b N (ExtN S w w') := h
structure SideW (w : World) (N : NM) (S : Nat → Prop) (wr : World) : Prop where
  ok : N.Ok
  net : IsNet wr w.heap.size N S
  new : ∀ x, S x → w.heap.size ≤ x
  keep : Keeps (fun _ => False) w wr
def SideA (w : World) (len : Nat) (iv : Value) (wr : World) : Prop := ∃ (i : Nat) (N : NM) (S : Nat → Prop), iv = .int .i64 i ∧ i ≤ len ∧ SideW w N S wr ∧ N.ls.length ≤ i ∧ N.ws = [] ∧ N.next = 0
def SideB (w : World) (n len : Nat) (iv : Value) (wr : World) : Prop := ∃ (i : Nat) (N : NM) (S : Nat → Prop), iv = .int .i64 i ∧ i ≤ len ∧ SideW w N S wr ∧ N.ls.length ≤ n ∧ N.ws.length = i ∧ N.next = i
/-- .. a net that is only read -/
def SideG (w : World) (N : NM) (S : Nat → Prop) (k : Nat) (iv : Value) (wr : World) : Prop := ∃ i : Nat, iv = .int .i64 i ∧ i ≤ 8 ∧ k = 8 - i ∧ SideW w N S wr
def SideC (w : World) (N : NM) (S : Nat → Prop) (n : Nat) (iv : Value) (wr : World) : Prop := ∃ i : Nat, iv = .int .i64 i ∧ i ≤ n ∧ SideW w N S wr
theorem SideW.read {w wr w' : World} {N : NM} {S : Nat → Prop} (h : SideW w N S wr) (hn : IsNet w' w.heap.size N S) (k : Keeps (fun _ => False) wr w') : SideW w N S w' := ⟨h.ok, hn, h.new, h.keep.trans k fun _ _ h => h⟩
theorem SideW.step {w wr w' : World} {N N' : NM} {S : Nat → Prop} (h : SideW w N S wr) (ho : N'.Ok) (hn : IsNet w' w.heap.size N' (ExtN S wr w')) (k : Keeps S wr w') : SideW w N' (ExtN S wr w') w' :=
  ⟨ho, hn, (net_step h.keep h.new hn k).1, (net_step h.keep h.new hn k).2⟩
theorem SideW.lt {w wr : World} {N : NM} {S : Nat → Prop} (h : SideW w N S wr) : ∀ x, S x → x < wr.heap.size := by
  obtain ⟨_, _, h⟩ := h.net
  exact h.lt
end Go.Tx
namespace Go.Proofs.Ytkdlhpddcpjpaaa
open Go.RowKit Go.Tx
/-- an argument's pair -/
def PairAt (w : World) (a : Option Addr) (i : Nat) (z : Int × Int) : Prop :=
  ∃ b o, a = some ⟨b, o, none⟩ ∧ w.cell? ⟨b, o + i * 2, none⟩ = some (.int .i64 z.1) ∧ w.cell? ⟨b, o + i * 2 + 1, none⟩ = some (.int .i64 z.2) ∧ -9223372036854775808 ≤ z.1 ∧ z.1 ≤ 9223372036854775807 ∧ -9223372036854775808 ≤ z.2 ∧ z.2 ≤ 9223372036854775807

set_option maxRecDepth 100000 in
set_option maxHeartbeats 3200000 in
theorem sides_any (w : World) (a0 : Option Addr) (len0 cap0 : Nat) (zs : Nat → Int × Int) (hm0 : len0 ≤ 8796093022208) (hcell0 : ∀ i, i < len0 → PairAt w a0 i (zs i))
    (a1 : Option Addr) (len1 cap1 : Nat) (ys : Nat → Int × Int) (hm1 : len1 ≤ 8796093022208) (hcell1 : ∀ i, i < len1 → PairAt w a1 i (ys i)) (z : Int) (hz1 : -9223372036854775808 ≤ z) (hz2 : z ≤ 9223372036854775807) :
    Calls Try.prog 3 #[.slice a0 len0 cap0, .slice a1 len1 cap1, .int .i64 z] w fun e w' => e = .returned (.bool true) ∧ Keeps (fun _ => False) w w' := by
  have HC0 := Lib.hid hcell0
  have HC1 := Lib.hid hcell1
  have H0 : Hid (SideW w NM.new (Fresh w (w.alloc (.cells #[.map none, .map none, .int .i64 0] 27))) (w.alloc (.cells #[.map none, .map none, .int .i64 0] 27))) := Lib.hid
    ⟨NM.new_ok, net_new w, fun x hx => hx.1, (Keeps.refl _ w).alloc _⟩
  clear hcell0 hcell1
  go_enter Try.func3, Try.ntmps3
  go_wp2
  go_loopw [8] (fun iv wr => SideA w len0 iv wr) (fun iv _ => len0 - (intOf iv).toNat)
  case atStart => exact ⟨0, _, _, rfl, Nat.zero_le _, H0.out, Nat.le_refl _, rfl, rfl⟩
  case round =>
    obtain ⟨i, N, S, rfl, hi, hst, hls, hws, hnx⟩ := hrel
    have HST := Lib.hid hst
    have HWS := Lib.hid hws
    have HNX := Lib.hid hnx
    clear hst hws hnx
    by_cases hil : i < len0
    · have HCX := Lib.hid (HC0.out i hil)
      obtain ⟨b, o, rfl, hc1, hc2, q1, q2, q3, q4⟩ := HC0.out i hil
      have HHo : Hid (∀ W, Keeps (fun _ => False) wr W → W.cell? ⟨b, o + i * 2, none⟩ = some (.int .i64 (zs i).1) ∧ W.cell? ⟨b, o + i * 2 + 1, none⟩ = some (.int .i64 (zs i).2)) := Lib.hid fun W hk => ⟨(HST.out.keep.trans hk fun _ _ h => h).cell hc1 id, (HST.out.keep.trans hk fun _ _ h => h).cell hc2 id⟩
      clear hc1 hc2
      by_cases hf : N.fits ((zs i).1 % 8) ((zs i).2 % 8) = true
      · have HF := Lib.hid hf
        clear hf
        go_wp2
        refine wp_region_held_text (fun W => W.cell? ⟨b, o + i * 2, none⟩ = some (.int .i64 (zs i).1) ∧ W.cell? ⟨b, o + i * 2 + 1, none⟩ = some (.int .i64 (zs i).2)) [5, 11] (by kernel_rfl) (by kernel_rfl) (HHo.out _ (by repeat (first | with_reducible exact Keeps.refl _ _ | with_reducible apply Keeps.drew | with_reducible apply Keeps.alloc))) ?_
        go_wp2_with (first | (refine wpH_load rfl _ _ rfl _ rfl rfl _ _ rfl (fun _ h => h.1) (by first | exact HH3.out | exact HHo.out _ (by repeat (first | with_reducible exact Keeps.refl _ _ | with_reducible apply Keeps.drew | with_reducible apply Keeps.alloc))) ?_) | (refine wpH_load rfl _ _ rfl _ rfl rfl _ _ rfl (fun _ h => h.2) (by first | exact HH3.out | exact HHo.out _ (by repeat (first | with_reducible exact Keeps.refl _ _ | with_reducible apply Keeps.drew | with_reducible apply Keeps.alloc))) ?_) | (refine wpH_walk rfl rfl ?_) | (refine held_fin (by first | exact HH3.out | exact HHo.out _ (by repeat (first | with_reducible exact Keeps.refl _ _ | with_reducible apply Keeps.drew | with_reducible apply Keeps.alloc))) ?_) | (refine wpH_nil ?_) | (with_reducible refine text_fin (by kernel_rfl) ?_) | (go_at_call 6; refine (place_any _ 8 (by decide) (by decide) (by first | exact q1 | exact q3) (by first | exact q2 | exact q4) _).mono ?_; rintro e w2 ⟨rfl, rfl⟩) | (go_at_call 5; refine (link_yes (IsNet.drewN HST.out.net) _ _ HF.out).mono ?_; rintro e w3 ⟨rfl, h3, k3⟩; have HS3 := Lib.hid (HST.out.step (NM.link_ok HST.out.ok _ _) (IsNet.of_drew h3) k3.of_drew); have HH3 : Hid (w3.cell? ⟨b, o + i * 2, none⟩ = some (.int .i64 (zs i).1) ∧ w3.cell? ⟨b, o + i * 2 + 1, none⟩ = some (.int .i64 (zs i).2)) := Lib.hid (by have hg := HHo.out wr (Keeps.refl _ _); have hk := HS3.out.keep; obtain ⟨b2, o2, e2, hc1, hc2, _⟩ := HCX.out; cases e2; exact ⟨hk.cell hc1 id, hk.cell hc2 id⟩); clear h3 k3))
        go_roundw
        case rel => exact ⟨i + 1, _, _, by go_num, by omega, HS3.out, by have := NM.link_length N ((zs i).1 % 8) ((zs i).2 % 8); omega, by rw [NM.link_ws]; exact HWS.out, by rw [NM.link_next]; exact HNX.out⟩
        case measure => simp [intOf]; omega
      · have HF : Hid (N.fits ((zs i).1 % 8) ((zs i).2 % 8) = false) := Lib.hid (by simpa using hf)
        clear hf
        go_wp2
        refine wp_region_held_text (fun W => W.cell? ⟨b, o + i * 2, none⟩ = some (.int .i64 (zs i).1) ∧ W.cell? ⟨b, o + i * 2 + 1, none⟩ = some (.int .i64 (zs i).2)) [5, 11] (by kernel_rfl) (by kernel_rfl) (HHo.out _ (by repeat (first | with_reducible exact Keeps.refl _ _ | with_reducible apply Keeps.drew | with_reducible apply Keeps.alloc))) ?_
        go_wp2_with (first | (refine wpH_load rfl _ _ rfl _ rfl rfl _ _ rfl (fun _ h => h.1) (by first | exact HH3.out | exact HHo.out _ (by repeat (first | with_reducible exact Keeps.refl _ _ | with_reducible apply Keeps.drew | with_reducible apply Keeps.alloc))) ?_) | (refine wpH_load rfl _ _ rfl _ rfl rfl _ _ rfl (fun _ h => h.2) (by first | exact HH3.out | exact HHo.out _ (by repeat (first | with_reducible exact Keeps.refl _ _ | with_reducible apply Keeps.drew | with_reducible apply Keeps.alloc))) ?_) | (refine wpH_walk rfl rfl ?_) | (refine held_fin (by first | exact HH3.out | exact HHo.out _ (by repeat (first | with_reducible exact Keeps.refl _ _ | with_reducible apply Keeps.drew | with_reducible apply Keeps.alloc))) ?_) | (refine wpH_nil ?_) | (with_reducible refine text_fin (by kernel_rfl) ?_) | (go_at_call 6; refine (place_any _ 8 (by decide) (by decide) (by first | exact q1 | exact q3) (by first | exact q2 | exact q4) _).mono ?_; rintro e w2 ⟨rfl, rfl⟩) | (go_at_call 5; refine (link_no (IsNet.drewN HST.out.net) _ _ HF.out).mono ?_; rintro e w3 ⟨rfl, h3, k3⟩; have HS3 := Lib.hid (HST.out.step (NM.link_ok HST.out.ok _ _) (IsNet.of_drew h3) k3.of_drew); have HH3 : Hid (w3.cell? ⟨b, o + i * 2, none⟩ = some (.int .i64 (zs i).1) ∧ w3.cell? ⟨b, o + i * 2 + 1, none⟩ = some (.int .i64 (zs i).2)) := Lib.hid (by have hg := HHo.out wr (Keeps.refl _ _); have hk := HS3.out.keep; obtain ⟨b2, o2, e2, hc1, hc2, _⟩ := HCX.out; cases e2; exact ⟨hk.cell hc1 id, hk.cell hc2 id⟩); clear h3 k3))
        go_roundw
        case rel => exact ⟨i + 1, _, _, by go_num, by omega, HS3.out, by have := NM.link_length N ((zs i).1 % 8) ((zs i).2 % 8); omega, by rw [NM.link_ws]; exact HWS.out, by rw [NM.link_next]; exact HNX.out⟩
        case measure => simp [intOf]; omega
    · go_wp2
      have hls0 : N.ls.length ≤ len0 := by omega
      clear hi hil
      go_loopw [9] (fun iv wr => SideB w len0 len1 iv wr) (fun iv _ => len1 - (intOf iv).toNat)
      case atStart => exact ⟨0, _, _, rfl, Nat.zero_le _, HST.out, hls0, by rw [HWS.out]; rfl, HNX.out⟩
      case round =>
        clear HST HWS HNX hls hls0
        obtain ⟨i, N, S, rfl, hi, hst, hls, hws, hnx⟩ := hrel
        have HST := Lib.hid hst
        have HWS := Lib.hid hws
        have HNX := Lib.hid hnx
        clear hst hws hnx
        by_cases hil : i < len1
        · have HCX := Lib.hid (HC1.out i hil)
          obtain ⟨b, o, rfl, hc1, hc2, q1, q2, q3, q4⟩ := HC1.out i hil
          have HHo : Hid (∀ W, Keeps (fun _ => False) wr W → W.cell? ⟨b, o + i * 2, none⟩ = some (.int .i64 (ys i).1) ∧ W.cell? ⟨b, o + i * 2 + 1, none⟩ = some (.int .i64 (ys i).2)) := Lib.hid fun W hk => ⟨(HST.out.keep.trans hk fun _ _ h => h).cell hc1 id, (HST.out.keep.trans hk fun _ _ h => h).cell hc2 id⟩
          clear hc1 hc2
          go_wp2
          refine wp_region_held_text (fun W => W.cell? ⟨b, o + i * 2, none⟩ = some (.int .i64 (ys i).1) ∧ W.cell? ⟨b, o + i * 2 + 1, none⟩ = some (.int .i64 (ys i).2)) [5, 11] (by kernel_rfl) (by kernel_rfl) (HHo.out _ (by repeat (first | with_reducible exact Keeps.refl _ _ | with_reducible apply Keeps.drew | with_reducible apply Keeps.alloc))) ?_
          go_wp2_with (first | (refine wpH_load rfl _ _ rfl _ rfl rfl _ _ rfl (fun _ h => h.1) (by first | exact HH3.out | exact HHo.out _ (by repeat (first | with_reducible exact Keeps.refl _ _ | with_reducible apply Keeps.drew | with_reducible apply Keeps.alloc))) ?_) | (refine wpH_load rfl _ _ rfl _ rfl rfl _ _ rfl (fun _ h => h.2) (by first | exact HH3.out | exact HHo.out _ (by repeat (first | with_reducible exact Keeps.refl _ _ | with_reducible apply Keeps.drew | with_reducible apply Keeps.alloc))) ?_) | (refine wpH_walk rfl rfl ?_) | (refine held_fin (by first | exact HH3.out | exact HHo.out _ (by repeat (first | with_reducible exact Keeps.refl _ _ | with_reducible apply Keeps.drew | with_reducible apply Keeps.alloc))) ?_) | (refine wpH_nil ?_) | (with_reducible refine text_fin (by kernel_rfl) ?_) | (go_at_call 6; refine (place_any _ 8 (by decide) (by decide) (by first | exact q1 | exact q3) (by first | exact q2 | exact q4) _).mono ?_; rintro e w2 ⟨rfl, rfl⟩) | (go_at_call 7; refine (monitor_any (IsNet.drewN HST.out.net) HST.out.ok (by rw [HNX.out]; omega) _ _).mono ?_; rintro e w3 ⟨rfl, h3, k3⟩; rw [HNX.out]; have HS3 := Lib.hid (HST.out.step (NM.monitor_ok HST.out.ok _ _) (IsNet.of_drew h3) k3.of_drew); have HH3 : Hid (w3.cell? ⟨b, o + i * 2, none⟩ = some (.int .i64 (ys i).1) ∧ w3.cell? ⟨b, o + i * 2 + 1, none⟩ = some (.int .i64 (ys i).2)) := Lib.hid (by have hg := HHo.out wr (Keeps.refl _ _); have hk := HS3.out.keep; obtain ⟨b2, o2, e2, hc1, hc2, _⟩ := HCX.out; cases e2; exact ⟨hk.cell hc1 id, hk.cell hc2 id⟩); clear h3 k3))
          go_roundw
          case rel => exact ⟨i + 1, _, _, by go_num, by omega, HS3.out, hls, by have := HWS.out; simp only [NM.monitor, List.length_append, List.length_cons, List.length_nil]; omega, by have := HNX.out; simp only [NM.monitor]; omega⟩
          case measure => simp [intOf]; omega
        · have hwl : N.ws.length ≤ 8796093022208 := by rw [HWS.out]; omega
          have hll : N.ls.length ≤ 8796093022208 := by omega
          go_wp2
          clear hi hil hls
          obtain ⟨ez, hez, he0, he8⟩ : ∃ e : Int, z % 8 = e ∧ 0 ≤ e ∧ e < 8 := ⟨z % 8, rfl, by omega, by omega⟩
          have HEZ := Lib.hid hez
          clear hez
          go_loopw [10] (fun iv wr => SideC w N S 8 iv wr) (fun iv _ => 8 - (intOf iv).toNat)
          case atStart => exact ⟨0, rfl, by omega, HST.out⟩
          case round =>
            clear HST
            obtain ⟨ka, rfl, hka, hst⟩ := hrel
            have HST := Lib.hid hst
            clear hst
            by_cases hal : ka < 8
            · go_wp2
              rw [show decide ((ka : Int) < 8) = true from decide_eq_true (by omega)]
              go_loopg [11] 8 (fun k iv wr => SideG w N S k iv wr)
              case atStart => exact ⟨0, rfl, by omega, rfl, HST.out⟩
              case round =>
                clear HST
                obtain ⟨kb, rfl, hkb, hgk, hst⟩ := hrel
                have HGK := Lib.hid hgk
                clear hgk
                have HST := Lib.hid hst
                clear hst
                by_cases hbl : kb < 8
                · have HD1 : Hid (decide ((kb : Int) ∈ N.linked (ka : Int)) = decide ((ka : Int) ∈ N.linked (kb : Int))) := Lib.hid (decide_eq_decide.2 (NM.linked_sym HST.out.ok _ _))
                  have HD2 : Hid (decide ((ka : Int) ∈ N.linked (ka : Int)) = false) := Lib.hid (decide_eq_false (NM.linked_self HST.out.ok _))
                  obtain ⟨t, ht⟩ : ∃ t, decide ((ka : Int) ∈ N.linked (kb : Int)) = t := ⟨_, rfl⟩
                  have HT := Lib.hid ht
                  have HD3 : Hid (decide ((kb : Int) ∈ N.linked (ka : Int)) = t) := Lib.hid (HD1.out.trans ht)
                  clear ht
                  have hab : ka = kb ∨ ((ka : Int) == (kb : Int)) = false := by
                    by_cases e : ka = kb
                    · exact .inl e
                    · right; simp; omega
                  go_wp2_with (first | (go_at_call 9; refine Stop.out ?_))
                  refine ⟨(linked_any HST.out.net HST.out.ok hll (ka : Int)).mono ?_⟩
                  rintro e x1 ⟨v1, rfl, hr1, hn1, hk1, ho1⟩
                  obtain ⟨la1, lc1, rfl, _, _⟩ := hr1.len
                  have HR1 := Lib.hid hr1
                  have HS1 := Lib.hid (HST.out.read hn1 hk1)
                  clear hr1 hn1 hk1 ho1
                  go_wp2_with (first | (go_at_call 8; refine (has_any HR1.out _).mono ?_; rintro e x ⟨rfl, rfl⟩; rw [HD3.out]) | (go_at_call 9; refine Stop.out ?_))
                  refine ⟨(linked_any HS1.out.net HS1.out.ok hll (kb : Int)).mono ?_⟩
                  rintro e x2 ⟨v2, rfl, hr2, hn2, hk2, ho2⟩
                  obtain ⟨la2, lc2, rfl, _, _⟩ := hr2.len
                  have HR2 := Lib.hid hr2
                  have HS2 := Lib.hid (HS1.out.read hn2 hk2)
                  clear hr2 hn2 hk2 ho2
                  cases t
                  all_goals
                    rcases hab with rfl | hab
                    · go_wp2_with (first | (go_at_call 8; refine (has_any HR2.out _).mono ?_; rintro e x ⟨rfl, rfl⟩; rw [HT.out]) | (go_at_call 9; refine Stop.out ?_))
                      refine ⟨(linked_any HS2.out.net HS2.out.ok hll (ka : Int)).mono ?_⟩
                      rintro e x3 ⟨v3, rfl, hr3, hn3, hk3, ho3⟩
                      obtain ⟨la3, lc3, rfl, _, _⟩ := hr3.len
                      have HR3 := Lib.hid hr3
                      have HS3 := Lib.hid (HS2.out.read hn3 hk3)
                      clear hr3 hn3 hk3 ho3
                      go_wp2_with (first | (go_at_call 8; refine (has_any HR3.out _).mono ?_; rintro e x ⟨rfl, rfl⟩; rw [HD2.out]))
                      go_roundg (8 - (ka + 1))
                      case measure => have := HGK.out; omega
                      case rel => exact ⟨ka + 1, by go_num, by omega, rfl, HS3.out⟩
                    · go_wp2_with (first | (go_at_call 8; refine (has_any HR2.out _).mono ?_; rintro e x ⟨rfl, rfl⟩; rw [HT.out]))
                      go_roundg (8 - (kb + 1))
                      case measure => have := HGK.out; omega
                      case rel => exact ⟨kb + 1, by go_num, by omega, rfl, HS2.out⟩
                · go_wp2
                  go_roundw
                  case rel => exact ⟨ka + 1, by go_num, by omega, HST.out⟩
                  case measure => simp [intOf]; omega
            · go_wp2_with (first | (go_at_call 6; refine (place_any z 8 (by decide) (by decide) hz1 hz2 _).mono ?_; rintro e w2 ⟨rfl, rfl⟩; rw [HEZ.out]) | (go_at_call 9; refine Stop.out ?_))
              clear hka hal
              refine ⟨(linked_any HST.out.net HST.out.ok hll ez).mono ?_⟩
              rintro e x1 ⟨v1, rfl, hr1, hn1, hk1, ho1⟩
              obtain ⟨la1, lc1, rfl, _, _⟩ := hr1.len
              have HR1 := Lib.hid hr1
              have HS1 := Lib.hid (HST.out.read hn1 hk1)
              have HK1 := Lib.hid hk1
              have HO1 := Lib.hid ho1
              clear hr1 hn1 hk1 ho1
              go_wp2_with (go_at_call 10; refine Stop.out ?_)
              refine ⟨(watchers_any HS1.out.net hwl ez).mono ?_⟩
              rintro e x2 ⟨v2, rfl, hr2, hn2, hk2, ho2⟩
              obtain ⟨la2, lc2, rfl, _, _⟩ := hr2.len
              have HR2 := Lib.hid hr2
              have HS2 := Lib.hid (HS1.out.read hn2 hk2)
              have HO2 : Hid (∀ g, (Value.slice la2 (N.watchers ez).length lc2).ownBlock = some g → wr.heap.size ≤ g) := Lib.hid fun g hg => Nat.le_trans HK1.out.size (ho2 g hg)
              have HR1b : Hid (Row x2 2 1 (.slice la1 (N.linked ez).length lc1) (N.linked ez).length (longs (N.linked ez))) := Lib.hid (HR1.out.keeps hk2 fun _ _ h => h)
              clear hr2 hn2 hk2 ho2
              go_wp2_with (go_at_call 11; refine Stop.out ?_)
              refine ⟨(end_any HS2.out.net HS2.out.ok hll hwl ez).mono ?_⟩
              rintro e x3 ⟨lv3, rv3, rfl, hl3, hr3, hn3, hk3, _, _⟩
              obtain ⟨la3, lc3, rfl, _, _⟩ := hl3.len
              obtain ⟨ra3, rc3, rfl, _, _⟩ := hr3.len
              have HL3 := Lib.hid hl3
              have HQ3 := Lib.hid hr3
              have HR1c := Lib.hid (HR1b.out.keeps hk3 fun z hz hs => by have := HO1.out z hz; have := HST.out.lt z hs; omega)
              have HR2c := Lib.hid (HR2.out.keeps hk3 fun z hz hs => by have := HO2.out z hz; have := HST.out.lt z hs; omega)
              have HS3 : Hid (SideW w (N.ended ez) S x3) := Lib.hid ⟨NM.ended_ok HST.out.ok ez, hn3, HST.out.new, HS2.out.keep.trans hk3 fun x hx hs => by have := HST.out.new x hs; omega⟩
              clear hl3 hr3 hn3 hk3
              go_wp2_with (go_at_call 12; refine Stop.out ?_)
              refine ⟨(sameLongs_any HL3.out HR1c.out).mono ?_⟩
              rintro e x4 ⟨rfl, hk4⟩
              rw [decide_eq_true (rfl : N.linked ez = N.linked ez)]
              have HK4 := Lib.hid hk4
              clear hk4
              go_wp2_with (go_at_call 12; refine Stop.out ?_)
              refine ⟨(sameLongs_any (HQ3.out.keeps HK4.out fun _ _ h => h) (HR2c.out.keeps HK4.out fun _ _ h => h)).mono ?_⟩
              rintro e x5 ⟨rfl, hk5⟩
              rw [decide_eq_true (rfl : N.watchers ez = N.watchers ez)]
              have HS5 : Hid (SideW w (N.ended ez) S x5) := Lib.hid (HS3.out.read ((HS3.out.net.keeps HK4.out fun _ _ h => h).keeps hk5 fun _ _ h => h) (HK4.out.trans hk5 fun _ _ h => h))
              clear hk5 HS3 HK4
              obtain ⟨N2, hN2⟩ : ∃ N2, N.ended ez = N2 := ⟨_, rfl⟩
              have HX1 : Hid (∀ a, ez ∉ N2.linked a) := Lib.hid (hN2 ▸ fun a => NM.ended_far HST.out.ok a ez)
              have HX2 : Hid (∀ r x y, N2.watch r = some (x, y) → x ≠ ez ∧ y ≠ ez) := Lib.hid (hN2 ▸ fun r x y h => NM.ended_watch h)
              have HX3 : Hid (N2.linked ez = []) := Lib.hid (hN2 ▸ NM.linked_ended N ez)
              have HX4 : Hid (N2.watchers ez = []) := Lib.hid (hN2 ▸ NM.watchers_ended N ez)
              have hll2 : N2.ls.length ≤ 8796093022208 := by rw [← hN2]; exact Nat.le_trans (List.length_filter_le _ _) hll
              have hwl2 : N2.ws.length ≤ 8796093022208 := by rw [← hN2]; exact Nat.le_trans (List.length_filter_le _ _) hwl
              rw [hN2] at HS5
              clear hN2 HST
              go_wp2_with (go_at_call 9; refine Stop.out ?_)
              refine ⟨(linked_any HS5.out.net HS5.out.ok hll2 ez).mono ?_⟩
              rintro e x6 ⟨v6, rfl, hr6, hn6, hk6, _⟩
              rw [HX3.out] at hr6
              obtain ⟨la6, lc6, rfl, _, _⟩ := hr6.len
              have HS6 := Lib.hid (HS5.out.read hn6 hk6)
              clear hr6 hn6 hk6
              go_wp2_with (go_at_call 10; refine Stop.out ?_)
              refine ⟨(watchers_any HS6.out.net hwl2 ez).mono ?_⟩
              rintro e x7 ⟨v7, rfl, hr7, hn7, hk7, _⟩
              rw [HX4.out] at hr7
              obtain ⟨la7, lc7, rfl, _, _⟩ := hr7.len
              have HST := Lib.hid (HS6.out.read hn7 hk7)
              clear hr7 hn7 hk7
              go_wp2
              go_loopw [17] (fun iv wr => SideC w N2 S 8 iv wr) (fun iv _ => 8 - (intOf iv).toNat)
              case atStart => exact ⟨0, rfl, by omega, HST.out⟩
              case round =>
                clear HST
                obtain ⟨ka, rfl, hka, hst⟩ := hrel
                have HST := Lib.hid hst
                clear hst
                by_cases hal : ka < 8
                · go_wp2_with (first | (go_at_call 9; refine Stop.out ?_))
                  refine ⟨(linked_any HST.out.net HST.out.ok hll2 (ka : Int)).mono ?_⟩
                  rintro e y1 ⟨v8, rfl, hr8, hn8, hk8, _⟩
                  obtain ⟨la8, lc8, rfl, _, _⟩ := hr8.len
                  have HR8 := Lib.hid hr8
                  have HS8 := Lib.hid (HST.out.read hn8 hk8)
                  clear hr8 hn8 hk8
                  go_wp2_with (first | (go_at_call 8; refine (has_any HR8.out _).mono ?_; rintro e x ⟨rfl, rfl⟩; rw [decide_eq_false (HX1.out _)]))
                  go_roundw
                  case rel => exact ⟨ka + 1, by go_num, by omega, HS8.out⟩
                  case measure => simp [intOf]; omega
                · go_wp2
                  clear hka hal
                  go_loopw [18] (fun iv wr => SideC w N2 S len1 iv wr) (fun iv _ => len1 - (intOf iv).toNat)
                  case atStart => exact ⟨0, rfl, Nat.zero_le _, HST.out⟩
                  case round =>
                    clear HST
                    obtain ⟨kb, rfl, hkb, hst⟩ := hrel
                    have HST := Lib.hid hst
                    clear hst
                    by_cases hbl : kb < len1
                    · rcases hwa : N2.watch (kb : Int) with _ | ⟨x, y⟩
                      · have HWA := Lib.hid hwa
                        clear hwa
                        go_wp2_with (first | (go_at_call 13; refine (watches_none HST.out.net _ HWA.out).mono ?_; rintro e w9 ⟨rfl, hn9, hk9⟩; have HS9 := Lib.hid (HST.out.read hn9 hk9); clear hn9 hk9))
                        go_roundw
                        case rel => exact ⟨kb + 1, by go_num, by omega, HS9.out⟩
                        case measure => simp [intOf]; omega
                      · have HWA := Lib.hid hwa
                        clear hwa
                        have hq1 : (x == ez) = false := by simpa using (HX2.out _ _ _ HWA.out).1
                        have hq2 : (y == ez) = false := by simpa using (HX2.out _ _ _ HWA.out).2
                        go_wp2_with (first | (go_at_call 13; refine (watches_some HST.out.net _ _ _ HWA.out).mono ?_; rintro e w9 ⟨rfl, hn9, hk9⟩; have HS9 := Lib.hid (HST.out.read hn9 hk9); clear hn9 hk9))
                        go_roundw
                        case rel => exact ⟨kb + 1, by go_num, by omega, HS9.out⟩
                        case measure => simp [intOf]; omega
                    · go_wp2_with (first | (go_at_call 11; refine Stop.out ?_))
                      refine ⟨(end_any HST.out.net HST.out.ok hll2 hwl2 ez).mono ?_⟩
                      rintro e x3 ⟨lv3, rv3, rfl, hl3, hr3, hn3, hk3, _, _⟩
                      rw [HX3.out] at hl3
                      rw [HX4.out] at hr3
                      obtain ⟨la3, lc3, rfl, _, _⟩ := hl3.len
                      obtain ⟨ra3, rc3, rfl, _, _⟩ := hr3.len
                      have HKE : Hid (Keeps (fun _ => False) w x3) := Lib.hid (HST.out.keep.trans hk3 fun x hx hs => by have := HST.out.new x hs; omega)
                      clear hl3 hr3 hn3 hk3
                      go_wp2_with (first | (go_at_call 14; refine (awake_any _).mono ?_; rintro e x9 ⟨rfl, hk9⟩; have HK9 := Lib.hid hk9; clear hk9))
                      go_ret
                      exact ⟨rfl, HKE.out.trans HK9.out fun _ _ h => h⟩
end Go.Proofs.Ytkdlhpddcpjpaaa

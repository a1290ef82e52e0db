/-
  The law LinksStars: what the Go code does.
-/
import Derived.Test.YtkdlhpddcpjpaaaLnG
import Derived.Test.YtkdlhpddcpjpaaaLnSP
namespace Go.Tx
open Go Go.RowKit
def bools (l : List Bool) : List Value := l.map Value.bool
theorem bools_get {l : List Bool} {k : Nat} {v : Bool} (h : l[k]? = some v) : (bools l)[k]? = some (.bool v) := by simp [bools, h]
theorem bools_set (l : List Bool) (k : Nat) (v : Bool) : (bools l).set k (.bool v) = bools (l.set k v) := by simp [bools, List.map_set]
theorem IsNet.drewN {w : World} {b : Nat} {N : NM} {S : Nat → Prop} (h : IsNet w b N S) : IsNet w.drew b N S := h.keeps (Keeps.refl (fun _ => False) w).drew fun _ _ h => h
theorem IsNet.of_drew {w w' : World} {b : Nat} {N : NM} {S : Nat → Prop} (h : IsNet w' b N (ExtN S w.drew w')) : IsNet w' b N (ExtN S w w') := h
/-- before each round of the first two loops -/
structure StarW (w : World) (N : NM) (on : List Bool) (S : Nat → Prop) (wr : World) : Prop where
  star : N.Star on
  net : IsNet wr w.heap.size N S
  new : ∀ x, S x → w.heap.size ≤ x
  off : ¬ S (w.heap.size + 1)
  blk : Blk wr (w.heap.size + 1) 4 (bools on)
  keep : Keeps (fun _ => False) w wr
def StarAt (w : World) (len : Nat) (iv : Value) (wr : World) : Prop := ∃ (i : Nat) (N : NM) (on : List Bool) (S : Nat → Prop), iv = .int .i64 i ∧ i ≤ len ∧ StarW w N on S wr
/-- .. behind a call and a store -/
theorem StarW.next {w wr w3 : World} {N N' : NM} {on : List Bool} {S : Nat → Prop} {k : Nat} {v : Bool} (h : StarW w N on S wr) (hs : N'.Star (on.set k v)) (h3 : IsNet w3 w.heap.size N' (ExtN S wr w3)) (hb : Blk w3 (w.heap.size + 1) 4 (bools on)) (k3 : Keeps (fun _ => False) w w3) (hnew : ∀ x, ExtN S wr w3 x → w.heap.size ≤ x) :
    StarW w N' (on.set k v) (ExtN S wr w3) (w3.setCell ⟨w.heap.size + 1, k, none⟩ (.bool v)) := by
  have hoff : ¬ ExtN S wr w3 (w.heap.size + 1) := fun hx => by
    rcases hx with hx | hx
    · exact h.off hx
    · have := hx.1; have := h.blk.lt; omega
  refine ⟨hs, ?_, hnew, hoff, ?_, ?_⟩
  · exact h3.keeps ((Keeps.refl (fun x => x = w.heap.size + 1) w3).setCell (p := ⟨w.heap.size + 1, k, none⟩) (fun _ => rfl) _) fun x hx e => hoff (e ▸ hx)
  · have := hb.set k (.bool v)
    rwa [bools_set] at this
  · exact k3.setCell (fun hlt => by simp only at hlt; omega) _
/-- before each round of the last loop -/
def WantAt (w wl : World) (N : NM) (on : List Bool) (S : Nat → Prop) (lv kv : Value) (wr : World) : Prop :=
  ∃ k : Nat, kv = .int .i64 k ∧ k ≤ 50 ∧ Row wr 2 1 lv (NM.wantL on k).length (longs (NM.wantL on k)) ∧ Keeps (fun _ => False) wl wr ∧ ∀ g, lv.ownBlock = some g → wl.heap.size ≤ g
theorem wantKeep {wl wr w0 w4 : World} {lv v' : Value} {e : TypeId} {n : Nat} {xs : List Value} (hk : Keeps (fun _ => False) wl wr) (hown : ∀ g, lv.ownBlock = some g → wl.heap.size ≤ g) (k0 : Keeps (fun _ => False) wr w0) (ha : Appended w0 w4 e 1 lv v' n xs) :
    Keeps (fun _ => False) wl w4 ∧ ∀ g, v'.ownBlock = some g → wl.heap.size ≤ g := by
  have h1 : Keeps (fun _ => False) wl w0 := hk.trans k0 fun _ _ h => h
  refine ⟨h1.trans ha.keeps fun g hg ho => ?_, fun g hg => ?_⟩
  · have := hown g ho; omega
  · rcases ha.own with ho | ⟨ho, _⟩
    · rw [ho] at hg; exact hown g hg
    · rw [ho] at hg; simp at hg; subst hg; exact h1.size
end Go.Tx
namespace Go.Proofs.Ytkdlhpddcpjpaaa
open Go.RowKit Go.Tx
theorem make_fifty (w : World) : (Instr.makeSlice 43 (.int .i64 50) (.int .i64 50)).run Try.prog w = .ok (.slice (some ⟨w.heap.size, 0, none⟩) 50 50) (w.alloc (.cells (bools (List.replicate 50 false)).toArray 4)) := by kernel_rfl
set_option maxRecDepth 100000 in
set_option maxHeartbeats 1600000 in
theorem stars_any (w : World) (a0 : Option Addr) (len0 cap0 : Nat) (zs : Nat → Int) (hm0 : len0 ≤ maxLen)
    (hcell0 : ∀ i, i < len0 → ∃ ad, a0 = some ad ∧ ad.block < w.heap.size ∧ w.cell? (ad.add i) = some (.int .i64 (zs i)) ∧ -9223372036854775808 ≤ zs i ∧ zs i ≤ 9223372036854775807)
    (a1 : Option Addr) (len1 cap1 : Nat) (ys : Nat → Int) (hm1 : len1 ≤ maxLen)
    (hcell1 : ∀ i, i < len1 → ∃ ad, a1 = some ad ∧ ad.block < w.heap.size ∧ w.cell? (ad.add i) = some (.int .i64 (ys i)) ∧ -9223372036854775808 ≤ ys i ∧ ys i ≤ 9223372036854775807) :
    Calls Try.prog 4 #[.slice a0 len0 cap0, .slice a1 len1 cap1] w fun e w' => e = .returned (.bool true) ∧ Keeps (fun _ => False) w w' := by
  unfold maxLen at hm0 hm1
  have HC0 := Lib.hid hcell0
  have HC1 := Lib.hid hcell1
  have hmk := make_fifty
  have H0 : Hid (StarW w NM.new (List.replicate 50 false) (Fresh w (w.alloc (.cells #[.map none, .map none, .int .i64 0] 27))) ((w.alloc (.cells #[.map none, .map none, .int .i64 0] 27)).alloc (.cells (bools (List.replicate 50 false)).toArray 4))) := Lib.hid (by
    refine ⟨NM.star_new, (net_new w).keeps (Keeps.alloc (Keeps.refl (fun _ => False) _) _) fun _ _ h => h, fun x hx => hx.1, fun hx => ?_, ?_, ((Keeps.refl _ w).alloc _).alloc _⟩
    · have := hx.2; rw [World.size_alloc] at this; omega
    · have := Blk.new (w.alloc (.cells #[.map none, .map none, .int .i64 0] 27)) (bools (List.replicate 50 false)) 4
      rwa [World.size_alloc] at this)
  clear hcell0 hcell1
  go_enter Try.func4, Try.ntmps4
  go_wp2
  go_loopw [7] (fun iv wr => StarAt w len0 iv wr) (fun iv _ => len0 - (intOf iv).toNat)
  case atStart => exact ⟨0, _, _, _, rfl, Nat.zero_le _, H0.out⟩
  case round =>
    obtain ⟨i, N, on, S, rfl, hi, hst⟩ := hrel
    have HST := Lib.hid hst
    clear hst
    by_cases hil : i < len0
    · obtain ⟨ad, rfl, hb, hc, hz1, hz2⟩ := HC0.out i hil
      have hcr := HST.out.keep.cell hc (fun h => h)
      obtain ⟨k, hk, hk50⟩ : ∃ k : Nat, zs i % 50 = k ∧ k < 50 := ⟨(zs i % 50).toNat, by omega, by omega⟩
      have HKV := Lib.hid hk
      clear hk
      obtain ⟨v, hv⟩ : ∃ v, on[k]? = some v := ⟨on[k]'(by rw [HST.out.star.len]; exact hk50), by simp⟩
      have HV := Lib.hid hv
      clear hv
      by_cases h7 : k = 7
      · subst h7
        go_wp2_with (first | (go_at_call 6; refine (place_any _ 50 (by decide) (by decide) hz1 hz2 _).mono ?_; rintro e w2 ⟨he, rfl⟩; rw [HKV.out] at he; subst he))
        go_roundw
        case rel => exact ⟨i + 1, N, on, S, by go_num, by omega, HST.out⟩
        case measure => simp [intOf]; omega
      · have HF := Lib.hid (HST.out.star.fits HV.out h7)
        have HSL := Lib.hid (HST.out.star.linked_on hk50 h7)
        have HCK : Hid (wr.cell? ⟨w.heap.size + 1, k, none⟩ = some (.bool v)) := Lib.hid (HST.out.blk.cell (bools_get HV.out))
        have HBK := Lib.hid HST.out.blk
        have HSG := Lib.hid HST.out.off
        have HK := Lib.hid HST.out.keep
        have HSW := Lib.hid HST.out.new
        have hblt := HST.out.blk.lt
        go_wp2_with (first | (go_at_call 6; refine (place_any _ 50 (by decide) (by decide) hz1 hz2 _).mono ?_; rintro e w2 ⟨he, rfl⟩; rw [HKV.out] at he; subst he))
        cases v with
        | true =>
          refine wp_region_held_text (fun W => W.cell? ⟨w.heap.size + 1, k, none⟩ = some (.bool true)) [6] (by kernel_rfl) (by kernel_rfl) HCK.out ?_
          go_wp2_with (first | (refine wpH_load rfl _ _ rfl _ rfl rfl _ _ rfl (fun _ h => h) (by first | exact HC3.out | exact HCK.out) ?_) | (refine wpH_walk rfl rfl ?_) | (refine held_fin (by first | exact HC3.out | exact HCK.out) ?_) | (refine wpH_nil ?_) | (with_reducible refine text_fin (by kernel_rfl) ?_) | (go_at_call 5; refine (link_no HST.out.net.drewN 7 k HF.out).mono ?_; rintro e w3 ⟨rfl, h3, k3⟩; have HC3 : Hid (w3.cell? ⟨w.heap.size + 1, k, none⟩ = some (.bool true)) := Lib.hid (k3.cell HCK.out HSG.out); have HB3 := Lib.hid (HBK.out.keeps k3.of_drew HSG.out); have HN3 := Lib.hid h3; have HK3 := Lib.hid (net_step HK.out HSW.out h3.of_drew k3.of_drew); have x3 := HC3.out; have f3 := HB3.out.free k; clear h3 k3))
          go_roundw
          case rel => exact ⟨i + 1, _, _, _, by go_num, by omega, HST.out.next HSL.out HN3.out HB3.out HK3.out.2 HK3.out.1⟩
          case measure => simp [intOf]; omega
        | false =>
          refine wp_region_held_text (fun W => W.cell? ⟨w.heap.size + 1, k, none⟩ = some (.bool false)) [6] (by kernel_rfl) (by kernel_rfl) HCK.out ?_
          go_wp2_with (first | (refine wpH_load rfl _ _ rfl _ rfl rfl _ _ rfl (fun _ h => h) (by first | exact HC3.out | exact HCK.out) ?_) | (refine wpH_walk rfl rfl ?_) | (refine held_fin (by first | exact HC3.out | exact HCK.out) ?_) | (refine wpH_nil ?_) | (with_reducible refine text_fin (by kernel_rfl) ?_) | (go_at_call 5; refine (link_yes HST.out.net.drewN 7 k HF.out).mono ?_; rintro e w3 ⟨rfl, h3, k3⟩; have HC3 : Hid (w3.cell? ⟨w.heap.size + 1, k, none⟩ = some (.bool false)) := Lib.hid (k3.cell HCK.out HSG.out); have HB3 := Lib.hid (HBK.out.keeps k3.of_drew HSG.out); have HN3 := Lib.hid h3; have HK3 := Lib.hid (net_step HK.out HSW.out h3.of_drew k3.of_drew); have x3 := HC3.out; have f3 := HB3.out.free k; clear h3 k3))
          go_roundw
          case rel => exact ⟨i + 1, _, _, _, by go_num, by omega, HST.out.next HSL.out HN3.out HB3.out HK3.out.2 HK3.out.1⟩
          case measure => simp [intOf]; omega
    · go_wp2
      clear hi hil
      go_loopw [9] (fun iv wr => StarAt w len1 iv wr) (fun iv _ => len1 - (intOf iv).toNat)
      case atStart => exact ⟨0, _, _, _, rfl, Nat.zero_le _, HST.out⟩
      case round =>
        clear HST
        obtain ⟨i, N, on, S, rfl, hi, hst⟩ := hrel
        have HST := Lib.hid hst
        clear hst
        by_cases hil : i < len1
        · obtain ⟨ad, rfl, hb, hc, hz1, hz2⟩ := HC1.out i hil
          have hcr := HST.out.keep.cell hc (fun h => h)
          obtain ⟨k, hk, hk50⟩ : ∃ k : Nat, ys i % 50 = k ∧ k < 50 := ⟨(ys i % 50).toNat, by omega, by omega⟩
          have HKV := Lib.hid hk
          clear hk
          obtain ⟨v, hv⟩ : ∃ v, on[k]? = some v := ⟨on[k]'(by rw [HST.out.star.len]; exact hk50), by simp⟩
          have HV := Lib.hid hv
          clear hv
          have HF := Lib.hid (HST.out.star.there_back HV.out)
          have HSL := Lib.hid (HST.out.star.unlinked k)
          have HCK : Hid (wr.cell? ⟨w.heap.size + 1, k, none⟩ = some (.bool v)) := Lib.hid (HST.out.blk.cell (bools_get HV.out))
          have HBK := Lib.hid HST.out.blk
          have HSG := Lib.hid HST.out.off
          have HK := Lib.hid HST.out.keep
          have HSW := Lib.hid HST.out.new
          have hblt := HST.out.blk.lt
          go_wp2_with (first | (go_at_call 6; refine (place_any _ 50 (by decide) (by decide) hz1 hz2 _).mono ?_; rintro e w2 ⟨he, rfl⟩; rw [HKV.out] at he; subst he))
          cases v
          all_goals
            refine wp_region_held_text (fun W => W.cell? ⟨w.heap.size + 1, k, none⟩ = some (.bool _)) [6] (by kernel_rfl) (by kernel_rfl) HCK.out ?_
            go_wp2_with (first | (refine wpH_load rfl _ _ rfl _ rfl rfl _ _ rfl (fun _ h => h) (by first | exact HC3.out | exact HCK.out) ?_) | (refine wpH_walk rfl rfl ?_) | (refine held_fin (by first | exact HC3.out | exact HCK.out) ?_) | (refine wpH_nil ?_) | (with_reducible refine text_fin (by kernel_rfl) ?_) | (go_at_call 15; refine (unlink_any HST.out.net.drewN k 7).mono ?_; rintro e w3 ⟨rfl, h3, k3⟩; rw [HF.out]; have HC3 : Hid (w3.cell? ⟨w.heap.size + 1, k, none⟩ = some (.bool _)) := Lib.hid (k3.cell HCK.out HSG.out); have HB3 := Lib.hid (HBK.out.keeps k3.of_drew HSG.out); have HN3 := Lib.hid h3; have HK3 := Lib.hid (net_step HK.out HSW.out h3.of_drew k3.of_drew); have x3 := HC3.out; have f3 := HB3.out.free k; clear h3 k3))
            go_roundw
            case rel => exact ⟨i + 1, _, _, _, by go_num, by omega, HST.out.next HSL.out HN3.out HB3.out HK3.out.2 HK3.out.1⟩
            case measure => simp [intOf]; omega
        · obtain ⟨wl, hwl⟩ : ∃ wl : World, wl = wr := ⟨_, rfl⟩
          subst hwl
          go_wp2
          clear hi hil
          go_loopw [11, 12] (fun lv kv wr => WantAt w wl N on S lv kv wr) (fun _ kv _ => 50 - (intOf kv).toNat)
          case atStart => exact ⟨0, rfl, Nat.zero_le _, World.ownsRow_nil _ _ _ _, Keeps.refl _ _, fun g hg => by simp [Value.ownBlock] at hg⟩
          case round =>
            obtain ⟨k, rfl, hk50, hr, hkp, hown⟩ := hrel
            have HR := Lib.hid hr
            have HKP := Lib.hid hkp
            have HO := Lib.hid hown
            have hwlen := NM.wantL_length on k
            have hb := HST.out.blk.keeps hkp fun h => h
            clear hr hkp hown
            by_cases hkl : k < 50
            · obtain ⟨v, hv⟩ : ∃ v, on[k]? = some v := ⟨on[k]'(by rw [HST.out.star.len]; exact hkl), by simp⟩
              have HV := Lib.hid hv
              have hck := hb.cell (bools_get hv)
              clear hv hb
              cases v with
              | true =>
                go_wp2_with (at_builtin; go_must (refine wpList_append_row _ rfl _ _ 33 33 rfl 2 (.slice 2) 1 8 (.int .i64 0) info_i64 Try.underlying33 Try.underlying33 (by intro k h; cases h) rfl u11 (NM.wantL on k).length (longs (NM.wantL on k)) rfl (HR.out.keeps (S := fun _ => False) (by repeat (first | with_reducible exact Keeps.refl _ _ | with_reducible apply Keeps.drew | with_reducible apply Keeps.alloc)) (fun _ _ h => h)) _ 1 [.int .i64 k] rfl rfl (lenOf_slice _ _ _) (firstCells_at _ rfl (oneAt rfl)) (by intro u hu; simp at hu; subst hu; rfl) (by unfold maxLen; omega) (by omega) ?_); intro v' w4 ha; obtain ⟨va, vc, rfl, _, _⟩ := ha.row.len; obtain ⟨g1, g2⟩ := wantKeep HKP.out HO.out (by repeat (first | with_reducible exact Keeps.refl _ _ | with_reducible apply Keeps.drew | with_reducible apply Keeps.alloc)) ha; have G1 := Lib.hid g1; have G2 := Lib.hid g2; have G5 := Lib.hid ha.row; clear g1 g2 ha)
                go_roundw
                case rel => exact ⟨k + 1, by go_num, by omega, by have := G5.out; rw [longs_snoc] at this; rw [NM.wantL_on HV.out]; simpa using this, G1.out, G2.out⟩
                case measure => simp [intOf]; omega
              | false =>
                go_wp2
                go_roundw
                case rel => exact ⟨k + 1, by go_num, by omega, by rw [NM.wantL_off HV.out]; exact HR.out, HKP.out, HO.out⟩
                case measure => simp [intOf]; omega
            · obtain rfl : k = 50 := by omega
              clear hb
              obtain ⟨va, vc, hu, hvc, hvm⟩ := HR.out.len
              have hr2 := HR.out
              have ho2 := HO.out
              rw [hu] at hr2 ho2
              have HR2 := Lib.hid hr2
              have HO2 := Lib.hid ho2
              have HNW := Lib.hid (HST.out.net.keeps HKP.out fun _ _ h => h)
              rw [hu]
              unfold maxLen at hvm
              clear hr2 ho2 hu
              have hsh := HST.out.star.short
              have hws := HST.out.star.ws
              have hws2 : N.ws.length ≤ 8796093022208 := by rw [hws]; decide
              have HWS := Lib.hid hws2
              clear hws hws2
              go_wp2_with (go_at_call 11; refine Stop.out ?_)
              refine ⟨(end_any HNW.out HST.out.star.ok (by omega) HWS.out 7).mono ?_⟩
              rintro e w5 ⟨lv, rv, rfl, hl, hr, hn, hk, ho1, ho2⟩
              rw [HST.out.star.linked] at hl
              rw [HST.out.star.watchers] at hr
              have HL := Lib.hid hl
              have HN5 := Lib.hid hn
              have HK5 : Hid (Keeps (fun _ => False) w w5) := Lib.hid ((HST.out.keep.trans HKP.out fun _ _ h => h).trans hk fun x hx hs => by have := HST.out.new x hs; omega)
              have HW5 : Hid (Row w5 2 1 (.slice va (NM.wantL on 50).length vc) (NM.wantL on 50).length (longs (NM.wantL on 50))) := Lib.hid (HR2.out.keeps hk fun g hg hs => by
                have h1 := HO2.out g hg
                obtain ⟨_, _, h2⟩ := HST.out.net
                have h3 := h2.lt g hs
                omega)
              obtain ⟨la, lc, rfl, _, _⟩ := hl.len
              obtain ⟨ra, rc, rfl, _, _⟩ := hr.len
              clear hl hr hn hk ho1 ho2
              go_wp2_with (go_at_call 16; refine Stop.out ?_)
              refine ⟨(len_any HN5.out).mono ?_⟩
              rintro e w6 ⟨rfl, hn6, hk6⟩
              rw [HST.out.star.ended_ls, HST.out.star.ended_ws]
              have HK6 : Hid (Keeps (fun _ => False) w5 w6) := Lib.hid hk6
              clear hn6 hk6
              go_wp2_with (go_at_call 12; refine Stop.out ?_)
              refine ⟨(sameLongs_any (HL.out.keeps HK6.out fun _ _ h => h) (HW5.out.keeps HK6.out fun _ _ h => h)).mono ?_⟩
              rintro e w7 ⟨rfl, hk7⟩
              rw [decide_eq_true (rfl : NM.wantL on 50 = NM.wantL on 50)]
              have HK7 : Hid (Keeps (fun _ => False) w6 w7) := Lib.hid hk7
              clear hk7
              go_wp2_with (go_at_call 14; refine (awake_any _).mono ?_; rintro e w8 ⟨rfl, hk8⟩; have HK8 := Lib.hid hk8; clear hk8)
              go_ret
              exact ⟨rfl, ((HK5.out.trans HK6.out fun _ _ h => h).trans HK7.out fun _ _ h => h).trans HK8.out fun _ _ h => h⟩
end Go.Proofs.Ytkdlhpddcpjpaaa

/-
  The law WordTables: what the Go code does.
-/
import Derived.Test.YtnmhodejffpblaaWp
import Derived.Test.YtnmhodejffpblaaWdL
import Derived.Test.YtnmhodejffpblaaPl
namespace Go.Tx
open Go Go.RowKit
/-- before each name -/
def TabsAt (w : World) (a b N : Nat) (names : List ByteArray) (nv v : Value) (wr : World) : Prop :=
  ∃ (i : Nat) (la tl : List ByteArray) (Ea Eb : Nat → Prop) (zs : List Int), v = .int .i64 i ∧ i ≤ N ∧ zs.length = i ∧ la.length ≤ i ∧ tl.length ≤ i ∧
    (∀ j s z, j < i → names[j]? = some s → zs[j]? = some z → Num la s z) ∧ (∀ z ∈ zs, -1 ≤ z ∧ z ≤ 1024) ∧ Two w wr a b Ea Eb la (⟨#[102, 105, 114, 115, 116]⟩ :: tl) ∧ Nums w wr Ea Eb nv zs
/-- before each name, the second time -/
def TabsIn (w : World) (a b N : Nat) (la tl : List ByteArray) (nv : Value) (zs : List Int) (v : Value) (wr : World) : Prop :=
  ∃ (i : Nat) (Ea Eb : Nat → Prop), v = .int .i64 i ∧ i ≤ N ∧ Two w wr a b Ea Eb la (⟨#[102, 105, 114, 115, 116]⟩ :: tl) ∧ Nums w wr Ea Eb nv zs
/-- before each name ahead of it -/
def InAt (w : World) (i : Nat) (v : Value) (wr : World) : Prop := ∃ j : Nat, v = .int .i64 j ∧ j ≤ i ∧ Keeps (fun _ => False) w wr
theorem Nums.at {w0 w : World} {Ea Eb : Nat → Prop} {g n c i : Nat} {z : Int} {zs : List Int} (h : Nums w0 w Ea Eb (.slice (some ⟨g, 0, none⟩) n c) zs) (hn : zs.length = n) (hz : zs[i]? = some z) : w.cell? ⟨g, i, none⟩ = some (.int .i64 z) := by
  subst hn
  exact h.row.cell3 (by simp [hz])
theorem nameAt_some {l : List ByteArray} {k : Nat} {s : ByteArray} (h : l[k]? = some s) : nameAt l (k : Int) = (s, none) := by
  have hk := (List.getElem?_eq_some_iff.1 h).1
  unfold nameAt
  rw [if_neg (by omega), Int.toNat_natCast, List.getD_eq_getElem?_getD, h]
  rfl
theorem num_unique {l : List ByteArray} {s : ByteArray} {y z : Int} (h : Num l s y) (h' : Num l s z) : y = z := by
  rcases h with h | ⟨h1, k, h2, h3⟩ <;> rcases h' with h' | ⟨h1', k', h2', h3'⟩
  · omega
  · exact absurd h.1 h1'
  · exact absurd h'.1 h1
  · rw [h2] at h2'; cases h2'; omega
end Go.Tx
namespace Go.Proofs.Ytnmhodejffpblaa
open Go.RowKit Go.Tx
theorem info_int : (Try.prog.info? 3).map (fun i => (i.zero, i.size, i.bytes)) = some (some (.int .i64 0), 1, 8) := by kernel_rfl
set_option maxRecDepth 100000 in
set_option maxHeartbeats 6400000 in
theorem tables_short {w : World} {na : Option Addr} {nc : Nat} {names : List ByteArray} (h : StrsD w (.slice na names.length nc) names) (hc : names.length ≤ nc) (hN : names.length ≤ 200) :
    Calls Try.prog 7 #[.slice na names.length nc] w fun e w' => e = .returned (.bool true) ∧ Keeps (fun _ => False) w w' := by
  obtain ⟨hn, na', nc', hv, hcell⟩ := h
  cases hv
  have HC := Lib.hid hcell
  have g1 : decide (200 < (names.length : Int)) = false := decide_eq_false (by omega)
  clear hcell
  go_enter Try.func7, Try.ntmps7
  go_wp2_with (first | (go_at_call 18; refine Stop.out ?_))
  refine ⟨(newAtoms_any _).mono ?_⟩
  rintro e w1 ⟨rfl, h1, h2, h3⟩
  have H1 := Lib.hid h1
  have H2 := Lib.hid h2
  have H3 := Lib.hid h3
  clear h1 h2 h3
  go_wp2_with (first | (go_at_call 18; refine Stop.out ?_))
  refine ⟨(newAtoms_any _).mono ?_⟩
  rintro e w2 ⟨rfl, h4, h5, h6⟩
  have htw : ∃ a b Ea Eb, a = w.heap.size ∧ b = w1.heap.size ∧ Two w w2 a b Ea Eb [] [] := ⟨_, _, _, _, rfl, rfl, H1.out.keeps h5 fun _ _ h => h, h4, fun x hx he => by have := H3.out; omega, fun x hx => by omega, fun x hx => by have := H3.out; omega, H2.out.trans h5 fun _ _ h => h⟩
  obtain ⟨a, b, Ea0, Eb0, hA, hB, htw⟩ := htw
  rw [← hA, ← hB]
  have HTW := Lib.hid htw
  clear htw h4 h5 h6 H1 H2 H3 hA hB
  go_wp2_with (first | (go_at_call 19; refine Stop.out ?_))
  refine ⟨(number_ask _ HTW.out.hb).mono ?_⟩
  rintro e w3 ⟨v1, rfl, _, hb3, hk3⟩
  have HTW3 := Lib.hid (HTW.out.askB hb3 hk3)
  clear hb3 hk3
  go_wp2
  go_loopw [5, 6] (fun nv v wr => TabsAt w a b names.length names nv v wr) (fun _ v _ => names.length - (intOf v).toNat)
  case atStart => exact ⟨0, [], [], _, _, [], rfl, Nat.zero_le _, rfl, by simp, by simp, fun j s z hj => by omega, by simp, HTW3.out, ⟨World.ownsRow_nil _ _ _ _, fun g hg => by simp [Value.ownBlock] at hg⟩⟩
  case round =>
    obtain ⟨i, la, tl, Ea, Eb, zs, rfl, hil, rfl, hla, htl, hnum, hz1, ht, hnm⟩ := hrel
    have HT := Lib.hid ht
    have HN := Lib.hid hnm
    have HNUM := Lib.hid hnum
    have HZ1 := Lib.hid hz1
    obtain ⟨va, vc, rfl, _, _⟩ := hnm.row.len
    by_cases hlt : zs.length < names.length
    · obtain ⟨s, hs⟩ : ∃ s, names[zs.length]? = some s := ⟨names[zs.length]'(by omega), by simp⟩
      obtain ⟨bb, o, rfl, hbb, hcs⟩ := HC.out zs.length s hs
      have d0 := ht.keeps.cell hcs (fun h => h)
      obtain ⟨z, er, m, hask, hml, hnz, hz2, hz3⟩ := ask_num (l := la) s (by omega)
      have HA : Hid (∀ W, IsAtoms W a Ea la → Calls Try.prog 19 #[.pointer (some ⟨a, 0, none⟩), .string s] W (AskPost a Ea (z, er, la ++ m) W)) := Lib.hid fun W hW => hask ▸ number_ask s hW
      have HNZ := Lib.hid hnz
      have HS := Lib.hid hs
      have HCS := Lib.hid hcs
      clear ht hnm hnum hz1 hask hnz hs hcs
      go_wp2_with (first | (go_at_call 19; refine Stop.out ?_))
      refine ⟨(HA.out _ HT.out.ha).mono ?_⟩
      rintro e w4 ⟨v1, rfl, _, ha4, hk4⟩
      have HT4 := Lib.hid (HT.out.askA ha4 hk4)
      have HN4 := Lib.hid (HN.out.askA HT.out hk4)
      have d4 := HT4.out.keeps.cell HCS.out (fun h => h)
      clear ha4 hk4 d0
      go_wp2_with (first | (go_at_call 19; refine Stop.out ?_))
      refine ⟨(number_ask _ HT4.out.hb).mono ?_⟩
      rintro e w5 ⟨v2, rfl, _, hb5, hk5⟩
      obtain ⟨z', er', m', hask', hml', _⟩ := ask_num (l := ⟨#[102, 105, 114, 115, 116]⟩ :: tl) s (by simp; omega)
      rw [hask'] at hb5
      have HT5 := Lib.hid (HT4.out.askB hb5 hk5)
      have HN5 := Lib.hid (HN4.out.askB hk5)
      clear hb5 hk5 hask' d4
      go_wp2_with (first | (with_reducible refine wp_region_text (by kernel_rfl) (by kernel_rfl) ?_) | (with_reducible refine text_fin (by kernel_rfl) ?_) | (at_builtin; go_must (refine wpList_append_row _ rfl _ _ 64 64 rfl 3 (.slice 3) 1 8 (.int .i64 0) info_int Try.underlying64 Try.underlying64 (by intro k h; cases h) rfl _ zs.length (zs.map (Value.int .i64 ·)) rfl (HN5.out.row.keeps (S := fun _ => False) (by repeat (first | with_reducible exact Keeps.refl _ _ | with_reducible apply Keeps.drew | with_reducible apply Keeps.alloc)) (fun _ _ h => h)) _ 1 [.int .i64 z] rfl rfl (lenOf_slice _ _ _) (firstCells_at _ rfl (cells_newAt rfl)) (by intro u hu; simp at hu; subst hu; rfl) (by unfold maxLen; omega) (by omega) ?_); intro v' w6 ha; obtain ⟨va2, vc2, rfl, _, _⟩ := ha.row.len; obtain ⟨g1', g2'⟩ := nums_push HN5.out HT5.out (by repeat (first | with_reducible exact Keeps.refl _ _ | with_reducible apply Keeps.drew | with_reducible apply Keeps.alloc)) ha; have G1 := Lib.hid g1'; have G2 := Lib.hid g2'; clear g1' g2' ha))
      refine ⟨⟨zs.length + 1, la ++ m, tl ++ m', _, _, zs ++ [z], by go_num, by omega, by simp, by simp; omega, by simp; omega, fun j t y hj hjt hjy => ?_, fun y hy => ?_, G2.out, G1.out⟩, by simp [intOf]; omega⟩
      · by_cases hji : j < zs.length
        · rw [List.getElem?_append_left (by omega)] at hjy
          exact (HNUM.out j t y hji hjt hjy).append
        · obtain rfl : j = zs.length := by omega
          rw [List.getElem?_append_right (by omega)] at hjy
          simp at hjy
          subst hjy
          have := HS.out
          rw [hjt] at this
          cases this
          exact HNZ.out
      · rcases List.mem_append.1 hy with hy | hy
        · exact HZ1.out y hy
        · simp at hy; subst hy; exact ⟨hz2, hz3⟩
    · have hzN : zs.length = names.length := by omega
      have HN0 : Hid (Nums w wr Ea Eb (.slice va names.length vc) zs) := Lib.hid (by have := HN.out; rwa [hzN] at this)
      have HZN := Lib.hid hzN
      have hla2 : la.length ≤ names.length := by omega
      clear hlt hil hz1 hnum ht hnm hla htl
      rw [hzN]
      clear hzN
      go_wp2
      go_loopw [9] (fun v wr2 => TabsIn w a b names.length la tl (.slice va names.length vc) zs v wr2) (fun v _ => names.length - (intOf v).toNat)
      case atStart => exact ⟨0, Ea, Eb, rfl, Nat.zero_le _, HT.out, HN0.out⟩
      case round =>
        obtain ⟨i2, Ea2, Eb2, rfl, hil2, ht2, hn2⟩ := hrel
        have HT2 := Lib.hid ht2
        have HN2 := Lib.hid hn2
        by_cases hlt2 : i2 < names.length
        · obtain ⟨s, hs⟩ : ∃ s, names[i2]? = some s := ⟨names[i2]'(by omega), by simp⟩
          obtain ⟨z, hz⟩ : ∃ z, zs[i2]? = some z := ⟨zs[i2]'(by have := HZN.out; omega), by simp⟩
          obtain ⟨bb, o, rfl, hbb, hcs⟩ := HC.out i2 s hs
          have hns := HNUM.out i2 s z (by have := HZN.out; omega) hs hz
          obtain ⟨g, c2, e1, _, _⟩ := hn2.row.form (by have := HZN.out; omega)
          simp only [Value.slice.injEq] at e1
          obtain ⟨rfl, hxx, rfl⟩ := e1
          clear hxx
          have hzc : (zs.map (Value.int .i64 ·))[i2]? = some (.int .i64 z) := by simp [hz]
          have d0 := ht2.keeps.cell hcs (fun h => h)
          have HS := Lib.hid hs
          have HZ := Lib.hid hz
          have HNS := Lib.hid hns
          have HCS := Lib.hid hcs
          have HZC := Lib.hid hzc
          clear ht2 hn2 hcs hs hz hzc
          rcases ask_again hns with ⟨hb, rfl, hask⟩ | ⟨hb, k, rfl, hlk, hask⟩
          · have HA : Hid (∀ W, IsAtoms W a Ea2 la → Calls Try.prog 19 #[.pointer (some ⟨a, 0, none⟩), .string s] W (AskPost a Ea2 (-1, some ([(⟨#[97, 116, 111, 109]⟩, (s.size : Int))], 1), la) W)) := Lib.hid fun W hW => hask ▸ number_ask s hW
            unfold bad at hb
            clear hask hns
            have hcase : s = ⟨#[]⟩ ∨ (s.toList.isEmpty = false ∧ decide ((s.size : Int) ≤ 255) = false) := by
              by_cases h0 : s.size = 0
              · exact .inl (size_nil h0)
              · exact .inr ⟨by rw [← Bool.not_eq_true, List.isEmpty_iff]; exact fun h => h0 (toList_nil.1 h), decide_eq_false (by omega)⟩
            clear hb
            rcases hcase with rfl | ⟨q1, q2⟩
            all_goals
              go_wp2_with (first | (go_at_call 19; refine Stop.out ?_))
              refine ⟨(HA.out _ HT2.out.ha).mono ?_⟩
              rintro e w4 ⟨v1, rfl, he1, ha4, hk4⟩
              have HT4 := Lib.hid (HT2.out.askA ha4 hk4)
              have HN4 := Lib.hid (HN2.out.askA HT2.out hk4)
              have d4 := HT4.out.keeps.cell HCS.out (fun h => h)
              have z4 := HN4.out.at HZN.out HZ.out
              obtain ⟨⟨bE, uE, rfl, _⟩, _⟩ := he1
              clear ha4 hk4 d0
              go_wp2_with (first | (with_reducible refine wp_region_text (by kernel_rfl) (by kernel_rfl) ?_) | (with_reducible refine text_fin (by kernel_rfl) ?_))
              go_roundw
              case rel => exact ⟨i2 + 1, _, _, by go_num, by omega, HT4.out.still (by repeat (first | with_reducible exact Keeps.refl _ _ | with_reducible apply Keeps.drew | with_reducible apply Keeps.alloc)), HN4.out.still (by repeat (first | with_reducible exact Keeps.refl _ _ | with_reducible apply Keeps.drew | with_reducible apply Keeps.alloc))⟩
              case measure => simp [intOf]; omega
          · have HA : Hid (∀ W, IsAtoms W a Ea2 la → Calls Try.prog 19 #[.pointer (some ⟨a, 0, none⟩), .string s] W (AskPost a Ea2 ((k : Int), none, la) W)) := Lib.hid fun W hW => hask ▸ number_ask s hW
            have HNA : Hid (nameAt la (k : Int) = (s, none)) := Lib.hid (nameAt_some hlk)
            have HBAD := Lib.hid hb
            have hk1 : k < la.length := (List.getElem?_eq_some_iff.1 hlk).1
            have hk1 : k < la.length := (List.getElem?_eq_some_iff.1 hlk).1
            unfold bad at hb
            have q1 : s.toList.isEmpty = false := by rw [← Bool.not_eq_true, List.isEmpty_iff]; exact fun h => by have := toList_nil.1 h; omega
            have q2 : decide ((s.size : Int) ≤ 255) = true := decide_eq_true (by omega)
            clear hb hask hns hlk
            go_wp2_with (first | (go_at_call 19; refine Stop.out ?_))
            refine ⟨(HA.out _ HT2.out.ha).mono ?_⟩
            rintro e w4 ⟨v1, rfl, he1, ha4, hk4⟩
            obtain rfl : v1 = .nilIface := he1
            have HT4 := Lib.hid (HT2.out.askA ha4 hk4)
            have HN4 := Lib.hid (HN2.out.askA HT2.out hk4)
            have d4 := HT4.out.keeps.cell HCS.out (fun h => h)
            have z4 := HN4.out.at HZN.out HZ.out
            clear ha4 hk4 d0
            go_wp2_with (first | (with_reducible refine wp_region_text (by kernel_rfl) (by kernel_rfl) ?_) | (with_reducible refine text_fin (by kernel_rfl) ?_) | (go_at_call 27; refine Stop.out ?_))
            refine ⟨(name_ask (k : Int) (HT4.out.ha.keeps (T := fun _ => False) (by repeat (first | with_reducible exact Keeps.refl _ _ | with_reducible apply Keeps.drew | with_reducible apply Keeps.alloc)) fun _ _ h => h)).mono ?_⟩
            rw [HNA.out]
            rintro e w5 ⟨v2, rfl, he2, hk5⟩
            obtain rfl : v2 = .nilIface := he2
            have hk45 : Keeps (fun _ => False) w4 w5 := Keeps.trans (T := fun _ => False) (by repeat (first | with_reducible exact Keeps.refl _ _ | with_reducible apply Keeps.drew | with_reducible apply Keeps.alloc)) hk5 fun _ _ h => h
            have HT5 := Lib.hid (HT4.out.still hk45)
            have HN5 := Lib.hid (HN4.out.still hk45)
            have d5 := HT5.out.keeps.cell HCS.out (fun h => h)
            clear hk5 hk45 d4 z4
            go_wp2_with (first | (with_reducible refine wp_region_text (by kernel_rfl) (by kernel_rfl) ?_) | (with_reducible refine text_fin (by kernel_rfl) ?_))
            go_loopw [14] (fun v wr3 => InAt w5 i2 v wr3) (fun v _ => i2 - (intOf v).toNat)
            case atStart => exact ⟨0, rfl, Nat.zero_le _, Keeps.refl _ _⟩
            case round =>
              obtain ⟨j, rfl, hj, hk6⟩ := hrel
              have HK6 := Lib.hid hk6
              by_cases hlt3 : j < i2
              · obtain ⟨t, htt⟩ : ∃ t, names[j]? = some t := ⟨names[j]'(by omega), by simp⟩
                obtain ⟨y, hy⟩ : ∃ y, zs[j]? = some y := ⟨zs[j]'(by have := HZN.out; omega), by simp⟩
                obtain ⟨bb', o', hbo, _, hct⟩ := HC.out j t htt
                obtain ⟨rfl, rfl⟩ : bb = bb' ∧ o = o' := by cases hbo; exact ⟨rfl, rfl⟩
                have hyc : (zs.map (Value.int .i64 ·))[j]? = some (.int .i64 y) := by simp [hy]
                have e0 := hk6.cell (HT5.out.keeps.cell hct (fun h => h)) (fun h => h)
                have e1 := hk6.cell d5 (fun h => h)
                have e2 := (HN5.out.still hk6).at HZN.out HZ.out
                have e3 := (HN5.out.still hk6).at HZN.out hy
                have hny := HNUM.out j t y (by have := HZN.out; omega) htt hy
                have hcase : (s = t ∧ y = k) ∨ (((k : Int) == y) = false ∧ (s.toList == t.toList) = false) := by
                  by_cases hst : s = t
                  · subst hst; exact .inl ⟨rfl, num_unique hny HNS.out⟩
                  · exact .inr ⟨by simpa using num_apart HNS.out HBAD.out hny hst, by simpa using fun h => hst (ba_toList.1 h)⟩
                clear hct htt hy hbo hyc hny hk6
                rcases hcase with ⟨rfl, rfl⟩ | ⟨q3, q4⟩
                all_goals
                  go_wp2_with (first | (with_reducible refine wp_region_text (by kernel_rfl) (by kernel_rfl) ?_) | (with_reducible refine text_fin (by kernel_rfl) ?_))
                  go_roundw
                  case rel => exact ⟨j + 1, by go_num, by omega, HK6.out.drew⟩
                  case measure => simp [intOf]; omega
              · clear hk6
                go_wp2
                go_roundw
                case rel => exact ⟨i2 + 1, _, _, by go_num, by omega, HT5.out.still HK6.out, HN5.out.still HK6.out⟩
                case measure => simp [intOf]; omega
        · have hfin : askName (⟨#[102, 105, 114, 115, 116]⟩ :: tl) ⟨#[102, 105, 114, 115, 116]⟩ = (0, none, ⟨#[102, 105, 114, 115, 116]⟩ :: tl) := by
            unfold askName placeOf
            rw [if_neg (by decide), if_pos rfl]
            rfl
          have HB : Hid (∀ W, IsAtoms W b Eb2 (⟨#[102, 105, 114, 115, 116]⟩ :: tl) → Calls Try.prog 19 #[.pointer (some ⟨b, 0, none⟩), .string ⟨#[102, 105, 114, 115, 116]⟩] W (AskPost b Eb2 (0, none, ⟨#[102, 105, 114, 115, 116]⟩ :: tl) W)) := Lib.hid fun W hW => hfin ▸ number_ask _ hW
          have HMOD : Hid ((la.length : Int) % 201 = la.length) := Lib.hid (by omega)
          clear ht2 hn2 hfin
          go_wp2_with (first | (go_at_call 19; refine Stop.out ?_))
          refine ⟨(HB.out _ HT2.out.hb).mono ?_⟩
          rintro e w4 ⟨v1, rfl, he1, hb4, hk4⟩
          obtain rfl : v1 = .nilIface := he1
          have HT4 := Lib.hid (HT2.out.askB hb4 hk4)
          clear hb4 hk4
          go_wp2_with (first | (go_at_call 16; refine (len_any HT4.out.ha).mono ?_; rintro e w' ⟨rfl, rfl⟩) | (go_at_call 21; refine (place_any _ 201 (by decide) (by decide) (by omega) (by omega) _).mono ?_; rintro e w' ⟨he, rfl⟩; rw [HMOD.out] at he; subst he) | (go_at_call 17; refine (awake_any _).mono ?_; rintro e w5 ⟨rfl, hk5⟩; have K5 := Lib.hid hk5; clear hk5))
          go_ret
          exact ⟨rfl, HT4.out.keeps.trans K5.out fun _ _ h => h⟩
end Go.Proofs.Ytnmhodejffpblaa

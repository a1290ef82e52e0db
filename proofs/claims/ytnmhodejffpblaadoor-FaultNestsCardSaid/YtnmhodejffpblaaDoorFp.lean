/-
  Faults: chains without their first links; the path.
-/
import Derived.Test.YtnmhodejffpblaaDoorFk
namespace Go.Proofs.YtnmhodejffpblaaDoor
open Go.RowKit Go.Tx
set_option maxHeartbeats 400000 in
theorem unwrap_fault {w : World} {b : Nat} {u : Value} (h : w.cell? ⟨b, 2, none⟩ = some u) :
    Calls Tryd.prog 19 #[.iface 44 (.pointer (some ⟨b, 0, none⟩))] w fun e w' => e = .returned u ∧ w' = w := by
  have fm5 := rl_methodUnwrap
  have fu1 := rl_hasUnwrap
  go_enter Tryd.func19, Tryd.ntmps19
  go_wp2
  go_ret
  exact ⟨rfl, rfl⟩
set_option maxHeartbeats 400000 in
theorem unwrap_kind (w : World) (k : Int) :
    Calls Tryd.prog 19 #[.iface 23 (.int .i64 k)] w fun e w' => e = .returned .nilIface ∧ w' = w := by
  have fu2 := rl_noUnwrap
  go_enter Tryd.func19, Tryd.ntmps19
  go_wp2
  go_ret
  exact ⟨rfl, rfl⟩
/-- what is left of a chain -/
def LeftOf (w : World) (E : Nat → Prop) (c : List (ByteArray × Int)) (k : Int) (i : Nat) (v : Value) : Prop := (i ≤ c.length ∧ IsErr w E v (c.drop i) k) ∨ (i = c.length + 1 ∧ v = .nilIface)
set_option maxRecDepth 100000 in
set_option maxHeartbeats 800000 in
theorem trim_any {w : World} {E : Nat → Prop} {v : Value} {c : List (ByteArray × Int)} {k : Int} (h : IsErr w E v c k) (hlen : c.length ≤ 9000) (n : Nat) (hn : n ≤ c.length + 1) :
    Calls Tryd.prog 14 #[v, .int .i64 n] w fun e w' => ∃ u, e = .returned u ∧ LeftOf w E c k n u ∧ w' = w := by
  have HE := Lib.hid h
  clear h
  go_enter Tryd.func14, Tryd.ntmps14
  go_wp2
  go_loopw [0, 1] (fun v nv wr => wr = w ∧ ∃ i : Nat, nv = .int .i64 ((n : Int) - i) ∧ i ≤ n ∧ LeftOf w E c k i v) (fun _ nv _ => (intOf nv).toNat)
  case atStart => exact ⟨rfl, 0, by simp, Nat.zero_le _, .inl ⟨Nat.zero_le _, HE.out⟩⟩
  case round =>
    obtain ⟨rfl, i, rfl, hi, hl⟩ := hrel
    by_cases hd : i = n
    · subst hd
      have g1 : ((i : Int) - i) = 0 := by omega
      rw [g1]
      have HL := Lib.hid hl
      clear hl
      go_wp2
      go_ret
      exact ⟨_, rfl, HL.out, rfl⟩
    · have g1 : decide ((0 : Int) < (n : Int) - i) = true := decide_eq_true (by omega)
      rcases hl with ⟨hi2, he⟩ | ⟨hi2, _⟩
      · cases hc : c.drop i with
        | nil =>
          rw [hc] at he
          obtain rfl : u0 = _ := he
          have hlen2 : c.length ≤ i := by have := congrArg List.length hc; simp at this; omega
          have HC := Lib.hid hc
          clear hc
          go_wp2_with (go_at_call 19; refine (unwrap_kind _ _).mono ?_; rintro e w2 ⟨rfl, rfl⟩)
          go_roundw
          case rel => exact ⟨by first | rfl | trivial, i + 1, by simp; omega, by omega, .inr ⟨by omega, by first | rfl | trivial⟩⟩
          case measure => simp only [intOf]; omega
        | cons t l3 =>
          obtain ⟨op, z⟩ := t
          rw [hc] at he
          obtain ⟨b, u, rfl, hb, _, he3⟩ := he
          have hc1 : i + 1 ≤ c.length := by have := congrArg List.length hc; simp at this; omega
          have hc3 : c.drop (i + 1) = l3 := by
            rw [← List.drop_drop, hc]; rfl
          have c2 : wr.cell? ⟨b, 2, none⟩ = some u := hb.cell (i := 2) rfl
          have HE3 := Lib.hid he3
          have HC := Lib.hid hc3
          have HC1 := Lib.hid hc1
          clear hc hc3 he3 hb
          go_wp2_with (go_at_call 19; refine (unwrap_fault c2).mono ?_; rintro e w2 ⟨rfl, rfl⟩)
          go_roundw
          case rel => exact ⟨by first | rfl | trivial, i + 1, by simp; omega, by omega, .inl ⟨HC1.out, by rw [HC.out]; exact HE3.out⟩⟩
          case measure => simp only [intOf]; omega
      · omega
theorem finfo_string : (Tryd.prog.info? 9).map (fun i => (i.zero, i.size, i.bytes)) = some (some (.string ByteArray.empty), 1, 16) := by kernel_rfl
def opCells (c : List (ByteArray × Int)) : List Value := c.map fun t => .string t.1
theorem pathKeep {w w2 w0 w4 : World} {ys : List Value} {lv v' : Value} {e : TypeId} {n : Nat} (hk : Keeps (fun _ => False) w w2) (hown : ∀ g, lv.ownBlock = some g → w.heap.size ≤ g) (k0 : Keeps (fun _ => False) w2 w0) (ha : Appended w0 w4 e 1 lv v' n ys) :
    Keeps (fun _ => False) w w4 ∧ ∀ g, v'.ownBlock = some g → w.heap.size ≤ g := by
  have h1 : Keeps (fun _ => False) w w0 := hk.trans k0 fun _ _ h => h
  refine ⟨h1.trans ha.keeps fun g hg ho => ?_, fun g hg => ?_⟩
  · have := hown g ho; omega
  · rcases ha.own with ho | ⟨ho, _⟩
    · rw [ho] at hg; exact hown g hg
    · rw [ho] at hg; simp at hg; subst hg; exact h1.size
set_option maxRecDepth 100000 in
set_option maxHeartbeats 800000 in
theorem path_any {w : World} {E : Nat → Prop} {v : Value} {c : List (ByteArray × Int)} {k : Int} (h : IsErr w E v c k) (hlen : c.length ≤ 9000) (hg : ErrorType w) :
    Calls Tryd.prog 15 #[v] w fun e w' => ∃ lv, e = .returned lv ∧ Row w' 9 1 lv c.length (opCells c) ∧ Keeps (fun _ => False) w w' := by
  have HF := Lib.hid (faults_any h hlen hg)
  clear h hg
  go_enter Tryd.func15, Tryd.ntmps15
  go_wp2_with (go_at_call 18; refine Stop.out ?_)
  refine ⟨HF.out.mono ?_⟩
  rintro e w2 ⟨pv, ps, rfl, hp, hr, hk⟩
  have hpl := hp.1
  obtain ⟨a9, c9, rfl, _⟩ := hr.len
  rw [hpl] at hr ⊢
  have HP := Lib.hid hp
  have HR := Lib.hid hr
  have HK := Lib.hid hk
  have hcl : c.length ≤ 9000 := hlen
  clear hp hr hk hlen
  go_wp2
  go_loopw [3, 9] (fun lv iv wr => ∃ i : Nat, iv = .int .i64 i ∧ i ≤ c.length ∧ Row wr 9 1 lv i (opCells (c.take i)) ∧ Keeps (fun _ => False) w2 wr ∧ ∀ g, lv.ownBlock = some g → w2.heap.size ≤ g) (fun _ iv _ => c.length - (intOf iv).toNat)
  case atStart => exact ⟨0, rfl, Nat.zero_le _, World.ownsRow_nil _ _ _ _, Keeps.refl _ _, fun g hg => by simp [Value.ownBlock] at hg⟩
  case round =>
    obtain ⟨i, rfl, hi, hrw, hkw, hown⟩ := hrel
    have HRW := Lib.hid hrw
    have HKW := Lib.hid hkw
    have HO := Lib.hid hown
    by_cases hlt : i < c.length
    · obtain ⟨t, ht⟩ : ∃ t, c[i]? = some t := ⟨_, List.getElem?_eq_getElem hlt⟩
      obtain ⟨b, hb⟩ : ∃ b, ps[i]? = some b := ⟨_, List.getElem?_eq_getElem (by omega)⟩
      obtain ⟨o, n⟩ := t
      obtain ⟨u, hbk⟩ := HP.out.2 i b o n hb ht
      have hbw := (hbk.keeps HK.out fun h => h).keeps hkw fun h => h
      have e0 : wr.cell? ⟨b, 0, none⟩ = some (.string o) := hbw.cell (i := 0) rfl
      have hr := HR.out.keeps hkw fun _ _ h => h
      obtain ⟨g, cc, e9, _, _⟩ := hr.form (by omega)
      obtain ⟨rfl, rfl⟩ : a9 = some ⟨g, 0, none⟩ ∧ c9 = cc := by cases e9; exact ⟨rfl, rfl⟩
      have d0 : wr.cell? ⟨g, i, none⟩ = some (.pointer (some ⟨b, 0, none⟩)) := hr.cell (by rw [List.getElem?_map, hb]; rfl)
      have HT : Hid (opCells (c.take (i + 1)) = opCells (c.take i) ++ [.string o]) := Lib.hid (by
        obtain ⟨_, hge⟩ := List.getElem?_eq_some_iff.1 ht
        rw [List.take_succ_eq_append_getElem hlt, hge]
        simp [opCells])
      have g1 : decide ((i : Int) < (c.length : Int)) = true := decide_eq_true (by omega)
      clear hr e9 hbw hbk ht hb hrw hkw hown
      go_wp2_with (first | (with_reducible refine wp_region_text (by kernel_rfl) (by kernel_rfl) ?_) | (with_reducible refine text_fin (by kernel_rfl) ?_) | (at_builtin; go_must (refine wpList_append_row _ rfl _ _ 39 39 rfl 9 (.slice 9) 1 16 (.string ByteArray.empty) finfo_string Tryd.underlying39 Tryd.underlying39 (by intro k h; cases h) rfl u3 i (opCells (c.take i)) rfl (HRW.out.keeps (S := fun _ => False) (by repeat (first | exact Keeps.refl _ _ | apply Keeps.drew | apply Keeps.alloc)) (fun _ _ h => h)) _ 1 [.string o] rfl rfl (lenOf_slice _ _ _) (firstCells_at _ rfl (fcells_newAt rfl)) (by intro u hu; simp at hu; subst hu; rfl) (by unfold maxLen; omega) (by omega) ?_); intro v' w4 ha; obtain ⟨va, vc, rfl, _, _⟩ := ha.row.len; obtain ⟨g1, g3⟩ := pathKeep HKW.out HO.out (by repeat (first | exact Keeps.refl _ _ | apply Keeps.drew | apply Keeps.alloc)) ha; have G1 := Lib.hid g1; have G4 := Lib.hid g3; have G3 := Lib.hid ha.row; clear g1 g3 ha))
      all_goals
        refine ⟨⟨i + 1, by simp, by omega, by rw [HT.out]; exact G3.out, G1.out, G4.out⟩, ?_⟩
        simp only [intOf]
        omega
    · have g1 : decide ((i : Int) < (c.length : Int)) = false := decide_eq_false (by omega)
      obtain rfl : i = c.length := by omega
      clear hrw hkw hown
      go_wp2
      go_ret
      refine ⟨_, rfl, ?_, HK.out.trans HKW.out fun _ _ h => h⟩
      have := HRW.out
      rwa [List.take_length] at this
end Go.Proofs.YtnmhodejffpblaaDoor

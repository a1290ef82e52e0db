/-
  Faults: the kind of an error, its faults, the number of an Op.
-/
import Derived.Test.YtnmhodejffpblaaDoorAy
import Derived.Test.YtnmhodejffpblaaDoorRegB
namespace Go.Tx
open Go Go.RowKit
theorem ErrorType.keeps {w w' : World} {S : Nat → Prop} (h : ErrorType w) (hk : Keeps S w w') (hs : ¬ S 0) : ErrorType w' := hk.cell h hs
theorem fcells_newAt {w0 : World} {xs : List Value} {e : TypeId} {g : Nat} (hg : g = w0.heap.size) : ∀ j v, xs[j]? = some v → (w0.alloc (.cells xs.toArray e)).cell? ((⟨g, 0, none⟩ : Addr).add j) = some v := by
  intro j v hv
  subst hg
  have h := (Blk.new w0 xs e).cell hv
  have e1 : (⟨w0.heap.size, 0, none⟩ : Addr).add j = ⟨w0.heap.size, j, none⟩ := by
    unfold Addr.add
    cases j with
    | zero => rfl
    | succ j => simp
  rw [e1]; exact h
def ptrAt (b : Nat) : Value := .pointer (some ⟨b, 0, none⟩)
/-- the faults of a chain -/
def PtrsOf (w : World) (c : List (ByteArray × Int)) (ps : List Nat) : Prop := ps.length = c.length ∧ ∀ (i b : Nat) (op : ByteArray) (n : Int), ps[i]? = some b → c[i]? = some (op, n) → ∃ u, Blk w b 46 [.string op, .int .i64 n, u]
theorem PtrsOf.snoc {w : World} {c : List (ByteArray × Int)} {ps : List Nat} (h : PtrsOf w c ps) {b : Nat} {op : ByteArray} {n : Int} {u : Value} (hb : Blk w b 46 [.string op, .int .i64 n, u]) : PtrsOf w (c ++ [(op, n)]) (ps ++ [b]) := by
  refine ⟨by simp [h.1], fun i b' op' n' h1 h2 => ?_⟩
  rcases Nat.lt_or_ge i c.length with hi | hi
  · rw [List.getElem?_append_left (by rw [h.1]; exact hi)] at h1
    rw [List.getElem?_append_left hi] at h2
    exact h.2 i b' op' n' h1 h2
  · rw [List.getElem?_append_right (by rw [h.1]; exact hi)] at h1
    rw [List.getElem?_append_right hi] at h2
    rw [h.1] at h1
    have h1' := List.mem_of_getElem? h1
    have h2' := List.mem_of_getElem? h2
    simp only [List.mem_singleton, Prod.mk.injEq] at h1' h2'
    obtain ⟨rfl, rfl⟩ := h2'
    subst h1'
    exact ⟨u, hb⟩
def rowLenF : Value → Nat
  | .slice _ n _ => n
  | _ => 0
def FaultsAt (w : World) (E : Nat → Prop) (c : List (ByteArray × Int)) (k : Int) (v lv : Value) (wr : World) : Prop :=
  ∃ c1 c2 ps, c = c1 ++ c2 ∧ IsErr w E v c2 k ∧ PtrsOf w c1 ps ∧ Row wr 44 1 lv ps.length (ps.map ptrAt) ∧ Keeps (fun _ => False) w wr ∧ (∃ old, Blk wr w.heap.size 44 [old]) ∧ ∀ g, lv.ownBlock = some g → w.heap.size < g
def FaultsPost (w : World) (c : List (ByteArray × Int)) (e : Ending) (w' : World) : Prop :=
  ∃ lv ps, e = .returned lv ∧ PtrsOf w c ps ∧ Row w' 44 1 lv ps.length (ps.map ptrAt) ∧ Keeps (fun _ => False) w w'
theorem faultsKeep {w w2 w0 w4 : World} {T : TypeId} {xs ys : List Value} {lv v' : Value} {e : TypeId} {n : Nat} (hk : Keeps (fun _ => False) w w2) (hb : Blk w2 w.heap.size T xs) (hown : ∀ g, lv.ownBlock = some g → w.heap.size < g) (k0 : Keeps (fun _ => False) w2 w0) (ha : Appended w0 w4 e 1 lv v' n ys) :
    Keeps (fun _ => False) w w4 ∧ Blk w4 w.heap.size T xs ∧ ∀ g, v'.ownBlock = some g → w.heap.size < g := by
  have h1 : Keeps (fun _ => False) w w0 := hk.trans k0 fun _ _ h => h
  refine ⟨h1.trans ha.keeps fun g hg ho => ?_, (hb.keeps k0 fun h => h).keeps ha.keeps fun ho => Nat.lt_irrefl _ (hown _ ho), fun g hg => ?_⟩
  · have := hown g ho; omega
  · rcases ha.own with ho | ⟨ho, _⟩
    · rw [ho] at hg; exact hown g hg
    · rw [ho] at hg; simp at hg; subst hg; have := hb.lt; have := k0.size; omega
end Go.Tx
namespace Go.Proofs.YtnmhodejffpblaaDoor
open Go.RowKit Go.Tx
set_option maxRecDepth 100000 in
set_option maxHeartbeats 400000 in
theorem kind_any {w : World} {E : Nat → Prop} {v : Value} {c : List (ByteArray × Int)} {k : Int} (h : IsErr w E v c k) (hg : ErrorType w) :
    Calls Tryd.prog 12 #[v] w fun e w' => e = .returned (.int .i64 k) ∧ Keeps (fun _ => False) w w' := by
  obtain ⟨tt, tv, rfl⟩ := h.iface
  have HE := Lib.hid h
  have HG := Lib.hid hg
  clear h hg
  go_enter Tryd.func12, Tryd.ntmps12
  go_wp2_with (go_at_call 17; refine Stop.out ?_)
  have hb := Blk.new w [.int .i64 0] 23
  refine ⟨(asK _ _ _ (HE.out.keeps ((Keeps.refl (fun _ => False) w).alloc _) fun _ _ h => h) (HG.out.keeps ((Keeps.refl (fun _ => False) w).alloc _) fun h => h) (hb.cell (i := 0) rfl) (hb.free 0)).mono ?_⟩
  rintro e w1 ⟨rfl, w0, hk, rfl⟩
  have hb1 := (hb.keeps hk fun h => h).set 0 (.int .i64 k)
  have d0 : (w0.setCell ⟨w.heap.size, 0, none⟩ (.int .i64 k)).cell? ⟨w.heap.size, 0, none⟩ = some (.int .i64 k) := hb1.cell (i := 0) rfl
  have HK : Hid (Keeps (fun _ => False) w (w0.setCell ⟨w.heap.size, 0, none⟩ (.int .i64 k))) := Lib.hid ((((Keeps.refl _ w).alloc _).trans hk fun _ _ h => h).setCell (fun h => absurd h (Nat.lt_irrefl _)) _)
  clear hb hb1 hk
  go_wp2
  go_ret
  exact ⟨rfl, HK.out⟩
set_option maxHeartbeats 400000 in
theorem kind_nil (w : World) : Calls Tryd.prog 12 #[.nilIface] w fun e w' => e = .returned (.int .i64 0) ∧ Keeps (fun _ => False) w w' := by
  go_enter Tryd.func12, Tryd.ntmps12
  go_wp2
  go_ret
  exact ⟨rfl, (Keeps.refl _ w).alloc _⟩
theorem info_pf : (Tryd.prog.info? 44).map (fun i => (i.zero, i.size, i.bytes)) = some (some (.pointer none), 1, 8) := by kernel_rfl
set_option maxRecDepth 100000 in
set_option maxHeartbeats 800000 in
theorem faults_any {w : World} {E : Nat → Prop} {v : Value} {c : List (ByteArray × Int)} {k : Int} (h : IsErr w E v c k) (hlen : c.length ≤ 9000) (hg : ErrorType w) :
    Calls Tryd.prog 18 #[v] w (FaultsPost w c) := by
  have HE := Lib.hid h
  have HG := Lib.hid hg
  clear h hg
  go_enter Tryd.func18, Tryd.ntmps18
  go_wp2
  go_loopw [0, 3] (fun v lv wr => FaultsAt w E c k v lv wr) (fun _ lv _ => c.length - rowLenF lv)
  case atStart => exact ⟨[], c, [], rfl, HE.out, ⟨rfl, fun i b op n h => by cases h⟩, World.ownsRow_nil _ _ _ _, (Keeps.refl _ w).alloc _, ⟨_, Blk.new w [.pointer none] 44⟩, fun g hg => by simp [Value.ownBlock] at hg⟩
  case round =>
    obtain ⟨c1, c2, ps, rfl, he, hp, hr, hkp, ⟨old, hb⟩, hown⟩ := hrel
    have hln : c1.length + c2.length ≤ 9000 := by simpa using hlen
    have HR := Lib.hid hr
    have HK := Lib.hid hkp
    have HO := Lib.hid hown
    have HP := Lib.hid hp
    have HB := Lib.hid hb
    have HG2 := Lib.hid (HG.out.keeps hkp fun h => h)
    have hpl := hp.1
    cases c2 with
    | nil =>
      obtain rfl : u0 = _ := he
      clear hr hkp hown hlen HE hp hb
      go_wp2_with (go_at_call 17; refine Stop.out ?_)
      refine ⟨(asNF k _ _ _ HG2.out (HB.out.cell (i := 0) rfl) (HB.out.free 0)).mono ?_⟩
      rintro e w2 ⟨rfl, hk2⟩
      have HK2 := Lib.hid hk2
      clear hk2
      go_wp2
      go_ret
      refine ⟨_, ps, rfl, ?_, HR.out.keeps HK2.out fun _ _ h => h, HK.out.trans HK2.out fun _ _ h => h⟩
      rw [List.append_nil]
      exact HP.out
    | cons t l3 =>
      obtain ⟨op, n⟩ := t
      obtain ⟨g, u, rfl, hbg, _, he3⟩ := he
      have HBG := Lib.hid hbg
      have HE3 := Lib.hid he3
      have hl3 : c1.length + (l3.length + 1) ≤ 9000 := by simpa using hln
      clear hr hkp hown hlen HE hp hb hbg he3 hln
      go_wp2_with (go_at_call 17; refine Stop.out ?_)
      refine ⟨(asF _ _ _ _ HG2.out (HB.out.cell (i := 0) rfl) (HB.out.free 0)).mono ?_⟩
      rintro e w2 ⟨rfl, w0, hk2, rfl⟩
      have hk3 : Keeps (fun _ => False) w w0 := HK.out.trans hk2 fun _ _ h => h
      have hb2 := (HB.out.keeps hk2 fun h => h).set 0 (ptrAt g)
      have hr2 := (HR.out.keeps hk2 fun _ _ h => h).setCell_other (a := ⟨w.heap.size, 0, none⟩) (fun h => Nat.lt_irrefl _ (HO.out _ h)) (ptrAt g)
      have hk4 : Keeps (fun _ => False) w (w0.setCell ⟨w.heap.size, 0, none⟩ (ptrAt g)) := hk3.setCell (fun h => absurd h (Nat.lt_irrefl _)) _
      change Blk _ _ _ [ptrAt g] at hb2
      have e1 : (Value.pointer (some ⟨g, 0, none⟩)) = ptrAt g := rfl
      rw [e1]
      obtain ⟨w2, hw2⟩ : ∃ w2, w2 = w0.setCell ⟨w.heap.size, 0, none⟩ (ptrAt g) := ⟨_, rfl⟩
      rw [← hw2] at hb2 hr2 hk4 ⊢
      clear hw2 hk2 hk3 e1
      have HR2 := Lib.hid hr2
      have HB2 := Lib.hid hb2
      have HK4 := Lib.hid hk4
      have d0 : w2.cell? ⟨w.heap.size, 0, none⟩ = some (.pointer (some ⟨g, 0, none⟩)) := hb2.cell (i := 0) rfl
      clear hb2 hr2 hk4 HB HG2 HR HK
      go_wp2_with (first | (with_reducible refine wp_region_text (by kernel_rfl) (by kernel_rfl) ?_) | (with_reducible refine text_fin (by kernel_rfl) ?_) | (at_builtin; go_must (refine wpList_append_row _ rfl _ _ 49 49 rfl 44 (.slice 44) 1 8 (.pointer none) info_pf Tryd.underlying49 Tryd.underlying49 (by intro k h; cases h) rfl u3 ps.length (ps.map ptrAt) rfl (HR2.out.keeps (S := fun _ => False) (by repeat (first | exact Keeps.refl _ _ | apply Keeps.drew | apply Keeps.alloc)) (fun _ _ h => h)) _ 1 [ptrAt g] rfl rfl (lenOf_slice _ _ _) (firstCells_at _ rfl (fcells_newAt rfl)) (by intro u hu; simp at hu; subst hu; rfl) (by unfold maxLen; omega) (by omega) ?_); intro v' w4 ha; obtain ⟨va, vc, rfl, _, _⟩ := ha.row.len; obtain ⟨g1, g2, g3⟩ := faultsKeep HK4.out HB2.out HO.out (by repeat (first | exact Keeps.refl _ _ | apply Keeps.drew | apply Keeps.alloc)) ha; have G1 := Lib.hid g1; have G2 := Lib.hid g2; have G4 := Lib.hid g3; have G3 := Lib.hid ha.row; clear g1 g2 g3 ha; clear d0; have d0 : w4.cell? ⟨w.heap.size, 0, none⟩ = some (.pointer (some ⟨g, 0, none⟩)) := G2.out.cell (i := 0) rfl; have c2 : w4.cell? ⟨g, 2, none⟩ = some u := (HBG.out.keeps G1.out (fun h => h)).cell (i := 2) rfl))
      all_goals
        have hx := G3.out
        have hy := G4.out
        rw [hpl] at hx hy
        obtain ⟨a9, c9, e9, _⟩ := HR2.out.len
        refine ⟨⟨c1 ++ [(op, n)], l3, ps ++ [g], by simp, HE3.out, HP.out.snoc HBG.out, ?_, G1.out, ⟨_, G2.out⟩, hy⟩, ?_⟩
        · rw [List.length_append, List.map_append, List.length_singleton, hpl]
          exact hx
        · rw [e9]
          simp only [rowLenF, List.length_append, List.length_cons]
          omega
/-- the number of an Op -/
def numOf (c : List (ByteArray × Int)) (op : ByteArray) : Int × Bool := match c.find? (fun t => t.1 == op) with | some t => (t.2, true) | none => (0, false)
theorem find_drop {c : List (ByteArray × Int)} {op : ByteArray} {i : Nat} (h : ∀ j t, j < i → c[j]? = some t → (t.1 == op) = false) : c.find? (fun t => t.1 == op) = (c.drop i).find? (fun t => t.1 == op) := by
  induction c generalizing i with
  | nil => simp
  | cons t c ih =>
    cases i with
    | zero => rfl
    | succ i =>
      have h0 := h 0 t (Nat.succ_pos _) rfl
      rw [List.find?_cons_of_neg (by simpa using h0), List.drop_succ_cons]
      exact ih fun j t hj ht => h (j + 1) t (Nat.succ_lt_succ hj) ht
set_option maxRecDepth 100000 in
set_option maxHeartbeats 800000 in
theorem number_any {w : World} {E : Nat → Prop} {v : Value} {c : List (ByteArray × Int)} {k : Int} (h : IsErr w E v c k) (hlen : c.length ≤ 9000) (hg : ErrorType w) (op : ByteArray) :
    Calls Tryd.prog 13 #[v, .string op] w fun e w' => e = .returned (.tuple #[.int .i64 (numOf c op).1, .bool (numOf c op).2]) ∧ Keeps (fun _ => False) w w' := by
  have HF := Lib.hid (faults_any h hlen hg)
  clear h hg
  go_enter Tryd.func13, Tryd.ntmps13
  go_wp2_with (go_at_call 18; refine Stop.out ?_)
  refine ⟨HF.out.mono ?_⟩
  rintro e w2 ⟨lv, ps, rfl, hp, hr, hk⟩
  have hpl := hp.1
  obtain ⟨a9, c9, rfl, _⟩ := hr.len
  rw [hpl] at hr ⊢
  have HP := Lib.hid hp
  have HR := Lib.hid hr
  have HK := Lib.hid hk
  have hcl : c.length ≤ 9000 := hlen
  clear hp hr hk hlen
  go_wp2
  go_loopw [11] (fun iv wr => wr = w2 ∧ ∃ i : Nat, iv = .int .i64 i ∧ i ≤ c.length ∧ ∀ j t, j < i → c[j]? = some t → (t.1 == op) = false) (fun iv _ => c.length - (intOf iv).toNat)
  case atStart => exact ⟨rfl, 0, rfl, Nat.zero_le _, fun j t h => absurd h (Nat.not_lt_zero _)⟩
  case round =>
    obtain ⟨rfl, i, rfl, hi, hall⟩ := hrel
    have HALL := Lib.hid hall
    clear hall
    by_cases hlt : i < c.length
    · obtain ⟨t, ht⟩ : ∃ t, c[i]? = some t := ⟨_, List.getElem?_eq_getElem hlt⟩
      obtain ⟨b, hb⟩ : ∃ b, ps[i]? = some b := ⟨_, List.getElem?_eq_getElem (by omega)⟩
      obtain ⟨o, n⟩ := t
      obtain ⟨u, hbk⟩ := HP.out.2 i b o n hb ht
      have hbw := hbk.keeps HK.out fun h => h
      have e0 : wr.cell? ⟨b, 0, none⟩ = some (.string o) := hbw.cell (i := 0) rfl
      have e1 : wr.cell? ⟨b, 1, none⟩ = some (.int .i64 n) := hbw.cell (i := 1) rfl
      have hr := HR.out
      obtain ⟨g, cc, e9, _, _⟩ := hr.form (by omega)
      obtain ⟨rfl, rfl⟩ : a9 = some ⟨g, 0, none⟩ ∧ c9 = cc := by cases e9; exact ⟨rfl, rfl⟩
      have d0 : wr.cell? ⟨g, i, none⟩ = some (.pointer (some ⟨b, 0, none⟩)) := hr.cell (by rw [List.getElem?_map, hb]; rfl)
      have HT := Lib.hid ht
      have g1 : decide ((i : Int) < (c.length : Int)) = true := decide_eq_true (by omega)
      clear hr e9 hbw hbk ht hb
      by_cases ho : o = op
      · subst ho
        have hnum : Hid (numOf c o = (n, true)) := Lib.hid (by
          unfold numOf
          obtain ⟨hil, hge⟩ := List.getElem?_eq_some_iff.1 HT.out
          rw [find_drop HALL.out, List.drop_eq_getElem_cons hil, hge, List.find?_cons_of_pos (by rw [ba_beq]; exact decide_eq_true rfl)])
        go_wp2
        go_ret2
        rw [hnum.out]
        exact ⟨rfl, HK.out⟩
      · have hne : (o == op) = false := by rw [ba_beq]; exact decide_eq_false ho
        have hne2 : (o.toList == op.toList) = false := by rw [← beq_toListBytes]; exact hne
        go_wp2
        refine ⟨⟨trivial, i + 1, by simp, by omega, fun j t hj ht => ?_⟩, ?_⟩
        · rcases Nat.lt_or_ge j i with h | h
          · exact HALL.out j t h ht
          · obtain rfl : j = i := by omega
            rw [HT.out] at ht
            cases ht
            exact hne
        · simp only [intOf]
          omega
    · have g1 : decide ((i : Int) < (c.length : Int)) = false := decide_eq_false (by omega)
      have hnum : Hid (numOf c op = (0, false)) := Lib.hid (by
        unfold numOf
        rw [find_drop HALL.out, List.drop_eq_nil_of_le (by omega)]
        rfl)
      go_wp2
      go_ret2
      rw [hnum.out]
      exact ⟨rfl, HK.out⟩
end Go.Proofs.YtnmhodejffpblaaDoor

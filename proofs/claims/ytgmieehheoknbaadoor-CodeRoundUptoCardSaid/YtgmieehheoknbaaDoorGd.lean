import Derived.Test.YtgmieehheoknbaaDoorGb
import Derived.Test.YtgmieehheoknbaaDoorGa
section
/-
  The links of an error, and whether two errors are alike: what the Go code does.
-/
namespace Go.Tx
open Go Go.RowKit
theorem cells_newAt {w0 : World} {xs : List Value} {e : TypeId} {g : Nat} (hg : g = w0.heap.size) : ∀ j v, xs[j]? = some v → (w0.alloc (.cells xs.toArray e)).cell? ((⟨g, 0, none⟩ : Addr).add j) = some v := by
  intro j v hv
  subst hg
  have h := (Blk.new w0 xs e).cell hv
  have e1 : (⟨w0.heap.size, 0, none⟩ : Addr).add j = ⟨w0.heap.size, j, none⟩ := by
    unfold Addr.add
    cases j with
    | zero => rfl
    | succ j => simp
  rw [e1]; exact h
/-- the cells of a chain's links -/
def linkCells (l : List (ByteArray × Int)) : List Value := l.flatMap fun t => [.string t.1, .int .i64 t.2, .int .i64 0]
def endCells (k : Int) : List Value := [.string ⟨#[]⟩, .int .i64 0, .int .i64 k]
theorem linkCells_snoc (l : List (ByteArray × Int)) (op : ByteArray) (n : Int) : linkCells (l ++ [(op, n)]) = linkCells l ++ [.string op, .int .i64 n, .int .i64 0] := by simp [linkCells]

/-- what holds before each round: so many links were read -/
def LinksAt (w : World) (E : Nat → Prop) (l : List (ByteArray × Int)) (k : Int) (v lv kv : Value) (wr : World) : Prop :=
  ∃ l1 l2, l = l1 ++ l2 ∧ IsErr w E v l2 k ∧ Row wr 103 3 lv l1.length (linkCells l1) ∧ kv = .int .i64 l1.length ∧ Keeps (fun _ => False) w wr ∧ ∀ g, lv.ownBlock = some g → w.heap.size ≤ g
def LinksPost (w : World) (l : List (ByteArray × Int)) (k : Int) (e : Ending) (w' : World) : Prop :=
  ∃ lv, e = .returned (.tuple #[lv, .bool (k != 0)]) ∧ Row w' 103 3 lv (l.length + 1) (linkCells l ++ endCells k) ∧ Keeps (fun _ => False) w w'
theorem linksKeep {w wr w0 w4 : World} {lv v' : Value} {e : TypeId} {n : Nat} {xs : List Value} (hk : Keeps (fun _ => False) w wr) (hown : ∀ g, lv.ownBlock = some g → w.heap.size ≤ g) (k0 : Keeps (fun _ => False) wr w0) (ha : Appended w0 w4 e 3 lv v' n xs) :
    Keeps (fun _ => False) w w4 ∧ ∀ g, v'.ownBlock = some g → w.heap.size ≤ g := by
  have h1 : Keeps (fun _ => False) w w0 := hk.trans k0 fun _ _ h => h
  refine ⟨h1.trans ha.keeps fun g hg ho => ?_, fun g hg => ?_⟩
  · have := hown g ho; omega
  · rcases ha.own with ho | ⟨ho, _⟩
    · rw [ho] at hg; exact hown g hg
    · rw [ho] at hg; simp at hg; subst hg; exact h1.size
end Go.Tx
namespace Go.Proofs.YtgmieehheoknbaaDoor
open Go.RowKit Go.Tx
set_option maxHeartbeats 400000 in
theorem links_nil (w : World) : Calls Tryd.prog 28 #[.nilIface] w fun e w' => e = .returned (.tuple #[.slice none 0 0, .bool true]) ∧ w' = w := by
  go_enter Tryd.func28, Tryd.ntmps28
  go_wp2
  refine wp_loop_rounds 1 ?_
  rw [rounds_succ]
  go_wp2
  go_ret2
  exact ⟨rfl, rfl⟩

theorem info_link : (Tryd.prog.info? 103).map (fun i => (i.zero, i.size, i.bytes)) = some (some (.agg #[.string ByteArray.empty, .int .i64 0, .int .i64 0]), 3, 32) := by kernel_rfl

theorem as_fault (v : Value) (w : World) : (Instr.typeAssert (.iface 40 v) 28 40 true).run Tryd.prog w = .ok (.tuple #[v, .bool true]) w := by kernel_rfl
theorem as_errno (v : Value) (w : World) : (Instr.typeAssert (.iface 41 v) 28 41 true).run Tryd.prog w = .ok (.tuple #[v, .bool true]) w := by kernel_rfl
theorem as_not (v : Value) (w : World) : (Instr.typeAssert (.iface 41 v) 28 40 true).run Tryd.prog w = .ok (.tuple #[.pointer none, .bool false]) w := by kernel_rfl

set_option maxRecDepth 100000 in
set_option maxHeartbeats 400000 in
theorem links_any {w : World} {E : Nat → Prop} {v : Value} {l : List (ByteArray × Int)} {k : Int} (h : IsErr w E v l k) (hl : l.length ≤ 9000) :
    Calls Tryd.prog 28 #[v] w (LinksPost w l k) := by
  have HE := Lib.hid h
  have t1 := as_fault
  have t2 := as_errno
  have t3 := as_not
  clear h
  go_enter Tryd.func28, Tryd.ntmps28
  go_wp2
  go_loopw [0, 4, 5] (fun v lv kv wr => LinksAt w E l k v lv kv wr) (fun _ _ kv _ => l.length - (intOf kv).toNat)
  case atStart => exact ⟨[], l, rfl, HE.out, World.ownsRow_nil _ _ _ _, rfl, Keeps.refl _ _, fun g hg => by simp [Value.ownBlock] at hg⟩
  case round =>
    obtain ⟨l1, l2, rfl, he, hr, rfl, hkp, hown⟩ := hrel
    have hln : l1.length + l2.length ≤ 9000 := by simpa using hl
    have HR := Lib.hid hr
    have HK := Lib.hid hkp
    have HO := Lib.hid hown
    cases l2 with
    | nil =>
      obtain rfl : u0 = _ := he
      clear hr hkp hown hl HE
      go_wp2_with (first | (with_reducible refine wp_region_text (by kernel_rfl) (by kernel_rfl) ?_) | (with_reducible refine text_fin (by kernel_rfl) ?_) | (at_builtin; go_must (refine wpList_append_row _ rfl _ _ 73 73 rfl 103 (.slice 103) 3 32 (.agg #[.string ByteArray.empty, .int .i64 0, .int .i64 0]) info_link Tryd.underlying73 Tryd.underlying73 (by intro k h; cases h) rfl u4 l1.length (linkCells l1) rfl (HR.out.keeps (S := fun _ => False) (by repeat (first | exact Keeps.refl _ _ | apply Keeps.drew | apply Keeps.alloc)) (fun _ _ h => h)) _ 1 [.string ⟨#[]⟩, .int .i64 0, .int .i64 k] rfl rfl (lenOf_slice _ _ _) (firstCells_at _ rfl (cells_newAt rfl)) (by intro u hu; simp at hu; rcases hu with rfl | rfl | rfl <;> rfl) (by unfold maxLen; omega) (by omega) ?_); intro v' w4 ha; obtain ⟨va, vc, rfl, _, _⟩ := ha.row.len; obtain ⟨g1, g2⟩ := linksKeep HK.out HO.out (by repeat (first | exact Keeps.refl _ _ | apply Keeps.drew | apply Keeps.alloc)) ha; have G1 := Lib.hid g1; have G2 := Lib.hid g2; have G3 := Lib.hid ha.row; clear g1 g2 ha))
      go_ret2
      refine ⟨_, rfl, ?_, G1.out⟩
      rw [List.append_nil]
      exact G3.out
    | cons t l3 =>
      obtain ⟨op, n⟩ := t
      obtain ⟨g, u, rfl, hb, _, he3⟩ := he
      have hbr := hb.keeps hkp (fun h => h)
      have c0 : wr.cell? ⟨g, 0, none⟩ = some (.string op) := hbr.cell (i := 0) rfl
      have c1 : wr.cell? ⟨g, 1, none⟩ = some (.int .i64 n) := hbr.cell (i := 1) rfl
      have HB := Lib.hid hb
      have HE3 := Lib.hid he3
      have hl3 : l1.length + (l3.length + 1) ≤ 9000 := by simpa using hln
      clear hr hkp hown hl HE hb hbr he3 hln
      go_wp2_with (first | (with_reducible refine wp_region_text (by kernel_rfl) (by kernel_rfl) ?_) | (with_reducible refine text_fin (by kernel_rfl) ?_) | (at_builtin; go_must (refine wpList_append_row _ rfl _ _ 73 73 rfl 103 (.slice 103) 3 32 (.agg #[.string ByteArray.empty, .int .i64 0, .int .i64 0]) info_link Tryd.underlying73 Tryd.underlying73 (by intro k h; cases h) rfl u4 l1.length (linkCells l1) rfl (HR.out.keeps (S := fun _ => False) (by repeat (first | exact Keeps.refl _ _ | apply Keeps.drew | apply Keeps.alloc)) (fun _ _ h => h)) _ 1 [.string op, .int .i64 n, .int .i64 0] rfl rfl (lenOf_slice _ _ _) (firstCells_at _ rfl (cells_newAt rfl)) (by intro u hu; simp at hu; rcases hu with rfl | rfl | rfl <;> rfl) (by unfold maxLen; omega) (by omega) ?_); intro v' w4 ha; obtain ⟨va, vc, rfl, _, _⟩ := ha.row.len; obtain ⟨g1, g2⟩ := linksKeep HK.out HO.out (by repeat (first | exact Keeps.refl _ _ | apply Keeps.drew | apply Keeps.alloc)) ha; have G1 := Lib.hid g1; have G2 := Lib.hid g2; have G3 := Lib.hid ha.row; clear g1 g2 ha; have c2 : w4.cell? ⟨g, 2, none⟩ = some u := (HB.out.keeps G1.out (fun h => h)).cell (i := 2) rfl))
      go_roundw
      case rel => exact ⟨l1 ++ [(op, n)], l3, by simp, HE3.out, by rw [List.length_append, linkCells_snoc]; exact G3.out, by simp, G1.out, G2.out⟩
      case measure => simp [intOf]; omega
end Go.Proofs.YtgmieehheoknbaaDoor
end
section
/-
  Whether two errors are alike: what the Go code does.
-/
namespace Go.Tx
open Go Go.RowKit
def lcells (l : List (ByteArray × Int × Int)) : List Value := l.flatMap fun t => [.string t.1, .int .i64 t.2.1, .int .i64 t.2.2]
def linksOf (l : List (ByteArray × Int)) (k : Int) : List (ByteArray × Int × Int) := l.map (fun t => (t.1, t.2, 0)) ++ [(⟨#[]⟩, 0, k)]
theorem lcells_of (l : List (ByteArray × Int)) (k : Int) : linkCells l ++ endCells k = lcells (linksOf l k) := by
  simp [linkCells, endCells, lcells, linksOf, List.flatMap_map]
theorem linksOf_length (l : List (ByteArray × Int)) (k : Int) : (linksOf l k).length = l.length + 1 := by simp [linksOf]
theorem linksOf_inj {l l' : List (ByteArray × Int)} {k k' : Int} : linksOf l k = linksOf l' k' ↔ l = l' ∧ k = k' := by
  unfold linksOf
  constructor
  · intro h
    have h1 := List.append_inj' h rfl
    refine ⟨?_, by simpa using h1.2⟩
    refine (List.map_inj_right ?_).1 h1.1
    intro a b hab
    simp at hab
    exact Prod.ext hab.1 hab.2
  · rintro ⟨rfl, rfl⟩; rfl
theorem lcells_length (l : List (ByteArray × Int × Int)) : (lcells l).length = l.length * 3 := by
  unfold lcells
  induction l with
  | nil => rfl
  | cons t l ih => simp [List.flatMap_cons, ih]; omega
theorem lcells_get (l : List (ByteArray × Int × Int)) : ∀ (i : Nat) (t : ByteArray × Int × Int), l[i]? = some t → (lcells l)[i * 3]? = some (.string t.1) ∧ (lcells l)[i * 3 + 1]? = some (.int .i64 t.2.1) ∧ (lcells l)[i * 3 + 2]? = some (.int .i64 t.2.2) := by
  induction l with
  | nil => intro i t h; simp at h
  | cons u l ih =>
    intro i t h
    have e : lcells (u :: l) = [.string u.1, .int .i64 u.2.1, .int .i64 u.2.2] ++ lcells l := by simp [lcells]
    rw [e]
    cases i with
    | zero => simp at h; subst h; simp
    | succ i =>
      simp at h
      obtain ⟨h1, h2, h3⟩ := ih i t h
      refine ⟨?_, ?_, ?_⟩ <;> rw [List.getElem?_append_right (by simp; omega)]
      · simpa [show (i + 1) * 3 - 3 = i * 3 by omega] using h1
      · simpa [show (i + 1) * 3 + 1 - 3 = i * 3 + 1 by omega] using h2
      · simpa [show (i + 1) * 3 + 2 - 3 = i * 3 + 2 by omega] using h3
theorem Row.cell3 {w : World} {e : TypeId} {g n cap size : Nat} {ys : List Value} (h : Row w e size (.slice (some ⟨g, 0, none⟩) n cap) n ys) {i : Nat} {v : Value} (hv : ys[i]? = some v) : w.cell? ⟨g, i, none⟩ = some v := by
  have hi : i < n * size := by
    have := (List.getElem?_eq_some_iff.1 hv).1
    rw [h.1] at this; exact this
  rw [World.ownsRow.cellAt h i hi]; exact hv
def SameAt (w : World) (lx ly : List (ByteArray × Int × Int)) (n : Nat) (v : Value) (wr : World) : Prop :=
  ∃ i : Nat, v = .int .i64 i ∧ i ≤ n ∧ lx.take i = ly.take i ∧ Keeps (fun _ => False) w wr
end Go.Tx
namespace Go.Proofs.YtgmieehheoknbaaDoor
open Go.RowKit Go.Tx
theorem ba_toList {a b : ByteArray} : a.toList = b.toList ↔ a = b := by
  constructor
  · intro h
    have e : ∀ x : ByteArray, x.toList = x.data.toList := fun x => by simp [ByteArray.toList_eq]
    rw [e, e] at h
    exact Go.WideShapes.bytes_inj h
  · rintro rfl; rfl

set_option maxRecDepth 100000 in
set_option maxHeartbeats 400000 in
theorem same_any {w : World} {x y : Value} {lx ly : List (ByteArray × Int × Int)} {n m : Nat} (hx : Row w 103 3 x n (lcells lx)) (hy : Row w 103 3 y m (lcells ly)) (hn : lx.length = n) (hm : ly.length = m) :
    Calls Tryd.prog 29 #[x, y] w fun e w' => e = .returned (.bool (decide (lx = ly))) ∧ Keeps (fun _ => False) w w' := by
  obtain ⟨a, c, rfl, hc, hmc⟩ := hx.len
  obtain ⟨a', c', rfl, hc', hmc'⟩ := hy.len
  have HX := Lib.hid hx
  have HY := Lib.hid hy
  have HN := Lib.hid hn
  have HM := Lib.hid hm
  unfold maxLen at hmc hmc'
  clear hx hy hn hm
  by_cases hlen : n = m
  · subst hlen
    go_enter Tryd.func29, Tryd.ntmps29
    go_wp2
    go_loopw [5] (fun v wr => SameAt w lx ly n v wr) (fun v _ => n - (intOf v).toNat)
    case atStart => exact ⟨0, rfl, Nat.zero_le _, by simp, Keeps.refl _ _⟩
    case round =>
      obtain ⟨i, rfl, hi, ht, hk⟩ := hrel
      have HT := Lib.hid ht
      have HK := Lib.hid hk
      clear ht
      by_cases hil : i < n
      · obtain ⟨t, hti⟩ : ∃ t, lx[i]? = some t := ⟨lx[i]'(by rw [HN.out]; exact hil), by simp⟩
        obtain ⟨u, hui⟩ : ∃ t, ly[i]? = some t := ⟨ly[i]'(by rw [HM.out]; exact hil), by simp⟩
        obtain ⟨g, c1, e1, _, _⟩ := HX.out.form (by omega)
        obtain ⟨g', c2, e2, _, _⟩ := HY.out.form (by omega)
        obtain ⟨rfl, rfl⟩ : a = some ⟨g, 0, none⟩ ∧ c = c1 := by cases e1; exact ⟨rfl, rfl⟩
        obtain ⟨rfl, rfl⟩ : a' = some ⟨g', 0, none⟩ ∧ c' = c2 := by cases e2; exact ⟨rfl, rfl⟩
        obtain ⟨x0, x1, x2⟩ := lcells_get lx i t hti
        obtain ⟨y0, y1, y2⟩ := lcells_get ly i u hui
        have hX := HX.out.keeps hk (fun _ _ h => h)
        have hY := HY.out.keeps hk (fun _ _ h => h)
        replace x0 := hX.cell3 x0
        replace x1 := hX.cell3 x1
        replace x2 := hX.cell3 x2
        replace y0 := hY.cell3 y0
        replace y1 := hY.cell3 y1
        replace y2 := hY.cell3 y2
        have HTI := Lib.hid hti
        have HUI := Lib.hid hui
        clear e1 e2 hX hY hk hti hui
        go_wp2_with (first | (with_reducible refine wp_region_text (by kernel_rfl) (by kernel_rfl) ?_) | (with_reducible refine text_fin (by kernel_rfl) ?_))
        · go_roundw
          case rel =>
            refine ⟨i + 1, by go_num, by omega, ?_, HK.out.drew⟩
            rw [List.take_add_one, List.take_add_one, HT.out, HTI.out, HUI.out]
            congr 2; congr 1
            have h1 : t.1 = u.1 := ba_toList.1 (by assumption)
            have h2 : t.2.1 = u.2.1 := by assumption
            have h3 : t.2.2 = u.2.2 := by assumption
            exact Prod.ext h1 (Prod.ext h2 h3)
          case measure => simp [intOf]; omega
        all_goals
          have hne : ¬ (lx = ly) := fun he => by
            have e1 : t = u := by have h1 := HTI.out; rw [he, HUI.out] at h1; exact (Option.some.inj h1).symm
            subst e1
            first | exact absurd rfl ‹¬ _› | contradiction
          go_ret
          exact ⟨by rw [decide_eq_false hne]; rfl, HK.out.drew⟩
      · go_wp2
        have he : lx = ly := by
          have h1 := HT.out
          rw [List.take_of_length_le (by rw [HN.out]; omega), List.take_of_length_le (by rw [HM.out]; omega)] at h1
          exact h1
        go_ret
        exact ⟨by rw [decide_eq_true he]; rfl, HK.out⟩
  · go_enter Tryd.func29, Tryd.ntmps29
    go_wp2
    have hne : ¬ (lx = ly) := fun he => hlen (by rw [← HN.out, ← HM.out, he])
    go_ret
    exact ⟨by rw [decide_eq_false hne]; rfl, Keeps.refl _ _⟩
end Go.Proofs.YtgmieehheoknbaaDoor
end
section
/-
  Whether two errors, or none, are alike: what the Go code does.
-/
namespace Go.Tx
open Go Go.RowKit
abbrev ErrO := Option (List (ByteArray × Int) × Int)
/-- an error, or none -/
def IsErrO (w : World) (E : Nat → Prop) (v : Value) : ErrO → Prop
  | none => v = .nilIface
  | some (l, k) => IsErr w E v l k ∧ l.length ≤ 9000
def linksO : ErrO → List (ByteArray × Int × Int)
  | none => []
  | some (l, k) => linksOf l k
def fineO : ErrO → Bool
  | none => true
  | some (_, k) => k != 0
theorem linksO_inj {o o' : ErrO} : linksO o = linksO o' ↔ o = o' := by
  cases o with
  | none =>
    cases o' with
    | none => simp
    | some t => obtain ⟨l, k⟩ := t; simp [linksO, linksOf]
  | some t =>
    obtain ⟨l, k⟩ := t
    cases o' with
    | none => simp [linksO, linksOf]
    | some t' => obtain ⟨l', k'⟩ := t'; simp [linksO, linksOf_inj]
theorem IsErrO.keeps {w w' : World} {E T : Nat → Prop} {v : Value} {o : ErrO} (h : IsErrO w E v o) (hk : Keeps T w w') (hs : ∀ g, E g → ¬ T g) : IsErrO w' E v o := by
  cases o with
  | none => exact h
  | some t => exact ⟨h.1.keeps hk hs, h.2⟩
def LinksOPost (w : World) (o : ErrO) (e : Ending) (w' : World) : Prop :=
  ∃ lv, e = .returned (.tuple #[lv, .bool (fineO o)]) ∧ Row w' 103 3 lv (linksO o).length (lcells (linksO o)) ∧ Keeps (fun _ => False) w w'
end Go.Tx
namespace Go.Proofs.YtgmieehheoknbaaDoor
open Go.RowKit Go.Tx
theorem links_o {w : World} {E : Nat → Prop} {v : Value} {o : ErrO} (h : IsErrO w E v o) : Calls Tryd.prog 28 #[v] w (LinksOPost w o) := by
  cases o with
  | none =>
    obtain rfl : v = .nilIface := h
    exact (links_nil w).mono fun e w' ⟨he, hw⟩ => ⟨_, he, World.ownsRow_nil _ _ _ _, hw ▸ Keeps.refl _ _⟩
  | some t =>
    obtain ⟨l, k⟩ := t
    refine (links_any h.1 h.2).mono fun e w' ⟨lv, he, hr, hk⟩ => ⟨lv, he, ?_, hk⟩
    rw [lcells_of] at hr
    simp only [linksO, linksOf_length]
    exact hr
end Go.Proofs.YtgmieehheoknbaaDoor
end
section
/-
  Whether two errors are alike: what troupelaw00.Err does.
-/
namespace Go.Proofs.YtgmieehheoknbaaDoor
open Go.RowKit Go.Tx

set_option maxHeartbeats 400000 in
theorem err_any {w : World} {E E' : Nat → Prop} {v u : Value} {o o' : ErrO} (h : IsErrO w E v o) (h' : IsErrO w E' u o') :
    Calls Tryd.prog 15 #[v, u] w fun e w' => e = .returned (.bool (fineO o && fineO o' && decide (o = o'))) ∧ Keeps (fun _ => False) w w' := by
  have HV := Lib.hid (links_o h)
  have HU := Lib.hid h'
  have hd : decide (linksO o = linksO o') = decide (o = o') := by rw [decide_eq_decide]; exact linksO_inj
  have HD := Lib.hid hd
  clear h h' hd
  generalize hf : fineO o = f at *
  generalize hf' : fineO o' = f' at *
  have HF := Lib.hid hf
  have HF' := Lib.hid hf'
  clear hf hf'
  go_enter Tryd.func15, Tryd.ntmps15
  go_wp2_with (go_at_call 28; refine Stop.out ?_)
  refine ⟨HV.out.mono ?_⟩
  rintro e w1 ⟨lv, rfl, hr1, hk1⟩
  rw [HF.out]
  have HR1 := Lib.hid hr1
  have HK1 := Lib.hid hk1
  clear hr1 hk1
  go_wp2_with (go_at_call 28; refine Stop.out ?_)
  refine ⟨(links_o (HU.out.keeps HK1.out (fun _ _ h => h))).mono ?_⟩
  rintro e w2 ⟨lv2, rfl, hr2, hk2⟩
  rw [HF'.out]
  have HR2 := Lib.hid hr2
  have HK2 := Lib.hid hk2
  clear hr2 hk2
  cases f
  · go_wp2
    go_ret
    exact ⟨rfl, HK1.out.trans HK2.out fun _ _ h => h⟩
  · cases f'
    · go_wp2
      go_ret
      exact ⟨rfl, HK1.out.trans HK2.out fun _ _ h => h⟩
    · go_wp2_with (go_at_call 29; refine (same_any (HR1.out.keeps HK2.out (fun _ _ h => h)) HR2.out rfl rfl).mono ?_; rintro e w3 ⟨rfl, hk3⟩; rw [HD.out]; have HK3 := Lib.hid hk3; clear hk3)
      go_ret
      exact ⟨by simp, (HK1.out.trans HK2.out fun _ _ h => h).trans HK3.out fun _ _ h => h⟩
end Go.Proofs.YtgmieehheoknbaaDoor
end

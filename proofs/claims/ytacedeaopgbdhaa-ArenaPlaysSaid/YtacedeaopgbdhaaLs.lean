/-
  Whether two errors are alike: what the Go code does.
-/
import Derived.Test.YtacedeaopgbdhaaLk
namespace Go.Tx
open Go Go.RowKit
def lcells (l : List (ByteArray × Int × Int)) : List Value := l.flatMap fun t => [.string t.1, .int .i64 t.2.1, .int .i64 t.2.2]
def linksOf (l : List (ByteArray × Int)) (k : Int) : List (ByteArray × Int × Int) := l.map (fun t => (t.1, t.2, 0)) ++ [(⟨#[]⟩, 0, k)]
theorem lcells_of (l : List (ByteArray × Int)) (k : Int) : linkCells l ++ endCells k = lcells (linksOf l k) := by
  simp [linkCells, endCells, lcells, linksOf, List.flatMap_map]
theorem linksOf_length (l : List (ByteArray × Int)) (k : Int) : (linksOf l k).length = l.length + 1 := by simp [linksOf]
theorem linksOf_inj {l l' : List (ByteArray × Int)} {k k' : Int} : linksOf l k = linksOf l' k' ↔ l = l' ∧ k = k' := by
  unfold linksOf
  constructor
  · intro h
    have h1 := List.append_inj' h rfl
    refine ⟨?_, by simpa using h1.2⟩
    refine (List.map_inj_right ?_).1 h1.1
    intro a b hab
    simp at hab
    exact Prod.ext hab.1 hab.2
  · rintro ⟨rfl, rfl⟩; rfl
theorem lcells_length (l : List (ByteArray × Int × Int)) : (lcells l).length = l.length * 3 := by
  unfold lcells
  induction l with
  | nil => rfl
  | cons t l ih => simp [List.flatMap_cons, ih]; omega
theorem lcells_get (l : List (ByteArray × Int × Int)) : ∀ (i : Nat) (t : ByteArray × Int × Int), l[i]? = some t → (lcells l)[i * 3]? = some (.string t.1) ∧ (lcells l)[i * 3 + 1]? = some (.int .i64 t.2.1) ∧ (lcells l)[i * 3 + 2]? = some (.int .i64 t.2.2) := by
  induction l with
  | nil => intro i t h; simp at h
  | cons u l ih =>
    intro i t h
    have e : lcells (u :: l) = [.string u.1, .int .i64 u.2.1, .int .i64 u.2.2] ++ lcells l := by simp [lcells]
    rw [e]
    cases i with
    | zero => simp at h; subst h; simp
    | succ i =>
      simp at h
      obtain ⟨h1, h2, h3⟩ := ih i t h
      refine ⟨?_, ?_, ?_⟩ <;> rw [List.getElem?_append_right (by simp; omega)]
      · simpa [show (i + 1) * 3 - 3 = i * 3 by omega] using h1
      · simpa [show (i + 1) * 3 + 1 - 3 = i * 3 + 1 by omega] using h2
      · simpa [show (i + 1) * 3 + 2 - 3 = i * 3 + 2 by omega] using h3
theorem Row.cell3 {w : World} {e : TypeId} {g n cap size : Nat} {ys : List Value} (h : Row w e size (.slice (some ⟨g, 0, none⟩) n cap) n ys) {i : Nat} {v : Value} (hv : ys[i]? = some v) : w.cell? ⟨g, i, none⟩ = some v := by
  have hi : i < n * size := by
    have := (List.getElem?_eq_some_iff.1 hv).1
    rw [h.1] at this; exact this
  rw [World.ownsRow.cellAt h i hi]; exact hv
def SameAt (w : World) (lx ly : List (ByteArray × Int × Int)) (n : Nat) (v : Value) (wr : World) : Prop :=
  ∃ i : Nat, v = .int .i64 i ∧ i ≤ n ∧ lx.take i = ly.take i ∧ Keeps (fun _ => False) w wr
end Go.Tx
namespace Go.Proofs.Ytacedeaopgbdhaa
open Go.RowKit Go.Tx
theorem ba_toList {a b : ByteArray} : a.toList = b.toList ↔ a = b := by
  constructor
  · intro h
    have e : ∀ x : ByteArray, x.toList = x.data.toList := fun x => by simp [ByteArray.toList_eq]
    rw [e, e] at h
    exact Go.WideShapes.bytes_inj h
  · rintro rfl; rfl

set_option maxRecDepth 100000 in
set_option maxHeartbeats 400000 in
theorem same_any {w : World} {x y : Value} {lx ly : List (ByteArray × Int × Int)} {n m : Nat} (hx : Row w 93 3 x n (lcells lx)) (hy : Row w 93 3 y m (lcells ly)) (hn : lx.length = n) (hm : ly.length = m) :
    Calls Try.prog 28 #[x, y] w fun e w' => e = .returned (.bool (decide (lx = ly))) ∧ Keeps (fun _ => False) w w' := by
  obtain ⟨a, c, rfl, hc, hmc⟩ := hx.len
  obtain ⟨a', c', rfl, hc', hmc'⟩ := hy.len
  have HX := Lib.hid hx
  have HY := Lib.hid hy
  have HN := Lib.hid hn
  have HM := Lib.hid hm
  unfold maxLen at hmc hmc'
  clear hx hy hn hm
  by_cases hlen : n = m
  · subst hlen
    go_enter Try.func28, Try.ntmps28
    go_wp2
    go_loopw [5] (fun v wr => SameAt w lx ly n v wr) (fun v _ => n - (intOf v).toNat)
    case atStart => exact ⟨0, rfl, Nat.zero_le _, by simp, Keeps.refl _ _⟩
    case round =>
      obtain ⟨i, rfl, hi, ht, hk⟩ := hrel
      have HT := Lib.hid ht
      have HK := Lib.hid hk
      clear ht
      by_cases hil : i < n
      · obtain ⟨t, hti⟩ : ∃ t, lx[i]? = some t := ⟨lx[i]'(by rw [HN.out]; exact hil), by simp⟩
        obtain ⟨u, hui⟩ : ∃ t, ly[i]? = some t := ⟨ly[i]'(by rw [HM.out]; exact hil), by simp⟩
        obtain ⟨g, c1, e1, _, _⟩ := HX.out.form (by omega)
        obtain ⟨g', c2, e2, _, _⟩ := HY.out.form (by omega)
        obtain ⟨rfl, rfl⟩ : a = some ⟨g, 0, none⟩ ∧ c = c1 := by cases e1; exact ⟨rfl, rfl⟩
        obtain ⟨rfl, rfl⟩ : a' = some ⟨g', 0, none⟩ ∧ c' = c2 := by cases e2; exact ⟨rfl, rfl⟩
        obtain ⟨x0, x1, x2⟩ := lcells_get lx i t hti
        obtain ⟨y0, y1, y2⟩ := lcells_get ly i u hui
        have hX := HX.out.keeps hk (fun _ _ h => h)
        have hY := HY.out.keeps hk (fun _ _ h => h)
        replace x0 := hX.cell3 x0
        replace x1 := hX.cell3 x1
        replace x2 := hX.cell3 x2
        replace y0 := hY.cell3 y0
        replace y1 := hY.cell3 y1
        replace y2 := hY.cell3 y2
        have HTI := Lib.hid hti
        have HUI := Lib.hid hui
        clear e1 e2 hX hY hk hti hui
        go_wp2_with (first | (with_reducible refine wp_region_text (by kernel_rfl) (by kernel_rfl) ?_) | (with_reducible refine text_fin (by kernel_rfl) ?_))
        · go_roundw
          case rel =>
            refine ⟨i + 1, by go_num, by omega, ?_, HK.out.drew⟩
            rw [List.take_add_one, List.take_add_one, HT.out, HTI.out, HUI.out]
            congr 2; congr 1
            have h1 : t.1 = u.1 := ba_toList.1 (by assumption)
            have h2 : t.2.1 = u.2.1 := by assumption
            have h3 : t.2.2 = u.2.2 := by assumption
            exact Prod.ext h1 (Prod.ext h2 h3)
          case measure => simp [intOf]; omega
        all_goals
          have hne : ¬ (lx = ly) := fun he => by
            have e1 : t = u := by have h1 := HTI.out; rw [he, HUI.out] at h1; exact (Option.some.inj h1).symm
            subst e1
            first | exact absurd rfl ‹¬ _› | contradiction
          go_ret
          exact ⟨by rw [decide_eq_false hne]; rfl, HK.out.drew⟩
      · go_wp2
        have he : lx = ly := by
          have h1 := HT.out
          rw [List.take_of_length_le (by rw [HN.out]; omega), List.take_of_length_le (by rw [HM.out]; omega)] at h1
          exact h1
        go_ret
        exact ⟨by rw [decide_eq_true he]; rfl, HK.out⟩
  · go_enter Try.func28, Try.ntmps28
    go_wp2
    have hne : ¬ (lx = ly) := fun he => hlen (by rw [← HN.out, ← HM.out, he])
    go_ret
    exact ⟨by rw [decide_eq_false hne]; rfl, Keeps.refl _ _⟩
end Go.Proofs.Ytacedeaopgbdhaa

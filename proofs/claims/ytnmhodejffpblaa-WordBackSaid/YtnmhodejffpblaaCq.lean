/-
  Copies of slices of terms: what troupelaw00.CopyAll and Copy do.
-/
import Derived.Test.YtnmhodejffpblaaCp
namespace Go.Tx
open Go Go.RowKit
/-- the cells of a term's row, given the values of its slices -/
def tcells (p : Tm × Value × Value × Value) : List Value := [.int .i64 p.1.kind, .int .i64 p.1.n, .string p.1.name, p.2.1, p.2.2.1, p.2.2.2]
def rowCells (l : List (Tm × Value × Value × Value)) : List Value := l.flatMap tcells
theorem rowCells_length (l : List (Tm × Value × Value × Value)) : (rowCells l).length = l.length * 6 := by
  unfold rowCells
  induction l with
  | nil => rfl
  | cons t l ih => rw [List.flatMap_cons, List.length_append, ih]; simp [tcells]; omega
theorem rowCells_get : ∀ (l : List (Tm × Value × Value × Value)) (i : Nat) (p : Tm × Value × Value × Value), l[i]? = some p → ∀ j u, (tcells p)[j]? = some u → (rowCells l)[i * 6 + j]? = some u := by
  intro l
  induction l with
  | nil => intro i t h; simp at h
  | cons q l ih =>
    intro i p h j u hu
    have e : rowCells (q :: l) = tcells q ++ rowCells l := by simp [rowCells]
    have hq : (tcells q).length = 6 := rfl
    rw [e]
    cases i with
    | zero =>
      simp at h
      subst h
      have hj : j < 6 := by have := (List.getElem?_eq_some_iff.1 hu).1; simpa [tcells] using this
      rw [List.getElem?_append_left (by omega)]
      simpa using hu
    | succ i =>
      simp at h
      rw [List.getElem?_append_right (by omega), hq, show (i + 1) * 6 + j - 6 = i * 6 + j by omega]
      exact ih i p h j u hu
theorem rowCells_snoc (l : List (Tm × Value × Value × Value)) (p : Tm × Value × Value × Value) : rowCells (l ++ [p]) = rowCells l ++ tcells p := by simp [rowCells]
/-- so many terms copied -/
def CopyAt (T : TypeId) (d : Nat) (l : List Tm) (w : World) (v c : Value) (wr : World) : Prop :=
  ∃ (i : Nat) (ps : List (Tm × Value × Value × Value)), c = .int .i64 i ∧ i ≤ l.length ∧ ps.map (·.1) = l.take i ∧ Row wr T 6 v i (rowCells ps) ∧
    (∀ p ∈ ps, TmD wr (fun g => w.heap.size ≤ g ∧ g < wr.heap.size ∧ v.ownBlock ≠ some g) d (p.1.val p.2.1 p.2.2.1 p.2.2.2) p.1) ∧ (∀ g, v.ownBlock = some g → w.heap.size ≤ g) ∧ Keeps (fun _ => False) w wr
theorem TmD.form {w : World} {S : Nat → Prop} {d : Nat} {v : Value} {t : Tm} (h : TmD w S d v t) : ∃ y3 y4 y5, v = t.val y3 y4 y5 ∧ y3.oneCell' = true ∧ y4.oneCell' = true ∧ y5.oneCell' = true := by
  cases d with
  | zero => exact h.elim
  | succ d =>
    obtain ⟨y3, y4, y5, e, _, _, h3, h4, h5⟩ := h
    obtain ⟨_, _, rfl⟩ := h3.form
    obtain ⟨_, _, rfl⟩ := h4.form
    obtain ⟨_, _, rfl⟩ := h5.form
    exact ⟨_, _, _, e, rfl, rfl, rfl⟩
theorem copyAt_next {T : TypeId} {d : Nat} {l : List Tm} {w wr w2 w4 : World} {va va' : Option Addr} {vc vc' i : Nat} {ps : List (Tm × Value × Value × Value)} {t : Tm} {y3 y4 y5 : Value} {o : Obj}
    (hps : ps.map (·.1) = l.take i) (hti : l[i]? = some t) (hrow : Row wr T 6 (.slice va i vc) i (rowCells ps))
    (hts : ∀ p ∈ ps, TmD wr (fun g => w.heap.size ≤ g ∧ g < wr.heap.size ∧ (Value.slice va i vc).ownBlock ≠ some g) d (p.1.val p.2.1 p.2.2.1 p.2.2.2) p.1)
    (hown : ∀ g, (Value.slice va i vc).ownBlock = some g → w.heap.size ≤ g) (hk : Keeps (fun _ => False) w wr)
    (h2 : TmD w2 (Fresh wr w2) d (t.val y3 y4 y5) t) (hk2 : Keeps (fun _ => False) wr w2)
    (ha : Appended (w2.alloc o) w4 T 6 (.slice va i vc) (.slice va' (i + 1) vc') (i + 1) (rowCells ps ++ tcells (t, y3, y4, y5))) :
    CopyAt T d l w (.slice va' (i + 1) vc') (.int .i64 ((i : Int) + 1)) w4 := by
  have hi : i < l.length := (List.getElem?_eq_some_iff.1 hti).1
  have hk3 : Keeps (fun _ => False) w2 (w2.alloc o) := (Keeps.refl _ _).alloc _
  have hk4 : Keeps (Own (.slice va i vc)) wr w4 := ((hk2.trans hk3 fun _ _ h => h).mono fun _ _ h => h.elim).trans ha.keeps fun _ _ h => h
  have z1 := hk.size
  have z2 := hk2.size
  have z4 := ha.keeps.size
  rw [World.size_alloc] at z4
  have hlt : ∀ g, (Value.slice va i vc).ownBlock = some g → g < wr.heap.size := fun g hg => hrow.lt hg
  have hnew : ∀ g, g < w2.heap.size → (Value.slice va i vc).ownBlock ≠ some g → (Value.slice va' (i + 1) vc').ownBlock ≠ some g := fun g hg hn he => by
    rcases ha.own with h | ⟨h, _⟩
    · rw [h] at he; exact hn he
    · rw [h, World.size_alloc] at he
      have := Option.some.inj he
      omega
  refine ⟨i + 1, ps ++ [(t, y3, y4, y5)], by go_num, by omega, ?_, ?_, ?_, ?_, ?_⟩
  · rw [List.map_append, hps, List.take_add_one, hti]; rfl
  · rw [rowCells_snoc]; exact ha.row
  · intro p hp
    rcases List.mem_append.1 hp with hp | hp
    · exact (hts p hp).mono (fun g h => ⟨h.1, by omega, hnew g (by omega) h.2.2⟩) fun b o v hb hc => hk4.cell hc hb.2.2
    · simp only [List.mem_singleton] at hp
      subst hp
      have hn : ∀ g, Fresh wr w2 g → (Value.slice va i vc).ownBlock ≠ some g := fun g hg he => by
        have := hlt g he
        have := hg.1
        omega
      exact h2.mono (fun g h => ⟨by have := h.1; omega, by have := h.2; omega, hnew g h.2 (hn g h)⟩) fun b o v hb hc => ha.keeps.cell (hk3.cell hc fun h => h) (hn b hb)
  · intro g hg
    rcases ha.own with h | ⟨h, _⟩
    · rw [h] at hg; exact hown g hg
    · rw [h, World.size_alloc] at hg
      have := Option.some.inj hg
      omega
  · exact hk.trans hk4 fun b hb h => by have := hown b h; omega
theorem copyAt_done {T : TypeId} {d : Nat} {l : List Tm} {w wr : World} {va : Option Addr} {vc : Nat} {ps : List (Tm × Value × Value × Value)} (hl : l.length ≤ 140737488355328)
    (hps : ps.map (·.1) = l) (hrow : Row wr T 6 (.slice va l.length vc) l.length (rowCells ps))
    (hts : ∀ p ∈ ps, TmD wr (fun g => w.heap.size ≤ g ∧ g < wr.heap.size ∧ (Value.slice va l.length vc).ownBlock ≠ some g) d (p.1.val p.2.1 p.2.2.1 p.2.2.2) p.1)
    (hown : ∀ g, (Value.slice va l.length vc).ownBlock = some g → w.heap.size ≤ g) : RowD wr (Fresh w wr) (TmD wr (Fresh w wr) d) (.slice va l.length vc) l := by
  obtain ⟨a, cap, e, h1, h2⟩ := hrow.len
  cases e
  refine ⟨hl, va, vc, rfl, h1, h2, fun i t ht => ?_⟩
  have hi : i < l.length := (List.getElem?_eq_some_iff.1 ht).1
  obtain ⟨g, c2, e, _, _⟩ := hrow.form (by omega)
  cases e
  have hlen : ps.length = l.length := by rw [← hps, List.length_map]
  obtain ⟨p, hp⟩ : ∃ p, ps[i]? = some p := ⟨ps[i], by simp⟩
  have hpt : p.1 = t := by
    have h := ht
    rw [← hps, List.getElem?_map, hp] at h
    simpa using h
  subst hpt
  have hc : ∀ j u, (tcells p)[j]? = some u → wr.cell? ⟨g, 0 + i * 6 + j, none⟩ = some u := fun j u hu => by
    rw [Nat.zero_add]
    exact hrow.cell3 (rowCells_get ps i p hp j u hu)
  have hg : g < wr.heap.size := hrow.lt rfl
  exact ⟨g, 0, p.2.1, p.2.2.1, p.2.2.2, rfl, ⟨hown g rfl, hg⟩, ⟨hc 0 _ rfl, hc 1 _ rfl, hc 2 _ rfl, hc 3 _ rfl, hc 4 _ rfl, hc 5 _ rfl⟩, (hts p (List.mem_of_getElem? hp)).mono (fun g h => ⟨h.1, h.2.1⟩) fun _ _ _ _ h => h⟩
end Go.Tx
namespace Go.Proofs.Ytnmhodejffpblaa
open Go.RowKit Go.Tx
theorem info_terms : (Try.prog.info? 26).map (fun i => (i.zero, i.size, i.bytes)) = some (some (.agg #[.int .i64 0, .int .i64 0, .string ByteArray.empty, .slice none 0 0, .slice none 0 0, .slice none 0 0]), 6, 104) := by kernel_rfl
def CopySpec (d : Nat) : Prop := ∀ (w : World) (S : Nat → Prop) (v : Value) (t : Tm), TmD w S d v t → Slim d t → (∀ x, S x → x < w.heap.size) →
  Calls Try.prog 13 #[v] w fun e w' => ∃ v', e = .returned v' ∧ TmD w' (Fresh w w') d v' t ∧ Keeps (fun _ => False) w w'
set_option maxRecDepth 100000 in
set_option maxHeartbeats 1600000 in
theorem copyAll_step (d : Nat) (IH : CopySpec d) : CopyAllSpec d := by
  intro w S v l h hbig hsl hS
  have HSL := Lib.hid hsl
  have H := Lib.hid h
  have HIH := Lib.hid IH
  have HS := Lib.hid hS
  obtain ⟨h0, a, cap, rfl, hc1, hc2, hel⟩ := h
  unfold maxLen at hc2
  have HEL := Lib.hid hel
  clear hel IH hS hsl
  go_enter Try.func36, Try.ntmps36
  go_wp2
  go_loopw [3, 4] (fun v c wr => CopyAt 26 d l w v c wr) (fun _ c _ => l.length - (intOf c).toNat)
  case atStart => exact ⟨0, [], rfl, Nat.zero_le _, rfl, World.ownsRow_nil _ _ _ _, fun p hp => by simp at hp, fun g hg => by simp [Value.ownBlock] at hg, Keeps.refl _ _⟩
  case round =>
    obtain ⟨i, ps, rfl, hi, hps, hrow, hts, hown, hk⟩ := hrel
    have HK := Lib.hid hk
    have HROW := Lib.hid hrow
    have HPS := Lib.hid hps
    have HTS := Lib.hid hts
    have HOWN := Lib.hid hown
    obtain ⟨va, vc, rfl, hvc, hvm⟩ := hrow.len
    unfold maxLen at hvm
    clear hrow hps hts hown
    by_cases hlt : i < l.length
    · obtain ⟨t, hti⟩ : ∃ t, l[i]? = some t := ⟨l[i], by simp⟩
      obtain ⟨b, o, vi, vr, vb, rfl, hSb, ⟨d0, d1, d2, d3, d4, d5⟩, htm⟩ := HEL.out i t hti
      replace d0 := hk.cell d0 fun h => h
      replace d1 := hk.cell d1 fun h => h
      replace d2 := hk.cell d2 fun h => h
      replace d3 := hk.cell d3 fun h => h
      replace d4 := hk.cell d4 fun h => h
      replace d5 := hk.cell d5 fun h => h
      have HTI := Lib.hid hti
      have HTM := Lib.hid (htm.keeps hk fun _ _ h => h)
      have hks := hk.size
      clear hti htm hk hSb
      go_wp2_with (first | (go_at_call 13; refine Stop.out ?_))
      refine ⟨(HIH.out wr S _ t HTM.out (HSL.out t (List.mem_of_getElem? HTI.out)) fun x hx => Nat.lt_of_lt_of_le (HS.out x hx) hks).mono ?_⟩
      rintro e w2 ⟨v2, rfl, h2, hk2⟩
      obtain ⟨y3, y4, y5, rfl, o3, o4, o5⟩ := h2.form
      have HO : Hid (∀ u ∈ tcells (t, y3, y4, y5), u.oneCell' = true) := Lib.hid (by
        intro u hu
        simp only [tcells, List.mem_cons, List.not_mem_nil, or_false] at hu
        rcases hu with rfl | rfl | rfl | rfl | rfl | rfl <;> first | rfl | assumption)
      have hk2s := hk2.size
      have H2 := Lib.hid h2
      have HK2 := Lib.hid hk2
      have HROW2 := Lib.hid ((HROW.out.keeps hk2 fun _ _ h => h).keeps ((Keeps.refl (fun _ => False) w2).alloc (.cells (tcells (t, y3, y4, y5)).toArray 26)) fun _ _ h => h)
      unfold Tm.val
      clear h2 hk2 d0 d1 d2 d3 d4 d5
      go_wp2_with (first | (at_builtin; go_must (refine wpList_append_row _ rfl _ _ 23 23 rfl 26 (.slice 26) 6 104 (.agg #[.int .i64 0, .int .i64 0, .string ByteArray.empty, .slice none 0 0, .slice none 0 0, .slice none 0 0]) info_terms Try.underlying23 Try.underlying23 (by intro k h; cases h) rfl (.slice va i vc) i (rowCells ps) rfl HROW2.out _ 1 (tcells (t, y3, y4, y5)) rfl rfl (lenOf_slice _ _ _) (firstCells_at _ rfl (cells_newAt rfl)) HO.out (by unfold maxLen; omega) (by omega) ?_); intro v' w4 ha; obtain ⟨va', vc', rfl, _, _⟩ := ha.row.len; have HA := Lib.hid ha; clear ha))
      exact ⟨copyAt_next HPS.out HTI.out HROW.out HTS.out HOWN.out HK.out H2.out HK2.out HA.out, by simp [intOf]; omega⟩
    · go_wp2
      obtain rfl : i = l.length := by omega
      go_ret
      exact ⟨_, rfl, copyAt_done h0 (by rw [HPS.out, List.take_length]) HROW.out HTS.out HOWN.out, HK.out⟩
theorem copy_both (d : Nat) : CopySpec d ∧ CopyAllSpec d := by
  induction d with
  | zero =>
    have h : CopySpec 0 := fun w S v t h _ _ => h.elim
    exact ⟨h, copyAll_step 0 h⟩
  | succ d ih =>
    have h : CopySpec (d + 1) := fun w S v t h hs hS => copy_step d ih.2 w S v t h hs hS
    exact ⟨h, copyAll_step (d + 1) h⟩
end Go.Proofs.Ytnmhodejffpblaa

import Derived.Test.YtgmieehheoknbaaDoorGe
import Derived.Test.YtgmieehheoknbaaDoorGf
section
/-
  Copies of terms: what troupelaw00.Copy does, given what CopyAll does. (Begun.)
-/
namespace Go.Tx
open Go Go.RowKit
theorem RowD.form {w : World} {S : Nat → Prop} {R : Value → Tm → Prop} {v : Value} {l : List Tm} (h : RowD w S R v l) : ∃ a c, v = .slice a l.length c := by
  obtain ⟨_, a, c, rfl, _⟩ := h
  exact ⟨a, c, rfl⟩
theorem BytesD.form {w : World} {S : Nat → Prop} {v : Value} {s : ByteArray} (h : BytesD w S v s) : ∃ a c, v = .slice a s.size c := by
  obtain ⟨_, a, c, rfl, _⟩ := h
  exact ⟨a, c, rfl⟩
/-- no slice of terms in it is longer than memory has room for -/
def Slim : Nat → Tm → Prop
  | 0, _ => True
  | d + 1, t => t.items.length * 104 ≤ 140737488355328 ∧ t.rest.length * 104 ≤ 140737488355328 ∧ (∀ x ∈ t.items, Slim d x) ∧ ∀ x ∈ t.rest, Slim d x
theorem Keeps.put (w : World) (a : Addr) (u : Value) : Keeps (fun g => g = a.block) w (w.setCell a u) := Keeps.setCell (S := fun g => g = a.block) (Keeps.refl _ w) (fun _ => rfl) u
theorem RowD.put {w : World} {E E' : Nat → Prop} {d : Nat} {v : Value} {l : List Tm} (h : RowD w E (TmD w E d) v l) (a : Addr) (u : Value) (he : ∀ g, E g → E' g ∧ g ≠ a.block) : RowD (w.setCell a u) E' (TmD (w.setCell a u) E' d) v l :=
  (h.mono (fun g hg => (he g hg).1) (fun _ _ _ hb hc => (Keeps.put w a u).cell hc (he _ hb).2) fun _ _ h => h.mono (fun g hg => (he g hg).1) fun _ _ _ hb hc => (Keeps.put w a u).cell hc (he _ hb).2)
theorem RowD.later {w w' : World} {E E' : Nat → Prop} {d : Nat} {v : Value} {l : List Tm} (h : RowD w E (TmD w E d) v l) (k : Keeps (fun _ => False) w w') (he : ∀ g, E g → E' g) : RowD w' E' (TmD w' E' d) v l :=
  h.mono he (fun _ _ _ _ hc => k.cell hc fun h => h) fun _ _ h => h.mono he fun _ _ _ _ hc => k.cell hc fun h => h
theorem BytesD.put {w : World} {E E' : Nat → Prop} {v : Value} {s : ByteArray} (h : BytesD w E v s) (a : Addr) (u : Value) (he : ∀ g, E g → E' g ∧ g ≠ a.block) : BytesD (w.setCell a u) E' v s :=
  h.mono (fun g hg => (he g hg).1) fun _ _ _ hb hc => (Keeps.put w a u).cell hc (he _ hb).2
theorem RowD.laterN {w w' : World} {E E' T : Nat → Prop} {d : Nat} {v : Value} {l : List Tm} (h : RowD w E (TmD w E d) v l) (k : Keeps T w w') (he : ∀ g, E g → E' g ∧ ¬ T g) : RowD w' E' (TmD w' E' d) v l :=
  h.mono (fun g hg => (he g hg).1) (fun _ _ _ hb hc => k.cell hc (he _ hb).2) fun _ _ h => h.mono (fun g hg => (he g hg).1) fun _ _ _ hb hc => k.cell hc (he _ hb).2
theorem BytesD.laterN {w w' : World} {E E' T : Nat → Prop} {v : Value} {s : ByteArray} (h : BytesD w E v s) (k : Keeps T w w') (he : ∀ g, E g → E' g ∧ ¬ T g) : BytesD w' E' v s :=
  h.mono (fun g hg => (he g hg).1) fun _ _ _ hb hc => k.cell hc (he _ hb).2
theorem Blk.six {w : World} {b : Nat} {T : TypeId} {z0 z1 z2 z3 z4 z5 : Value} (h : Blk w b T [z0, z1, z2, z3, z4, z5]) (v0 v1 v2 v3 v4 v5 : Value) :
    Blk ((((((w.setCell ⟨b, 0, none⟩ v0).setCell ⟨b, 1, none⟩ v1).setCell ⟨b, 2, none⟩ v2).setCell ⟨b, 3, none⟩ v3).setCell ⟨b, 4, none⟩ v4).setCell ⟨b, 5, none⟩ v5) b T [v0, v1, v2, v3, v4, v5] :=
  (((((h.set 0 v0).set 1 v1).set 2 v2).set 3 v3).set 4 v4).set 5 v5
theorem Keeps.six (w : World) (b : Nat) (v0 v1 v2 v3 v4 v5 : Value) :
    Keeps (fun g => g = b) w ((((((w.setCell ⟨b, 0, none⟩ v0).setCell ⟨b, 1, none⟩ v1).setCell ⟨b, 2, none⟩ v2).setCell ⟨b, 3, none⟩ v3).setCell ⟨b, 4, none⟩ v4).setCell ⟨b, 5, none⟩ v5) :=
  Keeps.setCell (S := fun g => g = b) (Keeps.setCell (S := fun g => g = b) (Keeps.setCell (S := fun g => g = b) (Keeps.setCell (S := fun g => g = b) (Keeps.setCell (S := fun g => g = b) (Keeps.setCell (S := fun g => g = b) (Keeps.refl _ w) (fun _ => rfl) _) (fun _ => rfl) _) (fun _ => rfl) _) (fun _ => rfl) _) (fun _ => rfl) _) (fun _ => rfl) _
end Go.Tx
namespace Go.Proofs.YtgmieehheoknbaaDoor
open Go.RowKit Go.Tx
def CopyAllSpec (d : Nat) : Prop := ∀ (w : World) (S : Nat → Prop) (v : Value) (l : List Tm), RowD w S (TmD w S d) v l → l.length * 104 ≤ 140737488355328 → (∀ x ∈ l, Slim d x) → (∀ x, S x → x < w.heap.size) →
  Calls Tryd.prog 23 #[v] w fun e w' => ∃ v', e = .returned v' ∧ RowD w' (Fresh w w') (TmD w' (Fresh w w') d) v' l ∧ Keeps (fun _ => False) w w'
set_option maxRecDepth 100000 in
set_option maxHeartbeats 1600000 in
theorem copy_step (d : Nat) (IH : CopyAllSpec d) (w : World) (S : Nat → Prop) (v : Value) (t : Tm) (h : TmD w S (d + 1) v t) (hsl : Slim (d + 1) t) (hS : ∀ x, S x → x < w.heap.size) :
    Calls Tryd.prog 32 #[v] w fun e w' => ∃ v', e = .returned v' ∧ TmD w' (Fresh w w') (d + 1) v' t ∧ Keeps (fun _ => False) w w' := by
  obtain ⟨vi, vr, vb, rfl, hf, hn, hi, hr, hb⟩ := h
  have HSL := Lib.hid hsl
  clear hsl
  have HI := Lib.hid hi
  have HR := Lib.hid hr
  have HB := Lib.hid hb
  have HIH := Lib.hid IH
  obtain ⟨ai, ci, rfl⟩ := hi.form
  obtain ⟨ar, cr, rfl⟩ := hr.form
  obtain ⟨ab, cb, rfl⟩ := hb.form
  unfold Tm.val
  clear hi hr hb IH
  go_enter Tryd.func32, Tryd.ntmps32
  go_wp2_with (first | (go_at_call 23; refine Stop.out ?_))
  refine ⟨(HIH.out _ S _ t.items (HI.out.keeps (T := fun _ => False) (by repeat (first | with_reducible exact Keeps.refl _ _ | with_reducible apply Keeps.drew | with_reducible apply Keeps.alloc)) fun _ _ h => h) HSL.out.1 HSL.out.2.2.1 (fun x hx => by have := hS x hx; simp; omega)).mono ?_⟩
  rintro e w2 ⟨v1, rfl, h1, hk1⟩
  have H1 := Lib.hid h1
  obtain ⟨a1, c1, rfl⟩ := h1.form
  have hb1 : Blk w2 w.heap.size 46 [.int .i64 t.kind, .int .i64 t.n, .string t.name, .slice ai t.items.length ci, .slice ar t.rest.length cr, .slice ab t.bytes.size cb] := ((Blk.new w _ _).alloc _).keeps hk1 fun h => h
  have hb2 : Blk w2 (w.heap.size + 1) 46 [.int .i64 0, .int .i64 0, .string ⟨#[]⟩, .slice none 0 0, .slice none 0 0, .slice none 0 0] := by
    refine Blk.keeps (S := fun _ => False) ?_ hk1 fun h => h
    have := Blk.new (w.alloc (.cells #[.int .i64 t.kind, .int .i64 t.n, .string t.name, .slice ai t.items.length ci, .slice ar t.rest.length cr, .slice ab t.bytes.size cb] 46)) [.int .i64 0, .int .i64 0, .string ⟨#[]⟩, .slice none 0 0, .slice none 0 0, .slice none 0 0] 46
    rwa [World.size_alloc] at this
  have hk2 : Keeps (fun _ => False) w w2 := (((Keeps.refl _ w).alloc _).alloc _).trans hk1 fun _ _ h => h
  have hsz : w.heap.size + 1 < w2.heap.size := hb2.lt
  have x3 : w2.cell? ⟨w.heap.size, 3, none⟩ = some (.slice ai t.items.length ci) := hb1.cell (i := 3) rfl
  have x4 : w2.cell? ⟨w.heap.size, 4, none⟩ = some (.slice ar t.rest.length cr) := hb1.cell (i := 4) rfl
  have y3 := hb1.free 3
  have y4 := hb1.free 4
  have HB1 := Lib.hid hb1
  have HB2 := Lib.hid hb2
  have HK2 := Lib.hid hk2
  clear h1 hk1 hb1 hb2 hk2
  go_wp2_with (first | (go_at_call 23; refine Stop.out ?_))
  have hk3 : Keeps (fun _ => False) w (w2.setCell ⟨w.heap.size, 3, none⟩ (.slice a1 t.items.length c1)) := HK2.out.setCell (by simp) _
  have hb3 := HB1.out.set 3 (.slice a1 t.items.length c1)
  have hb23 := HB2.out.set_other (a := ⟨w.heap.size, 3, none⟩) (by simp) (.slice a1 t.items.length c1)
  have HK3 := Lib.hid hk3
  have HB3 := Lib.hid hb3
  have HB23 := Lib.hid hb23
  have H13 := Lib.hid (H1.out.put (E' := fun b => w.heap.size + 2 ≤ b ∧ b < w2.heap.size) ⟨w.heap.size, 3, none⟩ (.slice a1 t.items.length c1) fun g hg => by
    have h1 := hg.1
    rw [World.size_alloc, World.size_alloc] at h1
    exact ⟨⟨h1, hg.2⟩, by show g ≠ w.heap.size; omega⟩)
  clear hk3 hb3 hb23
  refine ⟨(HIH.out _ S _ t.rest (HR.out.keeps HK3.out fun _ _ h => h) HSL.out.2.1 HSL.out.2.2.2 (fun x hx => by have := hS x hx; simp; omega)).mono ?_⟩
  rintro e w4 ⟨v2, rfl, h2, hk4⟩
  obtain ⟨a2, c2, rfl⟩ := h2.form
  have hs4 := hk4.size
  rw [World.size_setCell] at hs4
  have H2 := Lib.hid h2
  have HK4 := Lib.hid hk4
  have hb4 := HB3.out.keeps hk4 fun h => h
  have x5 : w4.cell? ⟨w.heap.size, 5, none⟩ = some (.slice ab t.bytes.size cb) := hb4.cell (i := 5) rfl
  have x4' : w4.cell? ⟨w.heap.size, 4, none⟩ = some (.slice ar t.rest.length cr) := hb4.cell (i := 4) rfl
  have y4' := hb4.free 4
  have y5 := hb4.free 5
  have hlt4 : w.heap.size < w4.heap.size := hb4.lt
  have HB4 := Lib.hid hb4
  clear h2 hk4 hb4 x3 x4 y3 y4 hsz
  go_wp2_with (first | (go_at_call 12; refine Stop.out ?_))
  have hk4 : Keeps (fun _ => False) w w4 := HK3.out.trans HK4.out fun _ _ h => h
  have hk5 : Keeps (fun _ => False) w (w4.setCell ⟨w.heap.size, 4, none⟩ (.slice a2 t.rest.length c2)) := hk4.setCell (by simp) _
  have HK5 := Lib.hid hk5
  have HB5 := Lib.hid (HB4.out.set 4 (.slice a2 t.rest.length c2))
  have HB25 := Lib.hid ((HB23.out.keeps HK4.out fun h => h).set_other (a := ⟨w.heap.size, 4, none⟩) (by simp) (.slice a2 t.rest.length c2))
  have H15 := Lib.hid ((H13.out.later HK4.out fun _ h => h).put (E' := fun b => w.heap.size + 2 ≤ b ∧ b < w4.heap.size) ⟨w.heap.size, 4, none⟩ (.slice a2 t.rest.length c2) fun g hg => by
    have h1 := hg.1
    have h2 := hg.2
    exact ⟨⟨h1, by omega⟩, by show g ≠ w.heap.size; omega⟩)
  have HS2 := HB2.out.lt
  have H25 := Lib.hid (H2.out.put (E' := fun b => w.heap.size + 2 ≤ b ∧ b < w4.heap.size) ⟨w.heap.size, 4, none⟩ (.slice a2 t.rest.length c2) fun g hg => by
    have h1 := hg.1
    have h2 := hg.2
    rw [World.size_setCell] at h1
    exact ⟨⟨by omega, h2⟩, by show g ≠ w.heap.size; omega⟩)
  clear hk4 hk5 x4' y4' x5 y5
  refine ⟨(copyBytes_any (HB.out.keeps HK5.out fun _ _ h => h)).mono ?_⟩
  rintro e w6 ⟨v3, rfl, h3, hk6⟩
  obtain ⟨a3, c3, rfl⟩ := h3.form
  have hs6 := hk6.size
  rw [World.size_setCell] at hs6
  have H3 := Lib.hid h3
  have HK6 := Lib.hid hk6
  have hb6 := HB5.out.keeps hk6 fun h => h
  have hb26 := HB25.out.keeps hk6 fun h => h
  have x0 : w6.cell? ⟨w.heap.size, 0, none⟩ = some (.int .i64 t.kind) := hb6.cell (i := 0) rfl
  have x1 : w6.cell? ⟨w.heap.size, 1, none⟩ = some (.int .i64 t.n) := hb6.cell (i := 1) rfl
  have x2 : w6.cell? ⟨w.heap.size, 2, none⟩ = some (.string t.name) := hb6.cell (i := 2) rfl
  have x3 : w6.cell? ⟨w.heap.size, 3, none⟩ = some (.slice a1 t.items.length c1) := hb6.cell (i := 3) rfl
  have x4 : w6.cell? ⟨w.heap.size, 4, none⟩ = some (.slice a2 t.rest.length c2) := hb6.cell (i := 4) rfl
  have x5 : w6.cell? ⟨w.heap.size, 5, none⟩ = some (.slice ab t.bytes.size cb) := hb6.cell (i := 5) rfl
  have y5 := hb6.free 5
  have hlt6 : w.heap.size + 1 < w6.heap.size := hb26.lt
  have z0 : w6.cell? ⟨w.heap.size + 1, 0, none⟩ = some (.int .i64 0) := hb26.cell (i := 0) rfl
  have z1 : w6.cell? ⟨w.heap.size + 1, 1, none⟩ = some (.int .i64 0) := hb26.cell (i := 1) rfl
  have z2 : w6.cell? ⟨w.heap.size + 1, 2, none⟩ = some (.string ⟨#[]⟩) := hb26.cell (i := 2) rfl
  have z3 : w6.cell? ⟨w.heap.size + 1, 3, none⟩ = some (.slice none 0 0) := hb26.cell (i := 3) rfl
  have z4 : w6.cell? ⟨w.heap.size + 1, 4, none⟩ = some (.slice none 0 0) := hb26.cell (i := 4) rfl
  have z5 : w6.cell? ⟨w.heap.size + 1, 5, none⟩ = some (.slice none 0 0) := hb26.cell (i := 5) rfl
  have q0 := hb26.free 0
  have q1 := hb26.free 1
  have q2 := hb26.free 2
  have q3 := hb26.free 3
  have q4 := hb26.free 4
  have q5 := hb26.free 5
  have HB6 := Lib.hid hb6
  have HB26 := Lib.hid hb26
  clear h3 hk6 hb6 hb26 hlt4
  go_wp2
  have h7 : Keeps (fun g => g = w.heap.size) w6 (w6.setCell ⟨w.heap.size, 5, none⟩ (.slice a3 t.bytes.size c3)) := Keeps.put w6 ⟨w.heap.size, 5, none⟩ _
  have hb7 := HB26.out.set_other (a := ⟨w.heap.size, 5, none⟩) (by simp) (.slice a3 t.bytes.size c3)
  have hb8 := Blk.six hb7 (.int .i64 t.kind) (.int .i64 t.n) (.string t.name) (.slice a1 t.items.length c1) (.slice a2 t.rest.length c2) (.slice a3 t.bytes.size c3)
  have h8 := Keeps.six (w6.setCell ⟨w.heap.size, 5, none⟩ (.slice a3 t.bytes.size c3)) (w.heap.size + 1) (.int .i64 t.kind) (.int .i64 t.n) (.string t.name) (.slice a1 t.items.length c1) (.slice a2 t.rest.length c2) (.slice a3 t.bytes.size c3)
  have h9 : Keeps (fun g => g = w.heap.size ∨ g = w.heap.size + 1) w6 _ := (h7.mono fun _ _ h => Or.inl h).trans h8 fun _ _ h => Or.inr h
  have hz9 := h9.size
  refine bodyPost_ret (results_cell1 rfl _ ⟨w.heap.size + 1, 0, none⟩ rfl _ (load_at hb8)) rfl ⟨_, rfl, ⟨_, _, _, rfl, hf, hn, ?_, ?_, ?_⟩, ((HK5.out.trans HK6.out fun _ _ h => h).trans h9 fun b hb h => by omega)⟩
  · refine RowD.laterN (H15.out.later HK6.out fun _ h => h) h9 fun g hg => ⟨⟨by have := hg.1; omega, by have := hg.2; omega⟩, by have := hg.1; omega⟩
  · refine RowD.laterN (H25.out.later HK6.out fun _ h => h) h9 fun g hg => ⟨⟨by have := hg.1; omega, by have := hg.2; omega⟩, by have := hg.1; omega⟩
  · refine BytesD.laterN H3.out h9 fun g hg => ?_
    have h1 := hg.1
    have h2 := hg.2
    rw [World.size_setCell] at h1
    exact ⟨⟨by omega, by omega⟩, by omega⟩
end Go.Proofs.YtgmieehheoknbaaDoor
end
section
/-
  Copies of slices of terms: what troupelaw00.CopyAll and Copy do.
-/
namespace Go.Tx
open Go Go.RowKit
/-- the cells of a term's row, given the values of its slices -/
def tcells (p : Tm × Value × Value × Value) : List Value := [.int .i64 p.1.kind, .int .i64 p.1.n, .string p.1.name, p.2.1, p.2.2.1, p.2.2.2]
def rowCells (l : List (Tm × Value × Value × Value)) : List Value := l.flatMap tcells
theorem rowCells_length (l : List (Tm × Value × Value × Value)) : (rowCells l).length = l.length * 6 := by
  unfold rowCells
  induction l with
  | nil => rfl
  | cons t l ih => rw [List.flatMap_cons, List.length_append, ih]; simp [tcells]; omega
theorem rowCells_get : ∀ (l : List (Tm × Value × Value × Value)) (i : Nat) (p : Tm × Value × Value × Value), l[i]? = some p → ∀ j u, (tcells p)[j]? = some u → (rowCells l)[i * 6 + j]? = some u := by
  intro l
  induction l with
  | nil => intro i t h; simp at h
  | cons q l ih =>
    intro i p h j u hu
    have e : rowCells (q :: l) = tcells q ++ rowCells l := by simp [rowCells]
    have hq : (tcells q).length = 6 := rfl
    rw [e]
    cases i with
    | zero =>
      simp at h
      subst h
      have hj : j < 6 := by have := (List.getElem?_eq_some_iff.1 hu).1; simpa [tcells] using this
      rw [List.getElem?_append_left (by omega)]
      simpa using hu
    | succ i =>
      simp at h
      rw [List.getElem?_append_right (by omega), hq, show (i + 1) * 6 + j - 6 = i * 6 + j by omega]
      exact ih i p h j u hu
theorem rowCells_snoc (l : List (Tm × Value × Value × Value)) (p : Tm × Value × Value × Value) : rowCells (l ++ [p]) = rowCells l ++ tcells p := by simp [rowCells]
/-- so many terms copied -/
def CopyAt (T : TypeId) (d : Nat) (l : List Tm) (w : World) (v c : Value) (wr : World) : Prop :=
  ∃ (i : Nat) (ps : List (Tm × Value × Value × Value)), c = .int .i64 i ∧ i ≤ l.length ∧ ps.map (·.1) = l.take i ∧ Row wr T 6 v i (rowCells ps) ∧
    (∀ p ∈ ps, TmD wr (fun g => w.heap.size ≤ g ∧ g < wr.heap.size ∧ v.ownBlock ≠ some g) d (p.1.val p.2.1 p.2.2.1 p.2.2.2) p.1) ∧ (∀ g, v.ownBlock = some g → w.heap.size ≤ g) ∧ Keeps (fun _ => False) w wr
theorem TmD.form {w : World} {S : Nat → Prop} {d : Nat} {v : Value} {t : Tm} (h : TmD w S d v t) : ∃ y3 y4 y5, v = t.val y3 y4 y5 ∧ y3.oneCell' = true ∧ y4.oneCell' = true ∧ y5.oneCell' = true := by
  cases d with
  | zero => exact h.elim
  | succ d =>
    obtain ⟨y3, y4, y5, e, _, _, h3, h4, h5⟩ := h
    obtain ⟨_, _, rfl⟩ := h3.form
    obtain ⟨_, _, rfl⟩ := h4.form
    obtain ⟨_, _, rfl⟩ := h5.form
    exact ⟨_, _, _, e, rfl, rfl, rfl⟩
theorem copyAt_next {T : TypeId} {d : Nat} {l : List Tm} {w wr w2 w4 : World} {va va' : Option Addr} {vc vc' i : Nat} {ps : List (Tm × Value × Value × Value)} {t : Tm} {y3 y4 y5 : Value} {o : Obj}
    (hps : ps.map (·.1) = l.take i) (hti : l[i]? = some t) (hrow : Row wr T 6 (.slice va i vc) i (rowCells ps))
    (hts : ∀ p ∈ ps, TmD wr (fun g => w.heap.size ≤ g ∧ g < wr.heap.size ∧ (Value.slice va i vc).ownBlock ≠ some g) d (p.1.val p.2.1 p.2.2.1 p.2.2.2) p.1)
    (hown : ∀ g, (Value.slice va i vc).ownBlock = some g → w.heap.size ≤ g) (hk : Keeps (fun _ => False) w wr)
    (h2 : TmD w2 (Fresh wr w2) d (t.val y3 y4 y5) t) (hk2 : Keeps (fun _ => False) wr w2)
    (ha : Appended (w2.alloc o) w4 T 6 (.slice va i vc) (.slice va' (i + 1) vc') (i + 1) (rowCells ps ++ tcells (t, y3, y4, y5))) :
    CopyAt T d l w (.slice va' (i + 1) vc') (.int .i64 ((i : Int) + 1)) w4 := by
  have hi : i < l.length := (List.getElem?_eq_some_iff.1 hti).1
  have hk3 : Keeps (fun _ => False) w2 (w2.alloc o) := (Keeps.refl _ _).alloc _
  have hk4 : Keeps (Own (.slice va i vc)) wr w4 := ((hk2.trans hk3 fun _ _ h => h).mono fun _ _ h => h.elim).trans ha.keeps fun _ _ h => h
  have z1 := hk.size
  have z2 := hk2.size
  have z4 := ha.keeps.size
  rw [World.size_alloc] at z4
  have hlt : ∀ g, (Value.slice va i vc).ownBlock = some g → g < wr.heap.size := fun g hg => hrow.lt hg
  have hnew : ∀ g, g < w2.heap.size → (Value.slice va i vc).ownBlock ≠ some g → (Value.slice va' (i + 1) vc').ownBlock ≠ some g := fun g hg hn he => by
    rcases ha.own with h | ⟨h, _⟩
    · rw [h] at he; exact hn he
    · rw [h, World.size_alloc] at he
      have := Option.some.inj he
      omega
  refine ⟨i + 1, ps ++ [(t, y3, y4, y5)], by go_num, by omega, ?_, ?_, ?_, ?_, ?_⟩
  · rw [List.map_append, hps, List.take_add_one, hti]; rfl
  · rw [rowCells_snoc]; exact ha.row
  · intro p hp
    rcases List.mem_append.1 hp with hp | hp
    · exact (hts p hp).mono (fun g h => ⟨h.1, by omega, hnew g (by omega) h.2.2⟩) fun b o v hb hc => hk4.cell hc hb.2.2
    · simp only [List.mem_singleton] at hp
      subst hp
      have hn : ∀ g, Fresh wr w2 g → (Value.slice va i vc).ownBlock ≠ some g := fun g hg he => by
        have := hlt g he
        have := hg.1
        omega
      exact h2.mono (fun g h => ⟨by have := h.1; omega, by have := h.2; omega, hnew g h.2 (hn g h)⟩) fun b o v hb hc => ha.keeps.cell (hk3.cell hc fun h => h) (hn b hb)
  · intro g hg
    rcases ha.own with h | ⟨h, _⟩
    · rw [h] at hg; exact hown g hg
    · rw [h, World.size_alloc] at hg
      have := Option.some.inj hg
      omega
  · exact hk.trans hk4 fun b hb h => by have := hown b h; omega
theorem copyAt_done {T : TypeId} {d : Nat} {l : List Tm} {w wr : World} {va : Option Addr} {vc : Nat} {ps : List (Tm × Value × Value × Value)} (hl : l.length ≤ 140737488355328)
    (hps : ps.map (·.1) = l) (hrow : Row wr T 6 (.slice va l.length vc) l.length (rowCells ps))
    (hts : ∀ p ∈ ps, TmD wr (fun g => w.heap.size ≤ g ∧ g < wr.heap.size ∧ (Value.slice va l.length vc).ownBlock ≠ some g) d (p.1.val p.2.1 p.2.2.1 p.2.2.2) p.1)
    (hown : ∀ g, (Value.slice va l.length vc).ownBlock = some g → w.heap.size ≤ g) : RowD wr (Fresh w wr) (TmD wr (Fresh w wr) d) (.slice va l.length vc) l := by
  obtain ⟨a, cap, e, h1, h2⟩ := hrow.len
  cases e
  refine ⟨hl, va, vc, rfl, h1, h2, fun i t ht => ?_⟩
  have hi : i < l.length := (List.getElem?_eq_some_iff.1 ht).1
  obtain ⟨g, c2, e, _, _⟩ := hrow.form (by omega)
  cases e
  have hlen : ps.length = l.length := by rw [← hps, List.length_map]
  obtain ⟨p, hp⟩ : ∃ p, ps[i]? = some p := ⟨ps[i], by simp⟩
  have hpt : p.1 = t := by
    have h := ht
    rw [← hps, List.getElem?_map, hp] at h
    simpa using h
  subst hpt
  have hc : ∀ j u, (tcells p)[j]? = some u → wr.cell? ⟨g, 0 + i * 6 + j, none⟩ = some u := fun j u hu => by
    rw [Nat.zero_add]
    exact hrow.cell3 (rowCells_get ps i p hp j u hu)
  have hg : g < wr.heap.size := hrow.lt rfl
  exact ⟨g, 0, p.2.1, p.2.2.1, p.2.2.2, rfl, ⟨hown g rfl, hg⟩, ⟨hc 0 _ rfl, hc 1 _ rfl, hc 2 _ rfl, hc 3 _ rfl, hc 4 _ rfl, hc 5 _ rfl⟩, (hts p (List.mem_of_getElem? hp)).mono (fun g h => ⟨h.1, h.2.1⟩) fun _ _ _ _ h => h⟩
end Go.Tx
namespace Go.Proofs.YtgmieehheoknbaaDoor
open Go.RowKit Go.Tx
theorem info_terms : (Tryd.prog.info? 46).map (fun i => (i.zero, i.size, i.bytes)) = some (some (.agg #[.int .i64 0, .int .i64 0, .string ByteArray.empty, .slice none 0 0, .slice none 0 0, .slice none 0 0]), 6, 104) := by kernel_rfl
def CopySpec (d : Nat) : Prop := ∀ (w : World) (S : Nat → Prop) (v : Value) (t : Tm), TmD w S d v t → Slim d t → (∀ x, S x → x < w.heap.size) →
  Calls Tryd.prog 32 #[v] w fun e w' => ∃ v', e = .returned v' ∧ TmD w' (Fresh w w') d v' t ∧ Keeps (fun _ => False) w w'
set_option maxRecDepth 100000 in
set_option maxHeartbeats 1600000 in
theorem copyAll_step (d : Nat) (IH : CopySpec d) : CopyAllSpec d := by
  intro w S v l h hbig hsl hS
  have HSL := Lib.hid hsl
  have H := Lib.hid h
  have HIH := Lib.hid IH
  have HS := Lib.hid hS
  obtain ⟨h0, a, cap, rfl, hc1, hc2, hel⟩ := h
  unfold maxLen at hc2
  have HEL := Lib.hid hel
  clear hel IH hS hsl
  go_enter Tryd.func23, Tryd.ntmps23
  go_wp2
  go_loopw [3, 4] (fun v c wr => CopyAt 46 d l w v c wr) (fun _ c _ => l.length - (intOf c).toNat)
  case atStart => exact ⟨0, [], rfl, Nat.zero_le _, rfl, World.ownsRow_nil _ _ _ _, fun p hp => by simp at hp, fun g hg => by simp [Value.ownBlock] at hg, Keeps.refl _ _⟩
  case round =>
    obtain ⟨i, ps, rfl, hi, hps, hrow, hts, hown, hk⟩ := hrel
    have HK := Lib.hid hk
    have HROW := Lib.hid hrow
    have HPS := Lib.hid hps
    have HTS := Lib.hid hts
    have HOWN := Lib.hid hown
    obtain ⟨va, vc, rfl, hvc, hvm⟩ := hrow.len
    unfold maxLen at hvm
    clear hrow hps hts hown
    by_cases hlt : i < l.length
    · obtain ⟨t, hti⟩ : ∃ t, l[i]? = some t := ⟨l[i], by simp⟩
      obtain ⟨b, o, vi, vr, vb, rfl, hSb, ⟨d0, d1, d2, d3, d4, d5⟩, htm⟩ := HEL.out i t hti
      replace d0 := hk.cell d0 fun h => h
      replace d1 := hk.cell d1 fun h => h
      replace d2 := hk.cell d2 fun h => h
      replace d3 := hk.cell d3 fun h => h
      replace d4 := hk.cell d4 fun h => h
      replace d5 := hk.cell d5 fun h => h
      have HTI := Lib.hid hti
      have HTM := Lib.hid (htm.keeps hk fun _ _ h => h)
      have hks := hk.size
      clear hti htm hk hSb
      go_wp2_with (first | (go_at_call 32; refine Stop.out ?_))
      refine ⟨(HIH.out wr S _ t HTM.out (HSL.out t (List.mem_of_getElem? HTI.out)) fun x hx => Nat.lt_of_lt_of_le (HS.out x hx) hks).mono ?_⟩
      rintro e w2 ⟨v2, rfl, h2, hk2⟩
      obtain ⟨y3, y4, y5, rfl, o3, o4, o5⟩ := h2.form
      have HO : Hid (∀ u ∈ tcells (t, y3, y4, y5), u.oneCell' = true) := Lib.hid (by
        intro u hu
        simp only [tcells, List.mem_cons, List.not_mem_nil, or_false] at hu
        rcases hu with rfl | rfl | rfl | rfl | rfl | rfl <;> first | rfl | assumption)
      have hk2s := hk2.size
      have H2 := Lib.hid h2
      have HK2 := Lib.hid hk2
      have HROW2 := Lib.hid ((HROW.out.keeps hk2 fun _ _ h => h).keeps ((Keeps.refl (fun _ => False) w2).alloc (.cells (tcells (t, y3, y4, y5)).toArray 46)) fun _ _ h => h)
      unfold Tm.val
      clear h2 hk2 d0 d1 d2 d3 d4 d5
      go_wp2_with (first | (at_builtin; go_must (refine wpList_append_row _ rfl _ _ 22 22 rfl 46 (.slice 46) 6 104 (.agg #[.int .i64 0, .int .i64 0, .string ByteArray.empty, .slice none 0 0, .slice none 0 0, .slice none 0 0]) info_terms Tryd.underlying22 Tryd.underlying22 (by intro k h; cases h) rfl (.slice va i vc) i (rowCells ps) rfl HROW2.out _ 1 (tcells (t, y3, y4, y5)) rfl rfl (lenOf_slice _ _ _) (firstCells_at _ rfl (cells_newAt rfl)) HO.out (by unfold maxLen; omega) (by omega) ?_); intro v' w4 ha; obtain ⟨va', vc', rfl, _, _⟩ := ha.row.len; have HA := Lib.hid ha; clear ha))
      exact ⟨copyAt_next HPS.out HTI.out HROW.out HTS.out HOWN.out HK.out H2.out HK2.out HA.out, by simp [intOf]; omega⟩
    · go_wp2
      obtain rfl : i = l.length := by omega
      go_ret
      exact ⟨_, rfl, copyAt_done h0 (by rw [HPS.out, List.take_length]) HROW.out HTS.out HOWN.out, HK.out⟩
theorem copy_both (d : Nat) : CopySpec d ∧ CopyAllSpec d := by
  induction d with
  | zero =>
    have h : CopySpec 0 := fun w S v t h _ _ => h.elim
    exact ⟨h, copyAll_step 0 h⟩
  | succ d ih =>
    have h : CopySpec (d + 1) := fun w S v t h hs hS => copy_step d ih.2 w S v t h hs hS
    exact ⟨h, copyAll_step (d + 1) h⟩
end Go.Proofs.YtgmieehheoknbaaDoor
end
section
/-
  A term's bytes, as plain data.
-/
namespace Go.Tx
open Go Go.RowKit
mutual
/-- a term's bytes -/
def encT : Tm → List UInt8
  | .mk k n s is rs bs => UInt8.ofNat k.toNat :: (if k = 1 ∨ k = 3 ∨ k = 4 then encS n else if k = 2 then encB s else if k = 8 then encB bs else if k = 6 then []
      else encN is.length ++ encTs is ++ (if k = 7 then encN rs.length ++ encTs rs else []))
def encTs : List Tm → List UInt8
  | [] => []
  | t :: l => encT t ++ encTs l
end
theorem encTs_append (l r : List Tm) : encTs (l ++ r) = encTs l ++ encTs r := by
  induction l with
  | nil => simp [encTs]
  | cons t l ih => simp [encTs, ih]
theorem encTs_take {l : List Tm} {i : Nat} {t : Tm} (h : l[i]? = some t) : encTs (l.take (i + 1)) = encTs (l.take i) ++ encT t := by
  rw [List.take_add_one, h, encTs_append]
  simp [encTs]
theorem encTs_take_le (l : List Tm) (i : Nat) : (encTs (l.take i)).length ≤ (encTs l).length := by
  have h : encTs l = encTs (l.take i) ++ encTs (l.drop i) := by rw [← encTs_append, List.take_append_drop]
  rw [h, List.length_append]
  omega
mutual
/-- each part has just the fields that its kind has -/
def okT : Tm → Prop
  | .mk k n s is rs bs => (Tm.mk k n s is rs bs).okB = true ∧ okTs is ∧ okTs rs
def okTs : List Tm → Prop
  | [] => True
  | t :: l => okT t ∧ okTs l
end
theorem okTs_mem : ∀ {l : List Tm}, okTs l → ∀ x ∈ l, okT x
  | _ :: _, h, x, hx => by
    rcases List.mem_cons.1 hx with rfl | hx
    · exact h.1
    · exact okTs_mem h.2 x hx
mutual
theorem chk_okT : ∀ (t : Tm) (dep : Int) (st st' : Int × Int), chk t dep st = .ok st' → okT t
  | .mk k n s is rs bs, dep, st, st', h => by
    unfold chk at h
    dsimp only at h
    split at h
    · cases h
    · split at h
      · cases h
      · next h1 =>
        cases hc : chks is (dep + 1) (st.1 + 1, st.2 + (Tm.mk k n s is rs bs).binSize) with
        | error y => rw [hc] at h; cases h
        | ok st2 =>
          rw [hc] at h
          exact ⟨by simpa using h1, chks_okT is _ _ _ hc, chks_okT rs _ _ _ h⟩
theorem chks_okT : ∀ (l : List Tm) (dep : Int) (st st' : Int × Int), chks l dep st = .ok st' → okTs l
  | [], _, _, _, _ => True.intro
  | t :: l, dep, st, st', h => by
    unfold chks at h
    cases hc : chk t dep st with
    | error y => rw [hc] at h; cases h
    | ok st2 =>
      rw [hc] at h
      exact ⟨chk_okT t _ _ _ hc, chks_okT l _ _ _ h⟩
end
theorem right_okT {t : Tm} (h : rightTm t = none) : okT t := by
  unfold rightTm at h
  cases hc : chk t 1 (0, 0) with
  | error x => rw [hc] at h; cases h
  | ok st => exact chk_okT t _ _ _ hc
theorem encT_five (n : Int) (s bs : ByteArray) (is rs : List Tm) : encT (.mk 5 n s is rs bs) = UInt8.ofNat 5 :: (encN is.length ++ encTs is) := by
  rw [encT]
  simp
theorem encT_seven (n : Int) (s bs : ByteArray) (is rs : List Tm) : encT (.mk 7 n s is rs bs) = UInt8.ofNat 7 :: (encN is.length ++ encTs is ++ (encN rs.length ++ encTs rs)) := by
  rw [encT]
  simp
theorem encTs_next {l : List Tm} {i : Nat} {t : Tm} (h : l[i]? = some t) : (encTs (l.take i)).length + (encT t).length ≤ (encTs l).length := by
  have := encTs_take_le l (i + 1)
  rw [encTs_take h, List.length_append] at this
  exact this
theorem okT_rest {n : Int} {s bs : ByteArray} {is rs : List Tm} (h : okT (.mk 7 n s is rs bs)) : rs.length ≤ 1 := by
  have h := h.1
  unfold Tm.okB okF at h
  simp [Tm.kind, Tm.rest] at h
  omega
theorem Grown.notS {w w' : World} {v v' : Value} {S : Nat → Prop} (h : Grown w w' v v') (hS : ∀ x, S x → x < w.heap.size) (hv : ∀ g, v.ownBlock = some g → ¬ S g) : ∀ g, v'.ownBlock = some g → ¬ S g := fun g hg hs => by
  rcases h.own with e | e
  · exact hv g (e ▸ hg) hs
  · have := e g hg
    have := hS g hs
    omega
theorem byte_len {n : Nat} (h : n ≤ 1) : [Value.int .u8 (n : Int)] = byteV (encN n) := byte_small (by omega)
theorem TmD.slices {w : World} {S : Nat → Prop} {d : Nat} {t : Tm} {vi vr vb : Value} (h : TmD w S d (t.val vi vr vb) t) : ∃ a3 k3 a4 k4 a5 k5, vi = .slice a3 t.items.length k3 ∧ vr = .slice a4 t.rest.length k4 ∧ vb = .slice a5 t.bytes.size k5 := by
  cases d with
  | zero => exact h.elim
  | succ d =>
    obtain ⟨y3, y4, y5, e, _, _, h3, h4, h5⟩ := h
    have e' : vi = y3 ∧ vr = y4 ∧ vb = y5 := by simpa [Tm.val] using e
    obtain ⟨rfl, rfl, rfl⟩ := e'
    obtain ⟨_, _, rfl⟩ := h3.form
    obtain ⟨_, _, rfl⟩ := h4.form
    obtain ⟨_, _, rfl⟩ := h5.form
    exact ⟨_, _, _, _, _, _, rfl, rfl, rfl⟩
theorem okB_kinds {t : Tm} (h : t.okB = true) : t.kind = 1 ∨ t.kind = 2 ∨ t.kind = 3 ∨ t.kind = 4 ∨ t.kind = 5 ∨ t.kind = 6 ∨ t.kind = 7 ∨ t.kind = 8 := by
  unfold Tm.okB okF at h
  split at h
  · omega
  split at h
  · omega
  split at h
  · omega
  split at h
  · omega
  split at h
  · omega
  split at h
  · omega
  split at h
  · omega
  split at h
  · omega
  · cases h
theorem wrap_u8k (K : Int) (h0 : 0 ≤ K) (h1 : K < 256) : IntKind.u8.wrap K = K := by rw [wrap_u8]; omega
end Go.Tx
end
section
/-
  Modules: as plain data; where they lie in memory; whether a function may be written: what the Go code does (code.right).
-/
namespace Go.Tx
open Go Go.RowKit
/-- a function: its name, arguments, slots, instructions -/
structure Fnc where
  name : ByteArray
  args : Int
  slots : Int
  code : List (Int × Int × Int × Int)
/-- a module -/
structure Md where
  name : ByteArray
  lits : List Tm
  funcs : List Fnc
def insOkI (p : Int × Int × Int × Int) : Prop := (-9223372036854775808 ≤ p.1 ∧ p.1 ≤ 9223372036854775807) ∧ (-9223372036854775808 ≤ p.2.1 ∧ p.2.1 ≤ 9223372036854775807) ∧ (-9223372036854775808 ≤ p.2.2.1 ∧ p.2.2.1 ≤ 9223372036854775807) ∧ (-9223372036854775808 ≤ p.2.2.2 ∧ p.2.2.2 ≤ 9223372036854775807)
/-- a slice of instructions -/
def InsD (w : World) (S : Nat → Prop) (v : Value) (l : List (Int × Int × Int × Int)) : Prop :=
  l.length ≤ 1099511627776 ∧ ∃ a cap, v = .slice a l.length cap ∧ l.length ≤ cap ∧ cap ≤ maxLen ∧ ∀ i p, l[i]? = some p → insOkI p ∧ ∃ b o, a = some ⟨b, o, none⟩ ∧ S b ∧
    (w.cell? ⟨b, o + i * 4, none⟩ = some (.int .i64 p.1) ∧ w.cell? ⟨b, o + i * 4 + 1, none⟩ = some (.int .i64 p.2.1) ∧ w.cell? ⟨b, o + i * 4 + 2, none⟩ = some (.int .i64 p.2.2.1) ∧ w.cell? ⟨b, o + i * 4 + 3, none⟩ = some (.int .i64 p.2.2.2))
def Fnc.val (f : Fnc) (vc : Value) : Value := .agg #[.string f.name, .int .i64 f.args, .int .i64 f.slots, vc]
structure Fnc.fine (f : Fnc) : Prop where
  a1 : -9223372036854775808 ≤ f.args
  a2 : f.args ≤ 9223372036854775807
  s1 : -9223372036854775808 ≤ f.slots
  s2 : f.slots ≤ 9223372036854775807
  n1 : f.name.size ≤ 1099511627776
/-- a slice of functions -/
def FnsD (w : World) (S : Nat → Prop) (v : Value) (l : List Fnc) : Prop :=
  l.length ≤ 1099511627776 ∧ ∃ a cap, v = .slice a l.length cap ∧ l.length ≤ cap ∧ cap ≤ maxLen ∧ ∀ i f, l[i]? = some f → f.fine ∧ ∃ b o vc, a = some ⟨b, o, none⟩ ∧ S b ∧
    (w.cell? ⟨b, o + i * 4, none⟩ = some (.string f.name) ∧ w.cell? ⟨b, o + i * 4 + 1, none⟩ = some (.int .i64 f.args) ∧ w.cell? ⟨b, o + i * 4 + 2, none⟩ = some (.int .i64 f.slots) ∧ w.cell? ⟨b, o + i * 4 + 3, none⟩ = some vc) ∧ InsD w S vc f.code
def MdD (w : World) (S : Nat → Prop) (d : Nat) (v : Value) (m : Md) : Prop :=
  ∃ vl vf, v = .agg #[.string m.name, vl, vf] ∧ m.name.size ≤ 1099511627776 ∧ RowD w S (TmD w S d) vl m.lits ∧ FnsD w S vf m.funcs
theorem InsD.keeps {w w' : World} {S T : Nat → Prop} {v : Value} {l : List (Int × Int × Int × Int)} (h : InsD w S v l) (hk : Keeps T w w') (hs : ∀ g, S g → ¬ T g) : InsD w' S v l := by
  obtain ⟨h0, a, cap, h1, h2, h3, h4⟩ := h
  refine ⟨h0, a, cap, h1, h2, h3, fun i p hp => ?_⟩
  obtain ⟨h5, b, o, e, hb, c0, c1, c2, c3⟩ := h4 i p hp
  exact ⟨h5, b, o, e, hb, hk.cell c0 (hs _ hb), hk.cell c1 (hs _ hb), hk.cell c2 (hs _ hb), hk.cell c3 (hs _ hb)⟩
theorem FnsD.keeps {w w' : World} {S T : Nat → Prop} {v : Value} {l : List Fnc} (h : FnsD w S v l) (hk : Keeps T w w') (hs : ∀ g, S g → ¬ T g) : FnsD w' S v l := by
  obtain ⟨h0, a, cap, h1, h2, h3, h4⟩ := h
  refine ⟨h0, a, cap, h1, h2, h3, fun i f hf => ?_⟩
  obtain ⟨h5, b, o, vc, e, hb, ⟨c0, c1, c2, c3⟩, hi⟩ := h4 i f hf
  exact ⟨h5, b, o, vc, e, hb, ⟨hk.cell c0 (hs _ hb), hk.cell c1 (hs _ hb), hk.cell c2 (hs _ hb), hk.cell c3 (hs _ hb)⟩, hi.keeps hk hs⟩
theorem InsD.form {w : World} {S : Nat → Prop} {v : Value} {l : List (Int × Int × Int × Int)} (h : InsD w S v l) : ∃ a c, v = .slice a l.length c := by
  obtain ⟨_, a, c, rfl, _⟩ := h
  exact ⟨a, c, rfl⟩
theorem FnsD.form {w : World} {S : Nat → Prop} {v : Value} {l : List Fnc} (h : FnsD w S v l) : ∃ a c, v = .slice a l.length c := by
  obtain ⟨_, a, c, rfl, _⟩ := h
  exact ⟨a, c, rfl⟩
/-- an operand that may be -/
def half (n : Int) : Bool := decide (-549755813888 ≤ n ∧ n ≤ 549755813888)
def insOk (p : Int × Int × Int × Int) : Bool := decide (0 ≤ p.1 ∧ p.1 ≤ 255) && (half p.2.1 && half p.2.2.1 && half p.2.2.2)
/-- may a function be written? -/
def headOk (f : Fnc) : Bool := decide (0 ≤ f.args ∧ f.args ≤ 1099511627776 ∧ 0 ≤ f.slots ∧ f.slots ≤ 1099511627776)
def fnOk (f : Fnc) : Bool := headOk f && f.code.all insOk
/-- an instruction's bytes, a function's, a module's -/
def encI (p : Int × Int × Int × Int) : List UInt8 := UInt8.ofNat p.1.toNat :: (encS p.2.1 ++ (encS p.2.2.1 ++ encS p.2.2.2))
def encIs : List (Int × Int × Int × Int) → List UInt8
  | [] => []
  | p :: l => encI p ++ encIs l
def encH (f : Fnc) : List UInt8 := encB f.name ++ (encN f.args.toNat ++ (encN f.slots.toNat ++ encN f.code.length))
def encF (f : Fnc) : List UInt8 := encH f ++ encIs f.code
def encFs : List Fnc → List UInt8
  | [] => []
  | f :: l => encF f ++ encFs l
def magic : List UInt8 := [84, 82, 80, 69]
def encM (m : Md) : List UInt8 := magic ++ (encB m.name ++ (encN m.lits.length ++ (encTs m.lits ++ (encN m.funcs.length ++ encFs m.funcs))))
theorem encIs_append (l r : List (Int × Int × Int × Int)) : encIs (l ++ r) = encIs l ++ encIs r := by
  induction l with
  | nil => simp [encIs]
  | cons t l ih => simp [encIs, ih]
theorem encIs_take {l : List (Int × Int × Int × Int)} {i : Nat} {t : Int × Int × Int × Int} (h : l[i]? = some t) : encIs (l.take (i + 1)) = encIs (l.take i) ++ encI t := by
  rw [List.take_add_one, h, encIs_append]
  simp [encIs]
theorem encIs_next {l : List (Int × Int × Int × Int)} {i : Nat} {t : Int × Int × Int × Int} (h : l[i]? = some t) : (encIs (l.take i)).length + (encI t).length ≤ (encIs l).length := by
  have e : encIs l = encIs (l.take (i + 1)) ++ encIs (l.drop (i + 1)) := by rw [← encIs_append, List.take_append_drop]
  rw [e, List.length_append, encIs_take h, List.length_append]
  omega
theorem encFs_append (l r : List Fnc) : encFs (l ++ r) = encFs l ++ encFs r := by
  induction l with
  | nil => simp [encFs]
  | cons t l ih => simp [encFs, ih]
theorem encFs_take {l : List Fnc} {i : Nat} {t : Fnc} (h : l[i]? = some t) : encFs (l.take (i + 1)) = encFs (l.take i) ++ encF t := by
  rw [List.take_add_one, h, encFs_append]
  simp [encFs]
theorem encFs_next {l : List Fnc} {i : Nat} {t : Fnc} (h : l[i]? = some t) : (encFs (l.take i)).length + (encF t).length ≤ (encFs l).length := by
  have e : encFs l = encFs (l.take (i + 1)) ++ encFs (l.drop (i + 1)) := by rw [← encFs_append, List.take_append_drop]
  rw [e, List.length_append, encFs_take h, List.length_append]
  omega
end Go.Tx
namespace Go.Proofs.YtgmieehheoknbaaDoor
open Go.RowKit Go.Tx
set_option maxRecDepth 100000 in
set_option maxHeartbeats 400000 in
theorem out_any (w : World) (n : Int) : Calls Tryd.prog 46 #[.int .i64 n] w fun e w' => e = .returned (.bool (!half n)) ∧ w' = w := by
  by_cases h1 : n < -549755813888
  · have e : half n = false := by unfold half; exact decide_eq_false (by omega)
    rw [e]
    go_enter Tryd.func46, Tryd.ntmps46
    go_wp2
    go_ret
    exact ⟨rfl, rfl⟩
  · by_cases h2 : 549755813888 < n
    · have e : half n = false := by unfold half; exact decide_eq_false (by omega)
      rw [e]
      go_enter Tryd.func46, Tryd.ntmps46
      go_wp2
      go_ret
      exact ⟨rfl, rfl⟩
    · have e : half n = true := by unfold half; exact decide_eq_true (by omega)
      rw [e]
      go_enter Tryd.func46, Tryd.ntmps46
      go_wp2
      go_ret
      exact ⟨rfl, rfl⟩
end Go.Proofs.YtgmieehheoknbaaDoor
end
section
/-
  Reading a module's bytes, as plain data: many of a kind; instructions, functions.
-/
namespace Go.Tx
open Go Go.RowKit
/-- so many of a kind, one after the other -/
def pMany {α : Type} (p : List UInt8 → PR α) : Nat → List UInt8 → PR (List α)
  | 0, s => .ok ([], s)
  | n + 1, s => match p s with
    | .error e => .error e
    | .ok (x, r) => match pMany p n r with
      | .error e => .error e
      | .ok (l, q) => .ok (x :: l, q)
theorem pMany_enc {α : Type} {p : List UInt8 → PR α} {enc : α → List UInt8} : ∀ {l : List α} (_ : ∀ x ∈ l, ∀ r, p (enc x ++ r) = .ok (x, r)) (r : List UInt8), pMany p l.length (l.flatMap enc ++ r) = .ok (l, r)
  | [], _, r => rfl
  | x :: l, h, r => by
    rw [List.flatMap_cons, List.append_assoc]
    unfold pMany
    simp only [List.length_cons]
    rw [h x (List.mem_cons_self ..)]
    simp only
    rw [pMany_enc fun y hy => h y (List.mem_cons_of_mem _ hy)]
theorem pMany_back {α : Type} {p : List UInt8 → PR α} {enc : α → List UInt8} {ok : α → Prop} (h : ∀ s x r, p s = .ok (x, r) → s = enc x ++ r ∧ ok x) : ∀ {n : Nat} {s r : List UInt8} {l : List α}, pMany p n s = .ok (l, r) → s = l.flatMap enc ++ r ∧ l.length = n ∧ ∀ x ∈ l, ok x
  | 0, s, r, l, hp => by
    cases hp
    exact ⟨rfl, rfl, fun x hx => by cases hx⟩
  | n + 1, s, r, l, hp => by
    unfold pMany at hp
    split at hp
    · cases hp
    · next x q hx =>
      split at hp
      · cases hp
      · next l2 q2 hl =>
        cases hp
        obtain ⟨h1, h2⟩ := h _ _ _ hx
        obtain ⟨h3, h4, h5⟩ := pMany_back h hl
        refine ⟨by rw [h1, h3, List.flatMap_cons, List.append_assoc], by rw [List.length_cons, h4], fun y hy => ?_⟩
        rcases List.mem_cons.1 hy with rfl | hy
        · exact h2
        · exact h5 y hy
def pIns : List UInt8 → PR (Int × Int × Int × Int)
  | [] => .error (0, [], 10)
  | o :: s => match pOperand s with
    | .error e => .error e
    | .ok (a, r) => match pOperand r with
      | .error e => .error e
      | .ok (b, r2) => match pOperand r2 with
        | .error e => .error e
        | .ok (c, r3) => .ok (((o.toNat : Int), a, b, c), r3)
theorem pIns_enc {x : Int × Int × Int × Int} (h : insOk x = true) (r : List UInt8) : pIns (encI x ++ r) = .ok (x, r) := by
  obtain ⟨o, a, b, c⟩ := x
  simp only [insOk, half, Bool.and_eq_true, decide_eq_true_eq] at h
  obtain ⟨ho, ⟨ha, hb⟩, hc⟩ := h
  simp only [encI, List.cons_append, List.append_assoc, pIns]
  rw [pOperand_enc ha.1 ha.2]
  simp only
  rw [pOperand_enc hb.1 hb.2]
  simp only
  rw [pOperand_enc hc.1 hc.2]
  simp only
  rw [u8_small (by omega)]
  congr
  omega
theorem pIns_back {s r : List UInt8} {x : Int × Int × Int × Int} (h : pIns s = .ok (x, r)) : s = encI x ++ r ∧ insOk x = true := by
  cases s with
  | nil => cases h
  | cons o s =>
    simp only [pIns] at h
    split at h
    · cases h
    · next a r1 h1 =>
      split at h
      · cases h
      · next b r2 h2 =>
        split at h
        · cases h
        · next c r3 h3 =>
          cases h
          obtain ⟨e1, a1, a2⟩ := pOperand_back h1
          obtain ⟨e2, b1, b2⟩ := pOperand_back h2
          obtain ⟨e3, c1, c2⟩ := pOperand_back h3
          have ho := o.toNat_lt
          refine ⟨?_, ?_⟩
          · simp only [encI, Int.toNat_natCast, List.cons_append, List.append_assoc]
            rw [e1, e2, e3]
            simp
          · simp only [insOk, half, Bool.and_eq_true, decide_eq_true_eq]
            refine ⟨⟨by omega, by omega⟩, ⟨⟨a1, a2⟩, ⟨b1, b2⟩⟩, ⟨c1, c2⟩⟩
theorem encIs_flat : ∀ l : List (Int × Int × Int × Int), encIs l = l.flatMap encI
  | [] => rfl
  | x :: l => by rw [encIs, encIs_flat l, List.flatMap_cons]
theorem encFs_flat : ∀ l : List Fnc, encFs l = l.flatMap encF
  | [] => rfl
  | x :: l => by rw [encFs, encFs_flat l, List.flatMap_cons]
theorem flat_length {α : Type} {enc : α → List UInt8} (h : ∀ x, 0 < (enc x).length) : ∀ l : List α, l.length ≤ (l.flatMap enc).length
  | [] => Nat.le_refl _
  | x :: l => by
    have h1 := flat_length h l
    have h2 := h x
    rw [List.flatMap_cons, List.length_append, List.length_cons]
    omega
theorem encI_pos (x : Int × Int × Int × Int) : 0 < (encI x).length := by simp [encI]
def pFn (s : List UInt8) : PR Fnc := match pText s with
  | .error e => .error e
  | .ok (name, r) => match pNumber r with
    | .error e => .error e
    | .ok (a, r1) => match pNumber r1 with
      | .error e => .error e
      | .ok (b, r2) => match pCount r2 with
        | .error e => .error e
        | .ok (n, r3) => match pMany pIns n r3 with
          | .error e => .error e
          | .ok (l, r4) => .ok ({ name := name, args := (a : Int), slots := (b : Int), code := l }, r4)
/-- what fits a reader -/
def fnFits (f : Fnc) : Prop := f.name.size ≤ 1099511627776 ∧ f.code.length ≤ 1099511627776
theorem pFn_enc {f : Fnc} (h : fnOk f = true) (hf : fnFits f) (r : List UInt8) : pFn (encF f ++ r) = .ok (f, r) := by
  obtain ⟨nm, a, b, l⟩ := f
  simp only [fnOk, headOk, Bool.and_eq_true, decide_eq_true_eq, List.all_eq_true] at h
  obtain ⟨⟨a1, a2, b1, b2⟩, hl⟩ := h
  unfold pFn encF encH
  simp only [List.append_assoc]
  rw [pText_enc hf.1]
  simp only
  rw [pNumber_enc (by omega)]
  simp only
  rw [pNumber_enc (by omega)]
  simp only
  rw [pCount_enc hf.2 (by show l.length ≤ (encIs l ++ r).length; rw [encIs_flat, List.length_append]; have := flat_length encI_pos l; omega)]
  simp only
  rw [encIs_flat, pMany_enc fun x hx r => pIns_enc (hl x hx) r]
  simp only
  congr <;> omega
theorem pFn_back {s r : List UInt8} {f : Fnc} (h : pFn s = .ok (f, r)) : s = encF f ++ r ∧ fnOk f = true ∧ fnFits f := by
  unfold pFn at h
  split at h
  · cases h
  · next nm r0 h0 =>
    split at h
    · cases h
    · next a r1 h1 =>
      split at h
      · cases h
      · next b r2 h2 =>
        split at h
        · cases h
        · next n r3 h3 =>
          split at h
          · cases h
          · next l r4 h4 =>
            cases h
            obtain ⟨e0, c0⟩ := pText_back h0
            obtain ⟨e1, c1⟩ := pNumber_back h1
            obtain ⟨e2, c2⟩ := pNumber_back h2
            obtain ⟨e3, c3, _⟩ := pCount_back h3
            obtain ⟨e4, c4, c5⟩ := pMany_back (fun _ _ _ => pIns_back) h4
            refine ⟨?_, ?_, c0, by rw [c4]; exact c3⟩
            · unfold encF encH
              simp only [Int.toNat_natCast, List.append_assoc, encIs_flat, c4]
              rw [e0, e1, e2, e3, e4]
            · simp only [fnOk, headOk, Bool.and_eq_true, decide_eq_true_eq, List.all_eq_true]
              exact ⟨⟨by omega, by omega, by omega, by omega⟩, c5⟩
end Go.Tx
end
section
/-
  Reading a module's bytes, as plain data: terms.
-/
namespace Go.Tx
open Go Go.RowKit
/-- a term; f: a bound on how deep it goes -/
def pTerm : Nat → List UInt8 → PR Tm
  | 0, s => .error (s.length, [], 10)
  | _ + 1, [] => .error (0, [], 10)
  | f + 1, k :: s =>
    if k.toNat = 1 ∨ k.toNat = 3 ∨ k.toNat = 4 then (match pSign s with
      | .error e => .error e
      | .ok (v, r) => .ok (.mk k.toNat v ⟨#[]⟩ [] [] ⟨#[]⟩, r))
    else if k.toNat = 2 then (match pText s with
      | .error e => .error e
      | .ok (t, r) => .ok (.mk 2 0 t [] [] ⟨#[]⟩, r))
    else if k.toNat = 8 then (match pText s with
      | .error e => .error e
      | .ok (t, r) => .ok (.mk 8 0 ⟨#[]⟩ [] [] t, r))
    else if k.toNat = 6 then .ok (.mk 6 0 ⟨#[]⟩ [] [] ⟨#[]⟩, s)
    else if k.toNat = 5 then (match pCount s with
      | .error e => .error e
      | .ok (n, r) => match pMany (pTerm f) n r with
        | .error e => .error e
        | .ok (l, q) => .ok (.mk 5 0 ⟨#[]⟩ l [] ⟨#[]⟩, q))
    else if k.toNat = 7 then (match pCount s with
      | .error e => .error e
      | .ok (n, r) => match pMany (pTerm f) n r with
        | .error e => .error e
        | .ok (l, q) => match q with
          | [] => .error (0, [], 10)
          | c :: q2 => if c.toNat = 0 then .ok (.mk 7 0 ⟨#[]⟩ l [] ⟨#[]⟩, q2)
            else if c.toNat = 1 then (match pTerm f q2 with
              | .error e => .error e
              | .ok (t, q3) => .ok (.mk 7 0 ⟨#[]⟩ l [t] ⟨#[]⟩, q3))
            else .error (q.length, [], 10))
    else .error (s.length + 1, [], 10)
theorem encTs_flat : ∀ l : List Tm, encTs l = l.flatMap encT
  | [] => rfl
  | x :: l => by rw [encTs, encTs_flat l, List.flatMap_cons]
theorem u8_back (k : UInt8) (n : Nat) (h : k.toNat = n) : UInt8.ofNat n = k := by
  subst h
  simp
theorem pTerm_back : ∀ {f : Nat} {s r : List UInt8} {t : Tm}, pTerm f s = .ok (t, r) → s = encT t ++ r
  | 0, _, _, _, h => by cases h
  | _ + 1, [], _, _, h => by cases h
  | f + 1, k :: s, r, t, h => by
    unfold pTerm at h
    split at h
    · next hk =>
      split at h
      · cases h
      · next v r1 h1 =>
        cases h
        obtain ⟨e1, _⟩ := pSign_back h1
        have hk2 : ((k.toNat : Int) = 1 ∨ (k.toNat : Int) = 3 ∨ (k.toNat : Int) = 4) := by omega
        unfold encT
        rw [if_pos hk2, e1, Int.toNat_natCast, u8_back k _ rfl]
        simp
    · split at h
      · next hk =>
        split at h
        · cases h
        · next v r1 h1 =>
          cases h
          obtain ⟨e1, _⟩ := pText_back h1
          simp [encT, e1, ← u8_back k 2 hk]
      · split at h
        · next hk =>
          split at h
          · cases h
          · next v r1 h1 =>
            cases h
            obtain ⟨e1, _⟩ := pText_back h1
            simp [encT, e1, ← u8_back k 8 hk]
        · split at h
          · next hk =>
            cases h
            simp [encT, ← u8_back k 6 hk]
          · split at h
            · next hk =>
              split at h
              · cases h
              · next n r1 h1 =>
                split at h
                · cases h
                · next l q h2 =>
                  cases h
                  obtain ⟨e1, _⟩ := pCount_back h1
                  obtain ⟨e2, e3, _⟩ := pMany_back (ok := fun _ => True) (fun _ _ _ h => ⟨pTerm_back h, trivial⟩) h2
                  simp [encT, e1, e2, e3, encTs_flat, ← u8_back k 5 hk]
            · split at h
              · next hk =>
                split at h
                · cases h
                · next n r1 h1 =>
                  split at h
                  · cases h
                  · next l q h2 =>
                    obtain ⟨e1, _⟩ := pCount_back h1
                    obtain ⟨e2, e3, _⟩ := pMany_back (ok := fun _ => True) (fun _ _ _ h => ⟨pTerm_back h, trivial⟩) h2
                    split at h
                    · cases h
                    · next c q2 =>
                      split at h
                      · next hc =>
                        cases h
                        have h0 : encN 0 = [UInt8.ofNat 0] := encN_small (by decide)
                        simp [encT, e1, e2, e3, encTs_flat, encTs, h0, ← u8_back k 7 hk, ← u8_back c 0 hc]
                      · split at h
                        · next hc =>
                          split at h
                          · cases h
                          · next t2 q3 h3 =>
                            cases h
                            have e4 := pTerm_back h3
                            have h0 : encN 1 = [UInt8.ofNat 1] := encN_small (by decide)
                            simp [encT, e1, e2, e3, e4, encTs_flat, encTs, h0, ← u8_back k 7 hk, ← u8_back c 1 hc]
                        · cases h
              · cases h
end Go.Tx
end
section
/-
  Reading a module's bytes, as plain data: a term by its parts, as the Go code reads it; a term's bytes are read as it.
-/
namespace Go.Tx
open Go Go.RowKit
/-- what is read goes on -/
def PR.then {α β : Type} (x : PR α) (g : α → List UInt8 → PR β) : PR β := match x with
  | .error e => .error e
  | .ok (a, r) => g a r
theorem then_error {α β : Type} {e : PErr} {g : α → List UInt8 → PR β} : PR.then (.error e : PR α) g = .error e := rfl
theorem then_ok {α β : Type} {a : α} {r : List UInt8} {g : α → List UInt8 → PR β} : PR.then (.ok (a, r) : PR α) g = g a r := rfl
theorem then_then {α β γ : Type} {x : PR α} {g : α → List UInt8 → PR β} {h : β → List UInt8 → PR γ} : PR.then (PR.then x g) h = PR.then x fun a r => PR.then (g a r) h := by
  match x with
  | .error e => rfl
  | .ok (a, r) => rfl
/-- a term whose parts are being read -/
structure Fr where
  kind : Nat
  n : Int
  name : ByteArray
  bytes : ByteArray
  items : List Tm
  rest : List Tm
  left : Nat
  st : Nat
def Fr.tm (f : Fr) : Tm := .mk f.kind f.n f.name f.items f.rest f.bytes
/-- a part is put into it -/
def Fr.put (f : Fr) (t : Tm) : Fr := if 0 < f.left then { f with left := f.left - 1, items := f.items ++ [t] } else { f with rest := [t], st := 2 }
/-- a term but for its parts -/
def pLeaf : List UInt8 → PR Fr
  | [] => .error (0, [], 10)
  | k :: s =>
    if k.toNat = 1 ∨ k.toNat = 3 ∨ k.toNat = 4 then (match pSign s with
      | .error e => .error e
      | .ok (v, r) => .ok (⟨k.toNat, v, ⟨#[]⟩, ⟨#[]⟩, [], [], 0, 0⟩, r))
    else if k.toNat = 2 then (match pText s with
      | .error e => .error e
      | .ok (t, r) => .ok (⟨2, 0, t, ⟨#[]⟩, [], [], 0, 0⟩, r))
    else if k.toNat = 8 then (match pText s with
      | .error e => .error e
      | .ok (t, r) => .ok (⟨8, 0, ⟨#[]⟩, t, [], [], 0, 0⟩, r))
    else if k.toNat = 6 then .ok (⟨6, 0, ⟨#[]⟩, ⟨#[]⟩, [], [], 0, 0⟩, s)
    else if k.toNat = 5 then (match pCount s with
      | .error e => .error e
      | .ok (n, r) => .ok (⟨5, 0, ⟨#[]⟩, ⟨#[]⟩, [], [], n, 0⟩, r))
    else if k.toNat = 7 then (match pCount s with
      | .error e => .error e
      | .ok (n, r) => .ok (⟨7, 0, ⟨#[]⟩, ⟨#[]⟩, [], [], n, 0⟩, r))
    else .error (s.length + 1, [], 10)
/-- behind a list's items -/
def finR (f : Nat) (fr : Fr) (q : List UInt8) : PR Tm :=
  if fr.kind = 7 ∧ fr.st = 0 then (match q with
    | [] => .error (0, [], 10)
    | c :: q2 => if c.toNat = 0 then .ok (fr.tm, q2)
      else if c.toNat = 1 then (match pTerm f q2 with
        | .error e => .error e
        | .ok (t, q3) => .ok (({ fr with rest := [t], st := 2 } : Fr).tm, q3))
      else .error (q2.length + 1, [], 10))
  else .ok (fr.tm, q)
/-- the parts that are not yet read -/
def fin (f : Nat) (fr : Fr) (s : List UInt8) : PR Tm := match pMany (pTerm f) fr.left s with
  | .error e => .error e
  | .ok (l, q) => finR f { fr with items := fr.items ++ l, left := 0 } q
theorem fin_zero {f : Nat} {fr : Fr} {s : List UInt8} (h : fr.left = 0) : fin f fr s = finR f fr s := by
  obtain ⟨k, n, a, b, is, rs, l, st⟩ := fr
  subst h
  simp [fin, pMany]
theorem pTerm_leaf (f : Nat) (s : List UInt8) : pTerm (f + 1) s = PR.then (pLeaf s) (fin f) := by
  cases s with
  | nil => rfl
  | cons k s =>
    simp only [pTerm, pLeaf]
    by_cases h1 : k.toNat = 1 ∨ k.toNat = 3 ∨ k.toNat = 4
    · have h7 : ¬ k.toNat = 7 := by omega
      simp only [if_pos h1]
      cases pSign s with
      | error e => rfl
      | ok x => obtain ⟨v, r⟩ := x; rw [then_ok, fin_zero rfl]; simp [finR, Fr.tm, h7]
    · by_cases h2 : k.toNat = 2
      · simp only [if_neg h1, if_pos h2]
        cases pText s with
        | error e => rfl
        | ok x => obtain ⟨v, r⟩ := x; rw [then_ok, fin_zero rfl]; simp [finR, Fr.tm]
      · by_cases h8 : k.toNat = 8
        · simp only [if_neg h1, if_neg h2, if_pos h8]
          cases pText s with
          | error e => rfl
          | ok x => obtain ⟨v, r⟩ := x; rw [then_ok, fin_zero rfl]; simp [finR, Fr.tm]
        · by_cases h6 : k.toNat = 6
          · simp only [if_neg h1, if_neg h2, if_neg h8, if_pos h6]
            rw [then_ok, fin_zero rfl]; simp [finR, Fr.tm]
          · by_cases h5 : k.toNat = 5
            · simp only [if_neg h1, if_neg h2, if_neg h8, if_neg h6, if_pos h5]
              cases pCount s with
              | error e => rfl
              | ok x =>
                obtain ⟨v, r⟩ := x
                simp only [then_ok, fin]
                cases pMany (pTerm f) v r with
                | error e => rfl
                | ok y => obtain ⟨l, q⟩ := y; simp [finR, Fr.tm]
            · by_cases h7 : k.toNat = 7
              · simp only [if_neg h1, if_neg h2, if_neg h8, if_neg h6, if_neg h5, if_pos h7]
                cases pCount s with
                | error e => rfl
                | ok x =>
                  obtain ⟨v, r⟩ := x
                  simp only [then_ok, fin]
                  cases pMany (pTerm f) v r with
                  | error e => rfl
                  | ok y =>
                    obtain ⟨l, q⟩ := y
                    simp only [finR, and_self, if_true, Fr.tm, List.nil_append]
                    cases q with
                    | nil => rfl
                    | cons c q2 => rfl
              · simp only [if_neg h1, if_neg h2, if_neg h8, if_neg h6, if_neg h5, if_neg h7]
                rfl
theorem fin_more {f n : Nat} {fr : Fr} {s : List UInt8} (h : fr.left = n + 1) : fin f fr s = PR.then (pTerm f s) fun t r => fin f (fr.put t) r := by
  obtain ⟨k, m, a, b, is, rs, l, st⟩ := fr
  obtain rfl : l = n + 1 := h
  simp only [fin, pMany]
  cases pTerm f s with
  | error e => rfl
  | ok x =>
    obtain ⟨t, r⟩ := x
    simp only [then_ok, Fr.put, Nat.zero_lt_succ, if_true, Nat.add_sub_cancel]
    cases pMany (pTerm f) n r with
    | error e => rfl
    | ok y => obtain ⟨l, q⟩ := y; simp
theorem fin_done {f : Nat} {fr : Fr} {s : List UInt8} (h : fr.left = 0) (hk : ¬ (fr.kind = 7 ∧ fr.st = 0)) : fin f fr s = .ok (fr.tm, s) := by
  rw [fin_zero h, finR.eq_def, if_neg hk]
theorem fin_end {f : Nat} {fr : Fr} (h : fr.left = 0) (hk : fr.kind = 7 ∧ fr.st = 0) : fin f fr [] = .error (0, [], 10) := by
  rw [fin_zero h, finR.eq_def, if_pos hk]
theorem fin_none {f : Nat} {fr : Fr} {c : UInt8} {s : List UInt8} (h : fr.left = 0) (hk : fr.kind = 7 ∧ fr.st = 0) (hc : c.toNat = 0) : fin f fr (c :: s) = .ok (fr.tm, s) := by
  rw [fin_zero h, finR, if_pos hk]
  simp only [if_pos hc]
theorem fin_rest {f : Nat} {fr : Fr} {c : UInt8} {s : List UInt8} (h : fr.left = 0) (hk : fr.kind = 7 ∧ fr.st = 0) (hc : c.toNat = 1) : fin f fr (c :: s) = PR.then (pTerm f s) fun t r => fin f (({ fr with st := 1 } : Fr).put t) r := by
  rw [fin_zero h, finR, if_pos hk]
  simp only [if_pos hc, if_neg (show ¬ c.toNat = 0 by omega)]
  cases pTerm f s with
  | error e => rfl
  | ok x =>
    obtain ⟨t, r⟩ := x
    obtain ⟨k, m, a, b, is, rs, l, st⟩ := fr
    obtain rfl : l = 0 := h
    rw [then_ok, fin_done (by simp [Fr.put]) (by simp [Fr.put])]
    simp [Fr.put]
theorem fin_bad {f : Nat} {fr : Fr} {c : UInt8} {s : List UInt8} (h : fr.left = 0) (hk : fr.kind = 7 ∧ fr.st = 0) (hc : ¬ c.toNat = 0) (hc1 : ¬ c.toNat = 1) : fin f fr (c :: s) = .error (s.length + 1, [], 10) := by
  rw [fin_zero h, finR, if_pos hk]
  simp only [if_neg hc, if_neg hc1]
/-- a part is read: what is around it goes on -/
def unwind (f : Nat) : List Fr → Tm → List UInt8 → PR Tm
  | [], t, s => .ok (t, s)
  | fr :: st, t, s => PR.then (fin f (fr.put t) s) (unwind f st)
/-- a part comes next -/
def resume (f : Nat) (st : List Fr) (s : List UInt8) : PR Tm := PR.then (pTerm f s) (unwind f st)
/-- the topmost one goes on -/
def after (f : Nat) (fr : Fr) (st : List Fr) (s : List UInt8) : PR Tm := PR.then (fin f fr s) (unwind f st)
theorem pMany_congr {α : Type} {p q : List UInt8 → PR α} {enc : α → List UInt8} (hb : ∀ s x r, p s = .ok (x, r) → s = enc x ++ r) : ∀ {n : Nat} {s : List UInt8}, (∀ u : List UInt8, u.length ≤ s.length → p u = q u) → pMany p n s = pMany q n s
  | 0, _, _ => rfl
  | n + 1, s, h => by
    simp only [pMany]
    rw [← h s (Nat.le_refl _)]
    cases hp : p s with
    | error e => rfl
    | ok x =>
      obtain ⟨a, r⟩ := x
      have hl : r.length ≤ s.length := by rw [hb _ _ _ hp, List.length_append]; omega
      have hc := pMany_congr (p := p) (q := q) hb (n := n) (s := r) fun u hu => h u (by omega)
      simp only [hc]
theorem pLeaf_back {s r : List UInt8} {fr : Fr} (h : pLeaf s = .ok (fr, r)) : r.length < s.length := by
  cases s with
  | nil => cases h
  | cons k s =>
    simp only [pLeaf] at h
    simp only [List.length_cons]
    split at h
    · split at h
      · cases h
      · next v r1 h1 => cases h; rw [(pSign_back h1).1, List.length_append]; omega
    · split at h
      · split at h
        · cases h
        · next v r1 h1 => cases h; rw [(pText_back h1).1, List.length_append]; omega
      · split at h
        · split at h
          · cases h
          · next v r1 h1 => cases h; rw [(pText_back h1).1, List.length_append]; omega
        · split at h
          · cases h; omega
          · split at h
            · split at h
              · cases h
              · next v r1 h1 => cases h; rw [(pCount_back h1).1, List.length_append]; omega
            · split at h
              · split at h
                · cases h
                · next v r1 h1 => cases h; rw [(pCount_back h1).1, List.length_append]; omega
              · cases h
theorem pTerm_fuel : ∀ (f g : Nat) (s : List UInt8), s.length < f → s.length < g → pTerm f s = pTerm g s
  | 0, _, _, h, _ => absurd h (Nat.not_lt_zero _)
  | _, 0, _, _, h => absurd h (Nat.not_lt_zero _)
  | f + 1, g + 1, s, hf, hg => by
    rw [pTerm_leaf, pTerm_leaf]
    cases hl : pLeaf s with
    | error e => rfl
    | ok x =>
      obtain ⟨fr, r⟩ := x
      have hr := pLeaf_back hl
      rw [then_ok, then_ok]
      unfold fin
      rw [pMany_congr (q := pTerm g) (enc := encT) (fun _ _ _ h => pTerm_back h) fun u hu => pTerm_fuel f g u (by omega) (by omega)]
      cases hm : pMany (pTerm g) fr.left r with
      | error e => rfl
      | ok y =>
        obtain ⟨l, q⟩ := y
        have hq : q.length ≤ r.length := by rw [(pMany_back (ok := fun _ => True) (fun _ _ _ h => ⟨pTerm_back h, trivial⟩) hm).1, List.length_append]; omega
        simp only [finR]
        cases q with
        | nil => rfl
        | cons c q2 =>
          simp only [List.length_cons] at hq
          simp only
          rw [pTerm_fuel f g q2 (by omega) (by omega)]
theorem resume_leaf {f : Nat} {st : List Fr} {s : List UInt8} (h : s.length < f) : resume f st s = PR.then (pLeaf s) fun fr r => after f fr st r := by
  unfold resume
  rw [pTerm_fuel f (f + 1) s h (by omega), pTerm_leaf, then_then]
  rfl
theorem after_more {f n : Nat} {fr : Fr} {st : List Fr} {s : List UInt8} (h : fr.left = n + 1) : after f fr st s = resume f (fr :: st) s := by
  unfold after resume
  rw [fin_more h, then_then]
  rfl
theorem after_rest {f : Nat} {fr : Fr} {st : List Fr} {c : UInt8} {s : List UInt8} (h : fr.left = 0) (hk : fr.kind = 7 ∧ fr.st = 0) (hc : c.toNat = 1) : after f fr st (c :: s) = resume f ({ fr with st := 1 } :: st) s := by
  unfold after resume
  rw [fin_rest h hk hc, then_then]
  rfl
theorem after_done {f : Nat} {fr : Fr} {st : List Fr} {s : List UInt8} (h : fr.left = 0) (hk : ¬ (fr.kind = 7 ∧ fr.st = 0)) : after f fr st s = unwind f st fr.tm s := by
  unfold after
  rw [fin_done h hk]
  rfl
theorem after_none {f : Nat} {fr : Fr} {st : List Fr} {c : UInt8} {s : List UInt8} (h : fr.left = 0) (hk : fr.kind = 7 ∧ fr.st = 0) (hc : c.toNat = 0) : after f fr st (c :: s) = unwind f st fr.tm s := by
  unfold after
  rw [fin_none h hk hc]
  rfl
theorem after_end {f : Nat} {fr : Fr} {st : List Fr} (h : fr.left = 0) (hk : fr.kind = 7 ∧ fr.st = 0) : after f fr st [] = .error (0, [], 10) := by
  unfold after
  rw [fin_end h hk]
  rfl
theorem after_bad {f : Nat} {fr : Fr} {st : List Fr} {c : UInt8} {s : List UInt8} (h : fr.left = 0) (hk : fr.kind = 7 ∧ fr.st = 0) (hc : ¬ c.toNat = 0) (hc1 : ¬ c.toNat = 1) : after f fr st (c :: s) = .error (s.length + 1, [], 10) := by
  unfold after
  rw [fin_bad h hk hc hc1]
  rfl
theorem unwind_put {f : Nat} {fr : Fr} {st : List Fr} {t : Tm} {s : List UInt8} : unwind f (fr :: st) t s = after f (fr.put t) st s := rfl
mutual
/-- its numbers and sizes fit -/
def fitT : Tm → Prop
  | .mk k n s is rs bs => (Tm.mk k n s is rs bs).okB = true ∧ (-9223372036854775808 ≤ n ∧ n ≤ 9223372036854775807) ∧ s.size ≤ 1099511627776 ∧ bs.size ≤ 1099511627776 ∧ is.length ≤ 1099511627776 ∧ fitTs is ∧ fitTs rs
def fitTs : List Tm → Prop
  | [] => True
  | t :: l => fitT t ∧ fitTs l
end
theorem encT_pos (t : Tm) : 0 < (encT t).length := by
  cases t
  simp [encT]
theorem okB_parts {k n : Int} {s bs : ByteArray} {is rs : List Tm} (h : (Tm.mk k n s is rs bs).okB = true) :
    ((k = 1 ∨ k = 3 ∨ k = 4) ∧ s = ⟨#[]⟩ ∧ is = [] ∧ rs = [] ∧ bs = ⟨#[]⟩) ∨ (k = 2 ∧ n = 0 ∧ is = [] ∧ rs = [] ∧ bs = ⟨#[]⟩) ∨ (k = 5 ∧ n = 0 ∧ s = ⟨#[]⟩ ∧ rs = [] ∧ bs = ⟨#[]⟩) ∨ (k = 6 ∧ n = 0 ∧ s = ⟨#[]⟩ ∧ is = [] ∧ rs = [] ∧ bs = ⟨#[]⟩) ∨
      (k = 7 ∧ n = 0 ∧ s = ⟨#[]⟩ ∧ bs = ⟨#[]⟩ ∧ (rs = [] ∨ ∃ t, rs = [t])) ∨ (k = 8 ∧ n = 0 ∧ s = ⟨#[]⟩ ∧ is = [] ∧ rs = []) := by
  have hr : ∀ l : List Tm, l.length ≤ 1 → l = [] ∨ ∃ t, l = [t] := by
    intro l hl
    match l, hl with
    | [], _ => exact .inl rfl
    | [t], _ => exact .inr ⟨t, rfl⟩
    | _ :: _ :: _, h => simp at h
  have hk : k = 1 ∨ k = 2 ∨ k = 3 ∨ k = 4 ∨ k = 5 ∨ k = 6 ∨ k = 7 ∨ k = 8 := okB_kinds h
  have z : ∀ l : List Tm, l.length = 0 → l = [] := fun l => List.eq_nil_of_length_eq_zero
  rcases hk with rfl | rfl | rfl | rfl | rfl | rfl | rfl | rfl
  · have h2 := of_decide_eq_true (show decide (s.size = 0 ∧ is.length = 0 ∧ rs.length = 0 ∧ bs.size = 0) = true from h)
    exact .inl ⟨.inl rfl, size_nil h2.1, z _ h2.2.1, z _ h2.2.2.1, size_nil h2.2.2.2⟩
  · have h2 := of_decide_eq_true (show decide (n = 0 ∧ 1 ≤ s.size ∧ s.size ≤ 255 ∧ is.length = 0 ∧ rs.length = 0 ∧ bs.size = 0) = true from h)
    exact .inr (.inl ⟨rfl, h2.1, z _ h2.2.2.2.1, z _ h2.2.2.2.2.1, size_nil h2.2.2.2.2.2⟩)
  · have h2 := of_decide_eq_true (show decide (0 ≤ n ∧ n < 1152921504606846976 ∧ s.size = 0 ∧ is.length = 0 ∧ rs.length = 0 ∧ bs.size = 0) = true from h)
    exact .inl ⟨.inr (.inl rfl), size_nil h2.2.2.1, z _ h2.2.2.2.1, z _ h2.2.2.2.2.1, size_nil h2.2.2.2.2.2⟩
  · have h2 := of_decide_eq_true (show decide (0 ≤ n ∧ n < 1152921504606846976 ∧ s.size = 0 ∧ is.length = 0 ∧ rs.length = 0 ∧ bs.size = 0) = true from h)
    exact .inl ⟨.inr (.inr rfl), size_nil h2.2.2.1, z _ h2.2.2.2.1, z _ h2.2.2.2.2.1, size_nil h2.2.2.2.2.2⟩
  · have h2 := of_decide_eq_true (show decide (n = 0 ∧ s.size = 0 ∧ rs.length = 0 ∧ bs.size = 0) = true from h)
    exact .inr (.inr (.inl ⟨rfl, h2.1, size_nil h2.2.1, z _ h2.2.2.1, size_nil h2.2.2.2⟩))
  · have h2 := of_decide_eq_true (show decide (n = 0 ∧ s.size = 0 ∧ is.length = 0 ∧ rs.length = 0 ∧ bs.size = 0) = true from h)
    exact .inr (.inr (.inr (.inl ⟨rfl, h2.1, size_nil h2.2.1, z _ h2.2.2.1, z _ h2.2.2.2.1, size_nil h2.2.2.2.2⟩)))
  · have h2 := of_decide_eq_true (show decide (n = 0 ∧ s.size = 0 ∧ bs.size = 0 ∧ is.length ≠ 0 ∧ rs.length ≤ 1 ∧ (rs.length = 1 → headKind rs ≠ 7 ∧ headKind rs ≠ 6)) = true from h)
    exact .inr (.inr (.inr (.inr (.inl ⟨rfl, h2.1, size_nil h2.2.1, size_nil h2.2.2.1, hr rs h2.2.2.2.2.1⟩))))
  · have h2 := of_decide_eq_true (show decide (n = 0 ∧ s.size = 0 ∧ is.length = 0 ∧ rs.length = 0) = true from h)
    exact .inr (.inr (.inr (.inr (.inr ⟨rfl, h2.1, size_nil h2.2.1, z _ h2.2.2.1, z _ h2.2.2.2⟩))))
mutual
theorem pTerm_enc : ∀ (t : Tm) (f : Nat) (r : List UInt8), fitT t → (encT t).length ≤ f → pTerm f (encT t ++ r) = .ok (t, r)
  | .mk k n s is rs bs, 0, r, _, hf => absurd (encT_pos (.mk k n s is rs bs)) (by omega)
  | .mk k n s is rs bs, f + 1, r, ⟨hk, hn, hs, hb, hl, hi, hr⟩, hf => by
    have h0 : encN 0 = [UInt8.ofNat 0] := encN_small (by decide)
    have h1 : encN 1 = [UInt8.ofNat 1] := encN_small (by decide)
    rcases okB_parts hk with ⟨e, rfl, rfl, rfl, rfl⟩ | ⟨rfl, rfl, rfl, rfl, rfl⟩ | ⟨rfl, rfl, rfl, rfl, rfl⟩ | ⟨rfl, rfl, rfl, rfl, rfl, rfl⟩ | ⟨rfl, rfl, rfl, rfl, e⟩ | ⟨rfl, rfl, rfl, rfl, rfl⟩
    · have hsm : k.toNat < 256 := by omega
      have e2 : k.toNat = 1 ∨ k.toNat = 3 ∨ k.toNat = 4 := by omega
      have e3 : (k.toNat : Int) = k := by omega
      simp only [encT, if_pos e, List.cons_append, pTerm, u8_small hsm, if_pos e2]
      rw [pSign_enc hn.1 hn.2]
      simp only [e3]
    · simp [encT, pTerm, pText_enc hs]
    · simp only [encT, encTs_flat] at hf ⊢
      have hf2 : (encTs is).length ≤ f := by rw [encTs_flat]; simp only [List.length_cons, List.length_append] at hf; simp at hf ⊢; omega
      have hc := pCount_enc hl (r := is.flatMap encT ++ r) (by rw [List.length_append]; have := flat_length encT_pos is; omega)
      have hm := pMany_enc (p := pTerm f) (enc := encT) (l := is) (fun x hx r => pTerms_enc is f hi hf2 x hx r) r
      simp [pTerm, hc, hm]
    · simp [encT, pTerm]
    · have hf2 : (encTs is).length ≤ f := by
        rw [encT_seven] at hf
        simp at hf; omega
      have hm := fun r => pMany_enc (p := pTerm f) (enc := encT) (l := is) (fun x hx r => pTerms_enc is f hi hf2 x hx r) r
      have hcl : ∀ q : List UInt8, is.length ≤ (is.flatMap encT ++ q).length := fun q => by rw [List.length_append]; have := flat_length encT_pos is; omega
      rcases e with rfl | ⟨t, rfl⟩
      · have hc := fun q => pCount_enc hl (r := is.flatMap encT ++ q) (hcl q)
        simp [encT, encTs_flat, pTerm, hc, hm, h0]
      · have hf3 : (encT t).length ≤ f := by
          rw [encT_seven] at hf
          simp [encTs] at hf; omega
        have hc := fun q => pCount_enc hl (r := is.flatMap encT ++ q) (hcl q)
        have ht := pTerm_enc t f r hr.1 hf3
        simp [encT, encTs_flat, pTerm, hc, hm, h1, ht]
    · simp [encT, pTerm, pText_enc hb]
theorem pTerms_enc : ∀ (l : List Tm) (f : Nat), fitTs l → (encTs l).length ≤ f → ∀ x ∈ l, ∀ r, pTerm f (encT x ++ r) = .ok (x, r)
  | [], _, _, _, x, hx, _ => by cases hx
  | t :: l, f, h, hf, x, hx, r => by
    simp only [encTs, List.length_append] at hf
    rcases List.mem_cons.1 hx with e | hx
    · rw [e]
      exact pTerm_enc t f r h.1 (by omega)
    · exact pTerms_enc l f h.2 (by omega) x hx r
end
end Go.Tx
end

/-
  Copies of terms: what troupelaw00.Copy does, given what CopyAll does. (Begun.)
-/
import Derived.Test.YtnmhodejffpblaaCb
import Derived.Test.YtnmhodejffpblaaSl
namespace Go.Tx
open Go Go.RowKit
theorem RowD.form {w : World} {S : Nat → Prop} {R : Value → Tm → Prop} {v : Value} {l : List Tm} (h : RowD w S R v l) : ∃ a c, v = .slice a l.length c := by
  obtain ⟨_, a, c, rfl, _⟩ := h
  exact ⟨a, c, rfl⟩
theorem BytesD.form {w : World} {S : Nat → Prop} {v : Value} {s : ByteArray} (h : BytesD w S v s) : ∃ a c, v = .slice a s.size c := by
  obtain ⟨_, a, c, rfl, _⟩ := h
  exact ⟨a, c, rfl⟩
/-- no slice of terms in it is longer than memory has room for -/
def Slim : Nat → Tm → Prop
  | 0, _ => True
  | d + 1, t => t.items.length * 104 ≤ 140737488355328 ∧ t.rest.length * 104 ≤ 140737488355328 ∧ (∀ x ∈ t.items, Slim d x) ∧ ∀ x ∈ t.rest, Slim d x
theorem Keeps.put (w : World) (a : Addr) (u : Value) : Keeps (fun g => g = a.block) w (w.setCell a u) := Keeps.setCell (S := fun g => g = a.block) (Keeps.refl _ w) (fun _ => rfl) u
theorem RowD.put {w : World} {E E' : Nat → Prop} {d : Nat} {v : Value} {l : List Tm} (h : RowD w E (TmD w E d) v l) (a : Addr) (u : Value) (he : ∀ g, E g → E' g ∧ g ≠ a.block) : RowD (w.setCell a u) E' (TmD (w.setCell a u) E' d) v l :=
  (h.mono (fun g hg => (he g hg).1) (fun _ _ _ hb hc => (Keeps.put w a u).cell hc (he _ hb).2) fun _ _ h => h.mono (fun g hg => (he g hg).1) fun _ _ _ hb hc => (Keeps.put w a u).cell hc (he _ hb).2)
theorem RowD.later {w w' : World} {E E' : Nat → Prop} {d : Nat} {v : Value} {l : List Tm} (h : RowD w E (TmD w E d) v l) (k : Keeps (fun _ => False) w w') (he : ∀ g, E g → E' g) : RowD w' E' (TmD w' E' d) v l :=
  h.mono he (fun _ _ _ _ hc => k.cell hc fun h => h) fun _ _ h => h.mono he fun _ _ _ _ hc => k.cell hc fun h => h
theorem BytesD.put {w : World} {E E' : Nat → Prop} {v : Value} {s : ByteArray} (h : BytesD w E v s) (a : Addr) (u : Value) (he : ∀ g, E g → E' g ∧ g ≠ a.block) : BytesD (w.setCell a u) E' v s :=
  h.mono (fun g hg => (he g hg).1) fun _ _ _ hb hc => (Keeps.put w a u).cell hc (he _ hb).2
theorem RowD.laterN {w w' : World} {E E' T : Nat → Prop} {d : Nat} {v : Value} {l : List Tm} (h : RowD w E (TmD w E d) v l) (k : Keeps T w w') (he : ∀ g, E g → E' g ∧ ¬ T g) : RowD w' E' (TmD w' E' d) v l :=
  h.mono (fun g hg => (he g hg).1) (fun _ _ _ hb hc => k.cell hc (he _ hb).2) fun _ _ h => h.mono (fun g hg => (he g hg).1) fun _ _ _ hb hc => k.cell hc (he _ hb).2
theorem BytesD.laterN {w w' : World} {E E' T : Nat → Prop} {v : Value} {s : ByteArray} (h : BytesD w E v s) (k : Keeps T w w') (he : ∀ g, E g → E' g ∧ ¬ T g) : BytesD w' E' v s :=
  h.mono (fun g hg => (he g hg).1) fun _ _ _ hb hc => k.cell hc (he _ hb).2
theorem Blk.six {w : World} {b : Nat} {T : TypeId} {z0 z1 z2 z3 z4 z5 : Value} (h : Blk w b T [z0, z1, z2, z3, z4, z5]) (v0 v1 v2 v3 v4 v5 : Value) :
    Blk ((((((w.setCell ⟨b, 0, none⟩ v0).setCell ⟨b, 1, none⟩ v1).setCell ⟨b, 2, none⟩ v2).setCell ⟨b, 3, none⟩ v3).setCell ⟨b, 4, none⟩ v4).setCell ⟨b, 5, none⟩ v5) b T [v0, v1, v2, v3, v4, v5] :=
  (((((h.set 0 v0).set 1 v1).set 2 v2).set 3 v3).set 4 v4).set 5 v5
theorem Keeps.six (w : World) (b : Nat) (v0 v1 v2 v3 v4 v5 : Value) :
    Keeps (fun g => g = b) w ((((((w.setCell ⟨b, 0, none⟩ v0).setCell ⟨b, 1, none⟩ v1).setCell ⟨b, 2, none⟩ v2).setCell ⟨b, 3, none⟩ v3).setCell ⟨b, 4, none⟩ v4).setCell ⟨b, 5, none⟩ v5) :=
  Keeps.setCell (S := fun g => g = b) (Keeps.setCell (S := fun g => g = b) (Keeps.setCell (S := fun g => g = b) (Keeps.setCell (S := fun g => g = b) (Keeps.setCell (S := fun g => g = b) (Keeps.setCell (S := fun g => g = b) (Keeps.refl _ w) (fun _ => rfl) _) (fun _ => rfl) _) (fun _ => rfl) _) (fun _ => rfl) _) (fun _ => rfl) _) (fun _ => rfl) _
end Go.Tx
namespace Go.Proofs.Ytnmhodejffpblaa
open Go.RowKit Go.Tx
def CopyAllSpec (d : Nat) : Prop := ∀ (w : World) (S : Nat → Prop) (v : Value) (l : List Tm), RowD w S (TmD w S d) v l → l.length * 104 ≤ 140737488355328 → (∀ x ∈ l, Slim d x) → (∀ x, S x → x < w.heap.size) →
  Calls Try.prog 36 #[v] w fun e w' => ∃ v', e = .returned v' ∧ RowD w' (Fresh w w') (TmD w' (Fresh w w') d) v' l ∧ Keeps (fun _ => False) w w'
set_option maxRecDepth 100000 in
set_option maxHeartbeats 1600000 in
theorem copy_step (d : Nat) (IH : CopyAllSpec d) (w : World) (S : Nat → Prop) (v : Value) (t : Tm) (h : TmD w S (d + 1) v t) (hsl : Slim (d + 1) t) (hS : ∀ x, S x → x < w.heap.size) :
    Calls Try.prog 13 #[v] w fun e w' => ∃ v', e = .returned v' ∧ TmD w' (Fresh w w') (d + 1) v' t ∧ Keeps (fun _ => False) w w' := by
  obtain ⟨vi, vr, vb, rfl, hf, hn, hi, hr, hb⟩ := h
  have HSL := Lib.hid hsl
  clear hsl
  have HI := Lib.hid hi
  have HR := Lib.hid hr
  have HB := Lib.hid hb
  have HIH := Lib.hid IH
  obtain ⟨ai, ci, rfl⟩ := hi.form
  obtain ⟨ar, cr, rfl⟩ := hr.form
  obtain ⟨ab, cb, rfl⟩ := hb.form
  unfold Tm.val
  clear hi hr hb IH
  go_enter Try.func13, Try.ntmps13
  go_wp2_with (first | (go_at_call 36; refine Stop.out ?_))
  refine ⟨(HIH.out _ S _ t.items (HI.out.keeps (T := fun _ => False) (by repeat (first | with_reducible exact Keeps.refl _ _ | with_reducible apply Keeps.drew | with_reducible apply Keeps.alloc)) fun _ _ h => h) HSL.out.1 HSL.out.2.2.1 (fun x hx => by have := hS x hx; simp; omega)).mono ?_⟩
  rintro e w2 ⟨v1, rfl, h1, hk1⟩
  have H1 := Lib.hid h1
  obtain ⟨a1, c1, rfl⟩ := h1.form
  have hb1 : Blk w2 w.heap.size 26 [.int .i64 t.kind, .int .i64 t.n, .string t.name, .slice ai t.items.length ci, .slice ar t.rest.length cr, .slice ab t.bytes.size cb] := ((Blk.new w _ _).alloc _).keeps hk1 fun h => h
  have hb2 : Blk w2 (w.heap.size + 1) 26 [.int .i64 0, .int .i64 0, .string ⟨#[]⟩, .slice none 0 0, .slice none 0 0, .slice none 0 0] := by
    refine Blk.keeps (S := fun _ => False) ?_ hk1 fun h => h
    have := Blk.new (w.alloc (.cells #[.int .i64 t.kind, .int .i64 t.n, .string t.name, .slice ai t.items.length ci, .slice ar t.rest.length cr, .slice ab t.bytes.size cb] 26)) [.int .i64 0, .int .i64 0, .string ⟨#[]⟩, .slice none 0 0, .slice none 0 0, .slice none 0 0] 26
    rwa [World.size_alloc] at this
  have hk2 : Keeps (fun _ => False) w w2 := (((Keeps.refl _ w).alloc _).alloc _).trans hk1 fun _ _ h => h
  have hsz : w.heap.size + 1 < w2.heap.size := hb2.lt
  have x3 : w2.cell? ⟨w.heap.size, 3, none⟩ = some (.slice ai t.items.length ci) := hb1.cell (i := 3) rfl
  have x4 : w2.cell? ⟨w.heap.size, 4, none⟩ = some (.slice ar t.rest.length cr) := hb1.cell (i := 4) rfl
  have y3 := hb1.free 3
  have y4 := hb1.free 4
  have HB1 := Lib.hid hb1
  have HB2 := Lib.hid hb2
  have HK2 := Lib.hid hk2
  clear h1 hk1 hb1 hb2 hk2
  go_wp2_with (first | (go_at_call 36; refine Stop.out ?_))
  have hk3 : Keeps (fun _ => False) w (w2.setCell ⟨w.heap.size, 3, none⟩ (.slice a1 t.items.length c1)) := HK2.out.setCell (by simp) _
  have hb3 := HB1.out.set 3 (.slice a1 t.items.length c1)
  have hb23 := HB2.out.set_other (a := ⟨w.heap.size, 3, none⟩) (by simp) (.slice a1 t.items.length c1)
  have HK3 := Lib.hid hk3
  have HB3 := Lib.hid hb3
  have HB23 := Lib.hid hb23
  have H13 := Lib.hid (H1.out.put (E' := fun b => w.heap.size + 2 ≤ b ∧ b < w2.heap.size) ⟨w.heap.size, 3, none⟩ (.slice a1 t.items.length c1) fun g hg => by
    have h1 := hg.1
    rw [World.size_alloc, World.size_alloc] at h1
    exact ⟨⟨h1, hg.2⟩, by show g ≠ w.heap.size; omega⟩)
  clear hk3 hb3 hb23
  refine ⟨(HIH.out _ S _ t.rest (HR.out.keeps HK3.out fun _ _ h => h) HSL.out.2.1 HSL.out.2.2.2 (fun x hx => by have := hS x hx; simp; omega)).mono ?_⟩
  rintro e w4 ⟨v2, rfl, h2, hk4⟩
  obtain ⟨a2, c2, rfl⟩ := h2.form
  have hs4 := hk4.size
  rw [World.size_setCell] at hs4
  have H2 := Lib.hid h2
  have HK4 := Lib.hid hk4
  have hb4 := HB3.out.keeps hk4 fun h => h
  have x5 : w4.cell? ⟨w.heap.size, 5, none⟩ = some (.slice ab t.bytes.size cb) := hb4.cell (i := 5) rfl
  have x4' : w4.cell? ⟨w.heap.size, 4, none⟩ = some (.slice ar t.rest.length cr) := hb4.cell (i := 4) rfl
  have y4' := hb4.free 4
  have y5 := hb4.free 5
  have hlt4 : w.heap.size < w4.heap.size := hb4.lt
  have HB4 := Lib.hid hb4
  clear h2 hk4 hb4 x3 x4 y3 y4 hsz
  go_wp2_with (first | (go_at_call 37; refine Stop.out ?_))
  have hk4 : Keeps (fun _ => False) w w4 := HK3.out.trans HK4.out fun _ _ h => h
  have hk5 : Keeps (fun _ => False) w (w4.setCell ⟨w.heap.size, 4, none⟩ (.slice a2 t.rest.length c2)) := hk4.setCell (by simp) _
  have HK5 := Lib.hid hk5
  have HB5 := Lib.hid (HB4.out.set 4 (.slice a2 t.rest.length c2))
  have HB25 := Lib.hid ((HB23.out.keeps HK4.out fun h => h).set_other (a := ⟨w.heap.size, 4, none⟩) (by simp) (.slice a2 t.rest.length c2))
  have H15 := Lib.hid ((H13.out.later HK4.out fun _ h => h).put (E' := fun b => w.heap.size + 2 ≤ b ∧ b < w4.heap.size) ⟨w.heap.size, 4, none⟩ (.slice a2 t.rest.length c2) fun g hg => by
    have h1 := hg.1
    have h2 := hg.2
    exact ⟨⟨h1, by omega⟩, by show g ≠ w.heap.size; omega⟩)
  have HS2 := HB2.out.lt
  have H25 := Lib.hid (H2.out.put (E' := fun b => w.heap.size + 2 ≤ b ∧ b < w4.heap.size) ⟨w.heap.size, 4, none⟩ (.slice a2 t.rest.length c2) fun g hg => by
    have h1 := hg.1
    have h2 := hg.2
    rw [World.size_setCell] at h1
    exact ⟨⟨by omega, h2⟩, by show g ≠ w.heap.size; omega⟩)
  clear hk4 hk5 x4' y4' x5 y5
  refine ⟨(copyBytes_any (HB.out.keeps HK5.out fun _ _ h => h)).mono ?_⟩
  rintro e w6 ⟨v3, rfl, h3, hk6⟩
  obtain ⟨a3, c3, rfl⟩ := h3.form
  have hs6 := hk6.size
  rw [World.size_setCell] at hs6
  have H3 := Lib.hid h3
  have HK6 := Lib.hid hk6
  have hb6 := HB5.out.keeps hk6 fun h => h
  have hb26 := HB25.out.keeps hk6 fun h => h
  have x0 : w6.cell? ⟨w.heap.size, 0, none⟩ = some (.int .i64 t.kind) := hb6.cell (i := 0) rfl
  have x1 : w6.cell? ⟨w.heap.size, 1, none⟩ = some (.int .i64 t.n) := hb6.cell (i := 1) rfl
  have x2 : w6.cell? ⟨w.heap.size, 2, none⟩ = some (.string t.name) := hb6.cell (i := 2) rfl
  have x3 : w6.cell? ⟨w.heap.size, 3, none⟩ = some (.slice a1 t.items.length c1) := hb6.cell (i := 3) rfl
  have x4 : w6.cell? ⟨w.heap.size, 4, none⟩ = some (.slice a2 t.rest.length c2) := hb6.cell (i := 4) rfl
  have x5 : w6.cell? ⟨w.heap.size, 5, none⟩ = some (.slice ab t.bytes.size cb) := hb6.cell (i := 5) rfl
  have y5 := hb6.free 5
  have hlt6 : w.heap.size + 1 < w6.heap.size := hb26.lt
  have z0 : w6.cell? ⟨w.heap.size + 1, 0, none⟩ = some (.int .i64 0) := hb26.cell (i := 0) rfl
  have z1 : w6.cell? ⟨w.heap.size + 1, 1, none⟩ = some (.int .i64 0) := hb26.cell (i := 1) rfl
  have z2 : w6.cell? ⟨w.heap.size + 1, 2, none⟩ = some (.string ⟨#[]⟩) := hb26.cell (i := 2) rfl
  have z3 : w6.cell? ⟨w.heap.size + 1, 3, none⟩ = some (.slice none 0 0) := hb26.cell (i := 3) rfl
  have z4 : w6.cell? ⟨w.heap.size + 1, 4, none⟩ = some (.slice none 0 0) := hb26.cell (i := 4) rfl
  have z5 : w6.cell? ⟨w.heap.size + 1, 5, none⟩ = some (.slice none 0 0) := hb26.cell (i := 5) rfl
  have q0 := hb26.free 0
  have q1 := hb26.free 1
  have q2 := hb26.free 2
  have q3 := hb26.free 3
  have q4 := hb26.free 4
  have q5 := hb26.free 5
  have HB6 := Lib.hid hb6
  have HB26 := Lib.hid hb26
  clear h3 hk6 hb6 hb26 hlt4
  go_wp2
  have h7 : Keeps (fun g => g = w.heap.size) w6 (w6.setCell ⟨w.heap.size, 5, none⟩ (.slice a3 t.bytes.size c3)) := Keeps.put w6 ⟨w.heap.size, 5, none⟩ _
  have hb7 := HB26.out.set_other (a := ⟨w.heap.size, 5, none⟩) (by simp) (.slice a3 t.bytes.size c3)
  have hb8 := Blk.six hb7 (.int .i64 t.kind) (.int .i64 t.n) (.string t.name) (.slice a1 t.items.length c1) (.slice a2 t.rest.length c2) (.slice a3 t.bytes.size c3)
  have h8 := Keeps.six (w6.setCell ⟨w.heap.size, 5, none⟩ (.slice a3 t.bytes.size c3)) (w.heap.size + 1) (.int .i64 t.kind) (.int .i64 t.n) (.string t.name) (.slice a1 t.items.length c1) (.slice a2 t.rest.length c2) (.slice a3 t.bytes.size c3)
  have h9 : Keeps (fun g => g = w.heap.size ∨ g = w.heap.size + 1) w6 _ := (h7.mono fun _ _ h => Or.inl h).trans h8 fun _ _ h => Or.inr h
  have hz9 := h9.size
  refine bodyPost_ret (results_cell1 rfl _ ⟨w.heap.size + 1, 0, none⟩ rfl _ (load_at hb8)) rfl ⟨_, rfl, ⟨_, _, _, rfl, hf, hn, ?_, ?_, ?_⟩, ((HK5.out.trans HK6.out fun _ _ h => h).trans h9 fun b hb h => by omega)⟩
  · refine RowD.laterN (H15.out.later HK6.out fun _ h => h) h9 fun g hg => ⟨⟨by have := hg.1; omega, by have := hg.2; omega⟩, by have := hg.1; omega⟩
  · refine RowD.laterN (H25.out.later HK6.out fun _ h => h) h9 fun g hg => ⟨⟨by have := hg.1; omega, by have := hg.2; omega⟩, by have := hg.1; omega⟩
  · refine BytesD.laterN H3.out h9 fun g hg => ?_
    have h1 := hg.1
    have h2 := hg.2
    rw [World.size_setCell] at h1
    exact ⟨⟨by omega, by omega⟩, by omega⟩
end Go.Proofs.Ytnmhodejffpblaa

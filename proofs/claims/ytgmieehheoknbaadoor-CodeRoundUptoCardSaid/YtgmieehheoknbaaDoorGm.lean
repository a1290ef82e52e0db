import Derived.Test.YtgmieehheoknbaaDoorGsb
import Derived.Test.YtgmieehheoknbaaDoorGl
import Derived.Deep.RegionLaw
section
/-
  code.Read: a module, as plain data; what is read lies in memory.
-/
namespace Go.Tx
open Go Go.RowKit
def pMagic : List UInt8 → List UInt8 → PR Unit
  | [], s => .ok ((), s)
  | _ :: _, [] => .error (0, [], 10)
  | c :: m, x :: s => if x.toNat = c.toNat then pMagic m s else .error (s.length + 1, [], 10)
/-- a literal: a term that may be -/
def pLit (F : Nat) (s : List UInt8) : PR Tm := PR.then (pTerm F s) fun t r => match rightTm t with
  | none => .ok (t, r)
  | some (c, k) => .error (s.length, c, k)
def pEnd (m : Md) : List UInt8 → PR Md
  | [] => .ok (m, [])
  | x :: r => .error (r.length + 1, [], 10)
/-- a module's bytes but for what is behind them -/
def pBody (F : Nat) (s : List UInt8) : PR Md := PR.then (pMagic magic s) fun _ r0 => PR.then (pText r0) fun nm r1 => PR.then (pCount r1) fun n r2 => PR.then (pMany (pLit F) n r2) fun ls r3 => PR.then (pCount r3) fun m r4 => PR.then (pMany pFn m r4) fun fs r5 => .ok ({ name := nm, lits := ls, funcs := fs }, r5)
def pMod (F : Nat) (s : List UInt8) : PR Md := PR.then (pBody F s) pEnd
theorem IsErr.form {w : World} {E : Nat → Prop} {v : Value} {l : List (ByteArray × Int)} {k : Int} (h : IsErr w E v l k) : ∃ t u, v = .iface t u := by
  cases l with
  | nil => exact ⟨_, _, h⟩
  | cons x l =>
    obtain ⟨op, n⟩ := x
    obtain ⟨b, u, e, _⟩ := h
    exact ⟨_, _, e⟩
/-- a module that is being read, in memory: its name and literals are there -/
structure MdM (T TM : TypeId) (w : World) (b gm : Nat) (nm : ByteArray) (vl vf : Value) (zs : List Value) (S : Nat → Prop) (l : List Tm) (wr : World) : Prop where
  f : Blk wr gm TM [.string nm, vl, vf]
  z : Blk wr w.heap.size TM zs
  ts : ∃ d, TsAt T wr S d vl l
  own : ∀ g, vl.ownBlock = some g → w.heap.size ≤ g ∧ g ≠ gm ∧ g ≠ w.heap.size ∧ g < wr.heap.size
  s : ∀ x, S x → w.heap.size ≤ x ∧ x ≠ gm ∧ x ≠ w.heap.size ∧ x < wr.heap.size
  fresh : w.heap.size < gm
  keeps : Keeps (fun y => y = b) w wr
theorem MdM.move {T TM : TypeId} {w wr w' : World} {b gm : Nat} {nm : ByteArray} {vl vf : Value} {zs : List Value} {S : Nat → Prop} {l : List Tm} (h : MdM T TM w b gm nm vl vf zs S l wr) (hb : b < w.heap.size) (k : Keeps (fun y => y = b) wr w') : MdM T TM w b gm nm vl vf zs S l w' := by
  obtain ⟨d, hd⟩ := h.ts
  have hz := k.size
  exact ⟨h.f.keeps k (by have := h.fresh; omega), h.z.keeps k (by omega), ⟨d, hd.keeps k (fun g hg e => by have := h.s g hg; omega) fun g hg e => by have := h.own g hg; omega⟩, fun g hg => by have := h.own g hg; omega, fun x hx => by have := h.s x hx; omega, h.fresh, h.keeps.trans k fun _ _ h => h⟩
theorem lit_next {T TM : TypeId} {w wr w2 W w4 : World} {b gm d d2 : Nat} {zs : List Value} {nm : ByteArray} {vl vl' vi vr vb : Value} {S : Nat → Prop} {l : List Tm} {t : Tm} {n : Nat} {ps : List (Tm × Value × Value × Value)} (h : MdM T TM w b gm nm vl (.slice none 0 0) zs S l wr) (hps : ps.map (·.1) = l) (hts : ∀ p ∈ ps, TmD wr S d (p.1.val p.2.1 p.2.2.1 p.2.2.2) p.1) (hown : ∀ g, vl.ownBlock = some g → ¬ S g)
    (hb : b < w.heap.size) (hk2 : Keeps (fun y => y = b) wr w2) (ht : TmD w2 (Fresh wr w2) d2 (t.val vi vr vb) t) (hkW : Keeps (fun _ => False) w2 W) (ha : Appended W w4 T 6 vl vl' n (rowCells ps ++ tcells (t, vi, vr, vb))) (hn : n = l.length + 1) :
    MdM T TM w b gm nm vl' (.slice none 0 0) zs (fun x => S x ∨ Fresh wr w2 x) (l ++ [t]) (w4.setCell ⟨gm, 1, none⟩ vl') := by
  subst hn
  have K1 : Keeps (fun y => y = b) wr W := hk2.trans hkW fun _ _ h => h.elim
  have hm := h.move hb K1
  have hwr : wr.heap.size ≤ w2.heap.size := hk2.size
  have hW : w2.heap.size ≤ W.heap.size := hkW.size
  have h4 : W.heap.size ≤ w4.heap.size := ha.keeps.size
  have hgm : gm < wr.heap.size := h.f.lt
  have hzm : w.heap.size < wr.heap.size := h.z.lt
  have hfr := h.fresh
  have hnl : ∀ g, vl'.ownBlock = some g → (vl.ownBlock = some g ∨ g = W.heap.size) := fun g hg => by
    rcases ha.own with e | ⟨e, _⟩
    · exact .inl (by rw [← e]; exact hg)
    · exact .inr (Option.some.inj (e.symm.trans hg)).symm
  have hng : ¬ vl'.ownBlock = some gm := fun e => by
    rcases hnl gm e with e | e
    · exact (h.own gm e).2.1 rfl
    · omega
  have hsgm : ∀ x, S x → ¬ x = gm := fun x hx => (h.s x hx).2.1
  have hlen : (l ++ [t]).length = l.length + 1 := by simp
  refine ⟨(hm.f.keeps ha.keeps fun e => (h.own gm e).2.1 rfl).set 1 vl', (hm.z.keeps ha.keeps fun e => (h.own _ e).2.2.1 rfl).set_other (by show w.heap.size ≠ gm; omega) _, ⟨max d d2, ps ++ [(t, vi, vr, vb)], by rw [List.map_append, hps]; rfl, ?_, ?_, ?_⟩, ?_, ?_, hfr, ?_⟩
  · rw [hlen, rowCells_snoc]
    exact Row.setCell_other ha.row hng _
  · have kp : Keeps (fun x => x = gm) w4 (w4.setCell ⟨gm, 1, none⟩ vl') := Keeps.put w4 ⟨gm, 1, none⟩ _
    intro p hp
    rcases List.mem_append.1 hp with hp | hp
    · have h1 := (((hts p hp).keeps K1 fun x hx e => by have := h.s x hx; omega).keeps ha.keeps fun x hx e => hown x e hx).keeps kp hsgm
      exact (h1.deep (Nat.le_max_left ..)).mono (fun _ h => .inl h) fun _ _ _ _ h => h
    · simp only [List.mem_singleton] at hp
      subst hp
      have h1 := ((ht.keeps hkW fun _ _ h => h).keeps ha.keeps fun x hx e => by have := (h.own x e).2.2.2; have := hx.1; omega).keeps kp fun x hx e => by have := hx.1; omega
      exact (h1.deep (Nat.le_max_right ..)).mono (fun _ h => .inr h) fun _ _ _ _ h => h
  · intro g hg
    rcases hnl g hg with e | e
    · rintro (e2 | e2)
      · exact hown g e e2
      · have := (h.own g e).2.2.2; have := e2.1; omega
    · rintro (e2 | e2)
      · have := h.s g e2; omega
      · have := e2.2; omega
  · intro g hg
    rw [World.size_setCell]
    have h9 := ha.row.lt hg
    rcases hnl g hg with e | e
    · have := h.own g e; omega
    · omega
  · intro x hx
    rw [World.size_setCell]
    rcases hx with hx | hx
    · have := h.s x hx; omega
    · have := hx.1; have := hx.2; omega
  · exact ((h.keeps.trans K1 fun _ _ h => h).trans ha.keeps fun x hx e => by have := h.own x e; omega).setCell (fun e => by have e2 : gm < w.heap.size := e; omega) _
/-- so many literals are read -/
def LitAt (T TM : TypeId) (w : World) (b : Nat) (v : Value) (s : List UInt8) (nm : ByteArray) (n0 p0 gm F : Nat) (zs : List Value) (n : Value) (wr : World) : Prop :=
  ∃ (l : List Tm) (vl : Value) (S : Nat → Prop) (n' p : Nat), n = .int .i64 n' ∧ l.length + n' = n0 ∧ MdM T TM w b gm nm vl (.slice none 0 0) zs S l wr ∧ RdAt wr b v s p ∧ pMany (pLit F) n0 (s.drop p0) = manyGo (pLit F) l n' (s.drop p)
/-- .. its functions, too -/
structure MdF (T TM TF : TypeId) (w : World) (b gm : Nat) (nm : ByteArray) (vl vf : Value) (zs : List Value) (S : Nat → Prop) (l : List Tm) (fs : List Fnc) (wr : World) : Prop where
  f : Blk wr gm TM [.string nm, vl, vf]
  z : Blk wr w.heap.size TM zs
  ls : ∃ d, RowD wr S (TmD wr S d) vl l
  fs : ∃ qs : List (Fnc × Value), qs.map (·.1) = fs ∧ Row wr TF 4 vf fs.length (fnRow qs) ∧ ∀ q ∈ qs, q.1.fine ∧ InsD wr S q.2 q.1.code
  own : ∀ g, vf.ownBlock = some g → ¬ S g ∧ w.heap.size ≤ g ∧ g ≠ gm ∧ g ≠ w.heap.size ∧ g < wr.heap.size
  s : ∀ x, S x → w.heap.size ≤ x ∧ x ≠ gm ∧ x ≠ w.heap.size ∧ x < wr.heap.size
  fresh : w.heap.size < gm
  keeps : Keeps (fun y => y = b) w wr
theorem MdF.move {T TM TF : TypeId} {w wr w' : World} {b gm : Nat} {nm : ByteArray} {vl vf : Value} {zs : List Value} {S : Nat → Prop} {l : List Tm} {fs : List Fnc} (h : MdF T TM TF w b gm nm vl vf zs S l fs wr) (hb : b < w.heap.size) (k : Keeps (fun y => y = b) wr w') : MdF T TM TF w b gm nm vl vf zs S l fs w' := by
  obtain ⟨d, hd⟩ := h.ls
  obtain ⟨qs, h1, h2, h3⟩ := h.fs
  have hz := k.size
  have hS : ∀ x, S x → ¬ x = b := fun x hx e => by have := h.s x hx; omega
  exact ⟨h.f.keeps k (by have := h.fresh; omega), h.z.keeps k (by omega), ⟨d, hd.keeps k hS⟩, ⟨qs, h1, h2.keeps k fun g hg e => by have := h.own g hg; omega, fun q hq => ⟨(h3 q hq).1, (h3 q hq).2.keeps k hS⟩⟩, fun g hg => ⟨(h.own g hg).1, by have := h.own g hg; omega⟩, fun x hx => by have := h.s x hx; omega, h.fresh, h.keeps.trans k fun _ _ h => h⟩
/-- the literals are whole -/
theorem MdM.whole {T TM TF : TypeId} {w wr : World} {b gm : Nat} {nm : ByteArray} {vl : Value} {zs : List Value} {S : Nat → Prop} {l : List Tm} (h : MdM T TM w b gm nm vl (.slice none 0 0) zs S l wr) (hl : l.length ≤ 140737488355328) : MdF T TM TF w b gm nm vl (.slice none 0 0) zs (fun x => S x ∨ vl.ownBlock = some x) l [] wr := by
  obtain ⟨d, hd⟩ := h.ts
  refine ⟨h.f, h.z, ⟨d, hd.done hl (fun _ h => .inl h) fun _ h => .inr h⟩, ⟨[], rfl, World.ownsRow_nil _ _ _ _, fun q hq => by simp at hq⟩, fun g hg => by simp [Value.ownBlock] at hg, fun x hx => ?_, h.fresh, h.keeps⟩
  rcases hx with hx | hx
  · exact h.s x hx
  · exact h.own x hx
theorem fnc_next {T TM TF : TypeId} {w wr w2 W w4 : World} {b gm : Nat} {zs : List Value} {nm : ByteArray} {vl vf vf' vc : Value} {S : Nat → Prop} {l : List Tm} {fs : List Fnc} {f : Fnc} {n : Nat} {qs : List (Fnc × Value)} (h : MdF T TM TF w b gm nm vl vf zs S l fs wr) (hqs : qs.map (·.1) = fs) (hts : ∀ q ∈ qs, q.1.fine ∧ InsD wr S q.2 q.1.code)
    (hb : b < w.heap.size) (hk2 : Keeps (fun y => y = b) wr w2) (hf : f.fine) (hi : InsD w2 (Fresh wr w2) vc f.code) (hkW : Keeps (fun _ => False) w2 W) (ha : Appended W w4 TF 4 vf vf' n (fnRow qs ++ fcells (f, vc))) (hn : n = fs.length + 1) :
    MdF T TM TF w b gm nm vl vf' zs (fun x => S x ∨ Fresh wr w2 x) l (fs ++ [f]) (w4.setCell ⟨gm, 2, none⟩ vf') := by
  subst hn
  have K1 : Keeps (fun y => y = b) wr W := hk2.trans hkW fun _ _ h => h.elim
  have hm := h.move hb K1
  have hwr : wr.heap.size ≤ w2.heap.size := hk2.size
  have hW : w2.heap.size ≤ W.heap.size := hkW.size
  have h4 : W.heap.size ≤ w4.heap.size := ha.keeps.size
  have hgm : gm < wr.heap.size := h.f.lt
  have hzm : w.heap.size < wr.heap.size := h.z.lt
  have hfr := h.fresh
  obtain ⟨d, hd⟩ := hm.ls
  have hnl : ∀ g, vf'.ownBlock = some g → (vf.ownBlock = some g ∨ g = W.heap.size) := fun g hg => by
    rcases ha.own with e | ⟨e, _⟩
    · exact .inl (by rw [← e]; exact hg)
    · exact .inr (Option.some.inj (e.symm.trans hg)).symm
  have hng : ¬ vf'.ownBlock = some gm := fun e => by
    rcases hnl gm e with e | e
    · exact (h.own gm e).2.2.1 rfl
    · omega
  have hsgm : ∀ x, S x → ¬ x = gm := fun x hx => (h.s x hx).2.1
  have hSo : ∀ x, S x → ¬ Own vf x := fun x hx e => (h.own x e).1 hx
  have hlen : (fs ++ [f]).length = fs.length + 1 := by simp
  have kp : Keeps (fun x => x = gm) w4 (w4.setCell ⟨gm, 2, none⟩ vf') := Keeps.put w4 ⟨gm, 2, none⟩ _
  refine ⟨(hm.f.keeps ha.keeps fun e => (h.own gm e).2.2.1 rfl).set 2 vf', (hm.z.keeps ha.keeps fun e => (h.own _ e).2.2.2.1 rfl).set_other (by show w.heap.size ≠ gm; omega) _, ⟨d, ((hd.keeps ha.keeps hSo).keeps kp hsgm).wide fun _ h => .inl h⟩, ⟨qs ++ [(f, vc)], by rw [List.map_append, hqs]; rfl, ?_, ?_⟩, ?_, ?_, hfr, ?_⟩
  · have e1 : fnRow (qs ++ [(f, vc)]) = fnRow qs ++ fcells (f, vc) := by simp [fnRow]
    rw [hlen, e1]
    exact Row.setCell_other ha.row hng _
  · intro q hq
    rcases List.mem_append.1 hq with hq | hq
    · have h1 := (((hts q hq).2.keeps K1 fun x hx e => by have := h.s x hx; omega).keeps ha.keeps hSo).keeps kp hsgm
      exact ⟨(hts q hq).1, h1.mono (fun _ h => .inl h) fun _ _ _ _ h => h⟩
    · simp only [List.mem_singleton] at hq
      subst hq
      have h1 := ((hi.keeps hkW fun _ _ h => h).keeps ha.keeps fun x hx e => by have := (h.own x e).2.2.2.2; have := hx.1; omega).keeps kp fun x hx e => by have := hx.1; omega
      exact ⟨hf, h1.mono (fun _ h => .inr h) fun _ _ _ _ h => h⟩
  · intro g hg
    rw [World.size_setCell]
    have h9 := ha.row.lt hg
    rcases hnl g hg with e | e
    · have h8 := h.own g e
      refine ⟨?_, by omega⟩
      rintro (e2 | e2)
      · exact h8.1 e2
      · have := e2.1; omega
    · refine ⟨?_, by omega⟩
      rintro (e2 | e2)
      · have := h.s g e2; omega
      · have := e2.2; omega
  · intro x hx
    rw [World.size_setCell]
    rcases hx with hx | hx
    · have := h.s x hx; omega
    · have := hx.1; have := hx.2; omega
  · exact ((h.keeps.trans K1 fun _ _ h => h).trans ha.keeps fun x hx e => by have := h.own x e; omega).setCell (fun e => by have e2 : gm < w.heap.size := e; omega) _
def FncAt (T TM TF : TypeId) (w : World) (b : Nat) (v : Value) (s : List UInt8) (nm : ByteArray) (vl : Value) (l : List Tm) (n0 p0 gm : Nat) (zs : List Value) (n : Value) (wr : World) : Prop :=
  ∃ (fs : List Fnc) (vf : Value) (S : Nat → Prop) (n' p : Nat), n = .int .i64 n' ∧ fs.length + n' = n0 ∧ MdF T TM TF w b gm nm vl vf zs S l fs wr ∧ RdAt wr b v s p ∧ pMany pFn n0 (s.drop p0) = manyGo pFn fs n' (s.drop p)
/-- functions as a slice -/
theorem fns_row {w : World} {T : TypeId} {S : Nat → Prop} {v : Value} {fs : List Fnc} {qs : List (Fnc × Value)} (hqs : qs.map (·.1) = fs) (h : Row w T 4 v fs.length (fnRow qs)) (hb : fs.length ≤ 1099511627776) (hi : ∀ q ∈ qs, q.1.fine ∧ InsD w S q.2 q.1.code) (ho : ∀ g, v.ownBlock = some g → S g) : FnsD w S v fs := by
  obtain ⟨a, cap, rfl, h1, h2⟩ := h.len
  refine ⟨hb, a, cap, rfl, h1, h2, fun i f hf => ?_⟩
  have hil : i < fs.length := (List.getElem?_eq_some_iff.1 hf).1
  obtain ⟨g, c2, e, _, _⟩ := h.form (by omega)
  cases e
  have hlen : qs.length = fs.length := by rw [← hqs, List.length_map]
  obtain ⟨q, hq⟩ : ∃ q, qs[i]? = some q := ⟨qs[i], by simp⟩
  have hqf : q.1 = f := by
    have h := hf
    rw [← hqs, List.getElem?_map, hq] at h
    simpa using h
  subst hqf
  have hc : ∀ j u, (fcells q)[j]? = some u → w.cell? ⟨g, 0 + i * 4 + j, none⟩ = some u := fun j u hu => by
    rw [Nat.zero_add]
    exact h.cell3 (four_get (fun _ => rfl) qs i q hq j u hu)
  exact ⟨(hi q (List.mem_of_getElem? hq)).1, g, 0, q.2, rfl, ho g rfl, ⟨hc 0 _ rfl, hc 1 _ rfl, hc 2 _ rfl, hc 3 _ rfl⟩, (hi q (List.mem_of_getElem? hq)).2⟩
def MdR (w : World) (m : Md) (u : Value) (w' : World) : Prop := ∃ d, MdD w' (Fresh w w') d u m
theorem mod_done {T TM TF : TypeId} {w wr w' : World} {b gm : Nat} {zs : List Value} {nm : ByteArray} {vl vf : Value} {S : Nat → Prop} {l : List Tm} {fs : List Fnc} (h : MdF T TM TF w b gm nm vl vf zs S l fs wr) (hnm : nm.size ≤ 1099511627776) (hfs : fs.length ≤ 1099511627776) (hk : Keeps (fun g => g = w.heap.size) wr w') :
    MdR w { name := nm, lits := l, funcs := fs } (.agg #[.string nm, vl, vf]) w' := by
  obtain ⟨d, hd⟩ := h.ls
  obtain ⟨qs, h1, h2, h3⟩ := h.fs
  have hS : ∀ x, S x → ¬ x = w.heap.size := fun x hx => (h.s x hx).2.2.1
  have hF : ∀ x, S x → Fresh w w' x := fun x hx => ⟨(h.s x hx).1, Nat.lt_of_lt_of_le (h.s x hx).2.2.2 hk.size⟩
  exact ⟨d, vl, vf, rfl, hnm, (hd.keeps hk hS).wide hF, fns_row h1 (h2.keeps hk fun g hg => (h.own g hg).2.2.2.1) hfs (fun q hq => ⟨(h3 q hq).1, ((h3 q hq).2.keeps hk hS).mono hF fun _ _ _ _ h => h⟩) fun g hg => ⟨(h.own g hg).2.1, Nat.lt_of_lt_of_le (h.own g hg).2.2.2.2 hk.size⟩⟩
end Go.Tx
namespace Go.Proofs.YtgmieehheoknbaaDoor
open Go.RowKit Go.Tx
set_option maxHeartbeats 400000 in
theorem fail_any {w0 w : World} (b : Nat) (p : Nat) (c : List (ByteArray × Int)) (k : Int) (r E : Value) (hk : Keeps (fun y => y = b) w0 w) (hE : IsErr w (Fresh w0 w) E c k) :
    Calls Tryd.prog 38 #[r, .int .i64 p, E] w (GaveUp w0 b p c k) := by
  obtain ⟨t, u, rfl⟩ := hE.form
  have HE := Lib.hid hE
  clear hE
  go_enter Tryd.func38, Tryd.ntmps38
  go_wp2_with (go_at_call 19; refine (at_any _ _ _ _ _).mono ?_; rintro e w1 ⟨rfl, rfl⟩)
  refine ⟨rfl, _, rfl, (isErr_new w _ _ _ c k _ HE.out).mono fun g hg => ?_, hk.alloc _⟩
  have := hk.size
  rcases hg with rfl | hg
  · exact ⟨this, by rw [World.size_alloc]; omega⟩
  · exact ⟨hg.1, by rw [World.size_alloc]; have := hg.2; omega⟩
end Go.Proofs.YtgmieehheoknbaaDoor
end
section
/-
  code.Read: a module.
-/
namespace Go.Tx
open Go Go.RowKit
/-- so much of the magic is read -/
def MagAt (T : TypeId) (w : World) (b : Nat) (v : Value) (s : List UInt8) (zs : List Value) (i : Value) (wr : World) : Prop :=
  ∃ j : Nat, i = .int .i64 j ∧ j ≤ 4 ∧ RdAt wr b v s j ∧ Blk wr w.heap.size T zs ∧ Keeps (fun y => y = b) w wr ∧ pMagic magic s = pMagic (magic.drop j) (s.drop j)
/-- a call of a function as one step of a region that draws its order -/
theorem step_call {P : Program} {w : World} {ops : Array Oper} {o : Oper} {a : Act} {K : Act → World → Prop} {Q : Exit → Act → World → Prop} {E : Prop} (hgd : o.guard = none) (f : FuncId) (x : Operand) (t : TypeId) (ho : o.op = .call { callee := .value (.func f), args := #[x], argTypes := #[t] })
    (fn : Func) (hf : P.funcs[f]? = some fn) (hname : (fn.name == "runtime.NumGoroutine") = false) (hbody : fn.body.isNone = false)
    (v : Value) (hx : a.eval x = v) (h : Calls P f #[v] w fun e w' => match e, w' with | .returned u, w'' => K (a.put o.dst u) w'' | .panicked c, w'' => Q (.panic c) a w'' | .outgrown, _ => LetsOut Q) :
    if Region.wanted o (yielded ops a.tmps) = true then Oper.wp P o a w K Q else E := by
  rw [if_pos (by simp [Region.wanted, hgd])]
  unfold Oper.wp execOp
  simp only [ho, resolve, Sem.run_bind, Sem.run_pure, Result.andThen_ok, List.map_toArray, List.map_cons, List.map_nil, hx]
  have hd : (Deferred.ofValue (a.eval (Operand.func f)) #[v]).run P w = .ok { target := .fn (.func f) #[], args := #[v] } w := by
    simp [Act.eval, Deferred.ofValue]
  have hc : (callFunc f (#[v] ++ #[])).run P w = .ok (.enter f (#[v] ++ #[])) w := by
    have h1 : ¬ fn.name = "runtime.NumGoroutine" := by simpa using hname
    have h2 : ¬ fn.body = none := fun e => by rw [e] at hbody; cases hbody
    simp [callFunc, hf, h1, h2]
  rw [hd]
  simp only [Result.andThen_ok, invoke, Oper.upon, hc]
  exact h
def pByte : List UInt8 → PR UInt8
  | [] => .error (0, [], 10)
  | x :: r => .ok (x, r)
theorem magic_next {s r : List UInt8} {x : UInt8} (h : pByte s = .ok (x, r)) : s = x :: r := by
  cases s with
  | nil => cases h
  | cons y s => cases h; rfl
theorem next_place {s : List UInt8} {j p : Nat} {x : UInt8} (h : pByte (s.drop j) = .ok (x, s.drop p)) (hp : p ≤ s.length) : p = j + 1 := by
  have h1 := congrArg List.length (magic_next h)
  rw [List.length_cons, List.length_drop, List.length_drop] at h1
  omega
theorem magic_none {c : UInt8} {m s : List UInt8} {e : PErr} (h : pByte s = .error e) : pMagic (c :: m) s = .error e := by
  cases s with
  | nil => cases h; rfl
  | cons y s => cases h
theorem pMod_magic {F : Nat} {s : List UInt8} {e : PErr} (h : pMagic magic s = .error e) : pMod F s = .error e := by
  unfold pMod pBody
  rw [h]
  rfl
theorem pMod_head {F : Nat} {s r0 : List UInt8} (h : pMagic magic s = .ok ((), r0)) : pMod F s = PR.then (pText r0) fun nm r1 => PR.then (pCount r1) fun n r2 => PR.then (pMany (pLit F) n r2) fun ls r3 => PR.then (pCount r3) fun m r4 => PR.then (pMany pFn m r4) fun fs r5 => pEnd { name := nm, lits := ls, funcs := fs } r5 := by
  unfold pMod pBody
  rw [h]
  simp only [then_then, then_ok]
theorem pLit_error {F : Nat} {s : List UInt8} {e : PErr} (h : pTerm F s = .error e) : pLit F s = .error e := by
  unfold pLit
  rw [h]
  rfl
theorem pLit_wrong {F : Nat} {s r : List UInt8} {t : Tm} {c : List (ByteArray × Int)} {k : Int} (h : pTerm F s = .ok (t, r)) (ht : rightTm t = some (c, k)) : pLit F s = .error (s.length, c, k) := by
  unfold pLit
  rw [h, then_ok, ht]
theorem pLit_ok {F : Nat} {s r : List UInt8} {t : Tm} (h : pTerm F s = .ok (t, r)) (ht : rightTm t = none) : pLit F s = .ok (t, r) := by
  unfold pLit
  rw [h, then_ok, ht]
theorem lt_alloc9 {w : World} {o : Obj} {g : Nat} (h : (w.alloc o).heap.size ≤ g) : w.heap.size < g := by rw [World.size_alloc] at h; omega
theorem lt_alloc2 {w : World} {o : Obj} {x : Nat} (h : x < w.heap.size) : x < (w.alloc o).heap.size := by rw [World.size_alloc]; omega
theorem app_bytes2 {n : Nat} (h : n + 1 ≤ 1099511627776) : (n + 1) * 104 ≤ 140737488355328 := by omega
theorem pEnd_more {m : Md} {s : List UInt8} {p : Nat} (h : p < s.length) : pEnd m (s.drop p) = .error (s.length - p, [], 10) := by
  have e : (s.drop p).length = s.length - p := List.length_drop
  cases hd : s.drop p with
  | nil => rw [hd] at e; simp at e; omega
  | cons x r => rw [hd] at e; simp only [pEnd, ← e, List.length_cons]
theorem place_left {s : List UInt8} {p : Nat} (h : p < s.length) : p = s.length - (s.length - p) := by omega
theorem app_bytes3 {n : Nat} (h : n + 1 ≤ 1099511627776) : (n + 1) * 56 ≤ 140737488355328 := by omega
theorem Blk.three {w : World} {b : Nat} {T : TypeId} {z0 z1 z2 : Value} (h : Blk w b T [z0, z1, z2]) (v0 v1 v2 : Value) : Blk (((w.setCell ⟨b, 0, none⟩ v0).setCell ⟨b, 1, none⟩ v1).setCell ⟨b, 2, none⟩ v2) b T [v0, v1, v2] :=
  ((h.set 0 v0).set 1 v1).set 2 v2
theorem Keeps.three (w : World) (b : Nat) (v0 v1 v2 : Value) : Keeps (fun g => g = b) w (((w.setCell ⟨b, 0, none⟩ v0).setCell ⟨b, 1, none⟩ v1).setCell ⟨b, 2, none⟩ v2) :=
  Keeps.setCell (S := fun g => g = b) (Keeps.setCell (S := fun g => g = b) (Keeps.setCell (S := fun g => g = b) (Keeps.refl _ w) (fun _ => rfl) _) (fun _ => rfl) _) (fun _ => rfl) _
theorem fnc_facts {T TM TF : TypeId} {w wr w5 : World} {b gm : Nat} {nm : ByteArray} {vl vf : Value} {zs : List Value} {S : Nat → Prop} {l : List Tm} {fs : List Fnc} {qs : List (Fnc × Value)} (h : MdF T TM TF w b gm nm vl vf zs S l fs wr) (hb : b < w.heap.size) (hrow : Row wr TF 4 vf fs.length (fnRow qs)) (hk : Keeps (fun y => y = b) wr.drew w5) (o : Obj) :
    (w5.cell? ⟨gm, 2, none⟩ = some vf ∧ (w5.alloc o).cell? ⟨gm, 2, none⟩ = some vf ∧ gm < w5.heap.size) ∧ Row (w5.alloc o) TF 4 vf fs.length (fnRow qs) ∧ ∀ w9 v9 n xs, Appended (w5.alloc o) w9 TF 4 vf v9 n xs → w9.cell? ⟨gm, 2, none⟩ = some vf ∧ w9.frozen? ⟨gm, 2, none⟩ = false := by
  have hm := h.move hb hk.of_drew
  refine ⟨⟨hm.f.cell (i := 2) rfl, (hm.f.alloc o).cell (i := 2) rfl, hm.f.lt⟩, (hrow.keeps hk.of_drew fun g hg => Nat.ne_of_gt (Nat.lt_of_lt_of_le hb (h.own g hg).2.1)).keeps ((Keeps.refl (fun _ => False) w5).alloc _) fun _ _ h => h, fun w9 v9 n xs ha => ?_⟩
  have hb9 := (hm.f.alloc o).keeps ha.keeps fun e => (h.own _ e).2.2.1 rfl
  exact ⟨hb9.cell (i := 2) rfl, hb9.free 2⟩
theorem rd_fnc {T TM TF : TypeId} {w wr w5 w9 : World} {b gm p n : Nat} {nm : ByteArray} {v vl vf v9 : Value} {zs xs : List Value} {S : Nat → Prop} {l : List Tm} {fs : List Fnc} {s : List UInt8} {o : Obj} (hr : RdAt w5 b v s p) (h : MdF T TM TF w b gm nm vl vf zs S l fs wr) (hb : b < w.heap.size) (hv : ∀ x, v.ownBlock = some x → x < w.heap.size) (ha : Appended (w5.alloc o) w9 TF 4 vf v9 n xs) :
    RdAt (w9.setCell ⟨gm, 2, none⟩ v9) b v s p := by
  have h1 : RdAt (w5.alloc o) b v s p := hr.keeps ((Keeps.refl (fun _ => False) w5).alloc _) (fun h => h) fun _ _ h => h
  have h2 := h1.keeps ha.keeps (fun e => by have := h.own b e; omega) fun x hx e => by have := h.own x e; have := hv x hx; omega
  have hf := h.fresh
  exact h2.keeps (Keeps.put w9 ⟨gm, 2, none⟩ _) (by show ¬ b = gm; omega) fun x hx => by have := hv x hx; show ¬ x = gm; omega
theorem rplace_at {s : List UInt8} {p : Nat} (h : p ≤ s.length) : p = s.length - (s.drop p).length := by rw [List.length_drop]; omega
theorem lt_keeps {w w' : World} {v : Value} {S : Nat → Prop} (h : ∀ x, v.ownBlock = some x → x < w.heap.size) (k : Keeps S w w') : ∀ x, v.ownBlock = some x → x < w'.heap.size := fun x hx => Nat.lt_of_lt_of_le (h x hx) k.size
theorem magic_bad {c : UInt8} {m s : List UInt8} {x : UInt8} (h : ¬ x.toNat = c.toNat) : pMagic (c :: m) (x :: s) = .error (s.length + 1, [], 10) := by
  simp only [pMagic, if_neg h]
theorem magic_good {c : UInt8} {m s : List UInt8} {x : UInt8} (h : x.toNat = c.toNat) : pMagic (c :: m) (x :: s) = pMagic m s := by
  simp only [pMagic, if_pos h]
theorem left_at {s : List UInt8} {j : Nat} (h : j < s.length) : j = s.length - ((s.drop (j + 1)).length + 1) := by rw [List.length_drop]; omega
theorem RdAt.drew {w : World} {b : Nat} {v : Value} {s : List UInt8} {p : Nat} (h : RdAt w b v s p) : RdAt w.drew b v s p := h.keeps (Keeps.refl (fun _ => False) w).drew (fun h => h) fun _ _ h => h
end Go.Tx
namespace Go.Proofs.YtgmieehheoknbaaDoor
open Go.RowKit Go.Tx
theorem byte_any {w : World} {b : Nat} {v : Value} {s : List UInt8} {p : Nat} (h : RdAt w b v s p) : Calls Tryd.prog 37 #[.pointer (some ⟨b, 0, none⟩)] w (RdPost w b v s (pByte (s.drop p)) fun x u => u = .int .u8 (x.toNat : Int)) := by
  cases hx : s[p]? with
  | none =>
    have hq : p = s.length := Nat.le_antisymm h.2.2.1 (List.getElem?_eq_none_iff.1 hx)
    refine (byte_none h hq).mono ?_
    intro e w2 hg
    exact gave (l := 0) (by rw [hq, List.drop_length]; rfl) (by omega) hg
  | some x =>
    refine (byte_some h hx).mono ?_
    rintro e w2 ⟨rfl, hr, hk⟩
    exact done (by rw [rdrop_cons hx]; rfl) rfl rfl hr hk
abbrev zeroM : List Value := [.string ⟨#[]⟩, .slice none 0 0, .slice none 0 0]
set_option maxRecDepth 100000 in
set_option maxHeartbeats 1600000 in
theorem rmodule_any {w : World} {b : Nat} {v : Value} {s : List UInt8} (h : RdAt w b v s 0) (hv : ∀ x, v.ownBlock = some x → x < w.heap.size) (hN : s.length ≤ 1099511627776) :
    Calls Tryd.prog 26 #[.pointer (some ⟨b, 0, none⟩)] w (RdPostW w b v s (pMod (s.length + 1) s) (MdR w)) := by
  have H := Lib.hid h
  have HV := Lib.hid hv
  have HN := Lib.hid hN
  have hbl : b < w.heap.size := h.1.lt
  clear h hv hN
  go_enter Tryd.func26, Tryd.ntmps26
  go_wp2
  go_loopw [10] (fun i wr => MagAt 25 w b v s zeroM i wr) (fun i _ => 4 - (intOf i).toNat)
  case atStart => exact ⟨0, rfl, by decide, H.out.keeps ((Keeps.refl (fun _ => False) w).alloc _) (fun h => h) fun _ _ h => h, Blk.new w zeroM _, (Keeps.refl _ w).alloc _, rfl⟩
  case round =>
    obtain ⟨j, rfl, hj, hr, hz, hk, hm⟩ := hrel
    have HR := Lib.hid hr
    have HZ := Lib.hid hz
    have HK := Lib.hid hk
    have HM := Lib.hid hm
    have hc : j = 4 ∨ j = 0 ∨ j = 1 ∨ j = 2 ∨ j = 3 := by omega
    clear hr hz hk hm hj
    rcases hc with rfl | rfl | rfl | rfl | rfl
    · have HHEAD := Lib.hid (pMod_head (F := s.length + 1) HM.out)
      go_wp2_with (first | (go_at_call 39; refine Stop.out ?_))
      refine ⟨(rtext_any HR.out).mono ?_⟩
      intro e w1 hr
      rcases hr.split with ⟨l, c, k, E, hb, rfl, hg⟩ | ⟨nm, u, p1, hb, rfl, rfl, hr1, hk1⟩
      · exact ⟨rfl, gaveW (by rw [HHEAD.out, hb]; rfl) rfl (hg.ahead HK.out)⟩
      have hwl : w.heap.size < w1.heap.size := Nat.lt_of_lt_of_le HZ.out.lt hk1.size
      have HM1 : Hid (MdM 46 25 w b w1.heap.size nm (.slice none 0 0) (.slice none 0 0) zeroM (fun _ => False) [] (w1.alloc (.cells #[.string nm, .slice none 0 0, .slice none 0 0] 25))) := Lib.hid ⟨Blk.new w1 _ _, (HZ.out.keeps hk1 (Nat.ne_of_gt hbl)).alloc _, ⟨0, TsAt.nil _ _ _ _⟩, fun g hg => by simp [Value.ownBlock] at hg, fun x hx => hx.elim, hwl, (HK.out.trans hk1 fun _ _ h => h).alloc _⟩
      have HR1 : Hid (RdAt (w1.alloc (.cells #[.string nm, .slice none 0 0, .slice none 0 0] 25)) b v s p1) := Lib.hid (hr1.keeps ((Keeps.refl (fun _ => False) w1).alloc _) (fun h => h) fun _ _ h => h)
      have HB1 := Lib.hid (HHEAD.out.trans (by rw [hb, Go.Tx.then_ok]))
      have HNM := Lib.hid (pText_back hb).2
      clear hr1 hk1 hb hr hwl HHEAD HR HZ HK HM H
      go_wp2_with (first | (go_at_call 40; refine Stop.out ?_))
      refine ⟨(rcount_any HR1.out).mono ?_⟩
      intro e w2 hr
      rcases hr.split with ⟨l, c, k, E, hb, rfl, hg⟩ | ⟨n0, u, p2, hb, rfl, ⟨rfl, hn0⟩, hr2, hk2⟩
      · exact ⟨rfl, gaveW (by rw [HB1.out, hb]; rfl) rfl (hg.ahead HM1.out.keeps)⟩
      have HM2 := Lib.hid (HM1.out.move hbl hk2)
      have HR2 := Lib.hid hr2
      have HB2 := Lib.hid (HB1.out.trans (by rw [hb, Go.Tx.then_ok]))
      have HN0 := Lib.hid hn0
      clear hr2 hk2 hb hr hn0 HM1 HR1 HB1
      go_wp2
      obtain ⟨wo, rfl⟩ : ∃ wo : World, wo = wr := ⟨_, rfl⟩
      go_loopw [5] (fun n wr => LitAt 46 25 w b v s nm n0 p2 w1.heap.size (s.length + 1) zeroM n wr) (fun n _ => (intOf n).toNat)
      case atStart => exact ⟨[], _, _, n0, p2, rfl, by simp, HM2.out, HR2.out, manyGo_start _ _ _⟩
      case round =>
        obtain ⟨l, vl, S, n', p5, rfl, hln, hm, hr, hp⟩ := hrel
        obtain ⟨d, ps, hps, hrow, hts, hown⟩ := hm.ts
        obtain ⟨va, vcap, rfl, hvc, hvm⟩ := hrow.len
        unfold maxLen at hvm
        have d1 : wr.cell? ⟨b, 1, none⟩ = some (.int .i64 p5) := hr.1.cell (i := 1) rfl
        have HMM := Lib.hid hm
        have HR := Lib.hid hr
        have HP := Lib.hid hp
        have HPS := Lib.hid hps
        have HROW := Lib.hid hrow
        have HTS := Lib.hid hts
        have HOWN := Lib.hid hown
        clear hm hr hp hps hrow hts hown HM2 HR2
        rcases n' with _ | n'
        · have HB3 := Lib.hid (HB2.out.trans (by rw [HP.out, manyGo_end, Go.Tx.then_ok]))
          go_wp2_with (first | (go_at_call 40; refine Stop.out ?_))
          refine ⟨(rcount_any HR.out).mono ?_⟩
          intro e w3 hr
          rcases hr.split with ⟨l9, c9, k9, E9, hb, rfl, hg⟩ | ⟨m0, u, p3, hb, rfl, ⟨rfl, hm0⟩, hr3, hk3⟩
          · exact ⟨rfl, gaveW (by rw [HB3.out, hb]; rfl) rfl (hg.ahead HMM.out.keeps)⟩
          have HL : Hid (l.length ≤ 140737488355328) := Lib.hid (Nat.le_trans (Nat.le_of_eq hln) (Nat.le_trans HN0.out (Nat.le_trans HN.out (by decide))))
          have HF3 := Lib.hid ((HMM.out.whole (TF := 51) HL.out).move hbl hk3)
          have HR3 := Lib.hid hr3
          have HB4 := Lib.hid (HB3.out.trans (by rw [hb, Go.Tx.then_ok]))
          have HM0 := Lib.hid hm0
          clear hr3 hk3 hb hr hm0 HMM HR HP HPS HROW HTS HOWN HB3 d1
          go_wp2
          obtain ⟨wo2, rfl⟩ : ∃ wo : World, wo = wr := ⟨_, rfl⟩
          go_loopw [9] (fun n wr => FncAt 46 25 51 w b v s nm (.slice va l.length vcap) l m0 p3 w1.heap.size zeroM n wr) (fun n _ => (intOf n).toNat)
          case atStart => exact ⟨[], _, _, m0, p3, rfl, by simp, HF3.out, HR3.out, manyGo_start _ _ _⟩
          case round =>
            obtain ⟨fs, vf, S4, n4, p7, rfl, hln4, hf, hr, hp⟩ := hrel
            obtain ⟨qs, hqs, hrow, hts⟩ := hf.fs
            obtain ⟨fa, fcap, rfl, hfc, hfm⟩ := hrow.len
            unfold maxLen at hfm
            obtain ⟨sa, sc, rfl⟩ := hr.form
            have d0 : wr.cell? ⟨b, 0, none⟩ = some (.slice sa s.length sc) := hr.1.cell (i := 0) rfl
            have d1 : wr.cell? ⟨b, 1, none⟩ = some (.int .i64 p7) := hr.1.cell (i := 1) rfl
            have c0 : wr.cell? ⟨w1.heap.size, 0, none⟩ = some (.string nm) := hf.f.cell (i := 0) rfl
            have c1 : wr.cell? ⟨w1.heap.size, 1, none⟩ = some (.slice va l.length vcap) := hf.f.cell (i := 1) rfl
            have c2 : wr.cell? ⟨w1.heap.size, 2, none⟩ = some (.slice fa fs.length fcap) := hf.f.cell (i := 2) rfl
            have e2 := hf.f.free 2
            have z0 : wr.cell? ⟨w.heap.size, 0, none⟩ = some (.string ⟨#[]⟩) := hf.z.cell (i := 0) rfl
            have z1 : wr.cell? ⟨w.heap.size, 1, none⟩ = some (.slice none 0 0) := hf.z.cell (i := 1) rfl
            have z2 : wr.cell? ⟨w.heap.size, 2, none⟩ = some (.slice none 0 0) := hf.z.cell (i := 2) rfl
            have q0 := hf.z.free 0
            have q1 := hf.z.free 1
            have q2 := hf.z.free 2
            have HF := Lib.hid hf
            have HR := Lib.hid hr
            have HP := Lib.hid hp
            have HQS := Lib.hid hqs
            have HROW := Lib.hid hrow
            have HTS := Lib.hid hts
            clear hf hr hp hqs hrow hts HF3 HR3
            rcases n4 with _ | n4
            · have HE := Lib.hid (HB4.out.trans (by rw [HP.out, manyGo_end, Go.Tx.then_ok]))
              by_cases hpl : p7 < s.length
              · have g1 : decide ((p7 : Int) < (s.length : Int)) = true := decide_eq_true (by omega)
                have HPL := Lib.hid hpl
                go_wp2_with (first | (with_reducible refine wp_region_text (by kernel_rfl) (by kernel_rfl) ?_) | (with_reducible refine text_fin (by kernel_rfl) ?_) | (go_at_call 38; refine Stop.out ?_))
                refine ⟨(fail_kind _ b _ _ _).mono ?_⟩
                rintro e w4 ⟨E, rfl, hE, hk4⟩
                have hg : GaveUp wr.drew b p7 [] 10 _ w4 := ⟨E, rfl, hE, hk4⟩
                exact ⟨rfl, gaveW (HE.out.trans (pEnd_more HPL.out)) (place_left HPL.out) (hg.ahead HF.out.keeps.drew)⟩
              · have hpe : p7 = s.length := Nat.le_antisymm HR.out.2.2.1 (Nat.not_lt.1 hpl)
                have g1 : decide ((p7 : Int) < (s.length : Int)) = false := decide_eq_false (by omega)
                have HPE := Lib.hid hpe
                clear hpe
                go_wp2_with (first | (with_reducible refine wp_region_text (by kernel_rfl) (by kernel_rfl) ?_) | (with_reducible refine text_fin (by kernel_rfl) ?_))
                have hb8 := Blk.three HF.out.z (.string nm) (.slice va l.length vcap) (.slice fa fs.length fcap)
                have h8 := (Keeps.three wr w.heap.size (.string nm) (.slice va l.length vcap) (.slice fa fs.length fcap)).drew
                refine bodyPost_ret (results_cell1 rfl _ ⟨w.heap.size, 0, none⟩ rfl _ (load_md hb8.drew)) rfl (doneW (HE.out.trans (by rw [HPE.out, List.drop_length]; rfl)) (mod_done HF.out HNM.out (Nat.le_trans (Nat.le_of_eq hln4) (Nat.le_trans HM0.out HN.out)) h8) (List.drop_length.symm) ?_ (HF.out.keeps.trans h8 fun y hy e => absurd e (Nat.ne_of_lt hy)))
                have h9 := HR.out.keeps h8 (Nat.ne_of_lt hbl) fun g hg => Nat.ne_of_lt (HV.out g hg)
                rw [HPE.out] at h9
                exact h9
            · have g1 : decide (0 < n4 + 1) = true := decide_eq_true (Nat.succ_pos _)
              have HLL := Lib.hid (len_more hln4 HM0.out HN.out)
              have g3 : wrap64 (n4 : Int) = (n4 : Int) := wrap_len (len_less hln4 HM0.out HN.out)
              clear z0 z1 z2 q0 q1 q2 d0 d1 c0 c1
              go_wp2
              go_region_law (first
                | (refine step_call rfl _ _ _ rfl _ Tryd.func42 (by kernel_rfl) (by kernel_rfl) (.pointer (some ⟨b, 0, none⟩)) (by simp [Act.eval, Act.put]) ?_; refine (rfunction_any HR.out.drew (lt_keeps HV.out HF.out.keeps.drew) HN.out).mono ?_; intro e w5 hr; rcases hr.split with ⟨l9, c9, k9, E9, hb, rfl, hg⟩ | ⟨f, u, p8, hb, rfl, ⟨vc, rfl, hfi, hins⟩, hr5, hk5⟩; exact ⟨rfl, gaveW (by rw [HB4.out, HP.out, manyGo_error hb]; rfl) rfl (hg.ahead HF.out.keeps.drew)⟩; obtain ⟨ia, ic, rfl⟩ := hins.form; have HX := Lib.hid (fnc_facts HF.out hbl HROW.out hk5 (.cells #[.string f.name, .int .i64 f.args, .int .i64 f.slots, .slice ia f.code.length ic] 51)); obtain ⟨c5, c6, n6⟩ := HX.out.1; have HROW5 := Lib.hid HX.out.2.1; have PF := Lib.hid HX.out.2.2; have HFI := Lib.hid hfi; have HINS := Lib.hid hins; have HR5 := Lib.hid hr5; have HK5 := Lib.hid hk5; have HB5 := Lib.hid hb; clear hfi hins hr5 hk5 hb hr; unfold Fnc.val)
                | (refine step_append_row rfl _ _ 23 23 rfl 51 (.slice 51) 4 56 (.agg #[.string ByteArray.empty, .int .i64 0, .int .i64 0, .slice none 0 0]) info_fn Tryd.underlying23 Tryd.underlying23 (by intro k h; cases h) rfl (.slice fa fs.length fcap) fs.length (fnRow qs) rfl HROW5.out _ 1 (fcells (f, .slice ia f.code.length ic)) rfl rfl (lenOf_slice _ _ _) (firstCells_at _ rfl (cells_newAt rfl)) (by intro u hu; simp only [fcells, List.mem_cons, List.not_mem_nil, or_false] at hu; rcases hu with rfl | rfl | rfl | rfl <;> rfl) (app_len HLL.out) (app_bytes3 HLL.out) ?_; intro v' w9 ha; obtain ⟨va9, vc9, rfl, _, _⟩ := ha.row.len; obtain ⟨t3, s3⟩ := PF.out w9 _ _ _ ha; have HA := Lib.hid ha; clear ha))
              all_goals go_wp2
              all_goals exact ⟨⟨fs ++ [f], _, _, n4, p8, congrArg (Value.int .i64) g3, len_snoc _ hln4, fnc_next HF.out HQS.out HTS.out hbl HK5.out.of_drew HFI.out HINS.out ((Keeps.refl _ _).alloc _) HA.out rfl, rd_fnc HR5.out HF.out hbl HV.out HA.out, HP.out.trans (manyGo_next HB5.out)⟩, meas_next g3⟩
        · have g1 : decide (0 < n' + 1) = true := decide_eq_true (Nat.succ_pos _)
          go_wp2_with (first | (go_at_call 41; refine Stop.out ?_))
          refine ⟨(rterm_any HR.out (lt_keeps HV.out HMM.out.keeps) HN.out).mono ?_⟩
          intro e w5 hr
          rcases hr.split with ⟨l9, c9, k9, E9, hb, rfl, hg⟩ | ⟨t, u, p6, hb, rfl, ⟨d2, ht⟩, hr5, hk5⟩
          · exact ⟨rfl, gaveW (by rw [HB2.out, HP.out, manyGo_error (pLit_error hb)]; rfl) rfl (hg.ahead HMM.out.keeps)⟩
          obtain ⟨vi, vr, vb, rfl, o3, o4, o5⟩ := ht.form
          obtain ⟨a3, k3, a4, k4, a5, k5, rfl, rfl, rfl⟩ := ht.slices
          have HT := Lib.hid ht
          have HR5 := Lib.hid hr5
          have HK5 := Lib.hid hk5
          have HB5 := Lib.hid hb
          have ht2 : TmD (w5.alloc (.cells #[.int .i64 t.kind, .int .i64 t.n, .string t.name, .slice a3 t.items.length k3, .slice a4 t.rest.length k4, .slice a5 t.bytes.size k5] 46)) (Fresh wr w5) d2 (t.val (.slice a3 t.items.length k3) (.slice a4 t.rest.length k4) (.slice a5 t.bytes.size k5)) t := ht.keeps ((Keeps.refl (fun _ => False) w5).alloc _) fun _ _ h => h
          have HT2 := Lib.hid ht2
          unfold Tm.val
          clear ht hr5 hk5 hb hr ht2
          go_wp2_with (first | (go_at_call 18; refine Stop.out ?_))
          refine ⟨(right_any HT2.out (fun x hx => lt_alloc2 hx.2)).mono ?_⟩
          rintro e w6 ⟨E6, rfl, hE6, hk6⟩
          have K6 : Keeps (fun y => y = b) wr w6 := (HK5.out.alloc _).trans hk6 fun _ _ h => h.elim
          cases hro : rightTm t with
          | some ck =>
            obtain ⟨c, k⟩ := ck
            rw [hro] at hE6
            obtain ⟨hE7, _⟩ := hE6
            obtain ⟨t7, u7, rfl⟩ := hE7.form
            have HE7 : Hid (IsErr w6 (Fresh w w6) (.iface t7 u7) c k) := Lib.hid (hE7.mono fun g hg => ⟨Nat.le_trans (Nat.le_trans HMM.out.keeps.size HK5.out.size) (Nat.le_of_lt (lt_alloc9 hg.1)), hg.2⟩)
            have K7 := Lib.hid (HMM.out.keeps.trans K6 fun _ _ h => h)
            clear hE7 hk6 K6
            go_wp2_with (first | (go_at_call 38; refine Stop.out ?_))
            refine ⟨(fail_any (w0 := w) b p5 c k _ _ K7.out HE7.out).mono ?_⟩
            rintro e w7 ⟨E, rfl, hE, hk7⟩
            exact ⟨rfl, gaveW (by rw [HB2.out, HP.out, manyGo_error (pLit_wrong HB5.out hro)]; rfl) (rplace_at HR.out.2.2.1) ⟨E, rfl, hE, hk7⟩⟩
          | none =>
            rw [hro] at hE6
            have hE8 : E6 = .nilIface := hE6
            subst hE8
            have hm6 := HMM.out.move hbl K6
            have hb6 : Blk w6 w5.heap.size 46 [.int .i64 t.kind, .int .i64 t.n, .string t.name, .slice a3 t.items.length k3, .slice a4 t.rest.length k4, .slice a5 t.bytes.size k5] := (Blk.new w5 [.int .i64 t.kind, .int .i64 t.n, .string t.name, .slice a3 t.items.length k3, .slice a4 t.rest.length k4, .slice a5 t.bytes.size k5] 46).keeps hk6 fun h => h
            have y0 : w6.cell? ⟨w5.heap.size, 0, none⟩ = some (.int .i64 t.kind) := hb6.cell (i := 0) rfl
            have y1 : w6.cell? ⟨w5.heap.size, 1, none⟩ = some (.int .i64 t.n) := hb6.cell (i := 1) rfl
            have y2 : w6.cell? ⟨w5.heap.size, 2, none⟩ = some (.string t.name) := hb6.cell (i := 2) rfl
            have y3 : w6.cell? ⟨w5.heap.size, 3, none⟩ = some (.slice a3 t.items.length k3) := hb6.cell (i := 3) rfl
            have y4 : w6.cell? ⟨w5.heap.size, 4, none⟩ = some (.slice a4 t.rest.length k4) := hb6.cell (i := 4) rfl
            have y5 : w6.cell? ⟨w5.heap.size, 5, none⟩ = some (.slice a5 t.bytes.size k5) := hb6.cell (i := 5) rfl
            have c1 : w6.cell? ⟨w1.heap.size, 1, none⟩ = some (.slice va l.length vcap) := hm6.f.cell (i := 1) rfl
            have KW : Hid (Keeps (fun _ => False) w5 (w6.alloc (.cells [.int .i64 t.kind, .int .i64 t.n, .string t.name, .slice a3 t.items.length k3, .slice a4 t.rest.length k4, .slice a5 t.bytes.size k5].toArray 46))) := Lib.hid (((((Keeps.refl (fun _ => False) w5).alloc _).trans hk6 fun _ _ h => h)).alloc _)
            have HROW6 : Hid (Row (w6.alloc (.cells [.int .i64 t.kind, .int .i64 t.n, .string t.name, .slice a3 t.items.length k3, .slice a4 t.rest.length k4, .slice a5 t.bytes.size k5].toArray 46)) 46 6 (.slice va l.length vcap) l.length (rowCells ps)) := Lib.hid ((HROW.out.keeps K6 fun g hg => Nat.ne_of_gt (Nat.lt_of_lt_of_le hbl (HMM.out.own g hg).1)).keeps ((Keeps.refl (fun _ => False) w6).alloc _) fun _ _ h => h)
            have HLL := Lib.hid (len_more hln HN0.out HN.out)
            have g3 : wrap64 (n' : Int) = (n' : Int) := wrap_len (len_less hln HN0.out HN.out)
            have PF : Hid (∀ w9 v9, Appended (w6.alloc (.cells [.int .i64 t.kind, .int .i64 t.n, .string t.name, .slice a3 t.items.length k3, .slice a4 t.rest.length k4, .slice a5 t.bytes.size k5].toArray 46)) w9 46 6 (.slice va l.length vcap) v9 (l.length + 1) (rowCells ps ++ tcells (t, .slice a3 t.items.length k3, .slice a4 t.rest.length k4, .slice a5 t.bytes.size k5)) → w9.cell? ⟨w1.heap.size, 1, none⟩ = some (.slice va l.length vcap) ∧ w9.frozen? ⟨w1.heap.size, 1, none⟩ = false) := Lib.hid fun w9 v9 ha => by
              have hb9 := (hm6.f.alloc (.cells [.int .i64 t.kind, .int .i64 t.n, .string t.name, .slice a3 t.items.length k3, .slice a4 t.rest.length k4, .slice a5 t.bytes.size k5].toArray 46)).keeps ha.keeps fun e => (HMM.out.own _ e).2.1 rfl
              exact ⟨hb9.cell (i := 1) rfl, hb9.free 1⟩
            have RF : Hid (∀ w9 v9, Appended (w6.alloc (.cells [.int .i64 t.kind, .int .i64 t.n, .string t.name, .slice a3 t.items.length k3, .slice a4 t.rest.length k4, .slice a5 t.bytes.size k5].toArray 46)) w9 46 6 (.slice va l.length vcap) v9 (l.length + 1) (rowCells ps ++ tcells (t, .slice a3 t.items.length k3, .slice a4 t.rest.length k4, .slice a5 t.bytes.size k5)) → RdAt (w9.setCell ⟨w1.heap.size, 1, none⟩ v9) b v s p6) := Lib.hid fun w9 v9 ha => by
              have r1 := ((HR5.out.keeps KW.out (fun h => h) fun _ _ h => h).keeps ha.keeps (fun e => (Nat.not_lt.2 (HMM.out.own b e).1 hbl).elim) fun x hx e => (Nat.not_lt.2 (HMM.out.own x e).1 (HV.out x hx)).elim)
              exact r1.keeps (Keeps.put w9 ⟨w1.heap.size, 1, none⟩ v9) (Nat.ne_of_lt (Nat.lt_trans hbl HMM.out.fresh)) fun x hx => Nat.ne_of_lt (Nat.lt_trans (HV.out x hx) HMM.out.fresh)
            clear hE6 hm6 hb6 hk6 K6
            go_wp2_with (first | (at_builtin; go_must (refine wpList_append_row _ rfl _ _ 22 22 rfl 46 (.slice 46) 6 104 (.agg #[.int .i64 0, .int .i64 0, .string ByteArray.empty, .slice none 0 0, .slice none 0 0, .slice none 0 0]) info_terms Tryd.underlying22 Tryd.underlying22 (by intro k h; cases h) rfl (.slice va l.length vcap) l.length (rowCells ps) rfl HROW6.out _ 1 (tcells (t, .slice a3 t.items.length k3, .slice a4 t.rest.length k4, .slice a5 t.bytes.size k5)) rfl rfl (lenOf_slice _ _ _) (firstCells_at _ rfl (cells_newAt rfl)) (by intro u hu; simp only [tcells, List.mem_cons, List.not_mem_nil, or_false] at hu; rcases hu with rfl | rfl | rfl | rfl | rfl | rfl <;> rfl) (app_len HLL.out) (app_bytes2 HLL.out) ?_); intro v' w9 ha; obtain ⟨va9, vc9, rfl, _, _⟩ := ha.row.len; obtain ⟨t3, s3⟩ := PF.out w9 _ ha; have HA := Lib.hid ha; clear ha))
            exact ⟨⟨l ++ [t], _, _, n', p6, congrArg (Value.int .i64) g3, len_snoc _ hln, lit_next HMM.out HPS.out HTS.out HOWN.out hbl HK5.out HT.out KW.out HA.out rfl, RF.out _ _ HA.out, HP.out.trans (manyGo_next (pLit_ok HB5.out hro))⟩, meas_next g3⟩
    · go_wp2
      go_region_with (first | (go_at_call 37; refine (byte_any HR.out.drew).mono ?_; intro e w2 hr; rcases hr.split with ⟨l9, c9, k9, E9, hb9, rfl, hg9⟩ | ⟨x, u9, p9, hb9, rfl, rfl, hr9, hk9⟩; exact ⟨rfl, gaveW (pMod_magic (by rw [HM.out]; exact magic_none hb9)) rfl (hg9.ahead HK.out.drew)⟩; have HB9 := Lib.hid hb9; have HR9 := Lib.hid hr9; have HK9 := Lib.hid hk9; clear hb9 hr9 hk9 hr))
      all_goals
        have HP9 := Lib.hid (next_place HB9.out HR9.out.2.2.1)
        have HZ9 := Lib.hid (HZ.out.drew.keeps HK9.out (Nat.ne_of_gt hbl))
        have HKK := Lib.hid (HK.out.drew.trans HK9.out fun _ _ h => h)
        by_cases hxc : x.toNat = 84
        · have HM2 := Lib.hid (HM.out.trans ((congrArg (pMagic (magic.drop 0)) (magic_next HB9.out)).trans (magic_good hxc)))
          clear HB9
          generalize x.toNat = xn at *
          subst hxc
          go_wp2
          refine ⟨⟨0 + 1, rfl, by decide, ?_, HZ9.out, HKK.out, ?_⟩, by decide⟩
          · rw [← HP9.out]; exact HR9.out
          · rw [HM2.out, HP9.out]; rfl
        · have HM2 := Lib.hid (HM.out.trans ((congrArg (pMagic (magic.drop 0)) (magic_next HB9.out)).trans (magic_bad hxc)))
          clear HB9
          generalize x.toNat = xn at *
          have g1 : ((xn : Int) != (((⟨#[84, 82, 80, 69]⟩ : ByteArray)[0]'(by decide)).toNat : Int)) = true := by show ((xn : Int) != 84) = true; simp; omega
          go_wp2_with (first | (go_at_call 38; refine Stop.out ?_))
          refine ⟨(fail_kind _ b _ _ _).mono ?_⟩
          rintro e w3 ⟨E, rfl, hE, hk3⟩
          have hg : GaveUp w2 b 0 [] 10 _ w3 := ⟨E, rfl, hE, hk3⟩
          exact ⟨rfl, gaveW (pMod_magic HM2.out) (by rw [HP9.out]; exact left_at (by have h1 := HR9.out.2.2.1; rw [HP9.out] at h1; exact h1)) (hg.ahead HKK.out)⟩
    · go_wp2
      go_region_with (first | (go_at_call 37; refine (byte_any HR.out.drew).mono ?_; intro e w2 hr; rcases hr.split with ⟨l9, c9, k9, E9, hb9, rfl, hg9⟩ | ⟨x, u9, p9, hb9, rfl, rfl, hr9, hk9⟩; exact ⟨rfl, gaveW (pMod_magic (by rw [HM.out]; exact magic_none hb9)) rfl (hg9.ahead HK.out.drew)⟩; have HB9 := Lib.hid hb9; have HR9 := Lib.hid hr9; have HK9 := Lib.hid hk9; clear hb9 hr9 hk9 hr))
      all_goals
        have HP9 := Lib.hid (next_place HB9.out HR9.out.2.2.1)
        have HZ9 := Lib.hid (HZ.out.drew.keeps HK9.out (Nat.ne_of_gt hbl))
        have HKK := Lib.hid (HK.out.drew.trans HK9.out fun _ _ h => h)
        by_cases hxc : x.toNat = 82
        · have HM2 := Lib.hid (HM.out.trans ((congrArg (pMagic (magic.drop 1)) (magic_next HB9.out)).trans (magic_good hxc)))
          clear HB9
          generalize x.toNat = xn at *
          subst hxc
          go_wp2
          refine ⟨⟨1 + 1, rfl, by decide, ?_, HZ9.out, HKK.out, ?_⟩, by decide⟩
          · rw [← HP9.out]; exact HR9.out
          · rw [HM2.out, HP9.out]; rfl
        · have HM2 := Lib.hid (HM.out.trans ((congrArg (pMagic (magic.drop 1)) (magic_next HB9.out)).trans (magic_bad hxc)))
          clear HB9
          generalize x.toNat = xn at *
          have g1 : ((xn : Int) != (((⟨#[84, 82, 80, 69]⟩ : ByteArray)[1]'(by decide)).toNat : Int)) = true := by show ((xn : Int) != 82) = true; simp; omega
          go_wp2_with (first | (go_at_call 38; refine Stop.out ?_))
          refine ⟨(fail_kind _ b _ _ _).mono ?_⟩
          rintro e w3 ⟨E, rfl, hE, hk3⟩
          have hg : GaveUp w2 b 1 [] 10 _ w3 := ⟨E, rfl, hE, hk3⟩
          exact ⟨rfl, gaveW (pMod_magic HM2.out) (by rw [HP9.out]; exact left_at (by have h1 := HR9.out.2.2.1; rw [HP9.out] at h1; exact h1)) (hg.ahead HKK.out)⟩
    · go_wp2
      go_region_with (first | (go_at_call 37; refine (byte_any HR.out.drew).mono ?_; intro e w2 hr; rcases hr.split with ⟨l9, c9, k9, E9, hb9, rfl, hg9⟩ | ⟨x, u9, p9, hb9, rfl, rfl, hr9, hk9⟩; exact ⟨rfl, gaveW (pMod_magic (by rw [HM.out]; exact magic_none hb9)) rfl (hg9.ahead HK.out.drew)⟩; have HB9 := Lib.hid hb9; have HR9 := Lib.hid hr9; have HK9 := Lib.hid hk9; clear hb9 hr9 hk9 hr))
      all_goals
        have HP9 := Lib.hid (next_place HB9.out HR9.out.2.2.1)
        have HZ9 := Lib.hid (HZ.out.drew.keeps HK9.out (Nat.ne_of_gt hbl))
        have HKK := Lib.hid (HK.out.drew.trans HK9.out fun _ _ h => h)
        by_cases hxc : x.toNat = 80
        · have HM2 := Lib.hid (HM.out.trans ((congrArg (pMagic (magic.drop 2)) (magic_next HB9.out)).trans (magic_good hxc)))
          clear HB9
          generalize x.toNat = xn at *
          subst hxc
          go_wp2
          refine ⟨⟨2 + 1, rfl, by decide, ?_, HZ9.out, HKK.out, ?_⟩, by decide⟩
          · rw [← HP9.out]; exact HR9.out
          · rw [HM2.out, HP9.out]; rfl
        · have HM2 := Lib.hid (HM.out.trans ((congrArg (pMagic (magic.drop 2)) (magic_next HB9.out)).trans (magic_bad hxc)))
          clear HB9
          generalize x.toNat = xn at *
          have g1 : ((xn : Int) != (((⟨#[84, 82, 80, 69]⟩ : ByteArray)[2]'(by decide)).toNat : Int)) = true := by show ((xn : Int) != 80) = true; simp; omega
          go_wp2_with (first | (go_at_call 38; refine Stop.out ?_))
          refine ⟨(fail_kind _ b _ _ _).mono ?_⟩
          rintro e w3 ⟨E, rfl, hE, hk3⟩
          have hg : GaveUp w2 b 2 [] 10 _ w3 := ⟨E, rfl, hE, hk3⟩
          exact ⟨rfl, gaveW (pMod_magic HM2.out) (by rw [HP9.out]; exact left_at (by have h1 := HR9.out.2.2.1; rw [HP9.out] at h1; exact h1)) (hg.ahead HKK.out)⟩
    · go_wp2
      go_region_with (first | (go_at_call 37; refine (byte_any HR.out.drew).mono ?_; intro e w2 hr; rcases hr.split with ⟨l9, c9, k9, E9, hb9, rfl, hg9⟩ | ⟨x, u9, p9, hb9, rfl, rfl, hr9, hk9⟩; exact ⟨rfl, gaveW (pMod_magic (by rw [HM.out]; exact magic_none hb9)) rfl (hg9.ahead HK.out.drew)⟩; have HB9 := Lib.hid hb9; have HR9 := Lib.hid hr9; have HK9 := Lib.hid hk9; clear hb9 hr9 hk9 hr))
      all_goals
        have HP9 := Lib.hid (next_place HB9.out HR9.out.2.2.1)
        have HZ9 := Lib.hid (HZ.out.drew.keeps HK9.out (Nat.ne_of_gt hbl))
        have HKK := Lib.hid (HK.out.drew.trans HK9.out fun _ _ h => h)
        by_cases hxc : x.toNat = 69
        · have HM2 := Lib.hid (HM.out.trans ((congrArg (pMagic (magic.drop 3)) (magic_next HB9.out)).trans (magic_good hxc)))
          clear HB9
          generalize x.toNat = xn at *
          subst hxc
          go_wp2
          refine ⟨⟨3 + 1, rfl, by decide, ?_, HZ9.out, HKK.out, ?_⟩, by decide⟩
          · rw [← HP9.out]; exact HR9.out
          · rw [HM2.out, HP9.out]; rfl
        · have HM2 := Lib.hid (HM.out.trans ((congrArg (pMagic (magic.drop 3)) (magic_next HB9.out)).trans (magic_bad hxc)))
          clear HB9
          generalize x.toNat = xn at *
          have g1 : ((xn : Int) != (((⟨#[84, 82, 80, 69]⟩ : ByteArray)[3]'(by decide)).toNat : Int)) = true := by show ((xn : Int) != 69) = true; simp; omega
          go_wp2_with (first | (go_at_call 38; refine Stop.out ?_))
          refine ⟨(fail_kind _ b _ _ _).mono ?_⟩
          rintro e w3 ⟨E, rfl, hE, hk3⟩
          have hg : GaveUp w2 b 3 [] 10 _ w3 := ⟨E, rfl, hE, hk3⟩
          exact ⟨rfl, gaveW (pMod_magic HM2.out) (by rw [HP9.out]; exact left_at (by have h1 := HR9.out.2.2.1; rw [HP9.out] at h1; exact h1)) (hg.ahead HKK.out)⟩
end Go.Proofs.YtgmieehheoknbaaDoor
end

import Derived.Test.YtgmieehheoknbaaDoorGj
/-
  code.Read: a term.
-/
namespace Go.Tx
open Go Go.RowKit
/-- where a reader is, by the memory -/
def placeOf (w : World) (b : Nat) : Nat := match w.cell? ⟨b, 1, none⟩ with
  | some (.int _ n) => n.toNat
  | _ => 0
theorem RdAt.place {w : World} {b : Nat} {v : Value} {s : List UInt8} {p : Nat} (h : RdAt w b v s p) : placeOf w b = p := by
  have d : w.cell? ⟨b, 1, none⟩ = some (.int .i64 p) := h.1.cell (i := 1) rfl
  unfold placeOf
  rw [d]
  simp
theorem wrap_len {n : Nat} (h : n ≤ 1099511627776) : wrap64 (n : Int) = (n : Int) := by unfold wrap64; omega
theorem len_two {n p s : Nat} (h : n + 1 + 1 ≤ p) (h2 : p ≤ s) (h3 : s ≤ 1099511627776) : n ≤ 1099511627776 := by omega
theorem int_succ (n : Nat) : (n : Int) < (n : Int) + 1 := by omega
theorem succ_ne (n : Nat) : (((n : Int) + 1) == 0) = false := by simp; omega
theorem wrap_pred {m k : Nat} (h : m = k + 1) (h2 : m ≤ 1099511627776) : wrap64 ((m : Int) - 1) = (k : Int) := by unfold wrap64; omega
theorem lt_pred {m k : Nat} (h : m = k + 1) : (k : Int) < (m : Int) := by omega
theorem ne_pred {m k : Nat} (h : m = k + 1) : ((m : Int) == 0) = false := by simp; omega
theorem put_room {w w2 : World} {W : World} {x : Nat} (h : w.heap.size < w2.heap.size) (h2 : w2.heap.size < W.heap.size) (hx : x < w.heap.size + 1 ∨ x = w2.heap.size) : x < W.heap.size := by
  rcases hx with hx | hx <;> omega
theorem then_unwind {F : Nat} (x : PR Tm) : PR.then x (unwind F []) = x := by
  match x with
  | .error e => rfl
  | .ok (a, r) => rfl
def sliceLen : Value → Nat
  | .slice _ n _ => n
  | _ => 0
def TermR (w : World) (t : Tm) (u : Value) (w' : World) : Prop := ∃ d, TmD w' (Fresh w w') d u t
def OutAt (T TO : TypeId) (w : World) (b : Nat) (v : Value) (s : List UInt8) (p : Nat) (zs : List Value) (l : Value) (wr : World) : Prop :=
  ∃ S qs p', StAt T TO wr S (fun x => x < w.heap.size + 1) s.length l qs ∧ RdAt wr b v s p' ∧ qs.length ≤ p' ∧ pTerm (s.length + 1) (s.drop p) = resume (s.length + 1) (qs.map (·.1)) (s.drop p') ∧ Blk wr w.heap.size T zs ∧ Keeps (fun y => y = b) w wr
def InAt (T TO : TypeId) (w : World) (b : Nat) (v : Value) (s : List UInt8) (p pO g4 : Nat) (zs : List Value) (l : Value) (wr : World) : Prop :=
  ∃ S q qs p', StAt T TO wr S (fun x => x < w.heap.size + 1 ∨ x = g4) s.length l (q :: qs) ∧ RdAt wr b v s p' ∧ pO < p' ∧ qs.length + 1 ≤ p' ∧ pTerm (s.length + 1) (s.drop p) = after (s.length + 1) q.1 (qs.map (·.1)) (s.drop p') ∧ Blk wr w.heap.size T zs ∧ (∃ x0 x1 x2 x3 x4 x5, Blk wr g4 T [x0, x1, x2, x3, x4, x5]) ∧ Keeps (fun y => y = b) w wr
theorem pLeaf_shape {s r : List UInt8} {fr : Fr} (h : pLeaf s = .ok (fr, r)) : ∃ k n nm bs lf, fr = ⟨k, n, nm, bs, [], [], lf, 0⟩ ∧ k < 256 ∧ -9223372036854775808 ≤ n ∧ n ≤ 9223372036854775807 ∧ nm.size ≤ 1099511627776 ∧ lf ≤ s.length := by
  cases s with
  | nil => cases h
  | cons x s =>
    have hx := x.toNat_lt
    have z : (⟨#[]⟩ : ByteArray).size ≤ 1099511627776 := by decide
    simp only [pLeaf] at h
    simp only [List.length_cons]
    split at h
    · split at h
      · cases h
      · next v r1 h1 => cases h; exact ⟨_, _, _, _, _, rfl, by omega, (pSign_back h1).2.1, (pSign_back h1).2.2, z, by omega⟩
    · split at h
      · split at h
        · cases h
        · next v r1 h1 => cases h; exact ⟨_, _, _, _, _, rfl, by omega, by omega, by omega, (pText_back h1).2, by omega⟩
      · split at h
        · split at h
          · cases h
          · next v r1 h1 => cases h; exact ⟨_, _, _, _, _, rfl, by omega, by omega, by omega, z, by omega⟩
        · split at h
          · cases h; exact ⟨_, _, _, _, _, rfl, by omega, by omega, by omega, z, by omega⟩
          · split at h
            · split at h
              · cases h
              · next v r1 h1 =>
                cases h
                obtain ⟨e, _, h3⟩ := pCount_back h1
                have : r.length ≤ s.length := by rw [e, List.length_append]; omega
                exact ⟨_, _, _, _, _, rfl, by omega, by omega, by omega, z, by omega⟩
            · split at h
              · split at h
                · cases h
                · next v r1 h1 =>
                  cases h
                  obtain ⟨e, _, h3⟩ := pCount_back h1
                  have : r.length ≤ s.length := by rw [e, List.length_append]; omega
                  exact ⟨_, _, _, _, _, rfl, by omega, by omega, by omega, z, by omega⟩
              · cases h
theorem StAt.less {T TO : TypeId} {w : World} {S E E' : Nat → Prop} {N : Nat} {l : Value} {qs : List Qf} (h : StAt T TO w S E N l qs) (hE : ∀ x, E' x → E x) : StAt T TO w S E' N l qs :=
  ⟨h.row, h.frs, h.dist, fun g hg => ⟨(h.lown g hg).1, fun e => (h.lown g hg).2.1 (hE g e), (h.lown g hg).2.2⟩, fun q hq g hg => ⟨fun e => (h.vown q hq g hg).1 (hE g e), (h.vown q hq g hg).2⟩, fun x hx => ⟨fun e => (h.sE x hx).1 (hE x e), (h.sE x hx).2⟩⟩
/-- a term but for its parts has been read: it lies on the stack -/
theorem leaf_push {T TO : TypeId} {w wr w2 w4 : World} {S : Nat → Prop} {N b k lf : Nat} {n : Int} {nm bs : ByteArray} {l l' vb : Value} {qs : List Qf} (hst : StAt T TO wr S (fun x => x < w.heap.size + 1) N l qs) (hb : b < w.heap.size) (hw : w.heap.size < wr.heap.size) (hk : Keeps (fun y => y = b) wr w2) {o1 o2 : Obj}
    (hvb : BytesD w2 (Fresh wr w2) vb bs) (h1 : k < 256) (h2 : -9223372036854775808 ≤ n) (h3 : n ≤ 9223372036854775807) (h4 : nm.size ≤ 1099511627776) (h5 : lf ≤ N)
    (ha : Appended ((w2.alloc o1).alloc o2) w4 TO 8 l l' (qs.length + 1) (stRow qs ++ fc (⟨k, n, nm, bs, [], [], lf, 0⟩, .slice none 0 0, .slice none 0 0, vb))) :
    StAt T TO w4 (fun x => S x ∨ Fresh wr w2 x) (fun x => x < w.heap.size + 1 ∨ x = w2.heap.size) N l' ((⟨k, n, nm, bs, [], [], lf, 0⟩, .slice none 0 0, .slice none 0 0, vb) :: qs) := by
  have ka : Keeps (fun _ => False) w2 ((w2.alloc o1).alloc o2) := ((Keeps.refl _ w2).alloc _).alloc _
  have hsz := hk.size
  have hsa : ((w2.alloc o1).alloc o2).heap.size = w2.heap.size + 2 := by rw [World.size_alloc, World.size_alloc]
  have h0 := hst.keeps (hk.trans (ka.mono (T := fun y => y = b) fun _ _ h => h.elim) fun _ _ h => h) fun x _ e => by show x < w.heap.size + 1; omega
  have hl : ∀ g, l.ownBlock = some g → g < wr.heap.size := fun g hg => hst.row.lt hg
  refine StAt.push (h0.wide (S' := fun x => S x ∨ Fresh wr w2 x) (E' := fun x => x < w.heap.size + 1 ∨ x = w2.heap.size) (fun _ h => .inl h) ?_ ?_ ?_) ha ⟨⟨0, TsAt.nil _ _ _ _, RowD.nil _ _ _, (hvb.keeps ka fun _ _ h => h).wide fun _ h => .inr h⟩, h1, h2, h3, h4, by simpa using h5⟩ rfl ?_
  · intro g hg
    have := hl g hg
    refine ⟨?_, ?_⟩
    · rintro (e | e)
      · exact (hst.lown g hg).1 e
      · have := e.1; omega
    · rintro (e | e)
      · exact (hst.lown g hg).2.1 e
      · omega
  · intro q hq g hg
    have h6 := hst.vown q hq g hg
    refine ⟨?_, ?_⟩
    · rintro (e | e)
      · exact h6.2.1 e
      · have := e.1; omega
    · rintro (e | e)
      · exact h6.1 e
      · omega
  · intro x hx
    rw [hsa]
    rcases hx with hx | hx
    · have h6 := hst.sE x hx
      exact ⟨fun e => e.elim h6.1 fun e => by omega, by omega⟩
    · have h7 := hx.1
      have h8 := hx.2
      exact ⟨fun e => by rcases e with e | e <;> omega, by omega⟩
  · intro x hx
    rw [hsa]
    rcases hx with hx | hx <;> omega
theorem out_of_more {T TO : TypeId} {w wo wr w3 : World} {S : Nat → Prop} {b p pO p3 p5 g4 st : Nat} {v l : Value} {s : List UInt8} {q : Qf} {qs : List Qf} {zs : List Value} (hst : StAt T TO wr S (fun x => x < w.heap.size + 1 ∨ x = g4) s.length l (q :: qs)) (hst5 : StAt T TO w3 S (fun x => x < w.heap.size + 1 ∨ x = g4) s.length l (({ q.1 with st := st }, q.2) :: qs))
    (hr5 : RdAt w3 b v s p5) (hres : pTerm (s.length + 1) (s.drop p) = resume (s.length + 1) ({ q.1 with st := st } :: qs.map (·.1)) (s.drop p5)) (hp5 : p3 ≤ p5) (hp3 : pO < p3) (hq3 : qs.length + 1 ≤ p3) (hb2 : Blk wr w.heap.size T zs) (hk5 : Keeps (fun x => x = b ∨ l.ownBlock = some x) wr w3) (hki : Keeps (fun y => y = b) w wr) (hbl : b < w.heap.size)
    (hpl : placeOf wo b = pO) : OutAt T TO w b v s p zs l w3 ∧ s.length - placeOf w3 b < s.length - placeOf wo b := by
  have hn : ∀ x, x < w.heap.size + 1 → l.ownBlock ≠ some x := fun x hx e => (hst.lown x e).2.1 (.inl hx)
  refine ⟨⟨S, _, p5, hst5.less fun x h => .inl h, hr5, by simp only [List.length_cons]; omega, hres, hb2.keeps hk5 ?_, hki.trans hk5 ?_⟩, ?_⟩
  · rintro (e | e)
    · omega
    · exact hn _ (Nat.lt_succ_self _) e
  · intro y hy h
    rcases h with e | e
    · exact e
    · exact (hn y (Nat.lt_succ_of_lt hy) e).elim
  · have := hr5.2.2.1
    rw [hr5.place, hpl]
    omega
/-- the topmost open term is whole: it is taken off, as a term -/
theorem close_top {T TO : TypeId} {w : World} {S E : Nat → Prop} {N g c : Nat} {q : Qf} {qs : List Qf} (h : StAt T TO w S E N (.slice (some ⟨g, 0, none⟩) (qs.length + 1) c) (q :: qs)) (hN : N ≤ 140737488355328) :
    ∃ d, TmD w (fun x => S x ∨ q.2.1.ownBlock = some x) d (q.1.tm.val q.2.1 q.2.2.1 q.2.2.2) q.1.tm ∧ StAt T TO w (fun x => S x ∨ q.2.1.ownBlock = some x) E N (.slice (some ⟨g, 0, none⟩) qs.length c) qs := by
  obtain ⟨d, hd⟩ := (h.frs q (List.mem_cons_self ..)).term hN (S' := fun x => S x ∨ q.2.1.ownBlock = some x) (fun _ h => .inl h) fun _ h => .inr h
  have hv := h.vown q (List.mem_cons_self ..)
  refine ⟨d, hd, h.pop.wide (fun _ h => .inl h) ?_ ?_ ?_⟩
  · intro y hy
    have := h.lown y hy
    exact ⟨fun e => e.elim this.1 (this.2.2 q (List.mem_cons_self ..)), this.2.1⟩
  · intro r hr y hy
    have := h.vown r (List.mem_cons_of_mem _ hr) y hy
    exact ⟨fun e => e.elim this.2.1 fun e => h.dist.1 r hr y e hy, this.1⟩
  · intro x hx
    rcases hx with hx | hx
    · exact h.sE x hx
    · exact ⟨(hv x hx).1, (hv x hx).2.2⟩
/-- .. it is all -/
theorem end_of_more {T TO : TypeId} {w wr w3 w9 : World} {S : Nat → Prop} {b p5 g4 N g c : Nat} {v : Value} {s : List UInt8} {q : Qf} (hst : StAt T TO w3 S (fun x => x < w.heap.size + 1 ∨ x = g4) N (.slice (some ⟨g, 0, none⟩) 1 c) [q]) (hN : N ≤ 140737488355328) (hr5 : RdAt w3 b v s p5)
    (hk5 : Keeps (fun x => x = b ∨ (Value.slice (some ⟨g, 0, none⟩) 1 c).ownBlock = some x) wr w3) (hki : Keeps (fun y => y = b) w wr) (hbl : b < w.heap.size) (hv : ∀ x, v.ownBlock = some x → x < w.heap.size) (hg4 : w.heap.size < g4) (hk9 : Keeps (fun y => y = g4 ∨ y = w.heap.size) w3 w9) :
    (∃ d, TmD w9 (Fresh w w9) d (q.1.tm.val q.2.1 q.2.2.1 q.2.2.2) q.1.tm) ∧ RdAt w9 b v s p5 ∧ Keeps (fun y => y = b) w w9 := by
  obtain ⟨d, hd, hs⟩ := close_top (qs := []) hst hN
  have hgE := (hst.lown g rfl).2.1
  refine ⟨⟨d, (hd.keeps hk9 fun x hx => ?_).mono (fun x hx => ?_) fun _ _ _ _ h => h⟩, hr5.keeps hk9 (by omega) fun x hx => by have := hv x hx; omega, (hki.trans hk5 fun x hx h => ?_).trans hk9 fun x hx h => by omega⟩
  · have := (hs.sE x hx).1
    intro e
    apply this
    rcases e with e | e
    · exact .inr e
    · exact .inl (by omega)
  · have h1 := hs.sE x hx
    exact ⟨by have := fun h => h1.1 (.inl h); omega, Nat.lt_of_lt_of_le h1.2 hk9.size⟩
  · rcases h with e | e
    · exact e
    · have h2 : g = x := Option.some.inj e
      subst h2
      exact (hgE (.inl (by omega))).elim
/-- .. it was put into the next one -/
theorem in_of_put {T TO : TypeId} {w wr w3 w5 w7 : World} {S' : Nat → Prop} {b p pO p3 p5 g4 g c : Nat} {v l : Value} {s : List UInt8} {q2 q' : Qf} {qs : List Qf} {zs : List Value} {x0 x1 x2 x3 x4 x5 : Value} (hst7 : StAt T TO w7 S' (fun x => x < w.heap.size + 1 ∨ x = g4) s.length (.slice (some ⟨g, 0, none⟩) (qs.length + 1) c) (q' :: qs)) (hgE : ¬ (g < w.heap.size + 1 ∨ g = g4)) (h2E : ∀ x, q2.2.1.ownBlock = some x → ¬ (x < w.heap.size + 1 ∨ x = g4)) (hlg : l.ownBlock = some g)
    (hr5 : RdAt w3 b v s p5) (hres : pTerm (s.length + 1) (s.drop p) = after (s.length + 1) q'.1 (qs.map (·.1)) (s.drop p5)) (hp5 : p3 ≤ p5) (hp3 : pO < p3) (hq3 : qs.length + 1 ≤ p3) (hb2 : Blk wr w.heap.size T zs) (hb4 : Blk w5 g4 T [x0, x1, x2, x3, x4, x5]) (hk5 : Keeps (fun x => x = b ∨ l.ownBlock = some x) wr w3) (hki : Keeps (fun y => y = b) w wr) (hbl : b < w.heap.size)
    (hv : ∀ x, v.ownBlock = some x → x < w.heap.size) (hg4 : w.heap.size < g4) (hk45 : Keeps (fun y => y = g4) w3 w5) (hk7 : Keeps (fun x => x = g ∨ q2.2.1.ownBlock = some x) w5 w7) :
    InAt T TO w b v s p pO g4 zs (.slice (some ⟨g, 0, none⟩) (qs.length + 1) c) w7 := by
  have hU : ∀ x, x < w.heap.size + 1 ∨ x = g4 → ¬ (x = g ∨ q2.2.1.ownBlock = some x) := fun x hx e => by
    rcases e with e | e
    · exact hgE (e ▸ hx)
    · exact h2E x e hx
  have hl5 : ∀ x, x < w.heap.size + 1 → l.ownBlock ≠ some x := fun x hx e => by
    have h2 : g = x := Option.some.inj (hlg.symm.trans e)
    subst h2
    exact hgE (.inl hx)
  refine ⟨S', q', qs, p5, hst7, ((hr5.keeps hk45 (by omega) fun x hx => by have := hv x hx; omega).keeps hk7 (hU b (.inl (by omega))) fun x hx => hU x (.inl (by have := hv x hx; omega))), by omega, by omega, hres, ((hb2.keeps hk5 ?_).keeps hk45 (by omega)).keeps hk7 (hU _ (.inl (Nat.lt_succ_self _))), ⟨_, _, _, _, _, _, hb4.keeps hk7 (hU _ (.inr rfl))⟩, (((hki.trans hk5 fun x hx h => ?_).trans hk45 fun x hx h => by omega).trans hk7 fun x hx h => ?_)⟩
  · rintro (e | e)
    · omega
    · exact hl5 _ (Nat.lt_succ_self _) e
  · rcases h with e | e
    · exact e
    · exact (hl5 x (Nat.lt_succ_of_lt hx) e).elim
  · exact (hU x (.inl (Nat.lt_succ_of_lt hx)) h).elim
theorem in_of_push {T TO : TypeId} {w wr w2 w4 : World} {S S4 : Nat → Prop} {b p pO p2 : Nat} {v l l' : Value} {s : List UInt8} {q : Qf} {qs : List Qf} {zs xs : List Value} {y0 y1 y2 y3 y4 y5 : Value} {o2 : Obj} {n : Nat} (hst4 : StAt T TO w4 S4 (fun x => x < w.heap.size + 1 ∨ x = w2.heap.size) s.length l' (q :: qs)) (hst : StAt T TO wr S (fun x => x < w.heap.size + 1) s.length l qs) (hr2 : RdAt w2 b v s p2) (hv : ∀ x, v.ownBlock = some x → x < w.heap.size)
    (hres : pTerm (s.length + 1) (s.drop p) = after (s.length + 1) q.1 (qs.map (·.1)) (s.drop p2)) (hpp : pO < p2) (hqp : qs.length ≤ pO) (hb2 : Blk wr w.heap.size T zs) (hbl : b < w.heap.size) (hk : Keeps (fun y => y = b) w wr) (hk2 : Keeps (fun y => y = b) wr w2)
    (ha : Appended ((w2.alloc (.cells [y0, y1, y2, y3, y4, y5].toArray T)).alloc o2) w4 TO 8 l l' n xs) : InAt T TO w b v s p pO w2.heap.size zs l' w4 := by
  have hn : ∀ x, x < w.heap.size + 1 → l.ownBlock ≠ some x := fun x hx e => (hst.lown x e).2.1 hx
  have ka : Keeps (fun _ => False) w2 ((w2.alloc (.cells [y0, y1, y2, y3, y4, y5].toArray T)).alloc o2) := ((Keeps.refl _ w2).alloc _).alloc _
  have hlw : w.heap.size < wr.heap.size := hb2.lt
  have hs2 := hk2.size
  refine ⟨S4, q, qs, p2, hst4, (hr2.keeps ka (fun h => h) fun _ _ h => h).keeps ha.keeps (hn b (by omega)) fun x hx => hn x (by have := hv x hx; omega), hpp, by omega, hres, (((hb2.keeps hk2 (by omega)).keeps ka fun h => h).keeps ha.keeps (hn _ (Nat.lt_succ_self _))), ⟨y0, y1, y2, y3, y4, y5, ((Blk.new w2 _ T).alloc o2).keeps ha.keeps fun e => ?_⟩, ((hk.trans hk2 fun _ _ h => h).trans ka fun _ _ h => h.elim).trans ha.keeps fun x hx h => (hn x (Nat.lt_succ_of_lt hx) h).elim⟩
  have h1 : w2.heap.size < wr.heap.size := hst.row.lt e
  omega
end Go.Tx
namespace Go.Proofs.YtgmieehheoknbaaDoor
open Go.RowKit Go.Tx
theorem info_open : (Tryd.prog.info? 126).map (fun i => (i.zero, i.size, i.bytes)) = some (some (.agg #[.int .i64 0, .int .i64 0, .string ByteArray.empty, .slice none 0 0, .slice none 0 0, .slice none 0 0, .int .i64 0, .int .i64 0]), 8, 120) := by kernel_rfl
set_option maxRecDepth 100000 in
set_option maxHeartbeats 1600000 in
theorem rterm_any {w : World} {b : Nat} {v : Value} {s : List UInt8} {p : Nat} (h : RdAt w b v s p) (hv : ∀ x, v.ownBlock = some x → x < w.heap.size) (hN : s.length ≤ 1099511627776) :
    Calls Tryd.prog 41 #[.pointer (some ⟨b, 0, none⟩)] w (RdPostW w b v s (pTerm (s.length + 1) (s.drop p)) (TermR w)) := by
  have H := Lib.hid h
  have HV := Lib.hid hv
  have hbl : b < w.heap.size := h.1.lt
  clear h hv
  go_enter Tryd.func41, Tryd.ntmps41
  go_wp2
  go_loopw [3] (fun l wr => OutAt 46 126 w b v s p zeroT l wr) (fun _ wr => s.length - placeOf wr b)
  case atStart => exact ⟨_, [], p, StAt.nil _ _ _ _ _, H.out.keeps ((Keeps.refl (fun _ => False) w).alloc _) (fun h => h) fun _ _ h => h, Nat.zero_le _, (then_unwind _).symm, Blk.new w zeroT _, (Keeps.refl _ w).alloc _⟩
  case round =>
    obtain ⟨S, qs, pO, hst, hr, hqp, hres, hb2, hk⟩ := hrel
    have HPL := Lib.hid hr.place
    obtain ⟨va, vc, rfl, hvc, hvm⟩ := hst.row.len
    unfold maxLen at hvm
    have HST := Lib.hid hst
    have HR := Lib.hid hr
    have HRES := Lib.hid hres
    have HB2 := Lib.hid hb2
    have HK := Lib.hid hk
    clear hst hr hres hb2 hk
    go_wp2_with (first | (go_at_call 51; refine Stop.out ?_))
    refine ⟨(leaf_any HR.out).mono ?_⟩
    intro e w2 hr
    rcases hr.split with ⟨l, c, k, E, hb, rfl, hg⟩ | ⟨fr, u, p2, hb, rfl, ⟨vb, rfl, hvb⟩, hr2, hk2⟩
    · refine ⟨rfl, gaveW ?_ rfl (hg.ahead HK.out)⟩
      rw [HRES.out, resume_leaf (by rw [List.length_drop]; omega), hb]
      rfl
    · obtain ⟨ab, cb, rfl⟩ := hvb.form
      obtain ⟨kd, n, nm, bs, lf, rfl, f1, f2, f3, f4, f5⟩ := pLeaf_shape hb
      rw [List.length_drop] at f5
      have f5' : lf ≤ s.length := by omega
      have hlt := pLeaf_back hb
      rw [List.length_drop, List.length_drop] at hlt
      have hpp : pO < p2 := by omega
      have hp2 := hr2.2.2.1
      have hres2 : pTerm (s.length + 1) (s.drop p) = after (s.length + 1) ⟨kd, n, nm, bs, [], [], lf, 0⟩ (qs.map (·.1)) (s.drop p2) := by
        rw [HRES.out, resume_leaf (by rw [List.length_drop]; omega), hb]
        rfl
      have HRES2 := Lib.hid hres2
      have hwl : w.heap.size < wr.heap.size := HB2.out.lt
      have HVB := Lib.hid hvb
      have HR2 := Lib.hid hr2
      have HK2 := Lib.hid hk2
      have HROW : Hid (Row ((w2.alloc (.cells #[.int .i64 kd, .int .i64 n, .string nm, .slice none 0 0, .slice none 0 0, .slice ab bs.size cb] 46)).alloc (.cells #[.int .i64 kd, .int .i64 n, .string nm, .slice none 0 0, .slice none 0 0, .slice ab bs.size cb, .int .i64 lf, .int .i64 0] 126)) 126 8 (.slice va qs.length vc) qs.length (stRow qs)) := Lib.hid ((HST.out.row.keeps hk2 fun g hg e => by have := (HST.out.lown g hg).2.1; exact this (by show g < w.heap.size + 1; omega)).keeps (((Keeps.refl (fun _ => False) w2).alloc _).alloc _) fun _ _ h => h)
      clear hvb hr2 hk2 hb hr hres2 hlt
      go_wp2_with (first | (at_builtin; go_must (refine wpList_append_row _ rfl _ _ 122 122 rfl 126 (.slice 126) 8 120 (.agg #[.int .i64 0, .int .i64 0, .string ByteArray.empty, .slice none 0 0, .slice none 0 0, .slice none 0 0, .int .i64 0, .int .i64 0]) info_open Tryd.underlying122 Tryd.underlying122 (by intro k h; cases h) rfl (.slice va qs.length vc) qs.length (stRow qs) rfl HROW.out _ 1 (fc (⟨kd, n, nm, bs, [], [], lf, 0⟩, .slice none 0 0, .slice none 0 0, .slice ab bs.size cb)) rfl rfl (lenOf_slice _ _ _) (firstCells_at _ rfl (cells_newAt (World.size_alloc ..).symm)) (by intro u hu; simp only [fc, List.mem_cons, List.not_mem_nil, or_false] at hu; rcases hu with rfl | rfl | rfl | rfl | rfl | rfl | rfl | rfl <;> rfl) (by unfold maxLen; omega) (by omega) ?_); intro v' w4 ha; have HA := Lib.hid ha; clear ha))
      have hst4 := leaf_push HST.out hbl hwl HK2.out HVB.out f1 f2 f3 f4 f5' HA.out
      have INIT : Hid (InAt 46 126 w b v s p pO w2.heap.size zeroT v' w4) := Lib.hid (in_of_push hst4 HST.out HR2.out HV.out HRES2.out hpp hqp HB2.out hbl HK.out HK2.out HA.out)
      obtain ⟨wo, rfl⟩ : ∃ wo : World, wo = wr := ⟨_, rfl⟩
      have H24 : Hid (w.heap.size < wo.heap.size ∧ wo.heap.size ≤ w2.heap.size) := Lib.hid ⟨hwl, HK2.out.size⟩
      clear hst4 hwl
      clear HVB HROW HA HST HK2 HRES HRES2 HB2 HR HR2
      go_loopw [3] (fun l wi => InAt 46 126 w b v s p pO w2.heap.size zeroT l wi) (fun l _ => sliceLen l)
      case atStart => exact INIT.out
      case round =>
        obtain ⟨S3, q, qs3, p3, hst, hr, hp3, hq3, hres, hb2, ⟨x0, x1, x2, x3, x4, x5, hb4⟩, hk⟩ := hrel
        obtain ⟨g, gc, el, hgc, hgm⟩ := hst.row.form (Nat.succ_pos _)
        have el2 : _ = Value.slice (some ⟨g, 0, none⟩) (qs3.length + 1) gc := el
        subst el2
        clear el
        unfold maxLen at hgm
        have HST := Lib.hid hst
        have HR := Lib.hid hr
        have HRES := Lib.hid hres
        have HB2 := Lib.hid hb2
        have HB4 := Lib.hid hb4
        have HKI := Lib.hid hk
        have hii : (qs3.length : Int) < (qs3.length : Int) + 1 := by omega
        have hp3l := hr.2.2.1
        have g1 : wrap64 (qs3.length : Int) = (qs3.length : Int) := wrap_len (Nat.le_trans (Nat.le_of_succ_le hq3) (Nat.le_trans hp3l hN))
        have h2l : w.heap.size < w2.heap.size := Nat.lt_of_lt_of_le H24.out.1 H24.out.2
        have HP3 := Lib.hid (And.intro hp3 (And.intro hp3l hq3))
        clear hst hr hres hb2 hb4 hk hp3 hp3l hq3
        go_wp2_with (first | (go_at_call 52; refine Stop.out ?_))
        refine ⟨(more_stack (F := s.length + 1) HST.out HR.out (.inl (by omega)) fun x hx => .inl (by have := HV.out x hx; omega)).mono ?_⟩
        rintro e w3 (⟨st, p5, rfl, ha, hst5, hr5, hp5, hk5⟩ | ⟨st, p5, rfl, ha, hst5, hr5, hp5, hk5⟩ | ⟨l0, c0, k0, E0, ha, rfl, hg⟩)
        · have HST5 := Lib.hid hst5
          have HR5 := Lib.hid hr5
          have HA5 := Lib.hid ha
          have HK5 := Lib.hid hk5
          clear hst5 hr5 ha hk5
          go_wp2
          obtain ⟨hp3, hp3l, hq3⟩ := HP3.out
          exact out_of_more HST.out HST5.out HR5.out (HRES.out.trans HA5.out) hp5 hp3 hq3 HB2.out HK5.out HKI.out hbl HPL.out
        · obtain ⟨fr, vi, vr, vb⟩ := q
          obtain ⟨⟨d0, ⟨ps, _, hrow, _⟩, hr0, hb0⟩, _⟩ := hst5.frs _ (List.mem_cons_self ..)
          obtain ⟨a3, k3, e3, _, _⟩ := hrow.len
          obtain ⟨a4, k4, e4⟩ := hr0.form
          obtain ⟨a5, k5, e5⟩ := hb0.form
          dsimp only at e3 e4 e5
          subst e3 e4 e5
          clear hrow hr0 hb0
          have hgE := (hst5.lown g rfl).2.1
          have hb43 := HB4.out.keeps hk5 (by
            rintro (e | e)
            · omega
            · exact hgE (.inr (Option.some.inj e)))
          have hb23 := HB2.out.keeps hk5 (by
            rintro (e | e)
            · omega
            · have h2 : g = w.heap.size := Option.some.inj e
              exact hgE (.inl (by omega)))
          have hc : ∀ j u, (fc ({ fr with st := st }, .slice a3 fr.items.length k3, .slice a4 fr.rest.length k4, .slice a5 fr.bytes.size k5))[j]? = some u → w3.cell? ⟨g, qs3.length * 8 + j, none⟩ = some u := fun j u hu => hst5.row.cell3 (stRow_cell hu)
          have n1 : ¬ w2.heap.size = w.heap.size := by omega
          have n2 : ¬ w.heap.size = w2.heap.size := by omega
          have n3 : ¬ g = w2.heap.size := fun e => hgE (.inr e)
          have n4 : ¬ w2.heap.size = g := fun e => hgE (.inr e.symm)
          have HST5 := Lib.hid hst5
          have HR5 := Lib.hid hr5
          have HA5 := Lib.hid ha
          have HK5 := Lib.hid hk5
          have HB43 := Lib.hid hb43
          have HB23 := Lib.hid hb23
          have z0 : w3.cell? ⟨w2.heap.size, 0, none⟩ = some x0 := hb43.cell (i := 0) rfl
          have r0 := hb43.free 0
          have z1 : w3.cell? ⟨w2.heap.size, 1, none⟩ = some x1 := hb43.cell (i := 1) rfl
          have r1 := hb43.free 1
          have z2 : w3.cell? ⟨w2.heap.size, 2, none⟩ = some x2 := hb43.cell (i := 2) rfl
          have r2 := hb43.free 2
          have z3 : w3.cell? ⟨w2.heap.size, 3, none⟩ = some x3 := hb43.cell (i := 3) rfl
          have r3 := hb43.free 3
          have z4 : w3.cell? ⟨w2.heap.size, 4, none⟩ = some x4 := hb43.cell (i := 4) rfl
          have r4 := hb43.free 4
          have z5 : w3.cell? ⟨w2.heap.size, 5, none⟩ = some x5 := hb43.cell (i := 5) rfl
          have r5 := hb43.free 5
          have b0 : w3.cell? ⟨w.heap.size, 0, none⟩ = some (.int .i64 0) := hb23.cell (i := 0) rfl
          have s0 := hb23.free 0
          have b1 : w3.cell? ⟨w.heap.size, 1, none⟩ = some (.int .i64 0) := hb23.cell (i := 1) rfl
          have s1 := hb23.free 1
          have b2 : w3.cell? ⟨w.heap.size, 2, none⟩ = some (.string ⟨#[]⟩) := hb23.cell (i := 2) rfl
          have s2 := hb23.free 2
          have b3 : w3.cell? ⟨w.heap.size, 3, none⟩ = some (.slice none 0 0) := hb23.cell (i := 3) rfl
          have s3 := hb23.free 3
          have b4 : w3.cell? ⟨w.heap.size, 4, none⟩ = some (.slice none 0 0) := hb23.cell (i := 4) rfl
          have s4 := hb23.free 4
          have b5 : w3.cell? ⟨w.heap.size, 5, none⟩ = some (.slice none 0 0) := hb23.cell (i := 5) rfl
          have s5 := hb23.free 5
          clear hst5 hr5 ha hk5 hb43 hb23 hgE
          have hgc2 : qs3.length + 1 ≤ gc := hgc
          clear hgc
          rcases qs3 with _ | ⟨q2, qs4⟩
          · have hgc1 : 1 ≤ gc := hgc2
            have y0 : w3.cell? ⟨g, 0, none⟩ = some (.int .i64 fr.kind) := by first | exact hc 0 _ rfl | simpa using hc 0 _ rfl
            have y1 : w3.cell? ⟨g, 1, none⟩ = some (.int .i64 fr.n) := by first | exact hc 1 _ rfl | simpa using hc 1 _ rfl
            have y2 : w3.cell? ⟨g, 2, none⟩ = some (.string fr.name) := by first | exact hc 2 _ rfl | simpa using hc 2 _ rfl
            have y3 : w3.cell? ⟨g, 3, none⟩ = some (.slice a3 fr.items.length k3) := by first | exact hc 3 _ rfl | simpa using hc 3 _ rfl
            have y4 : w3.cell? ⟨g, 4, none⟩ = some (.slice a4 fr.rest.length k4) := by first | exact hc 4 _ rfl | simpa using hc 4 _ rfl
            have y5 : w3.cell? ⟨g, 5, none⟩ = some (.slice a5 fr.bytes.size k5) := by first | exact hc 5 _ rfl | simpa using hc 5 _ rfl
            clear hc g1 hii hgc2
            go_wp2
            have hb5 := HB23.out.keeps (Keeps.six w3 w2.heap.size (.int .i64 fr.kind) (.int .i64 fr.n) (.string fr.name) (.slice a3 fr.items.length k3) (.slice a4 fr.rest.length k4) (.slice a5 fr.bytes.size k5)) n2
            have hb8 := Blk.six hb5 (.int .i64 fr.kind) (.int .i64 fr.n) (.string fr.name) (.slice a3 fr.items.length k3) (.slice a4 fr.rest.length k4) (.slice a5 fr.bytes.size k5)
            have hk9 := ((Keeps.six w3 w2.heap.size (.int .i64 fr.kind) (.int .i64 fr.n) (.string fr.name) (.slice a3 fr.items.length k3) (.slice a4 fr.rest.length k4) (.slice a5 fr.bytes.size k5)).mono (T := fun y => y = w2.heap.size ∨ y = w.heap.size) fun _ _ h => .inl h).trans (Keeps.six _ w.heap.size (.int .i64 fr.kind) (.int .i64 fr.n) (.string fr.name) (.slice a3 fr.items.length k3) (.slice a4 fr.rest.length k4) (.slice a5 fr.bytes.size k5)) fun _ _ h => .inr h
            obtain ⟨⟨d, hd⟩, h8, h9⟩ := end_of_more HST5.out (Nat.le_trans hN (by decide)) HR5.out HK5.out HKI.out hbl HV.out h2l hk9
            exact bodyPost_ret (results_cell1 rfl _ ⟨w.heap.size, 0, none⟩ rfl _ (load_at hb8)) rfl (doneW (HRES.out.trans HA5.out) ⟨d, hd⟩ rfl h8 h9)
          · have hq3 := HP3.out.2.2
            generalize hm : (q2 :: qs4).length = m at *
            obtain ⟨k, hkk⟩ : ∃ k, k = qs4.length := ⟨_, rfl⟩
            have hmk : m = k + 1 := by rw [← hm, hkk]; rfl
            have hgc1 : m ≤ gc := Nat.le_of_succ_le hgc2
            have y0 : w3.cell? ⟨g, m * 8, none⟩ = some (.int .i64 fr.kind) := hc 0 _ rfl
            have y1 : w3.cell? ⟨g, m * 8 + 1, none⟩ = some (.int .i64 fr.n) := hc 1 _ rfl
            have y2 : w3.cell? ⟨g, m * 8 + 2, none⟩ = some (.string fr.name) := hc 2 _ rfl
            have y3 : w3.cell? ⟨g, m * 8 + 3, none⟩ = some (.slice a3 fr.items.length k3) := hc 3 _ rfl
            have y4 : w3.cell? ⟨g, m * 8 + 4, none⟩ = some (.slice a4 fr.rest.length k4) := hc 4 _ rfl
            have y5 : w3.cell? ⟨g, m * 8 + 5, none⟩ = some (.slice a5 fr.bytes.size k5) := hc 5 _ rfl
            have hmN : m ≤ 1099511627776 := Nat.le_trans (Nat.le_of_succ_le hq3) (Nat.le_trans HP3.out.2.1 hN)
            have g2 : wrap64 ((m : Int) - 1) = (k : Int) := wrap_pred hmk hmN
            have g3 : (k : Int) < (m : Int) := lt_pred hmk
            have g4 : ((m : Int) == 0) = false := ne_pred hmk
            have HM := Lib.hid (And.intro hm (And.intro hkk (And.intro hmk (And.intro hq3 hmN))))
            have HB44 := Lib.hid (Blk.six HB43.out (.int .i64 fr.kind) (.int .i64 fr.n) (.string fr.name) (.slice a3 fr.items.length k3) (.slice a4 fr.rest.length k4) (.slice a5 fr.bytes.size k5))
            have HK44 := Lib.hid (Keeps.six w3 w2.heap.size (.int .i64 fr.kind) (.int .i64 fr.n) (.string fr.name) (.slice a3 fr.items.length k3) (.slice a4 fr.rest.length k4) (.slice a5 fr.bytes.size k5))
            have HN := Lib.hid (And.intro hN (And.intro hp5 (And.intro hbl h2l)))
            clear hc hgc2 hN hp5 hbl h2l hqp hvc hvm f1 f2 f3 f4 f5 f5' hpp hp2 hgm hm hkk hmk hq3 hmN
            go_wp2_with (first | (with_reducible refine wp_region_text (by kernel_rfl) (by kernel_rfl) ?_) | (with_reducible refine text_fin (by kernel_rfl) ?_) | (go_at_call 53; refine Stop.out ?_))
            clear g1 g2 g3 g4 hgc1 hii y0 y1 y2 y3 y4 y5 z0 z1 z2 z3 z4 z5 r0 r1 r2 r3 r4 r5 b0 b1 b2 b3 b4 b5 s0 s1 s2 s3 s4 s5
            obtain ⟨hm, hkk, hmk, hq3, hmN⟩ := HM.out
            obtain ⟨hN, hp5, hbl, h2l⟩ := HN.out
            subst hm hkk
            obtain ⟨d, hd, hs⟩ := close_top HST5.out (Nat.le_trans hN (by decide))
            have hk45 := HK44.out.drew
            have hs5 := hs.keeps hk45 fun x _ e => .inr e
            have hd5 := hd.keeps hk45 fun x hx e => (hs.sE x hx).1 (.inr e)
            have hgE := (hs.lown g rfl).2.1
            have h2E := fun x hx => (hs.vown q2 (List.mem_cons_self ..) x hx).1
            have HGE := Lib.hid (And.intro hgE h2E)
            refine ⟨(put_stack hs5 hd5 hN (fun x hx => put_room h2l HB44.out.drew.lt hx)).mono ?_⟩
            rintro e w7 ⟨rfl, S7, q7, hq7, hst7, hk7, _⟩
            have HQ7 := Lib.hid hq7
            have HST7 := Lib.hid hst7
            have HK7 := Lib.hid hk7
            have HK45 := Lib.hid hk45
            have HN := Lib.hid (And.intro hN (And.intro hp5 (And.intro hbl (And.intro h2l hq3))))
            clear hq7 hst7 hk7 hk45 hs5 hd5 hd hs hgE h2E hN hp5 hbl h2l hq3 hmN
            go_wp2_with (first | (with_reducible refine text_fin (by kernel_rfl) ?_))
            obtain ⟨hN, hp5, hbl, h2l, hq3⟩ := HN.out
            exact ⟨in_of_put HST7.out HGE.out.1 HGE.out.2 rfl HR5.out (by rw [HQ7.out]; exact HRES.out.trans HA5.out) hp5 HP3.out.1 (Nat.le_of_succ_le hq3) HB2.out HB44.out.drew HK5.out HKI.out hbl HV.out h2l HK45.out HK7.out, Nat.lt_succ_self _⟩
        · exact ⟨rfl, gaveW (HRES.out.trans ha) rfl (hg.ahead HKI.out)⟩
end Go.Proofs.YtgmieehheoknbaaDoor

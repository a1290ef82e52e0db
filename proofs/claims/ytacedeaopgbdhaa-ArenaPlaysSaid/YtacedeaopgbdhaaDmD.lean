import Derived.Test.YtacedeaopgbdhaaDaU
import Derived.Test.YtacedeaopgbdhaaDmC
section
/-
  The document's arena: Alloc: the lists in memory, in plain words.
-/
namespace Go.Tx
open Go Go.RowKit
theorem while_cut {α : Type} {p : α → Bool} : ∀ {l : List α} {k : Nat}, (∀ j x, j < k → l[j]? = some x → p x = true) → (∀ x, l[k]? = some x → p x = false) → k ≤ l.length → l.takeWhile p = l.take k ∧ l.dropWhile p = l.drop k
  | [], k, _, _, hk => by
    have : k = 0 := by simpa using hk
    subst this
    simp
  | x :: l, 0, _, h2, _ => by
    have := h2 x rfl
    simp [this]
  | x :: l, k + 1, h1, h2, hk => by
    have hx := h1 0 x (by omega) rfl
    obtain ⟨e1, e2⟩ := while_cut (l := l) (k := k) (fun j y hj hy => h1 (j + 1) y (by omega) (by simpa using hy)) (fun y hy => h2 y (by simpa using hy)) (by simpa using hk)
    simp [hx, e1, e2]
theorem DM.take_same (D : DM) (c : Nat) : (D.take c).2.used = D.used ∧ (D.take c).2.taken = D.taken ∧ (D.take c).2.size = D.size ∧ (D.take c).2.quota = D.quota := by
  have hh : ∀ (p c d : Nat) (E : DM), (DM.halves p c d E).size = E.size ∧ (DM.halves p c d E).quota = E.quota := by
    intro p c d
    induction d with
    | zero => exact fun E => ⟨rfl, rfl⟩
    | succ d ih => exact fun E => ⟨(ih _).1, (ih _).2⟩
  unfold DM.take
  split
  · exact ⟨rfl, rfl, rfl, rfl⟩
  · split
    · exact ⟨rfl, rfl, rfl, rfl⟩
    · split
      · exact ⟨(DM.halves_used _ _ _ _).1, (DM.halves_used _ _ _ _).2, (hh _ _ _ _).1, (hh _ _ _ _).2⟩
      · exact ⟨rfl, rfl, rfl, rfl⟩
section
variable {w w' w1 : World} {b fb : Nat} {D D' : DM} {S T : Nat → Prop} {tv : Value} {L : List (DB × Value)} {gv : Nat → Value}
/-- one of the head's cells is turned -/
theorem DocAt.head (h : DocAt w b D S tv L fb gv) (i : Nat) (v : Value) (hc : (docCells D tv fb).set i v = docCells D' tv fb) (ht : D'.taken = D.taken) (hf : D'.free = D.free) :
    DocAt (w.setCell ⟨b, i, none⟩ v) b D' S tv L fb gv ∧ Keeps S w (w.setCell ⟨b, i, none⟩ v) := by
  have K : Keeps (fun x => x = b) w (w.setCell ⟨b, i, none⟩ v) := Keeps.setCell (Keeps.refl (fun x => x = b) w) (p := ⟨b, i, none⟩) (fun _ => rfl) _
  have hb : w.heap[b]? = some (.cells (docCells D tv fb).toArray 91 (0, 0)) := h.blk
  have hne : ∀ {e2 : TypeId} {x : Nat} {cs : Array Value}, e2 ≠ 91 → w.heap[x]? = some (.cells cs e2 (0, 0)) → x ≠ b := fun he hx e => by
    subst e
    rw [hb] at hx
    simp only [Option.some.injEq, Obj.cells.injEq] at hx
    exact he hx.2.1.symm
  refine ⟨⟨?_, ?_, h.lst.trans ht.symm, ?_, h.fbk.keeps K (hne (by decide) h.fbk), ?_, h.sb, h.sf, h.st, h.sw, h.sg, fun x hx => Nat.lt_of_lt_of_le (h.lt x hx) K.size, h.apart⟩, K.mono fun x _ e => e ▸ h.sb⟩
  · rw [← hc]
    exact h.blk.set i v
  · exact h.tk.keeps K fun x hx e => by
      obtain ⟨cs, hcs⟩ := h.tk.block hx
      exact hne (by decide) hcs e
  · intro p hp
    refine (h.ws p hp).keeps K fun x hx e => ?_
    subst e
    exact (h.ws p hp).ne_type (by decide) hb hx
  · rw [hf]
    intro j hj
    exact (h.fr j hj).keeps K fun x hx e => by
      obtain ⟨cs, hcs⟩ := (h.fr j hj).block hx
      exact hne (by decide) hcs e
/-- the list of taken blocks is turned -/
theorem DocAt.setTaken (h : DocAt w b D S tv L fb gv) (k1 : Keeps (fun g => tv.ownBlock = some g) w w1) {v : Value} {M : List (DB × Value)} (hr : Wide w1 100 4 v M.length (M.flatMap dbV))
    (ho : ∀ g, v.ownBlock = some g → S g ∨ w.heap.size ≤ g) (hl : M.map (·.1) = D'.taken) (hws : ∀ p ∈ M, Row w1 41 1 p.2 p.1.len (u64s p.1.ws)) (how : ∀ p ∈ M, ∀ g, p.2.ownBlock = some g → S g ∨ w.heap.size ≤ g)
    (hap : M.Pairwise fun p q => ∀ g, p.2.ownBlock = some g → q.2.ownBlock ≠ some g) (hc : (docCells D tv fb).set 4 v = docCells D' v fb) (hf : D'.free = D.free) :
    IsDoc (w1.setCell ⟨b, 4, none⟩ v) b D' (Ext S w (w1.setCell ⟨b, 4, none⟩ v)) ∧ Keeps S w (w1.setCell ⟨b, 4, none⟩ v) ∧ w1.cell? ⟨b, 4, none⟩ = some tv ∧ w1.frozen? ⟨b, 4, none⟩ = false := by
  have s1 := k1.size
  have hs2 : (w1.setCell ⟨b, 4, none⟩ v).heap.size = w1.heap.size := World.size_setCell ..
  have hty : ∀ {e2 : TypeId} {x : Nat} {cs : Array Value}, e2 ≠ 100 → w.heap[x]? = some (.cells cs e2 (0, 0)) → tv.ownBlock ≠ some x := fun he hx e => by
    obtain ⟨cs, hcs⟩ := h.tk.block e
    rw [hcs] at hx
    simp only [Option.some.injEq, Obj.cells.injEq] at hx
    exact he hx.2.1.symm
  have hb1 := h.blk.keeps k1 (hty (by decide) h.blk)
  have hf1 := h.fbk.keeps k1 (hty (by decide) h.fbk)
  have hfr1 : ∀ j, j < 40 → Wide w1 3 1 (gv j) (D.free j).length (ints (D.free j)) := fun j hj => (h.fr j hj).keeps k1 fun x hx => by
    obtain ⟨cs, hcs⟩ := (h.fr j hj).block hx
    exact hty (by decide) hcs
  have K : Keeps (fun x => x = b) w1 (w1.setCell ⟨b, 4, none⟩ v) := Keeps.setCell (Keeps.refl (fun x => x = b) w1) (p := ⟨b, 4, none⟩) (fun _ => rfl) _
  have hbc : w1.heap[b]? = some (.cells (docCells D tv fb).toArray 91 (0, 0)) := hb1
  have hne : ∀ {e2 : TypeId} {x : Nat} {cs : Array Value}, e2 ≠ 91 → w1.heap[x]? = some (.cells cs e2 (0, 0)) → x ≠ b := fun he hx e => by
    subst e
    rw [hbc] at hx
    simp only [Option.some.injEq, Obj.cells.injEq] at hx
    exact he hx.2.1.symm
  have hext : ∀ g, S g ∨ w.heap.size ≤ g → g < w1.heap.size → Ext S w (w1.setCell ⟨b, 4, none⟩ v) g := fun g hg hlt => hg.imp id fun hg => ⟨hg, by rw [hs2]; exact hlt⟩
  refine ⟨⟨v, M, fb, gv, ?_, ?_, hl, ?_, hf1.keeps K (hne (by decide) hf1), ?_, .inl h.sb, .inl h.sf, fun g hg => hext g (ho g hg) (hr.lt hg), fun p hp g hg => hext g (how p hp g hg) ((hws p hp).lt hg), fun j hj g hg => .inl (h.sg j hj g hg), ?_, hap⟩, (k1.mono (T := S) fun g _ hg => h.st g hg).setCell (fun _ => h.sb) _, hb1.cell (i := 4) rfl, hb1.free 4⟩
  · rw [← hc]
    exact hb1.set 4 v
  · exact hr.keeps K fun x hx e => by
      obtain ⟨cs, hcs⟩ := hr.block hx
      exact hne (by decide) hcs e
  · intro p hp
    refine (hws p hp).keeps K fun x hx e => ?_
    subst e
    exact (hws p hp).ne_type (by decide) hbc hx
  · rw [hf]
    intro j hj
    exact (hfr1 j hj).keeps K fun x hx e => by
      obtain ⟨cs, hcs⟩ := (hfr1 j hj).block hx
      exact hne (by decide) hcs e
  · intro x hx
    rw [hs2]
    rcases hx with hx | hx
    · have := h.lt x hx; omega
    · have := hx.2; rw [hs2] at this; exact this
theorem tail_four {P : Program} {e : TypeId} {g n cap k : Nat} {xs : List Value} (h : Wide w e 4 (.slice (some ⟨g, 0, none⟩) n cap) n xs) (o c : Nat) (ho : o = k * 4 ∨ n ≤ k) (W : World) (hW : W.heap = w.heap) :
    (Builtin.firstCells 4 (n - k) (.slice (some ⟨g, o, none⟩) (n - k) c)).run P W = .ok (xs.drop (k * 4)).toArray W := by
  have hl : xs.length = n * 4 := h.1
  refine firstCells_at w (by rw [List.length_drop, hl]; omega) (fun j u hu => ?_) W hW
  rw [List.getElem?_drop] at hu
  have hj := (List.getElem?_eq_some_iff.1 hu).1
  rcases ho with rfl | ho
  · rw [show (⟨g, k * 4, none⟩ : Addr).add j = ⟨g, k * 4 + j, none⟩ by unfold Addr.add; split <;> simp_all]
    exact h.cell hu
  · omega
theorem flat_take (L : List (DB × Value)) (k : Nat) : (L.flatMap dbV).take (k * 4) = (L.take k).flatMap dbV := by
  induction L generalizing k with
  | nil => simp
  | cons x l ih =>
    cases k with
    | zero => simp
    | succ k =>
      rw [List.take_succ_cons, List.flatMap_cons, List.flatMap_cons, List.take_append, show (dbV x).length = 4 from rfl, ← ih k, show (k + 1) * 4 - 4 = k * 4 by omega]
      congr 1
      exact List.take_of_length_le (by show 4 ≤ _; omega)
theorem flat_drop (L : List (DB × Value)) (k : Nat) : (L.flatMap dbV).drop (k * 4) = (L.drop k).flatMap dbV := by
  induction L generalizing k with
  | nil => simp
  | cons x l ih =>
    cases k with
    | zero => simp
    | succ k =>
      rw [List.drop_succ_cons, List.flatMap_cons, List.drop_append, show (dbV x).length = 4 from rfl, ← ih k, show (k + 1) * 4 - 4 = k * 4 by omega]
      rw [List.drop_of_length_le (by show 4 ≤ _; omega)]
      rfl
theorem flat_cells (L : List (DB × Value)) (h : ∀ p ∈ L, p.2.oneCell' = true) : ∀ u ∈ L.flatMap dbV, u.oneCell' = true := by
  intro u hu
  obtain ⟨p, hp, hu⟩ := List.mem_flatMap.1 hu
  simp only [dbV, List.mem_cons, List.not_mem_nil, or_false] at hu
  rcases hu with rfl | rfl | rfl | rfl
  · rfl
  · rfl
  · rfl
  · exact h p hp
theorem flat_length (L : List (DB × Value)) : (L.flatMap dbV).length = L.length * 4 := by
  induction L with
  | nil => rfl
  | cons x l ih => rw [List.flatMap_cons, List.length_append, ih, show (dbV x).length = 4 from rfl, List.length_cons]; omega
end
end Go.Tx
end
section
/-
  The document's arena: slices of a list of blocks.
-/
namespace Go.Tx
open Go Go.RowKit
section
variable {P : Program} {w : World} {e : TypeId} {size n tc k : Nat} {ta : Option Addr} {xs : List Value}
theorem Wide.form_any (h : Wide w e size (.slice ta n tc) n xs) : (ta = none ∧ tc = 0 ∧ n = 0 ∧ xs = []) ∨ ∃ g, ta = some ⟨g, 0, none⟩ := by
  rcases h.2 with ⟨h1, h2⟩ | ⟨g, cap, cur, h1, _⟩
  · cases h1
    exact .inl ⟨rfl, rfl, rfl, List.eq_nil_of_length_eq_zero (by simpa using h.1)⟩
  · cases h1
    exact .inr ⟨g, rfl⟩
theorem Wide.cut_any (h : Wide w e size (.slice ta n tc) n xs) (hk : k ≤ n) : Wide w e size (.slice ta k k) k (xs.take (k * size)) := by
  rcases h.form_any with ⟨rfl, rfl, rfl, rfl⟩ | ⟨g, rfl⟩
  · obtain rfl : k = 0 := by omega
    simpa using wide_nil w e size
  · exact h.cut hk
theorem tail_any (h : Wide w e 4 (.slice ta n tc) n xs) (hk : k ≤ n) (W : World) (hW : W.heap = w.heap) :
    (Builtin.firstCells 4 (n - k) (.slice (if tc = k then ta else ta.map (·.add (k * 4))) (n - k) (tc - k))).run P W = .ok (xs.drop (k * 4)).toArray W := by
  rcases h.form_any with ⟨rfl, rfl, rfl, rfl⟩ | ⟨g, rfl⟩
  · obtain rfl : k = 0 := by omega
    simpa using firstCells_nil (P := P) 4 0 0 0 W
  · obtain ⟨_, _, h1, h2, h3⟩ := h.len
    cases h1
    by_cases hc : tc = k
    · rw [if_pos hc]
      exact tail_four h 0 _ (.inr (by omega)) W hW
    · rw [if_neg hc, show (some (⟨g, 0, none⟩ : Addr)).map (·.add (k * 4)) = some ⟨g, k * 4, none⟩ by simp [Addr.add]; omega]
      exact tail_four h _ _ (.inl rfl) W hW
theorem op_slice {ρ : Operand → Value} {o : Oper} {t : TypeId} {x : Operand} {l h m : Option Operand} (ho : o.op = .slice t x l h m) {u : Value} (hr : (Instr.sliceAt t (ρ x) (l.map ρ) (h.map ρ) (m.map ρ)).run P w = .ok u w) : (execOp ρ o).run P w = .ok (.value u) w := by
  unfold execOp
  simp only [ho]
  rw [Sem.run_bind, hr]
  rfl
theorem slice_head (t : TypeId) (ht : P.underlying t = some (.slice (P.elem t))) (hs : ∀ W : World, (sizeOf (P.elem t)).run P W = .ok 4 W) (h : Wide w e 4 (.slice ta n tc) n xs) (hk : k ≤ n) (W : World) :
    (Instr.sliceAt t (.slice ta n tc) none (some (.int .i64 (k : Nat))) (some (.int .i64 (k : Nat)))).run P W = .ok (.slice ta k k) W := by
  obtain ⟨_, _, h1, h2, h3⟩ := h.len
  cases h1
  rw [run_sliceAt_slice W t _ _ _ _ ht, run_slice_hm W t ta n tc ht .i64 .i64 k k (by omega) (by omega) (by omega), hs]
  simp only [Result.andThen_ok, sliced, Int.toNat_natCast, Nat.sub_zero, Nat.zero_mul]
  congr 2
  rcases h.form_any with ⟨rfl, _⟩ | ⟨g, rfl⟩
  · simp
  · simp [Addr.add]
theorem slice_tail (t : TypeId) (ht : P.underlying t = some (.slice (P.elem t))) (hs : ∀ W : World, (sizeOf (P.elem t)).run P W = .ok 4 W) (hk : k ≤ n) (W : World) :
    (Instr.sliceAt t (.slice ta n tc) (some (.int .i64 (k : Nat))) none none).run P W = .ok (.slice (if tc = k then ta else ta.map (·.add (k * 4))) (n - k) (tc - k)) W := by
  rw [run_sliceAt_slice W t _ _ _ _ ht, run_slice_l W t ta n tc ht .i64 k (by omega) (by omega), hs]
  simp only [Result.andThen_ok, sliced, Int.toNat_natCast]
theorem wide_new (W : World) (e : TypeId) (x : DB × Value) : Wide (W.alloc (.cells (dbV x).toArray e)) e 4 (.slice (some ⟨W.heap.size, 0, none⟩) 1 1) 1 (dbV x) :=
  ⟨rfl, .inr ⟨_, 1, (dbV x).toArray, rfl, heap_alloc_new W _, Nat.le_refl _, by simp [maxLen], by simp [dbV], rfl⟩⟩
end
end Go.Tx
namespace Go.Proofs.Ytacedeaopgbdhaa
open Go.RowKit Go.Tx
theorem elem_b : Try.prog.underlying 88 = some (.slice (Try.prog.elem 88)) := by kernel_rfl
theorem size_b (W : World) : (sizeOf (Try.prog.elem 88)).run Try.prog W = .ok 4 W := by kernel_rfl
theorem info_b : (Try.prog.info? 100).map (fun i => (i.zero, i.size, i.bytes)) = some (some (.agg #[.int .i64 0, .int .i64 0, .int .i64 0, .slice none 0 0]), 4, 48) := by kernel_rfl
theorem make_words (n : Nat) (hn : n ≤ 1048576) (w : World) : (Instr.makeSlice 49 (.int .i64 n) (.int .i64 n)).run Try.prog w = .ok (.slice (some ⟨w.heap.size, 0, none⟩) n n) (w.alloc (.cells (u64s (List.replicate n 0)).toArray 41)) := by
  obtain ⟨i, hi, hz, h1, h2⟩ := info_parts info_u64
  have := run_makeSlice (P := Try.prog) w 49 41 i (.int .u64 0) Try.underlying49 hi hz .i64 .i64 n n (by omega) (by omega) (by rw [h1]; omega) (by rw [h2]; omega) (by omega)
  have hm : madeCells #[Value.int .u64 0] n = (u64s (List.replicate n 0)).toArray := by
    apply Array.toList_inj.1
    rw [toList_madeCells_one]
    simp [u64s]
  rw [h1, Int.toNat_natCast, Nat.mul_one, show (Value.int .u64 0).cells = #[Value.int .u64 0] from rfl, hm] at this
  exact this
theorem words_row (w : World) (n : Nat) (hn : n ≤ 1048576) : Row (w.alloc (.cells (u64s (List.replicate n 0)).toArray 41)) 41 1 (.slice (some ⟨w.heap.size, 0, none⟩) n n) n (u64s (List.replicate n 0)) :=
  ⟨by simp [u64s], .inr ⟨w.heap.size, n, (u64s (List.replicate n 0)).toArray, rfl, Nat.zero_le _, heap_alloc_new w _, Nat.le_refl _, by unfold maxLen; omega, by simp [u64s], by simp [u64s]⟩⟩
end Go.Proofs.Ytacedeaopgbdhaa
end

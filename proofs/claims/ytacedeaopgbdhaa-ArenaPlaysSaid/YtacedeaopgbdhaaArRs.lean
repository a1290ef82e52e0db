/-
  Wide rows beside an arena, as a list: what a loop holds of them.
-/
import Derived.Test.YtacedeaopgbdhaaArNm
import Derived.Test.YtacedeaopgbdhaaWide
namespace Go.Tx
open Go Go.RowKit
abbrev RowD := TypeId × Value × Nat × List Value
/-- rows that the law has made, each in a block of its own, apart from S -/
structure RowsAt (w : World) (S : Nat → Prop) (R : List RowD) (wr : World) : Prop where
  rows : ∀ r ∈ R, Wide wr r.1 1 r.2.1 r.2.2.1 r.2.2.2
  own : ∀ r ∈ R, ∀ g, r.2.1.ownBlock = some g → w.heap.size ≤ g ∧ ¬ S g
  apart : R.Pairwise fun r s => ∀ g, r.2.1.ownBlock = some g → s.2.1.ownBlock ≠ some g
section
variable {w wr w' w0 w4 : World} {b : Nat} {A B : AM} {S : Nat → Prop} {R R' : List RowD}
theorem RowsAt.read (h : RowsAt w S R wr) (k : Keeps (fun _ => False) wr w') : RowsAt w S R w' := ⟨fun r hr => (h.rows r hr).keeps k fun _ _ h => h, h.own, h.apart⟩
theorem RowsAt.step (h : RowsAt w S R wr) (k : Keeps S wr w') : RowsAt w (Ext S wr w') R w' :=
  ⟨fun r hr => (h.rows r hr).keeps k fun g hg => (h.own r hr g hg).2, fun r hr g hg => ⟨(h.own r hr g hg).1, fun hs => hs.elim (h.own r hr g hg).2 fun hf => by have := (h.rows r hr).lt hg; have := hf.1; omega⟩, h.apart⟩
theorem RowsAt.perm (h : RowsAt w S R wr) (p : R.Perm R') : RowsAt w S R' wr :=
  ⟨fun r hr => h.rows r (p.mem_iff.2 hr), fun r hr => h.own r (p.mem_iff.2 hr), (p.pairwise_iff fun {a b} hab g h1 h2 => hab g h2 h1).1 h.apart⟩
theorem rows_nil : RowsAt w S [] wr := ⟨by simp, by simp, List.Pairwise.nil⟩
theorem RowsAt.more (h : RowsAt w S R wr) (e : TypeId) : RowsAt w S ((e, .slice none 0 0, 0, []) :: R) wr := by
  refine ⟨fun r hr => ?_, fun r hr => ?_, List.Pairwise.cons (fun s _ g hg => by simp [Value.ownBlock] at hg) h.apart⟩
  · rcases List.mem_cons.1 hr with rfl | hr
    · exact wide_nil _ _ _
    · exact h.rows r hr
  · rcases List.mem_cons.1 hr with rfl | hr
    · intro g hg; simp [Value.ownBlock] at hg
    · exact h.own r hr
/-- append onto the first row (or onto a cut of it) -/
theorem RowsAt.put {e : TypeId} {v v1 v' : Value} {n n' : Nat} {xs ys : List Value} (hw : ArW w b A S wr) (h : RowsAt w S ((e, v, n, xs) :: R) wr) (ha : AppendedW w0 w4 e 1 v1 v' n' ys) (k0 : Keeps (fun _ => False) wr w0) (hv : v1.ownBlock = v.ownBlock) :
    ArW w b A S w4 ∧ RowsAt w S ((e, v', n', ys) :: R) w4 := by
  have h0 := hw.read k0
  have hr0 := h.read k0
  have hown := h.own _ (List.mem_cons_self ..)
  obtain ⟨hp1, hp2⟩ := List.pairwise_cons.1 h.apart
  have hfr : ∀ g, v'.ownBlock = some g → v.ownBlock = some g ∨ g = w0.heap.size := fun g hg => by
    rcases ha.own with ho | ⟨ho, _⟩
    · left; rw [← hv, ← ho]; exact hg
    · right; rw [ho] at hg; simp at hg; exact hg.symm
  refine ⟨⟨h0.net.keeps ha.keeps fun g hs ho => (hown g (hv ▸ ho)).2 hs, hw.new, h0.keep.trans ha.keeps fun x hx ho => by have := (hown x (hv ▸ ho)).1; omega⟩, fun r hr => ?_, fun r hr => ?_, List.Pairwise.cons (fun s hs g hg hg2 => ?_) hp2⟩
  · rcases List.mem_cons.1 hr with rfl | hr
    · exact ha.row
    · exact (hr0.rows r (List.mem_cons_of_mem _ hr)).keeps ha.keeps fun g hg ho => hp1 r hr g (hv ▸ ho) hg
  · rcases List.mem_cons.1 hr with rfl | hr
    · intro g hg
      rcases hfr g hg with h1 | rfl
      · exact hown g h1
      · exact ⟨h0.keep.size, fun hs => by have := hw.net.lt _ hs; have := k0.size; omega⟩
    · exact h.own r (List.mem_cons_of_mem _ hr)
  · rcases hfr g hg with h1 | rfl
    · exact hp1 s hs g h1 hg2
    · have := (hr0.rows s (List.mem_cons_of_mem _ hs)).lt hg2
      omega
theorem ArW.same (h : ArW w b A S wr) (ha : IsArena w' b B S) (k : Keeps S wr w') : ArW w b B S w' := ⟨ha, h.new, h.keep.trans k fun x hx hs => by have := h.new x hs; omega⟩
theorem RowsAt.same (h : RowsAt w S R wr) (k : Keeps S wr w') : RowsAt w S R w' := ⟨fun r hr => (h.rows r hr).keeps k fun g hg => (h.own r hr g hg).2, h.own, h.apart⟩
theorem tail_one {P : Program} {e : TypeId} {g n cap k : Nat} {xs : List Value} (h : Wide wr e 1 (.slice (some ⟨g, 0, none⟩) n cap) n xs) (o c : Nat) (ho : o = k ∨ n ≤ k) (W : World) (hW : W.heap = wr.heap) :
    (Builtin.firstCells 1 (n - k) (.slice (some ⟨g, o, none⟩) (n - k) c)).run P W = .ok (xs.drop k).toArray W := by
  have hl : xs.length = n := by have := h.1; omega
  refine firstCells_at wr (by rw [List.length_drop, hl]; omega) (fun j u hu => ?_) W hW
  rw [List.getElem?_drop] at hu
  have hj := (List.getElem?_eq_some_iff.1 hu).1
  rcases ho with rfl | ho
  · rw [show (⟨g, o, none⟩ : Addr).add j = ⟨g, o + j, none⟩ by unfold Addr.add; split <;> simp_all]
    exact h.cell hu
  · omega
theorem tail_cells {xs : List Value} {k : Nat} (h : ∀ u ∈ xs, u.oneCell' = true) : ∀ u ∈ xs.drop k, u.oneCell' = true := fun u hu => h u (List.mem_of_mem_drop hu)
theorem ints_cell {l : List Nat} : ∀ u ∈ ints l, u.oneCell' = true := fun u hu => by obtain ⟨_, _, rfl⟩ := List.mem_map.1 hu; rfl
def u64n (l : List Nat) : List Value := l.map fun p => Value.int .u64 (p : Nat)
abbrev Trip := Nat × Nat × Nat
/-- the law's three rows: names, lengths, marks -/
def threeR (nv lv mv : Value) (n : Nat) (N L M : List Nat) : List RowD := [(3, nv, n, ints N), (3, lv, n, ints L), (41, mv, n, u64n M)]
def RowsT (w : World) (S : Nat → Prop) (nv lv mv : Value) (T : List Trip) (wr : World) : Prop := RowsAt w S (threeR nv lv mv T.length (T.map (·.1)) (T.map (·.2.1)) (T.map (·.2.2))) wr
theorem RowsT.n {nv lv mv : Value} {T : List Trip} (h : RowsT w S nv lv mv T wr) : Wide wr 3 1 nv T.length (ints (T.map (·.1))) := h.rows (3, nv, T.length, ints (T.map (·.1))) (by simp [threeR])
theorem RowsT.l {nv lv mv : Value} {T : List Trip} (h : RowsT w S nv lv mv T wr) : Wide wr 3 1 lv T.length (ints (T.map (·.2.1))) := h.rows (3, lv, T.length, ints (T.map (·.2.1))) (by simp [threeR])
theorem RowsT.m {nv lv mv : Value} {T : List Trip} (h : RowsT w S nv lv mv T wr) : Wide wr 41 1 mv T.length (u64n (T.map (·.2.2))) := h.rows (41, mv, T.length, u64n (T.map (·.2.2))) (by simp [threeR])
theorem RowsT.read {nv lv mv : Value} {T : List Trip} (h : RowsT w S nv lv mv T wr) (k : Keeps (fun _ => False) wr w') : RowsT w S nv lv mv T w' := RowsAt.read h k
theorem RowsT.step {nv lv mv : Value} {T : List Trip} (h : RowsT w S nv lv mv T wr) (k : Keeps S wr w') : RowsT w (Ext S wr w') nv lv mv T w' := RowsAt.step h k
theorem RowsT.same {nv lv mv : Value} {T : List Trip} (h : RowsT w S nv lv mv T wr) (k : Keeps S wr w') : RowsT w S nv lv mv T w' := RowsAt.same h k
theorem RowsT.open {nv lv mv : Value} {T : List Trip} (h : RowsT w S nv lv mv T wr) : RowsAt w S [(3, nv, T.length, ints (T.map (·.1))), (3, lv, T.length, ints (T.map (·.2.1))), (41, mv, T.length, u64n (T.map (·.2.2)))] wr := h
theorem rowsT_nil : RowsT w S (.slice none 0 0) (.slice none 0 0) (.slice none 0 0) [] wr := ((rows_nil.more 41).more 3).more 3
theorem swap1 {x y z : RowD} : [x, y, z].Perm [y, x, z] := List.Perm.swap ..
theorem swap2 {x y z : RowD} : [x, y, z].Perm [z, x, y] := (List.perm_append_comm (l₁ := [x, y]) (l₂ := [z]))
theorem turn3 {x y z : RowD} : [x, y, z].Perm [z, y, x] := swap2.trans (List.Perm.cons _ (List.Perm.swap ..))
theorem rows_close {nv lv mv : Value} {T : List Trip} {n : Nat} {N L M : List Value} (h : RowsAt w S [(41, mv, n, M), (3, lv, n, L), (3, nv, n, N)] wr) (hn : n = T.length) (h1 : N = ints (T.map (·.1))) (h2 : L = ints (T.map (·.2.1))) (h3 : M = u64n (T.map (·.2.2))) :
    RowsT w S nv lv mv T wr := by
  subst hn h1 h2 h3
  exact h.perm turn3
theorem u64n_cell {l : List Nat} : ∀ u ∈ u64n l, u.oneCell' = true := fun u hu => by obtain ⟨_, _, rfl⟩ := List.mem_map.1 hu; rfl
theorem erase_len1 {T : List Trip} {j : Nat} (h : j < T.length) : j + (T.length - (j + 1)) = (T.eraseIdx j).length := by rw [List.length_eraseIdx, if_pos h]; omega
theorem erase_ints {T : List Trip} {j : Nat} (f : Trip → Nat) : (ints (T.map f)).take (j * 1) ++ (ints (T.map f)).drop (j + 1) = ints ((T.eraseIdx j).map f) := by
  rw [List.eraseIdx_eq_take_drop_succ, Nat.mul_one]; simp [ints, List.map_take, List.map_drop]
theorem erase_u64n {T : List Trip} {j : Nat} (f : Trip → Nat) : (u64n (T.map f)).take (j * 1) ++ (u64n (T.map f)).drop (j + 1) = u64n ((T.eraseIdx j).map f) := by
  rw [List.eraseIdx_eq_take_drop_succ, Nat.mul_one]; simp [u64n, List.map_take, List.map_drop]
theorem u64n_snoc {L : List Nat} {p : Nat} : u64n L ++ [.int .u64 (p : Nat)] = u64n (L ++ [p]) := by simp [u64n]
end
end Go.Tx

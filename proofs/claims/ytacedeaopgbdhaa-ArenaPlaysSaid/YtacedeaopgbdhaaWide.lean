/-
  Rows whose block may be longer than their cap: what 's[:j:j]' leaves; append onto them.
-/
import Derived.Test.YtacedeaopgbdhaaMem
import Derived.Test.YtacedeaopgbdhaaBlk
namespace Go.Tx
open Go Go.RowKit
/-- a slice at the head of its own block, whose cells may be more than its cap -/
def Wide (w : World) (e : TypeId) (size : Nat) (v : Value) (n : Nat) (xs : List Value) : Prop :=
  xs.length = n * size ∧
  ((v = .slice none 0 0 ∧ n = 0) ∨
   ∃ g cap cur, v = .slice (some ⟨g, 0, none⟩) n cap ∧ w.heap[g]? = some (.cells cur e (0, 0)) ∧ n ≤ cap ∧ cap ≤ maxLen ∧ cap * size ≤ cur.size ∧ cur.toList.take (n * size) = xs)
section
variable {w w' : World} {S : Nat → Prop} {e : TypeId} {size : Nat} {v : Value} {n : Nat} {xs : List Value}
theorem wide_nil (w : World) (e : TypeId) (size : Nat) : Wide w e size (.slice none 0 0) 0 [] := ⟨by simp, .inl ⟨rfl, rfl⟩⟩
theorem Wide.keeps (h : Wide w e size v n xs) (k : Keeps S w w') (hs : ∀ g, v.ownBlock = some g → ¬ S g) : Wide w' e size v n xs := by
  refine ⟨h.1, ?_⟩
  rcases h.2 with hn | ⟨g, cap, cur, rfl, hgg, rest⟩
  · exact .inl hn
  · refine .inr ⟨g, cap, cur, rfl, ?_, rest⟩
    rw [k.block g (Array.getElem?_eq_some_iff.1 hgg).1 (hs g rfl)]
    exact hgg
theorem Wide.lt (h : Wide w e size v n xs) {g : Nat} (hg : v.ownBlock = some g) : g < w.heap.size := by
  rcases h.2 with ⟨rfl, _⟩ | ⟨g', cap, cur, rfl, hgg, _⟩
  · simp [Value.ownBlock] at hg
  · simp [Value.ownBlock] at hg
    subst hg
    exact (Array.getElem?_eq_some_iff.1 hgg).1
theorem Wide.form (h : Wide w e size v n xs) (hn : 0 < n) : ∃ g cap, v = .slice (some ⟨g, 0, none⟩) n cap ∧ n ≤ cap ∧ cap ≤ maxLen := by
  rcases h.2 with ⟨_, h0⟩ | ⟨g, cap, cur, rfl, _, h1, h2, _⟩
  · omega
  · exact ⟨g, cap, rfl, h1, h2⟩
theorem Wide.len (h : Wide w e size v n xs) : ∃ a cap, v = .slice a n cap ∧ n ≤ cap ∧ cap ≤ maxLen := by
  rcases h.2 with ⟨rfl, rfl⟩ | ⟨g, cap, cur, rfl, _, h1, h2, _⟩
  · exact ⟨none, 0, rfl, Nat.le_refl _, by simp [maxLen]⟩
  · exact ⟨_, cap, rfl, h1, h2⟩
theorem Wide.cells (h : Wide w e size v n xs) {g : Nat} (hg : v.ownBlock = some g) : ∀ j u, xs[j]? = some u → w.cell? ((⟨g, 0, none⟩ : Addr).add j) = some u := by
  intro j u hu
  rcases h.2 with ⟨rfl, _⟩ | ⟨g', cap, cur, rfl, hgg, _, _, _, htake⟩
  · simp [Value.ownBlock] at hg
  · simp [Value.ownBlock] at hg
    subst hg
    have hadd : (⟨g', 0, none⟩ : Addr).add j = ⟨g', j, none⟩ := by unfold Addr.add; split <;> simp_all
    rw [hadd, cell_of_row w g' j cur e (0, 0) hgg]
    rw [← htake, List.getElem?_take] at hu
    split at hu
    · simpa using hu
    · cases hu
theorem Wide.cell {g cap : Nat} (h : Wide w e size (.slice (some ⟨g, 0, none⟩) n cap) n xs) {i : Nat} {u : Value} (hv : xs[i]? = some u) : w.cell? ⟨g, i, none⟩ = some u := by
  have := h.cells (g := g) rfl i u hv
  rwa [show (⟨g, 0, none⟩ : Addr).add i = ⟨g, i, none⟩ by unfold Addr.add; split <;> simp_all] at this
/-- 's[:k:k]' -/
theorem Wide.cut {g cap : Nat} (h : Wide w e size (.slice (some ⟨g, 0, none⟩) n cap) n xs) {k : Nat} (hk : k ≤ n) : Wide w e size (.slice (some ⟨g, 0, none⟩) k k) k (xs.take (k * size)) := by
  refine ⟨?_, ?_⟩
  · rw [List.length_take, h.1]; exact Nat.min_eq_left (Nat.mul_le_mul_right _ hk)
  · rcases h.2 with ⟨h0, _⟩ | ⟨g', cap', cur, hv, hgg, h1, h2, h3, h4⟩
    · cases h0
    · cases hv
      refine .inr ⟨_, _, cur, rfl, hgg, Nat.le_refl _, by omega, Nat.le_trans (Nat.mul_le_mul_right _ (by omega)) h3, ?_⟩
      rw [← h4, List.take_take, Nat.min_eq_left (Nat.mul_le_mul_right _ hk)]
end
section
variable {P : Program} (w : World)
/-- 'append(s, x...)' onto a wide row: what stands behind it -/
structure AppendedW (w w' : World) (e : TypeId) (size : Nat) (v v' : Value) (n : Nat) (xs : List Value) : Prop where
  row : Wide w' e size v' n xs
  keeps : Keeps (Own v) w w'
  own : v'.ownBlock = v.ownBlock ∨ (v'.ownBlock = some w.heap.size ∧ w'.heap.size = w.heap.size + 1)
  notNil : 0 < n → v'.ownBlock ≠ none

theorem run_append_wide (t t2 ty e : TypeId) (d2 : TypeDesc) (i : TypeInfo) (z : Value) (ht : P.underlying t = some (.slice e)) (ht2 : P.underlying t2 = some d2) (hd2 : ∀ k, d2 ≠ .int k)
    (hi : P.info? e = some i) (hz : i.zero = some z) (hzs : z.cells.size = i.size)
    (v : Value) (n : Nat) (xs : List Value) (hrow : Wide w e i.size v n xs)
    (x : Value) (m : Nat) (news : List Value) (hl : news.length = m * i.size) (hlen : ∀ W, (Builtin.lenOf x).run P W = .ok m W) (hfc : ∀ W : World, W.heap = w.heap → (Builtin.firstCells i.size m x).run P W = .ok news.toArray W)
    (h1 : ∀ u ∈ news, u.oneCell' = true) (h63 : n + m ≤ maxLen) (hbytes : (n + m) * i.bytes ≤ 140737488355328) :
    ∃ v' w', (Builtin.append_ #[t, t2] ty #[v, x]).run P w = .ok v' w' ∧ AppendedW w w' e i.size v v' (n + m) (xs ++ news) := by
  have hint : ∀ k, d2 ≠ .int k := hd2
  have hm2 : (match d2 with | .int _ => true | _ => false) = false := by cases d2 <;> first | rfl | exact absurd rfl (hd2 _)
  have hlen2 : (xs ++ news).length = (n + m) * i.size := by rw [List.length_append, hrow.1, hl, Nat.add_mul]
  have hsmall : ¬ (((n + m : Nat) : Int) > IntKind.i64.max) := by
    have : IntKind.i64.max = 9223372036854775807 := by decide
    rw [this]; unfold maxLen at h63; omega
  -- the grown block
  have grown : ∀ old : Nat, old < n + m →
      AppendedW w (w.drew.alloc (.cells (xs.toArray ++ news.toArray ++ Builtin.zeroCells z.cells (grownCap w (n + m) old e - (n + m))) e)) e i.size v
        (.slice (some ⟨w.heap.size, 0, none⟩) (n + m) (grownCap w (n + m) old e)) (n + m) (xs ++ news) := by
    intro old ho
    have hge := grownCap_ge w (n + m) old e
    have hcm : grownCap w (n + m) old e ≤ maxLen := grownCap_le_maxLen w (n + m) old e h63
    refine ⟨⟨hlen2, .inr ⟨w.heap.size, _, _, rfl, heap_alloc_new w.drew _, hge, hcm, Nat.le_of_eq ?_, ?_⟩⟩, (Keeps.drew (Keeps.refl _ _)).alloc _, .inr ⟨rfl, by simp⟩, fun _ => by simp [Value.ownBlock]⟩
    · simp only [Array.size_append, List.size_toArray, size_zero1, hzs, hrow.1, hl, ← Nat.add_mul]
      congr 1
      omega
    · simp only [Array.toList_append, List.append_assoc]
      rw [← List.append_assoc, ← hlen2]
      exact List.take_left
  have hw0 := hfc w rfl
  rcases hrow.2 with ⟨rfl, rfl⟩ | ⟨g, cap, cur, rfl, hg, hnc, hcm, hcs, htake⟩
  · have hx : xs = [] := List.eq_nil_of_length_eq_zero (by simpa using hrow.1)
    subst hx
    by_cases hm : m = 0
    · subst hm
      have hn : news = [] := List.eq_nil_of_length_eq_zero (by simpa using hl)
      subst hn
      refine ⟨.slice none 0 0, w, ?_, wide_nil w e i.size, Keeps.refl _ _, .inl rfl, fun h => absurd h (by simp)⟩
      simp [Builtin.append_, run_underlying ht, run_underlying ht2, sizeOf, typeInfo, hi, hlen, hw0]
    · have hgr := grown 0 (by omega)
      have hfit := growslice_fits (need := 0 + m) (old := 0) (bytes := i.bytes) (by omega) hbytes
      have hfd := hfc w.drew rfl
      simp only [Nat.zero_add, List.nil_append, Array.empty_append] at hgr hfit hsmall ⊢
      refine ⟨_, _, ?_, hgr⟩
      have hnil : ∀ W, (Builtin.firstCells i.size 0 (.slice none 0 0)).run P W = .ok #[] W := fun W => by simp [Builtin.firstCells]
      have hno : ¬ (281474976710656 < Builtin.nextslicecap m 0 * i.bytes) := by omega
      have hnm : ¬ m ≤ 0 := by omega
      have hs2 : ¬ ((9223372036854775807 : Int) < (m : Int)) := by unfold maxLen at h63; omega
      simp [Builtin.append_, run_underlying ht, run_underlying ht2, sizeOf, typeInfo, hi, hlen, hs2, hno, Question.forced, grownCap, hfd, hnil, zeroValue, hz, newRow, hm]
  · by_cases hroom : n + m ≤ cap
    · have hfit : n * i.size + news.length ≤ cur.size := by rw [hl, ← Nat.add_mul]; exact Nat.le_trans (Nat.mul_le_mul_right _ hroom) hcs
      have hst := run_storeCells_at P g (n * i.size) e news 0 cur w hg (by simpa using hfit) h1
      simp only [Nat.add_zero] at hst
      refine ⟨.slice (some ⟨g, 0, none⟩) (n + m) cap, w.setRow g (cur.toList.take (n * i.size) ++ news ++ cur.toList.drop (n * i.size + news.length)).toArray, ?_, ⟨hlen2, .inr ⟨g, cap, _, rfl, setRow_heap w g cur _ e _ hg, hroom, hcm, ?_, ?_⟩⟩, ?_, .inl rfl, fun _ => by simp [Value.ownBlock]⟩
      · simp [Builtin.append_, run_underlying ht, run_underlying ht2, sizeOf, typeInfo, hi, hlen, hroom, hw0, Addr.add_lit, hst]
      · simp only [List.size_toArray, List.length_append, List.length_take, List.length_drop, Array.length_toList]
        omega
      · rw [htake, ← hlen2]
        exact List.take_left
      · exact keeps_setRow.mono fun b _ hb => by subst hb; rfl
    · have hold : (Builtin.firstCells i.size n (.slice (some ⟨g, 0, none⟩) n cap)).run P w.drew = .ok xs.toArray w.drew :=
        run_firstCells_some (P := P) w.drew i.size n ⟨g, 0, none⟩ n cap xs hrow.1 (hrow.cells (g := g) rfl)
      have hgr := grown cap (by omega)
      have hfit := growslice_fits (need := n + m) (old := cap) (bytes := i.bytes) (by omega) hbytes
      have hfd := hfc w.drew rfl
      refine ⟨_, _, ?_, hgr⟩
      have hno : ¬ (281474976710656 < Builtin.nextslicecap (n + m) cap * i.bytes) := by omega
      have hs2 : ¬ ((9223372036854775807 : Int) < (n : Int) + (m : Int)) := by unfold maxLen at h63; omega
      simp [Builtin.append_, run_underlying ht, run_underlying ht2, sizeOf, typeInfo, hi, hlen, hroom, hs2, hno, Question.forced, grownCap, hfd, hold, zeroValue, hz, newRow]
      rw [← Array.append_assoc]; simp

/-- THE WALK's LAW for 'append' onto a wide row, whatever is appended. -/
theorem wpList_append_wide {ops : Array Oper} {rest : List Oper} {o : Oper} {a : Act} {Q : Exit → Act → World → Prop} (hgd : o.guard = none) (s x : Operand) (t t2 : TypeId)
    (ho : o.op = .call { callee := .builtin .append, args := #[s, x], argTypes := #[t, t2] })
    (e : TypeId) (d2 : TypeDesc) (size bytes : Nat) (z : Value) (hinfo : (P.info? e).map (fun i => (i.zero, i.size, i.bytes)) = some (some z, size, bytes))
    (ht : P.underlying t = some (.slice e)) (ht2 : P.underlying t2 = some d2) (hd2 : ∀ k, d2 ≠ .int k) (hzs : z.cells.size = size)
    (v : Value) (n : Nat) (xs : List Value) (hs : a.eval s = v) (hrow : Wide w e size v n xs)
    (xv : Value) (m : Nat) (news : List Value) (hx : a.eval x = xv) (hl : news.length = m * size) (hlen : ∀ W, (Builtin.lenOf xv).run P W = .ok m W)
    (hfc : ∀ W : World, W.heap = w.heap → (Builtin.firstCells size m xv).run P W = .ok news.toArray W)
    (h1 : ∀ u ∈ news, u.oneCell' = true) (h63 : n + m ≤ maxLen) (hbytes : (n + m) * bytes ≤ 140737488355328)
    (h : ∀ v' w', AppendedW w w' e size v v' (n + m) (xs ++ news) → wpList P ops Q rest (a.put o.dst v') w') : wpList P ops Q (o :: rest) a w := by
  obtain ⟨i, hi, hz, rfl, rfl⟩ := info_parts hinfo
  obtain ⟨v', w', hr, happ⟩ := run_append_wide (P := P) w t t2 o.type e d2 i z ht ht2 hd2 hi hz hzs v n xs hrow xv m news hl hlen hfc h1 h63 hbytes
  refine wpList_plain hgd fun K hK => ?_
  unfold Oper.wp execOp
  simp only [ho, resolve, invoke, builtin, Sem.run_bind, Sem.run_pure, Result.andThen_ok, List.map_toArray, List.map_cons, List.map_nil, hs, hx, hr]
  exact hK _ _ (h v' w' happ)

end
end Go.Tx

/-
  append onto a slice that has no room left, whatever its block's marks are.
-/
import Derived.Test.YtgmieehheoknbaaMem
namespace Go.Tx
open Go Go.RowKit
variable {P : Program} {w : World}
theorem run_append_full (t t2 ty e : TypeId) (d2 : TypeDesc) (i : TypeInfo) (z : Value) (ht : P.underlying t = some (.slice e)) (ht2 : P.underlying t2 = some d2) (hd2 : ∀ k, d2 ≠ .int k)
    (hi : P.info? e = some i) (hz : i.zero = some z) (hzs : z.cells.size = i.size)
    (g n : Nat) (xs : List Value) (hx : xs.length = n * i.size) (hcell : ∀ j u, xs[j]? = some u → w.cell? ⟨g, j, none⟩ = some u)
    (x : Value) (m : Nat) (news : List Value) (hl : news.length = m * i.size) (hlen : ∀ W, (Builtin.lenOf x).run P W = .ok m W) (hfc : ∀ W : World, W.heap = w.heap → (Builtin.firstCells i.size m x).run P W = .ok news.toArray W)
    (hm : 0 < m) (h63 : n + m ≤ maxLen) (hbytes : (n + m) * i.bytes ≤ 140737488355328) :
    ∃ v' w', (Builtin.append_ #[t, t2] ty #[.slice (some ⟨g, 0, none⟩) n n, x]).run P w = .ok v' w' ∧ Appended w w' e i.size (.slice none 0 0) v' (n + m) (xs ++ news) := by
  have hint : ∀ k, d2 ≠ .int k := hd2
  have hm2 : (match d2 with | .int _ => true | _ => false) = false := by cases d2 <;> first | rfl | exact absurd rfl (hd2 _)
  have hlen2 : (xs ++ news).length = (n + m) * i.size := by rw [List.length_append, hx, hl, Nat.add_mul]
  have grown : Appended w (w.drew.alloc (.cells (xs.toArray ++ news.toArray ++ Builtin.zeroCells z.cells (grownCap w (n + m) n e - (n + m))) e)) e i.size (.slice none 0 0)
        (.slice (some ⟨w.heap.size, 0, none⟩) (n + m) (grownCap w (n + m) n e)) (n + m) (xs ++ news) := by
    have hge := grownCap_ge w (n + m) n e
    have hcm : grownCap w (n + m) n e ≤ maxLen := grownCap_le_maxLen w (n + m) n e h63
    refine ⟨⟨hlen2, .inr ⟨w.heap.size, _, _, rfl, Nat.zero_le _, heap_alloc_new w.drew _, hge, hcm, ?_, ?_⟩⟩, (Keeps.drew (Keeps.refl _ _)).alloc _, .inr ⟨rfl, by simp⟩, fun _ => by simp [Value.ownBlock]⟩
    · simp only [Array.size_append, List.size_toArray, size_zero1, hzs, hx, hl, ← Nat.add_mul]
      congr 1
      omega
    · simp only [Array.toList_append, List.append_assoc]
      rw [← List.append_assoc, ← hlen2]
      exact List.take_left
  have hw0 := hfc w rfl
  have hroom : ¬ n + m ≤ n := by omega
  have hold : (Builtin.firstCells i.size n (.slice (some ⟨g, 0, none⟩) n n)).run P w.drew = .ok xs.toArray w.drew :=
    run_firstCells_some (P := P) w.drew i.size n ⟨g, 0, none⟩ n n xs hx (fun j u hu => by rw [Addr.add_lit, Nat.zero_add]; exact hcell j u hu)
  have hfit := growslice_fits (need := n + m) (old := n) (bytes := i.bytes) (by omega) hbytes
  have hfd := hfc w.drew rfl
  refine ⟨_, _, ?_, grown⟩
  have hno : ¬ (281474976710656 < Builtin.nextslicecap (n + m) n * i.bytes) := by omega
  have hs2 : ¬ ((9223372036854775807 : Int) < (n : Int) + (m : Int)) := by unfold maxLen at h63; omega
  have hmz : ¬ m = 0 := by omega
  simp [Builtin.append_, run_underlying ht, run_underlying ht2, sizeOf, typeInfo, hi, hlen, hroom, hs2, hno, Question.forced, grownCap, hfd, hold, zeroValue, hz, newRow, hmz]
  rw [← Array.append_assoc]; simp
/-- THE WALK's LAW for 'append' onto such a slice. -/
theorem wpList_append_full {ops : Array Oper} {rest : List Oper} {o : Oper} {a : Act} {Q : Exit → Act → World → Prop} (hgd : o.guard = none) (s x : Operand) (t t2 : TypeId)
    (ho : o.op = .call { callee := .builtin .append, args := #[s, x], argTypes := #[t, t2] })
    (e : TypeId) (d2 : TypeDesc) (size bytes : Nat) (z : Value) (hinfo : (P.info? e).map (fun i => (i.zero, i.size, i.bytes)) = some (some z, size, bytes))
    (ht : P.underlying t = some (.slice e)) (ht2 : P.underlying t2 = some d2) (hd2 : ∀ k, d2 ≠ .int k) (hzs : z.cells.size = size)
    (g n : Nat) (xs : List Value) (hs : a.eval s = .slice (some ⟨g, 0, none⟩) n n) (hxl : xs.length = n * size) (hcell : ∀ j u, xs[j]? = some u → w.cell? ⟨g, j, none⟩ = some u)
    (xv : Value) (m : Nat) (news : List Value) (hx : a.eval x = xv) (hl : news.length = m * size) (hlen : ∀ W, (Builtin.lenOf xv).run P W = .ok m W)
    (hfc : ∀ W : World, W.heap = w.heap → (Builtin.firstCells size m xv).run P W = .ok news.toArray W)
    (hm : 0 < m) (h63 : n + m ≤ maxLen) (hbytes : (n + m) * bytes ≤ 140737488355328)
    (h : ∀ v' w', Appended w w' e size (.slice none 0 0) v' (n + m) (xs ++ news) → wpList P ops Q rest (a.put o.dst v') w') : wpList P ops Q (o :: rest) a w := by
  obtain ⟨i, hi, hz, rfl, rfl⟩ := info_parts hinfo
  obtain ⟨v', w', hr, happ⟩ := run_append_full (P := P) t t2 o.type e d2 i z ht ht2 hd2 hi hz hzs g n xs hxl hcell xv m news hl hlen hfc hm h63 hbytes
  refine wpList_plain hgd fun K hK => ?_
  unfold Oper.wp execOp
  simp only [ho, resolve, invoke, builtin, Sem.run_bind, Sem.run_pure, Result.andThen_ok, List.map_toArray, List.map_cons, List.map_nil, hs, hx, hr]
  exact hK _ _ (h v' w' happ)
end Go.Tx

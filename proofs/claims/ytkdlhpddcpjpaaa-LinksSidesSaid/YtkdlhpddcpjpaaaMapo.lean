/-
  Maps that may be nil; keys that are pairs of integers.
-/
import Derived.Test.YtkdlhpddcpjpaaaBlk
import Derived.WideKeyRuns
import Derived.Laws.StructEq
namespace Go.Tx
open Go Go.RowKit

section
variable {K : Type} [DecidableEq K] {P : Program} {enc : K → Value} {w w' : World} {v : Value} {kv left : List (K × Value)} {T kT eT : TypeId} {z : Value} {r : Nat}

/-- a map that may be nil -/
def MapO (enc : K → Value) (w : World) (v : Value) (kv : List (K × Value)) : Prop := (v = .map none ∧ kv = []) ∨ ∃ m, v = .map (some m) ∧ MapIs enc w m kv
/-- the block of a map -/
def mapB (v : Value) (b : Nat) : Prop := v = .map (some b)

omit [DecidableEq K] in
theorem MapO.keeps {S : Nat → Prop} (h : MapO enc w v kv) (k : Keeps S w w') (hs : ∀ m, mapB v m → ¬ S m) : MapO enc w' v kv := by
  rcases h with h | ⟨m, rfl, h⟩
  · exact .inl h
  · exact .inr ⟨m, rfl, h.keeps k (hs m rfl)⟩
omit [DecidableEq K] in
theorem MapO.form (h : MapO enc w v kv) : ∃ o, v = .map o := by
  rcases h with ⟨rfl, _⟩ | ⟨m, rfl, _⟩ <;> exact ⟨_, rfl⟩
omit [DecidableEq K] in
theorem MapO.nodup (h : MapO enc w v kv) : (kv.map (·.1)).Nodup := by
  rcases h with ⟨_, rfl⟩ | ⟨m, _, h⟩
  · simp
  · exact h.nodup
omit [DecidableEq K] in
theorem MapO.lt (h : MapO enc w v kv) {b : Nat} (hb : mapB v b) : b < w.heap.size := by
  rcases h with ⟨rfl, _⟩ | ⟨m, rfl, h⟩
  · cases hb
  · cases hb; exact h.lt

theorem run_lookup_o (hK : KeyL P kT enc) (ht : P.underlying T = some (.map kT eT)) (hz : (zeroValue eT).run P w = .ok z w) (h : MapO enc w v kv) (k : K) (ok : Bool) :
    (Instr.lookup T v (enc k) ok).run P w = .ok (if ok then .tuple #[(kvGet kv k).getD z, .bool (kvGet kv k).isSome] else (kvGet kv k).getD z) w := by
  rcases h with ⟨rfl, rfl⟩ | ⟨m, rfl, h⟩
  · exact run_lookup_nil hK ht hz k ok
  · exact run_lookup_kv hK ht hz h k ok
theorem run_delete_o (hK : KeyL P kT enc) (ht : P.underlying T = some (.map kT eT)) (h : MapO enc w v kv) (k : K) (kt ty : TypeId) :
    ∃ w', (Builtin.delete_ #[T, kt] ty #[v, enc k]).run P w = .ok (.tuple #[]) w' ∧ MapO enc w' v (kvDel kv k) ∧ Keeps (mapB v) w w' ∧ w'.heap.size = w.heap.size := by
  rcases h with ⟨rfl, rfl⟩ | ⟨m, rfl, h⟩
  · exact ⟨w, by simp [Builtin.delete_, run_underlying ht, hK.chk], .inl ⟨rfl, rfl⟩, Keeps.refl _ _, rfl⟩
  · obtain ⟨w', h1, h2, h3, h4⟩ := run_delete_kv hK ht h k kt ty
    exact ⟨w', h1, .inr ⟨m, rfl, h2⟩, h3.mono fun b _ e => by subst e; rfl, h4⟩
omit [DecidableEq K] in
theorem run_len_o (ht : P.underlying T = some (.map kT eT)) (h : MapO enc w v kv) (ty : TypeId) : (Builtin.len_ #[T] ty #[v]).run P w = .ok (.int .i64 kv.length) w := by
  rcases h with ⟨rfl, rfl⟩ | ⟨m, rfl, h⟩
  · simp [Builtin.len_, run_underlying ht, goInt]
  · exact run_len_kv ht h ty

/-- an iterator over a map that may be nil -/
def IterO (enc : K → Value) (w : World) (r : Nat) (v : Value) (kv left : List (K × Value)) : Prop :=
  (v = .map none ∧ left = [] ∧ ∃ a b c, w.heap[r]? = some (.mapIter none a b c)) ∨ ∃ m, v = .map (some m) ∧ IterIs enc w r m kv left
omit [DecidableEq K] in
theorem IterO.keeps {S : Nat → Prop} (h : IterO enc w r v kv left) (k : Keeps S w w') (hs : ∀ m, mapB v m → ¬ S m) (hr : ¬ S r) : IterO enc w' r v kv left := by
  rcases h with ⟨h1, h2, a, b, c, h3⟩ | ⟨m, rfl, h⟩
  · exact .inl ⟨h1, h2, a, b, c, by rw [k.block r (Array.getElem?_eq_some_iff.1 h3).1 hr]; exact h3⟩
  · exact .inr ⟨m, rfl, h.keeps k (hs m rfl) hr⟩
omit [DecidableEq K] in
theorem run_range_o (ht : P.underlying T = some (.map kT eT)) (h : MapO enc w v kv) :
    ∃ w', (Instr.range T v).run P w = .ok (.pointer (some ⟨w.heap.size, 0, none⟩)) w' ∧ IterO enc w' w.heap.size v kv kv ∧ Keeps (fun _ => False) w w' ∧ w'.heap.size = w.heap.size + 1 := by
  rcases h with ⟨rfl, rfl⟩ | ⟨m, rfl, h⟩
  · refine ⟨w.alloc (.mapIter none 0 #[] 0), by simp [Instr.range, run_underlying ht], .inl ⟨rfl, rfl, _, _, _, heap_alloc_new _ _⟩, (Keeps.refl _ _).alloc _, by simp⟩
  · obtain ⟨w', h1, h2, h3, h4⟩ := run_range_kv (P := P) ht h
    exact ⟨w', h1, .inr ⟨m, rfl, h2⟩, h3, h4⟩

variable {ops : Array Oper} {rest : List Oper} {o : Oper} {a : Act} {Q : Exit → Act → World → Prop}
theorem wpList_lookup_o (hg : o.guard = none) (mO kO : Operand) (T : TypeId) (ok : Bool) (hop : o.op = .lookup T mO kO ok) (kT eT : TypeId) (hK : KeyL P kT enc) (ht : P.underlying T = some (.map kT eT))
    (z : Value) (hz : (zeroValue eT).run P w = .ok z w) (v : Value) (hm : a.eval mO = v) (h : MapO enc w v kv) (k : K) (hk : a.eval kO = enc k)
    (hK' : wpList P ops Q rest (a.put o.dst (if ok then .tuple #[(kvGet kv k).getD z, .bool (kvGet kv k).isSome] else (kvGet kv k).getD z)) w) : wpList P ops Q (o :: rest) a w := by
  refine wpList_plain hg fun K0 hK0 => ?_
  unfold Oper.wp execOp
  simp only [hop, hm, hk, Sem.run_bind, run_lookup_o hK ht hz h k ok, Result.andThen_ok, Sem.run_pure]
  exact hK0 _ _ hK'
theorem wpList_lookup_o_some (hg : o.guard = none) (mO kO : Operand) (T : TypeId) (ok : Bool) (hop : o.op = .lookup T mO kO ok) (kT eT : TypeId) (hK : KeyL P kT enc) (ht : P.underlying T = some (.map kT eT))
    (z : Value) (hz : (zeroValue eT).run P w = .ok z w) (v : Value) (hm : a.eval mO = v) (h : MapO enc w v kv) (k : K) (hk : a.eval kO = enc k) (u : Value) (hget : kvGet kv k = some u)
    (hK' : wpList P ops Q rest (a.put o.dst (if ok then .tuple #[u, .bool true] else u)) w) : wpList P ops Q (o :: rest) a w :=
  wpList_lookup_o hg mO kO T ok hop kT eT hK ht z hz v hm h k hk (by rw [hget]; exact hK')
theorem wpList_lookup_o_none (hg : o.guard = none) (mO kO : Operand) (T : TypeId) (ok : Bool) (hop : o.op = .lookup T mO kO ok) (kT eT : TypeId) (hK : KeyL P kT enc) (ht : P.underlying T = some (.map kT eT))
    (z : Value) (hz : (zeroValue eT).run P w = .ok z w) (v : Value) (hm : a.eval mO = v) (h : MapO enc w v kv) (k : K) (hk : a.eval kO = enc k) (hget : kvGet kv k = none)
    (hK' : wpList P ops Q rest (a.put o.dst (if ok then .tuple #[z, .bool false] else z)) w) : wpList P ops Q (o :: rest) a w :=
  wpList_lookup_o hg mO kO T ok hop kT eT hK ht z hz v hm h k hk (by rw [hget]; exact hK')
theorem wpList_delete_o (hg : o.guard = none) (mO kO : Operand) (T kt : TypeId) (hop : o.op = .call { callee := .builtin .delete, args := #[mO, kO], argTypes := #[T, kt] }) (kT eT : TypeId) (hK : KeyL P kT enc) (ht : P.underlying T = some (.map kT eT))
    (v : Value) (hm : a.eval mO = v) (h : MapO enc w v kv) (k : K) (hk : a.eval kO = enc k)
    (hK' : ∀ w', MapO enc w' v (kvDel kv k) → Keeps (mapB v) w w' → w'.heap.size = w.heap.size → wpList P ops Q rest (a.put o.dst (.tuple #[])) w') : wpList P ops Q (o :: rest) a w := by
  obtain ⟨w', hr, h1, h2, h3⟩ := run_delete_o (P := P) hK ht h k kt o.type
  refine wpList_plain hg fun K0 hK0 => ?_
  unfold Oper.wp execOp
  simp only [hop, resolve, invoke, builtin, Sem.run_bind, Sem.run_pure, Result.andThen_ok, List.map_toArray, List.map_cons, List.map_nil, hm, hk, hr]
  exact hK0 _ _ (hK' w' h1 h2 h3)
omit [DecidableEq K] in
theorem wpList_len_o (hg : o.guard = none) (mO : Operand) (T : TypeId) (hop : o.op = .call { callee := .builtin .len, args := #[mO], argTypes := #[T] }) (kT eT : TypeId) (ht : P.underlying T = some (.map kT eT))
    (v : Value) (hm : a.eval mO = v) (h : MapO enc w v kv)
    (hK' : wpList P ops Q rest (a.put o.dst (.int .i64 kv.length)) w) : wpList P ops Q (o :: rest) a w := by
  refine wpList_plain hg fun K0 hK0 => ?_
  unfold Oper.wp execOp
  simp only [hop, resolve, invoke, builtin, Sem.run_bind, Sem.run_pure, Result.andThen_ok, List.map_toArray, List.map_cons, List.map_nil, hm, run_len_o (P := P) ht h o.type]
  exact hK0 _ _ hK'
omit [DecidableEq K] in
theorem wpList_range_o (hg : o.guard = none) (mO : Operand) (T : TypeId) (hop : o.op = .range T mO) (kT eT : TypeId) (ht : P.underlying T = some (.map kT eT)) (v : Value) (hm : a.eval mO = v) (h : MapO enc w v kv)
    (hK' : ∀ w', IterO enc w' w.heap.size v kv kv → Keeps (fun _ => False) w w' → w'.heap.size = w.heap.size + 1 → wpList P ops Q rest (a.put o.dst (.pointer (some ⟨w.heap.size, 0, none⟩))) w') : wpList P ops Q (o :: rest) a w := by
  obtain ⟨w', hr, h1, h2, h3⟩ := run_range_o (P := P) ht h
  refine wpList_plain hg fun K0 hK0 => ?_
  unfold Oper.wp execOp
  simp only [hop, hm, Sem.run_bind, hr, Result.andThen_ok, Sem.run_pure]
  exact hK0 _ _ (hK' w' h1 h2 h3)
omit [DecidableEq K] in
theorem wpList_next_o (hg : o.guard = none) (it : Operand) (hop : o.op = .next it false) (r : Nat) (v : Value) (hit : a.eval it = .pointer (some ⟨r, 0, none⟩)) (h : IterO enc w r v kv left)
    (h0 : left = [] → wpList P ops Q rest (a.put o.dst (.tuple #[.bool false])) w)
    (h1 : ∀ j p w', left[j]? = some p → IterO enc w' r v kv (left.eraseIdx j) → Keeps (fun b => b = r) w w' → w'.heap.size = w.heap.size → EntryIs enc w' r p → wpList P ops Q rest (a.put o.dst (.tuple #[.bool true, enc p.1, p.2])) w') : wpList P ops Q (o :: rest) a w := by
  rcases h with ⟨rfl, rfl, x, y, z, h⟩ | ⟨m, rfl, h⟩
  · refine wpList_plain hg fun K0 hK0 => ?_
    unfold Oper.wp execOp
    have hr : (getObj r).run P w = .ok (.mapIter none x y z) w := by simp [getObj, Sem.run, h]
    have hn : (Instr.next (.pointer (some ⟨r, 0, none⟩)) false o.type).run P w = .ok (.tuple #[.bool false]) w := by
      simp [Instr.next, hr]
    simp only [hop, hit, Sem.run_bind, hn, Result.andThen_ok, Sem.run_pure]
    exact hK0 _ _ (h0 rfl)
  · exact wpList_next_kv hg it hop r m hit h h0 fun j p w' h2 h3 h4 h5 h6 => h1 j p w' h2 (.inr ⟨m, rfl, h3⟩) h4 h5 h6
end

/-! ## Keys that are pairs of integers -/

def pairV (p : Int × Int) : Value := .agg #[.int .i64 p.1, .int .i64 p.2]
theorem part_pair {P : Program} {E : TypeId} (he : P.underlying E = some (.int .i64)) (w : World) (x y : Int) : (part E #[.int .i64 x, .int .i64 y] 0).run P w = .ok (.int .i64 x) w ∧ (part E #[.int .i64 x, .int .i64 y] 1).run P w = .ok (.int .i64 y) w := by
  constructor <;> simp [part, isAgg, run_underlying he]
theorem run_equal_pair {P : Program} {T E : TypeId} {i : TypeInfo} (h : P.underlying T = some (.array 2 E)) (he : P.underlying E = some (.int .i64)) (hi : P.info? E = some i) (hcl : P.cellsOf E = 1) (p q : Int × Int) (w : World) : (Op.equal T (pairV p) (pairV q)).run P w = .ok (decide (p = q)) w := by
  obtain ⟨x, y⟩ := p
  obtain ⟨x', y'⟩ := q
  unfold Op.equal Op.maxDepth
  rw [show (10000 : Nat) = 9998 + 1 + 1 from rfl, Op.equalIn]
  simp only [pairV, Sem.run_bind, run_underlying h, Result.andThen_ok, run_sizeOf w hi, hcl]
  simp only [Std.Legacy.Range.forIn_eq_forIn_range', Std.Legacy.Range.size, Nat.sub_zero, Nat.add_one_sub_one, Nat.div_one]
  have e1 := (part_pair he w x y).1
  have e2 := (part_pair he w x y).2
  by_cases h1 : x = x'
  · subst h1
    have e3 := (part_pair he w x y').1
    have e4 := (part_pair he w x y').2
    by_cases h2 : y = y'
    · subst h2
      simp [List.range'_succ, e1, e2, run_equalIn_int w 9998 E .i64 .i64 _ _ he]
    · simp [List.range'_succ, e1, e2, e3, e4, run_equalIn_int w 9998 E .i64 .i64 _ _ he, h2]
  · have e3 := (part_pair he w x' y').1
    simp [List.range'_succ, e1, e3, run_equalIn_int w 9998 E .i64 .i64 _ _ he, h1]
theorem keyL_pair {P : Program} {T E : TypeId} {i : TypeInfo} (h : P.underlying T = some (.array 2 E)) (he : P.underlying E = some (.int .i64)) (hi : P.info? E = some i) (hcl : P.cellsOf E = 1) : KeyL P T pairV where
  chk := fun b k w => by
    obtain ⟨x, y⟩ := k
    have hc : ∀ n z, (Instr.checkKey b (n + 1) E (.int .i64 z)).run P w = .ok () w := fun n z => by unfold Instr.checkKey; rw [Sem.run_bind, run_underlying he]; rfl
    rw [show (10000 : Nat) = 9998 + 1 + 1 from rfl, Instr.checkKey]
    simp only [pairV, Sem.run_bind, run_underlying h, Result.andThen_ok]
    simp only [Std.Legacy.Range.forIn_eq_forIn_range', Std.Legacy.Range.size, Nat.sub_zero, Nat.add_one_sub_one, Nat.div_one]
    simp [List.range'_succ, run_sizeOf w hi, hcl, (part_pair he w x y).1, (part_pair he w x y).2, hc]
  find := fun k es ks hk w => by
    rw [run_findKey_eq w (by simp [h])]
    have heq : ∀ p q : Int × Int, (Op.equal T (pairV p) (pairV q)).run P w = .ok (decide (p = q)) w := fun p q => run_equal_pair h he hi hcl p q w
    have key : ∀ (es : List MapEntry) (ks : List (Int × Int)) (j : Nat), es.map (·.key) = ks.map pairV → (Instr.findAsking T (pairV k) es j).run P w = .ok (hit k ks es j) w := by
      intro es
      induction es with
      | nil => intro ks j he; cases ks <;> simp [Instr.findAsking, hit] at he ⊢
      | cons e es ih =>
        intro ks j he
        cases ks with
        | nil => simp at he
        | cons k' ks =>
          simp only [List.map_cons, List.cons.injEq] at he
          simp only [Instr.findAsking, he.1, Sem.run_bind, heq, Result.andThen_ok, hit]
          by_cases hk : k = k'
          · simp [hk]
          · simp only [hk, decide_false, if_false, Bool.false_eq_true]
            exact ih ks (j + 1) he.2
    exact key es ks 0 hk
  same := fun k => by simp [Instr.sameBits, pairV]
end Go.Tx

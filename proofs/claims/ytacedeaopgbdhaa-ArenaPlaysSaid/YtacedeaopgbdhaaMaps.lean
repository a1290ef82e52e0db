/-
  Maps as lists of keys and values: look-up, store, delete, length, range; keys that are numbers or texts.
-/
import Derived.Test.YtacedeaopgbdhaaMem
namespace Go.Tx
open Go Go.RowKit

section
variable {K : Type} [DecidableEq K]

/-- the place and the value of a key -/
def hit (k : K) : List K → List MapEntry → Nat → Option (Nat × Value)
  | k' :: ks, e :: es, i => if k = k' then some (i, e.val) else hit k ks es (i + 1)
  | _, _, _ => none

structure KeyL (P : Program) (T : TypeId) (enc : K → Value) : Prop where
  chk : ∀ b k w, (Instr.checkKey b 10000 T (enc k)).run P w = .ok () w
  find : ∀ k (es : List MapEntry) (ks : List K), es.map (·.key) = ks.map enc → ∀ w, (Instr.findKey T (enc k) es).run P w = .ok (hit k ks es 0) w
  same : ∀ k, Instr.sameBits 10000 (enc k) (enc k) = true

/-- block m is a map of these keys and values, in the order in which they came -/
def MapIs (enc : K → Value) (w : World) (m : Nat) (kv : List (K × Value)) : Prop :=
  ∃ es clock, w.heap[m]? = some (.map es clock) ∧ es.toList.map (fun e => (e.key, e.val)) = kv.map (fun p => (enc p.1, p.2)) ∧ (kv.map (·.1)).Nodup ∧ (es.toList.map (·.born)).Nodup ∧ ∀ e ∈ es.toList, e.born < clock

def kvGet (kv : List (K × Value)) (k : K) : Option Value := (kv.find? fun p => decide (p.1 = k)).map (·.2)
def kvPut (kv : List (K × Value)) (k : K) (v : Value) : List (K × Value) :=
  if k ∈ kv.map (·.1) then kv.map fun p => if p.1 = k then (k, v) else p else kv ++ [(k, v)]
def kvDel (kv : List (K × Value)) (k : K) : List (K × Value) := kv.filter fun p => decide (p.1 ≠ k)

theorem hit_none {k : K} : ∀ {ks : List K} {es : List MapEntry} {i : Nat}, k ∉ ks → hit k ks es i = none
  | [], _, _, _ => by simp [hit]
  | k' :: ks, [], _, _ => by simp [hit]
  | k' :: ks, e :: es, i, h => by
    simp only [List.mem_cons, not_or] at h
    simp only [hit, h.1, if_false]
    exact hit_none h.2

/-- of the entries: where a key is -/
theorem hit_some {enc : K → Value} {k : K} : ∀ {kv : List (K × Value)} {es : List MapEntry} {i : Nat}, es.map (fun e => (e.key, e.val)) = kv.map (fun p => (enc p.1, p.2)) → k ∈ kv.map (·.1) →
    ∃ j e, es[j]? = some e ∧ e.key = enc k ∧ (kv.map (·.1))[j]? = some k ∧ hit k (kv.map (·.1)) es i = some (i + j, e.val) ∧ kvGet kv k = some e.val
  | [], _, _, _, hk => by simp at hk
  | p :: kv, [], _, h, _ => by simp at h
  | p :: kv, e :: es, i, h, hk => by
    simp only [List.map_cons, List.cons.injEq, Prod.mk.injEq] at h
    obtain ⟨⟨hke, hve⟩, ht⟩ := h
    by_cases hkp : k = p.1
    · exact ⟨0, e, rfl, by rw [hke, hkp], by simp [hkp], by simp [hit, hkp], by simp [kvGet, hkp, hve]⟩
    · have hk' : k ∈ kv.map (·.1) := by simpa [hkp] using hk
      obtain ⟨j, e', h1, h2, h3, h4, h5⟩ := hit_some (i := i + 1) ht hk'
      refine ⟨j + 1, e', by simpa using h1, h2, by simpa using h3, ?_, ?_⟩
      · simp only [List.map_cons, hit, hkp, if_false, h4]
        congr 2; omega
      · have : ¬ p.1 = k := fun e => hkp e.symm
        simpa [kvGet, List.find?_cons, this] using h5

theorem kvGet_none {kv : List (K × Value)} {k : K} (h : k ∉ kv.map (·.1)) : kvGet kv k = none := by
  simp only [kvGet, Option.map_eq_none_iff, List.find?_eq_none]
  intro p hp he
  exact h (List.mem_map.2 ⟨p, hp, by simpa using he⟩)
theorem kvGet_isSome {kv : List (K × Value)} {k : K} : (kvGet kv k).isSome = true ↔ k ∈ kv.map (·.1) := by
  simp [kvGet]
end

section
variable {K : Type} [DecidableEq K] {P : Program} {enc : K → Value} {w w' : World} {m : Nat} {kv : List (K × Value)} {T kT eT : TypeId} {z : Value}

omit [DecidableEq K] in
theorem MapIs.keeps {S : Nat → Prop} (h : MapIs enc w m kv) (k : Keeps S w w') (hs : ¬ S m) : MapIs enc w' m kv := by
  obtain ⟨es, clock, h1, h2⟩ := h
  exact ⟨es, clock, by rw [k.block m (Array.getElem?_eq_some_iff.1 h1).1 hs]; exact h1, h2⟩
omit [DecidableEq K] in
theorem MapIs.lt (h : MapIs enc w m kv) : m < w.heap.size := by
  obtain ⟨es, clock, h1, _⟩ := h
  exact (Array.getElem?_eq_some_iff.1 h1).1
omit [DecidableEq K] in
theorem MapIs.nodup (h : MapIs enc w m kv) : (kv.map (·.1)).Nodup := by obtain ⟨es, clock, _, _, h1, _⟩ := h; exact h1
omit [DecidableEq K] in
theorem mapIs_made (enc : K → Value) (w : World) : MapIs enc (w.alloc (.map #[] 0)) w.heap.size [] :=
  ⟨#[], 0, heap_alloc_new _ _, by simp, by simp, by simp, by simp⟩

omit [DecidableEq K] in
theorem keys_of {es : List MapEntry} (h : es.map (fun e => (e.key, e.val)) = kv.map (fun p => (enc p.1, p.2))) : es.map (·.key) = (kv.map (·.1)).map enc := by
  have := congrArg (List.map Prod.fst) h
  simpa [List.map_map, Function.comp_def] using this

theorem run_lookup_kv (hK : KeyL P kT enc) (ht : P.underlying T = some (.map kT eT)) (hz : (zeroValue eT).run P w = .ok z w) (h : MapIs enc w m kv) (k : K) (ok : Bool) :
    (Instr.lookup T (.map (some m)) (enc k) ok).run P w = .ok (if ok then .tuple #[(kvGet kv k).getD z, .bool (kvGet kv k).isSome] else (kvGet kv k).getD z) w := by
  obtain ⟨es, clock, h1, h2, h3, h4, h5⟩ := h
  have hg : (getObj m).run P w = .ok (.map es clock) w := by simp [getObj, Sem.run, h1]
  have hf := hK.find k es.toList (kv.map (·.1)) (keys_of h2) w
  by_cases hm : k ∈ kv.map (·.1)
  · obtain ⟨j, e, _, _, _, hh, hv⟩ := hit_some (i := 0) h2 hm
    simp [Instr.lookup, run_underlying ht, hg, hK.chk, hf, hh, hv]
  · have hh := hit_none (K := K) (es := es.toList) (i := 0) hm
    simp [Instr.lookup, run_underlying ht, hg, hK.chk, hf, hh, kvGet_none hm, hz]
theorem run_lookup_nil (hK : KeyL P kT enc) (ht : P.underlying T = some (.map kT eT)) (hz : (zeroValue eT).run P w = .ok z w) (k : K) (ok : Bool) :
    (Instr.lookup T (.map none) (enc k) ok).run P w = .ok (if ok then .tuple #[z, .bool false] else z) w := by
  have hf := hK.find k [] [] rfl w
  simp [Instr.lookup, run_underlying ht, hK.chk, hf, hit, hz]

def setMap (w : World) (m : Nat) (es : Array MapEntry) (clock : Nat) : World := { w with heap := w.heap.setIfInBounds m (.map es clock) }
theorem keeps_setMap (w : World) (m : Nat) (es : Array MapEntry) (clock : Nat) : Keeps (fun b => b = m) w (setMap w m es clock) :=
  ⟨rfl, rfl, rfl, by simp [setMap], fun k hk hn => by simp only [setMap]; rw [Array.getElem?_setIfInBounds_ne (Ne.symm hn)]⟩
theorem setMap_size (w : World) (m : Nat) (es : Array MapEntry) (clock : Nat) : (setMap w m es clock).heap.size = w.heap.size := by simp [setMap]
theorem setMap_at {w : World} {m : Nat} {o : Obj} (h : w.heap[m]? = some o) (es : Array MapEntry) (clock : Nat) : (setMap w m es clock).heap[m]? = some (.map es clock) := by
  have hlt := (Array.getElem?_eq_some_iff.1 h).1
  simp [setMap, hlt]

omit [DecidableEq K] in
theorem nodup_key {es : List MapEntry} {j i : Nat} {ks : List K} (hn : ks.Nodup) (_ : es.map (·.key) = ks.map enc) {k : K} (hj : ks[j]? = some k) (hi : ks[i]? = some k) : i = j := by
  have h1 := (List.getElem?_eq_some_iff.1 hj)
  have h2 := (List.getElem?_eq_some_iff.1 hi)
  exact (List.getElem_inj hn).1 (h2.2.trans h1.2.symm)

theorem run_update_kv (hK : KeyL P kT enc) (ht : P.underlying T = some (.map kT eT)) (h : MapIs enc w m kv) (k : K) (v : Value) :
    ∃ w', (Instr.mapUpdate T (.map (some m)) (enc k) v).run P w = .ok () w' ∧ MapIs enc w' m (kvPut kv k v) ∧ Keeps (fun b => b = m) w w' ∧ w'.heap.size = w.heap.size := by
  obtain ⟨es, clock, h1, h2, h3, h4, h5⟩ := h
  have hg : (getObj m).run P w = .ok (.map es clock) w := by simp [getObj, Sem.run, h1]
  have hs : ∀ es' c', (setObj m (.map es' c')).run P w = .ok () (setMap w m es' c') := fun es' c' => by simp [setObj, Sem.run, h1, setMap]
  have hf := hK.find k es.toList (kv.map (·.1)) (keys_of h2) w
  by_cases hm : k ∈ kv.map (·.1)
  · obtain ⟨j, e, he, hek, hkj, hh, hv⟩ := hit_some (i := 0) h2 hm
    have hea : es[j]? = some e := by simpa using he
    refine ⟨setMap w m (es.modify j fun e => { e with key := enc k, val := v }) clock, ?_, ⟨_, _, setMap_at h1 _ _, ?_, ?_, ?_, ?_⟩, keeps_setMap _ _ _ _, setMap_size _ _ _ _⟩
    · simp [Instr.mapUpdate, run_underlying ht, hg, hK.chk, hf, hh, hea, hek, Instr.keyThatStays, hK.same, hs]
    · have hl : es.toList.length = kv.length := by simpa using congrArg List.length h2
      apply List.ext_getElem?
      intro i
      have h2i := congrArg (·[i]?) h2
      simp only [List.getElem?_map, Array.getElem?_toList] at h2i
      simp only [kvPut, hm, if_true, List.getElem?_map, Array.getElem?_toList, Array.getElem?_modify]
      by_cases hij : j = i
      · subst hij
        have hkj' : ∃ p, kv[j]? = some p ∧ p.1 = k := by simpa using hkj
        obtain ⟨p, hp1, hp2⟩ := hkj'
        simp [hea, hp1, hp2]
      · simp only [hij, if_false, h2i]
        cases hp : kv[i]? with
        | none => simp
        | some p =>
          have : ¬ p.1 = k := fun hpk => hij (nodup_key (es := es.toList) h3 (keys_of h2) (j := i) (i := j) (k := k) (by simp [hp, hpk]) hkj)
          simp [this]
    · have : (kvPut kv k v).map (·.1) = kv.map (·.1) := by
        simp only [kvPut, hm, if_true, List.map_map]
        apply List.map_congr_left
        intro p _
        simp only [Function.comp]
        split
        · rename_i hp; exact hp.symm
        · rfl
      rw [this]; exact h3
    · have : ((es.modify j fun e => { e with key := enc k, val := v }).toList.map (·.born)) = es.toList.map (·.born) := by
        apply List.ext_getElem?
        intro i
        simp only [List.getElem?_map, Array.getElem?_toList, Array.getElem?_modify]
        split
        · cases es[i]? <;> rfl
        · rfl
      rw [this]; exact h4
    · intro x hx
      obtain ⟨i, hi⟩ := List.getElem?_of_mem hx
      simp only [Array.getElem?_toList, Array.getElem?_modify] at hi
      split at hi
      · cases hq : es[i]? with
        | none => rw [hq] at hi; simp at hi
        | some q =>
          rw [hq] at hi; simp at hi; subst hi
          exact h5 q (List.mem_of_getElem? (i := i) (by simpa using hq))
      · exact h5 x (List.mem_of_getElem? (i := i) (by simpa using hi))
  · have hh := hit_none (K := K) (es := es.toList) (i := 0) hm
    refine ⟨setMap w m (es.push { key := enc k, val := v, born := clock }) (clock + 1), ?_, ⟨_, _, setMap_at h1 _ _, ?_, ?_, ?_, ?_⟩, keeps_setMap _ _ _ _, setMap_size _ _ _ _⟩
    · simp [Instr.mapUpdate, run_underlying ht, hg, hK.chk, hf, hh, hs]
    · simp [kvPut, hm, h2]
    · simp only [kvPut, hm, if_false, List.map_append, List.map_cons, List.map_nil]
      rw [List.nodup_append]
      refine ⟨h3, by simp, ?_⟩
      intro a ha b hb
      simp at hb; subst hb
      intro he; subst he; exact hm ha
    · simp only [Array.toList_push, List.map_append, List.map_cons, List.map_nil]
      rw [List.nodup_append]
      refine ⟨h4, by simp, ?_⟩
      intro a ha b hb
      simp at hb; subst hb
      obtain ⟨x, hx, rfl⟩ := List.mem_map.1 ha
      have := h5 x hx
      omega
    · intro x hx
      simp only [Array.toList_push, List.mem_append, List.mem_singleton] at hx
      rcases hx with hx | rfl
      · have := h5 x hx; omega
      · exact Nat.lt_succ_self _

omit [DecidableEq K] in
theorem map_erase {α β : Type} (f : α → β) (l : List α) (j : Nat) : (l.eraseIdx j).map f = (l.map f).eraseIdx j := by
  simp [List.eraseIdx_eq_take_drop_succ, List.map_take, List.map_drop]

theorem run_delete_kv (hK : KeyL P kT enc) (ht : P.underlying T = some (.map kT eT)) (h : MapIs enc w m kv) (k : K) (kt ty : TypeId) :
    ∃ w', (Builtin.delete_ #[T, kt] ty #[.map (some m), enc k]).run P w = .ok (.tuple #[]) w' ∧ MapIs enc w' m (kvDel kv k) ∧ Keeps (fun b => b = m) w w' ∧ w'.heap.size = w.heap.size := by
  obtain ⟨es, clock, h1, h2, h3, h4, h5⟩ := h
  have hg : (getObj m).run P w = .ok (.map es clock) w := by simp [getObj, Sem.run, h1]
  have hs : ∀ es' c', (setObj m (.map es' c')).run P w = .ok () (setMap w m es' c') := fun es' c' => by simp [setObj, Sem.run, h1, setMap]
  have hf := hK.find k es.toList (kv.map (·.1)) (keys_of h2) w
  by_cases hm : k ∈ kv.map (·.1)
  · obtain ⟨j, e, he, hek, hkj, hh, hv⟩ := hit_some (i := 0) h2 hm
    have hdel : kvDel kv k = kv.eraseIdx j := by
      have hp := (List.getElem?_eq_some_iff.1 hkj)
      have hj : j < kv.length := by simpa using hp.1
      simp only [kvDel]
      rw [List.eraseIdx_eq_take_drop_succ]
      conv => lhs; rw [← List.take_append_drop j kv]
      rw [List.filter_append, List.drop_eq_getElem_cons hj, List.filter_cons]
      have hkk : kv[j].1 = k := by simpa using hp.2
      simp only [hkk, ne_eq, not_true, decide_false, Bool.false_eq_true, if_false]
      congr 1
      · rw [List.filter_eq_self]
        intro p hp'
        obtain ⟨i, hi⟩ := List.getElem?_of_mem hp'
        rw [List.getElem?_take] at hi
        split at hi
        · rename_i hlt
          simp only [decide_eq_true_eq]
          intro hpk
          have := nodup_key (es := es.toList) h3 (keys_of h2) (j := i) (i := j) (k := k) (by simp [hi, hpk]) hkj
          omega
        · cases hi
      · rw [List.filter_eq_self]
        intro p hp'
        obtain ⟨i, hi⟩ := List.getElem?_of_mem hp'
        rw [List.getElem?_drop] at hi
        simp only [decide_eq_true_eq]
        intro hpk
        have := nodup_key (es := es.toList) h3 (keys_of h2) (j := j + 1 + i) (i := j) (k := k) (by simp [hi, hpk]) hkj
        omega
    have her : (es.eraseIdxIfInBounds j).toList = es.toList.eraseIdx j := by simp
    refine ⟨setMap w m (es.eraseIdxIfInBounds j) clock, ?_, ⟨_, _, setMap_at h1 _ _, ?_, ?_, ?_, ?_⟩, keeps_setMap _ _ _ _, setMap_size _ _ _ _⟩
    · simp [Builtin.delete_, run_underlying ht, hg, hK.chk, hf, hh, hs]
    · rw [her, hdel, map_erase, map_erase, h2]
    · rw [hdel, map_erase]; exact h3.sublist (List.eraseIdx_sublist _ _)
    · rw [her, map_erase]; exact h4.sublist (List.eraseIdx_sublist _ _)
    · intro x hx; rw [her] at hx; exact h5 x ((List.eraseIdx_sublist _ _).subset hx)
  · have hh := hit_none (K := K) (es := es.toList) (i := 0) hm
    have hdel : kvDel kv k = kv := by
      simp only [kvDel, List.filter_eq_self, decide_eq_true_eq]
      intro p hp he
      exact hm (List.mem_map.2 ⟨p, hp, he⟩)
    refine ⟨setMap w m es clock, ?_, ⟨_, _, setMap_at h1 _ _, ?_, ?_, h4, h5⟩, keeps_setMap _ _ _ _, setMap_size _ _ _ _⟩
    · simp [Builtin.delete_, run_underlying ht, hg, hK.chk, hf, hh, hs]
    · rw [hdel]; exact h2
    · rw [hdel]; exact h3

omit [DecidableEq K] in
theorem run_len_kv (ht : P.underlying T = some (.map kT eT)) (h : MapIs enc w m kv) (ty : TypeId) : (Builtin.len_ #[T] ty #[.map (some m)]).run P w = .ok (.int .i64 kv.length) w := by
  obtain ⟨es, clock, h1, h2, h3, h4, h5⟩ := h
  have hg : (getObj m).run P w = .ok (.map es clock) w := by simp [getObj, Sem.run, h1]
  have hl : es.size = kv.length := by simpa using congrArg List.length h2
  simp [Builtin.len_, run_underlying ht, hg, goInt, hl]
end

/-! ## Keys -/

theorem sameNow_int (j : IntKind) (a b : Int) : Instr.sameNow (.int j) (.int j a) (.int j b) = some (a == b) := by simp [Instr.sameNow]
theorem findNow_int (q : IntKind) (k : Int) : ∀ (es : List MapEntry) (ks : List Int) (i : Nat), es.map (·.key) = ks.map (Value.int q) → Instr.findNow (.int q) (.int q k) es i = some (hit k ks es i)
  | [], ks, i, h => by cases ks <;> simp [Instr.findNow, hit] at h ⊢
  | e :: es, [], i, h => by simp at h
  | e :: es, k' :: ks, i, h => by
    simp only [List.map_cons, List.cons.injEq] at h
    simp only [Instr.findNow, h.1, sameNow_int, hit]
    by_cases hk : k = k'
    · simp [hk]
    · have : (k == k') = false := by simpa using hk
      simp only [this, hk, if_false]
      exact findNow_int q k es ks (i + 1) h.2
theorem keyL_int {P : Program} {T : TypeId} {q : IntKind} (h : P.underlying T = some (.int q)) : KeyL P T (fun n : Int => Value.int q n) where
  chk := fun b k w => by unfold Instr.checkKey; rw [Sem.run_bind, run_underlying h]; rfl
  find := fun k es ks hk w => by simp [Instr.findKey, run_underlying h, findNow_int q k es ks 0 hk]
  same := fun k => by simp [Instr.sameBits]

theorem ba_beq (a b : ByteArray) : (a == b) = decide (a = b) := by
  cases a with | mk x => cases b with | mk y =>
    show (x == y) = _
    rw [Bool.eq_iff_iff]; simp

theorem findNow_string (k : ByteArray) : ∀ (es : List MapEntry) (ks : List ByteArray) (i : Nat), es.map (·.key) = ks.map Value.string → Instr.findNow .string (.string k) es i = some (hit k ks es i)
  | [], ks, i, h => by cases ks <;> simp [Instr.findNow, hit] at h ⊢
  | e :: es, [], i, h => by simp at h
  | e :: es, k' :: ks, i, h => by
    simp only [List.map_cons, List.cons.injEq] at h
    have hs : Instr.sameNow .string (.string k) (.string k') = some (decide (k = k')) := by rw [← ba_beq]; rfl
    simp only [Instr.findNow, h.1, hs, hit]
    by_cases hk : k = k'
    · simp [hk]
    · simp only [hk, if_false, decide_false]
      exact findNow_string k es ks (i + 1) h.2
theorem keyL_string {P : Program} {T : TypeId} (h : P.underlying T = some .string) : KeyL P T Value.string where
  chk := fun b k w => by unfold Instr.checkKey; rw [Sem.run_bind, run_underlying h]; rfl
  find := fun k es ks hk w => by simp [Instr.findKey, run_underlying h, findNow_string k es ks 0 hk]
  same := fun k => by simp [Instr.sameBits, ba_beq]

/-! ## Ranging over a map that nobody turns meanwhile -/

section
variable {K : Type} [DecidableEq K] {P : Program} {enc : K → Value} {w w' : World} {m r : Nat} {kv left : List (K × Value)} {T kT eT : TypeId}

/-- block r is an iterator over the map m; these entries are still to come -/
def IterIs (enc : K → Value) (w : World) (r m : Nat) (kv left : List (K × Value)) : Prop :=
  ∃ es clock seen, w.heap[m]? = some (.map es clock) ∧ es.toList.map (fun e => (e.key, e.val)) = kv.map (fun p => (enc p.1, p.2)) ∧ (es.toList.map (·.born)).Nodup ∧ (∀ e ∈ es.toList, e.born < clock) ∧
    w.heap[r]? = some (.mapIter (some m) clock seen clock) ∧ (es.toList.filter fun e => !seen.contains e.born).map (fun e => (e.key, e.val)) = left.map (fun p => (enc p.1, p.2))

/-- the iterator r stands at this entry -/
def EntryIs (enc : K → Value) (w : World) (r : Nat) (p : K × Value) : Prop :=
  ∃ m clock seen es e, w.heap[r]? = some (.mapIter (some m) clock seen clock) ∧ seen.back? = some e.born ∧ w.heap[m]? = some (.map es clock) ∧ es.find? (fun x : MapEntry => x.born == e.born) = some e ∧ e.key = enc p.1 ∧ e.val = p.2

omit [DecidableEq K] in
theorem IterIs.keeps {S : Nat → Prop} (h : IterIs enc w r m kv left) (k : Keeps S w w') (hm : ¬ S m) (hr : ¬ S r) : IterIs enc w' r m kv left := by
  obtain ⟨es, clock, seen, h1, h2, h3, h4, h5, h6⟩ := h
  exact ⟨es, clock, seen, by rw [k.block m (Array.getElem?_eq_some_iff.1 h1).1 hm]; exact h1, h2, h3, h4, by rw [k.block r (Array.getElem?_eq_some_iff.1 h5).1 hr]; exact h5, h6⟩

theorem find_born : ∀ (l : List MapEntry), (l.map (·.born)).Nodup → ∀ e ∈ l, l.find? (fun x : MapEntry => x.born == e.born) = some e
  | [], _, _, h => by cases h
  | u :: l, hn, e, h => by
    simp only [List.map_cons, List.nodup_cons] at hn
    rcases List.mem_cons.1 h with rfl | h
    · simp
    · have : ¬ u.born = e.born := fun he => hn.1 (List.mem_map.2 ⟨e, h, he.symm⟩)
      simp [this, find_born l hn.2 e h]
omit [DecidableEq K] in
theorem run_range_kv (ht : P.underlying T = some (.map kT eT)) (h : MapIs enc w m kv) :
    ∃ w', (Instr.range T (.map (some m))).run P w = .ok (.pointer (some ⟨w.heap.size, 0, none⟩)) w' ∧ IterIs enc w' w.heap.size m kv kv ∧ Keeps (fun _ => False) w w' ∧ w'.heap.size = w.heap.size + 1 := by
  obtain ⟨es, clock, h1, h2, h3, h4, h5⟩ := h
  have hg : (getObj m).run P w = .ok (.map es clock) w := by simp [getObj, Sem.run, h1]
  refine ⟨w.alloc (.mapIter (some m) clock #[] clock), ?_, ⟨es, clock, #[], ?_, h2, h4, h5, heap_alloc_new _ _, ?_⟩, (Keeps.refl _ _).alloc _, by simp⟩
  · simp [Instr.range, run_underlying ht, hg]
  · rw [Below.heap_alloc w _ m (Array.getElem?_eq_some_iff.1 h1).1]; exact h1
  · rw [List.filter_eq_self.2 (by simp)]; exact h2

def setIter (w : World) (r : Nat) (o : Obj) : World := { w with heap := w.heap.setIfInBounds r o }
theorem keeps_setIter (w : World) (r : Nat) (o : Obj) : Keeps (fun b => b = r) w (setIter w r o) :=
  ⟨rfl, rfl, rfl, by simp [setIter], fun k hk hn => by simp only [setIter]; rw [Array.getElem?_setIfInBounds_ne (Ne.symm hn)]⟩

omit [DecidableEq K] in
theorem run_next_over (h : IterIs enc w r m kv []) (t : TypeId) : (Instr.next (.pointer (some ⟨r, 0, none⟩)) false t).run P w = .ok (.tuple #[.bool false]) w := by
  obtain ⟨es, clock, seen, h1, h2, h3, h4, h5, h6⟩ := h
  have hg : (getObj m).run P w = .ok (.map es clock) w := by simp [getObj, Sem.run, h1]
  have hr : (getObj r).run P w = .ok (.mapIter (some m) clock seen clock) w := by simp [getObj, Sem.run, h5]
  have hl : es.filter (fun e => !seen.contains e.born) = #[] := by
    apply Array.toList_inj.1
    simpa using h6
  have hall : ¬ ((!seen.isEmpty && !es.isEmpty && es.all (fun e => decide (e.born ≥ clock))) = true) := by
    intro hc
    simp only [Bool.and_eq_true, Bool.not_eq_true', Array.all_eq_true_iff_forall_mem, decide_eq_true_eq] at hc
    cases hes : es.toList with
    | nil => have : es = #[] := Array.toList_inj.1 (by simpa using hes); simp [this] at hc
    | cons e l =>
      have he : e ∈ es.toList := by rw [hes]; simp
      have := hc.2 e (by simpa using he)
      have := h4 e he
      omega
  simp only [Instr.next, Sem.run_bind, hr, Result.andThen_ok, hg]
  rw [if_neg hall]
  simp only [hl]
  simp [Question.forced]

theorem filter_born (l : List MapEntry) (hnd : (l.map (·.born)).Nodup) (j : Nat) (x : MapEntry) (hx : l[j]? = some x) : l.filter (fun e => !decide (e.born = x.born)) = l.eraseIdx j := by
  obtain ⟨hj, hx'⟩ := List.getElem?_eq_some_iff.1 hx
  have nd : ∀ i e, l[i]? = some e → e.born = x.born → i = j := fun i e hi hb => by
    obtain ⟨hi1, hi2⟩ := List.getElem?_eq_some_iff.1 hi
    exact (List.getElem_inj (i := i) (j := j) (h₀ := by simpa using hi1) (h₁ := by simpa using hj) hnd).1 (by simp [hi2, hx', hb])
  rw [List.eraseIdx_eq_take_drop_succ]
  conv => lhs; rw [← List.take_append_drop j l]
  rw [List.filter_append, List.drop_eq_getElem_cons hj, List.filter_cons, hx']
  simp only [decide_true, Bool.not_true, Bool.false_eq_true, if_false]
  congr 1
  · rw [List.filter_eq_self]
    intro e he'
    obtain ⟨i, hi⟩ := List.getElem?_of_mem he'
    rw [List.getElem?_take] at hi
    split at hi
    · simp only [Bool.not_eq_true', decide_eq_false_iff_not]
      intro hb
      have := nd i e hi hb
      omega
    · cases hi
  · rw [List.filter_eq_self]
    intro e he'
    obtain ⟨i, hi⟩ := List.getElem?_of_mem he'
    rw [List.getElem?_drop] at hi
    simp only [Bool.not_eq_true', decide_eq_false_iff_not]
    intro hb
    have := nd _ e hi hb
    omega

omit [DecidableEq K] in
theorem run_next_kv (h : IterIs enc w r m kv left) (hne : left ≠ []) (t : TypeId) :
    ∃ j p w', left[j]? = some p ∧ (Instr.next (.pointer (some ⟨r, 0, none⟩)) false t).run P w = .ok (.tuple #[.bool true, enc p.1, p.2]) w' ∧
      IterIs enc w' r m kv (left.eraseIdx j) ∧ Keeps (fun b => b = r) w w' ∧ w'.heap.size = w.heap.size ∧ EntryIs enc w' r p := by
  obtain ⟨es, clock, seen, h1, h2, h3, h4, h5, h6⟩ := h
  have hg : (getObj m).run P w = .ok (.map es clock) w := by simp [getObj, Sem.run, h1]
  have hr : (getObj r).run P w = .ok (.mapIter (some m) clock seen clock) w := by simp [getObj, Sem.run, h5]
  have hall : ¬ ((!seen.isEmpty && !es.isEmpty && es.all (fun e => decide (e.born ≥ clock))) = true) := by
    intro hc
    simp only [Bool.and_eq_true, Bool.not_eq_true', Array.all_eq_true_iff_forall_mem, decide_eq_true_eq] at hc
    cases hes : es.toList with
    | nil => have : es = #[] := Array.toList_inj.1 (by simpa using hes); simp [this] at hc
    | cons e l =>
      have he : e ∈ es.toList := by rw [hes]; simp
      have := hc.2 e (by simpa using he)
      have := h4 e he
      omega
  have hmr : m ≠ r := by intro e; subst e; rw [h1] at h5; cases h5
  -- the entries that are left
  generalize hL : (es.filter fun e => !seen.contains e.born) = L at *
  have hLl : L.toList = es.toList.filter (fun e => !seen.contains e.born) := by rw [← hL]; simp
  have hLm : ∀ e ∈ L, e.born < clock := fun e he => h4 e (by
    have : e ∈ L.toList := by simpa using he
    rw [hLl] at this
    exact (List.mem_filter.1 this).1)
  have hold : L.filter (fun e => decide (e.born < clock)) = L := by
    rw [Array.filter_eq_self]; intro e he; simpa using hLm e he
  have hnew : L.filter (fun e => decide (e.born ≥ clock)) = #[] := by
    rw [Array.filter_eq_empty_iff]; intro e he; have := hLm e he; simp; omega
  have hlen : L.size = left.length := by
    have := congrArg List.length h6
    rw [← hLl] at this
    simpa using this
  have hpos : 0 < L.size := by rw [hlen]; exact List.length_pos_iff.2 hne
  -- what the tape says
  have key : ∀ (j : Nat) (w0 : World), w0.heap = w.heap → w0.os = w.os → w0.tape = w.tape → w0.output = w.output → j < L.size →
      ∃ p w', left[j]? = some p ∧ (do
        match (L.map some)[j]? with
        | some (some e) => do setObj r (.mapIter (some m) clock (seen.push e.born) clock); pure (Value.tuple #[.bool true, e.key, e.val])
        | some none => pure (.tuple #[.bool false])
        | none => stuck "Next: no such candidate" : Sem Value).run P w0 = .ok (.tuple #[.bool true, enc p.1, p.2]) w' ∧
        IterIs enc w' r m kv (left.eraseIdx j) ∧ Keeps (fun b => b = r) w w' ∧ w'.heap.size = w.heap.size ∧ EntryIs enc w' r p := by
    intro j w0 hw0 ho0 ht0 hp0 hj
    have he : L[j]? = some L[j] := by simp [hj]
    have hmap := congrArg (·[j]?) h6
    rw [← hLl] at hmap
    simp only [List.getElem?_map, Array.getElem?_toList, he, Option.map_some] at hmap
    cases hp : left[j]? with
    | none => rw [hp] at hmap; simp at hmap
    | some p =>
      rw [hp] at hmap
      simp only [Option.map_some, Option.some.injEq, Prod.mk.injEq] at hmap
      have hset : (setObj r (.mapIter (some m) clock (seen.push L[j].born) clock)).run P w0 = .ok () (setIter w0 r (.mapIter (some m) clock (seen.push L[j].born) clock)) := by
        simp [setObj, Sem.run, hw0, h5, setIter]
      refine ⟨p, setIter w0 r (.mapIter (some m) clock (seen.push L[j].born) clock), rfl, ?_, ⟨es, clock, seen.push L[j].born, ?_, h2, h3, h4, ?_, ?_⟩, ?_, by simp [setIter, hw0], m, clock, seen.push L[j].born, es, L[j], ?_, by simp, ?_, ?_, hmap.1, hmap.2⟩
      · simp only [Array.getElem?_map, he, Option.map_some, Sem.run_bind, hset, Result.andThen_ok, Sem.run_pure, hmap.1, hmap.2]
      · simp only [setIter]; rw [Array.getElem?_setIfInBounds_ne (Ne.symm hmr), hw0]; exact h1
      · have hlt := (Array.getElem?_eq_some_iff.1 h5).1
        simp [setIter, hw0, hlt]
      · have hf : (es.toList.filter fun e => !(seen.push L[j].born).contains e.born) = (L.toList).eraseIdx j := by
          have h7 : (es.toList.filter fun e => !(seen.push L[j].born).contains e.born) = L.toList.filter (fun e => !decide (e.born = L[j].born)) := by
            rw [hLl, List.filter_filter]
            apply List.filter_congr
            intro e _
            simp [Bool.and_comm]
          have hnd : (L.toList.map (·.born)).Nodup := by rw [hLl]; exact h3.sublist ((List.filter_sublist).map _)
          rw [h7]
          exact filter_born L.toList hnd j L[j] (by simp)
        rw [hf, map_erase, map_erase, hLl, h6]
      · exact ⟨by simp [setIter, ho0], by simp [setIter, ht0], by simp [setIter, hp0], by simp [setIter, hw0], fun k hk hn => by simp only [setIter]; rw [Array.getElem?_setIfInBounds_ne (Ne.symm hn), hw0]⟩
      · have hlt := (Array.getElem?_eq_some_iff.1 h5).1
        simp [setIter, hw0, hlt]
      · simp only [setIter]; rw [Array.getElem?_setIfInBounds_ne (Ne.symm hmr), hw0]; exact h1
      · have hmem : L[j] ∈ es.toList := by
          have : L[j] ∈ L.toList := by simp
          rw [hLl] at this
          exact (List.mem_filter.1 this).1
        rw [← Array.find?_toList]
        exact find_born es.toList h3 L[j] hmem
  have hcand : (if L.isEmpty then #[none] else #[]) ++ (L ++ #[]).map some = L.map some := by
    have : L.isEmpty = false := by simpa [Array.isEmpty] using (by omega : ¬ L.size = 0)
    simp [this]
  have hpre : (Instr.next (.pointer (some ⟨r, 0, none⟩)) false t).run P w = ((choose (.mapNext (L.map some).size)).run P w).andThen fun n w0 => (do
        match (L.map some)[n]? with
        | some (some e) => do setObj r (.mapIter (some m) clock (seen.push e.born) clock); pure (Value.tuple #[.bool true, e.key, e.val])
        | some none => pure (.tuple #[.bool false])
        | none => stuck "Next: no such candidate" : Sem Value).run P w0 := by
    simp only [Instr.next, Sem.run_bind, hr, Result.andThen_ok, hg]
    rw [if_neg hall]
    simp only [hL, hold, hnew, hcand, Sem.run_bind]
    rfl
  have hsz : (L.map some).size = L.size := by simp
  rw [hsz] at hpre
  by_cases h1s : L.size ≤ 1
  · have hc : (choose (.mapNext L.size)).run P w = .ok 0 w := by rw [run_choose, if_pos (by simp [Question.forced, h1s])]
    obtain ⟨p, w', hp, hrun, hi, hk, hs, hen⟩ := key 0 w rfl rfl rfl rfl hpos
    refine ⟨0, p, w', hp, ?_, hi, hk, hs, hen⟩
    rw [hpre, hc]; exact hrun
  · have hc : (choose (.mapNext L.size)).run P w = .ok ((Question.mapNext L.size).cut (w.tape w.drawn (.mapNext L.size))) w.drew := by rw [run_choose, if_neg (by simp [Question.forced, h1s])]; rfl
    have hlt : (Question.mapNext L.size).cut (w.tape w.drawn (.mapNext L.size)) < L.size := by simp [Question.cut]; exact Nat.mod_lt _ hpos
    obtain ⟨p, w', hp, hrun, hi, hk, hs, hen⟩ := key _ w.drew rfl rfl rfl rfl hlt
    refine ⟨_, p, w', hp, ?_, hi, hk, hs, hen⟩
    rw [hpre, hc]; exact hrun
end

/-! ## The walk's laws -/

section
variable {K : Type} [DecidableEq K] {P : Program} {enc : K → Value} {w : World} {kv left : List (K × Value)} {ops : Array Oper} {rest : List Oper} {o : Oper} {a : Act} {Q : Exit → Act → World → Prop}

theorem wpList_lookup_kv (hg : o.guard = none) (mO kO : Operand) (T : TypeId) (ok : Bool) (hop : o.op = .lookup T mO kO ok) (kT eT : TypeId) (hK : KeyL P kT enc) (ht : P.underlying T = some (.map kT eT))
    (z : Value) (hz : (zeroValue eT).run P w = .ok z w) (m : Nat) (hm : a.eval mO = .map (some m)) (h : MapIs enc w m kv) (k : K) (hk : a.eval kO = enc k)
    (hK' : wpList P ops Q rest (a.put o.dst (if ok then .tuple #[(kvGet kv k).getD z, .bool (kvGet kv k).isSome] else (kvGet kv k).getD z)) w) : wpList P ops Q (o :: rest) a w := by
  refine wpList_plain hg fun K0 hK0 => ?_
  unfold Oper.wp execOp
  simp only [hop, hm, hk, Sem.run_bind, run_lookup_kv hK ht hz h k ok, Result.andThen_ok, Sem.run_pure]
  exact hK0 _ _ hK'

theorem wpList_lookup_some (hg : o.guard = none) (mO kO : Operand) (T : TypeId) (ok : Bool) (hop : o.op = .lookup T mO kO ok) (kT eT : TypeId) (hK : KeyL P kT enc) (ht : P.underlying T = some (.map kT eT))
    (z : Value) (hz : (zeroValue eT).run P w = .ok z w) (m : Nat) (hm : a.eval mO = .map (some m)) (h : MapIs enc w m kv) (k : K) (hk : a.eval kO = enc k) (v : Value) (hget : kvGet kv k = some v)
    (hK' : wpList P ops Q rest (a.put o.dst (if ok then .tuple #[v, .bool true] else v)) w) : wpList P ops Q (o :: rest) a w :=
  wpList_lookup_kv hg mO kO T ok hop kT eT hK ht z hz m hm h k hk (by rw [hget]; exact hK')
theorem wpList_lookup_none (hg : o.guard = none) (mO kO : Operand) (T : TypeId) (ok : Bool) (hop : o.op = .lookup T mO kO ok) (kT eT : TypeId) (hK : KeyL P kT enc) (ht : P.underlying T = some (.map kT eT))
    (z : Value) (hz : (zeroValue eT).run P w = .ok z w) (m : Nat) (hm : a.eval mO = .map (some m)) (h : MapIs enc w m kv) (k : K) (hk : a.eval kO = enc k) (hget : kvGet kv k = none)
    (hK' : wpList P ops Q rest (a.put o.dst (if ok then .tuple #[z, .bool false] else z)) w) : wpList P ops Q (o :: rest) a w :=
  wpList_lookup_kv hg mO kO T ok hop kT eT hK ht z hz m hm h k hk (by rw [hget]; exact hK')

theorem wpList_lookup_nil (hg : o.guard = none) (mO kO : Operand) (T : TypeId) (ok : Bool) (hop : o.op = .lookup T mO kO ok) (kT eT : TypeId) (hK : KeyL P kT enc) (ht : P.underlying T = some (.map kT eT))
    (z : Value) (hz : (zeroValue eT).run P w = .ok z w) (hm : a.eval mO = .map none) (k : K) (hk : a.eval kO = enc k)
    (hK' : wpList P ops Q rest (a.put o.dst (if ok then .tuple #[z, .bool false] else z)) w) : wpList P ops Q (o :: rest) a w := by
  refine wpList_plain hg fun K0 hK0 => ?_
  unfold Oper.wp execOp
  simp only [hop, hm, hk, Sem.run_bind, run_lookup_nil hK ht hz k ok, Result.andThen_ok, Sem.run_pure]
  exact hK0 _ _ hK'

theorem wpList_update_kv (hg : o.guard = none) (mO kO vO : Operand) (T : TypeId) (hop : o.op = .mapUpdate T mO kO vO) (kT eT : TypeId) (hK : KeyL P kT enc) (ht : P.underlying T = some (.map kT eT))
    (m : Nat) (hm : a.eval mO = .map (some m)) (h : MapIs enc w m kv) (k : K) (hk : a.eval kO = enc k) (v : Value) (hv : a.eval vO = v)
    (hK' : ∀ w', MapIs enc w' m (kvPut kv k v) → Keeps (fun b => b = m) w w' → w'.heap.size = w.heap.size → wpList P ops Q rest (a.put o.dst undef) w') : wpList P ops Q (o :: rest) a w := by
  obtain ⟨w', hr, h1, h2, h3⟩ := run_update_kv (P := P) hK ht h k v
  refine wpList_plain hg fun K0 hK0 => ?_
  unfold Oper.wp execOp
  simp only [hop, hm, hk, hv, Sem.run_bind, hr, Result.andThen_ok, Sem.run_pure]
  exact hK0 _ _ (hK' w' h1 h2 h3)

theorem wpList_delete_kv (hg : o.guard = none) (mO kO : Operand) (T kt : TypeId) (hop : o.op = .call { callee := .builtin .delete, args := #[mO, kO], argTypes := #[T, kt] }) (kT eT : TypeId) (hK : KeyL P kT enc) (ht : P.underlying T = some (.map kT eT))
    (m : Nat) (hm : a.eval mO = .map (some m)) (h : MapIs enc w m kv) (k : K) (hk : a.eval kO = enc k)
    (hK' : ∀ w', MapIs enc w' m (kvDel kv k) → Keeps (fun b => b = m) w w' → w'.heap.size = w.heap.size → wpList P ops Q rest (a.put o.dst (.tuple #[])) w') : wpList P ops Q (o :: rest) a w := by
  obtain ⟨w', hr, h1, h2, h3⟩ := run_delete_kv (P := P) hK ht h k kt o.type
  refine wpList_plain hg fun K0 hK0 => ?_
  unfold Oper.wp execOp
  simp only [hop, resolve, invoke, builtin, Sem.run_bind, Sem.run_pure, Result.andThen_ok, List.map_toArray, List.map_cons, List.map_nil, hm, hk, hr]
  exact hK0 _ _ (hK' w' h1 h2 h3)

omit [DecidableEq K] in
theorem wpList_len_kv (hg : o.guard = none) (mO : Operand) (T : TypeId) (hop : o.op = .call { callee := .builtin .len, args := #[mO], argTypes := #[T] }) (kT eT : TypeId) (ht : P.underlying T = some (.map kT eT))
    (m : Nat) (hm : a.eval mO = .map (some m)) (h : MapIs enc w m kv)
    (hK' : wpList P ops Q rest (a.put o.dst (.int .i64 kv.length)) w) : wpList P ops Q (o :: rest) a w := by
  refine wpList_plain hg fun K0 hK0 => ?_
  unfold Oper.wp execOp
  simp only [hop, resolve, invoke, builtin, Sem.run_bind, Sem.run_pure, Result.andThen_ok, List.map_toArray, List.map_cons, List.map_nil, hm, run_len_kv (P := P) ht h o.type]
  exact hK0 _ _ hK'

omit [DecidableEq K] in
theorem wpList_range_kv (hg : o.guard = none) (mO : Operand) (T : TypeId) (hop : o.op = .range T mO) (kT eT : TypeId) (ht : P.underlying T = some (.map kT eT)) (m : Nat) (hm : a.eval mO = .map (some m)) (h : MapIs enc w m kv)
    (hK' : ∀ w', IterIs enc w' w.heap.size m kv kv → Keeps (fun _ => False) w w' → w'.heap.size = w.heap.size + 1 → wpList P ops Q rest (a.put o.dst (.pointer (some ⟨w.heap.size, 0, none⟩))) w') : wpList P ops Q (o :: rest) a w := by
  obtain ⟨w', hr, h1, h2, h3⟩ := run_range_kv (P := P) ht h
  refine wpList_plain hg fun K0 hK0 => ?_
  unfold Oper.wp execOp
  simp only [hop, hm, Sem.run_bind, hr, Result.andThen_ok, Sem.run_pure]
  exact hK0 _ _ (hK' w' h1 h2 h3)

omit [DecidableEq K] in
theorem wpList_next_kv (hg : o.guard = none) (it : Operand) (hop : o.op = .next it false) (r m : Nat) (hit : a.eval it = .pointer (some ⟨r, 0, none⟩)) (h : IterIs enc w r m kv left)
    (h0 : left = [] → wpList P ops Q rest (a.put o.dst (.tuple #[.bool false])) w)
    (h1 : ∀ j p w', left[j]? = some p → IterIs enc w' r m kv (left.eraseIdx j) → Keeps (fun b => b = r) w w' → w'.heap.size = w.heap.size → EntryIs enc w' r p → wpList P ops Q rest (a.put o.dst (.tuple #[.bool true, enc p.1, p.2])) w') : wpList P ops Q (o :: rest) a w := by
  refine wpList_plain hg fun K0 hK0 => ?_
  unfold Oper.wp execOp
  by_cases hl : left = []
  · subst hl
    simp only [hop, hit, Sem.run_bind, run_next_over h o.type, Result.andThen_ok, Sem.run_pure]
    exact hK0 _ _ (h0 rfl)
  · obtain ⟨j, p, w', hp, hr, hi, hk, hs, hen⟩ := run_next_kv (P := P) h hl o.type
    simp only [hop, hit, Sem.run_bind, hr, Result.andThen_ok, Sem.run_pure]
    exact hK0 _ _ (h1 j p w' hp hi hk hs hen)

omit [DecidableEq K] in
theorem wpList_entry_kv (hg : o.guard = none) (it : Operand) (hop : o.op = .entry it) (r : Nat) (p : K × Value) (hit : a.eval it = .pointer (some ⟨r, 0, none⟩)) (h : EntryIs enc w r p)
    (hK' : wpList P ops Q rest (a.put o.dst (.tuple #[enc p.1, p.2])) w) : wpList P ops Q (o :: rest) a w := by
  obtain ⟨m, clock, seen, es, e, h1, h2, h3, h4, h5, h6⟩ := h
  have hr : (Instr.entry (.pointer (some ⟨r, 0, none⟩))).run P w = .ok (.tuple #[enc p.1, p.2]) w := by
    have hgr : (getObj r).run P w = .ok (.mapIter (some m) clock seen clock) w := by simp [getObj, Sem.run, h1]
    have hgm : (getObj m).run P w = .ok (.map es clock) w := by simp [getObj, Sem.run, h3]
    simp [Instr.entry, hgr, hgm, h2, h4, h5, h6]
  refine wpList_plain hg fun K0 hK0 => ?_
  unfold Oper.wp execOp
  simp only [hop, hit, Sem.run_bind, hr, Result.andThen_ok, Sem.run_pure]
  exact hK0 _ _ hK'
end
end Go.Tx

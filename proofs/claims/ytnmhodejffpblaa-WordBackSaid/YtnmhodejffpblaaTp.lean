/-
  Terms that came in: read, with no slice longer than memory has room for.
-/
import Derived.Test.YtnmhodejffpblaaTo
import Derived.Test.YtnmhodejffpblaaCq
namespace Go.Tx
open Go Go.RowKit
mutual
/-- no slice of terms in it is longer than memory has room for -/
def slim : Tm → Prop
  | .mk _ _ _ is rs _ => is.length * 104 ≤ 140737488355328 ∧ rs.length * 104 ≤ 140737488355328 ∧ slims is ∧ slims rs
def slims : List Tm → Prop
  | [] => True
  | t :: l => slim t ∧ slims l
end
theorem slims_of : ∀ {l : List Tm}, (∀ x ∈ l, slim x) → slims l
  | [], _ => True.intro
  | _ :: _, h => ⟨h _ (List.mem_cons_self ..), slims_of fun x hx => h x (List.mem_cons_of_mem _ hx)⟩
theorem slims_mem : ∀ {l : List Tm}, slims l → ∀ x ∈ l, slim x
  | _ :: _, h, x, hx => by
    rcases List.mem_cons.1 hx with rfl | hx
    · exact h.1
    · exact slims_mem h.2 x hx
theorem slim_deep : ∀ (d : Nat) {t : Tm}, slim t → Slim d t
  | 0, _, _ => True.intro
  | d + 1, .mk _ _ _ _ _ _, h => ⟨h.1, h.2.1, fun x hx => slim_deep d (slims_mem h.2.2.1 x hx), fun x hx => slim_deep d (slims_mem h.2.2.2 x hx)⟩
end Go.Tx
namespace Go.Proofs.Ytnmhodejffpblaa
open Go.ChangeShapes Go.WideShapes Go.ChangeAt Go.RowKit Go.Tx
section
variable {H : Type} {enc : TypeId × Value → H} {W : World}
set_option maxRecDepth 100000 in
theorem row_open2 {n : Nat} (IH : ∀ cs x, DataW.trod enc Try.prog W 0 (fun _ => true) true n 26 cs = some x → (x.1.weights Try.prog 26).all (· ≤ reachBytes) = true →
      ∃ (t : Tm) (vi vr vb : Value), cs = [.int .i64 t.kind, .int .i64 t.n, .string t.name, vi, vr, vb] ∧ TmD W (fun b => b < W.heap.size) n (t.val vi vr vb) t ∧ slim t)
    {v : Value} {y : DataW H × List MemPlace} (h : DataW.trod enc Try.prog W 0 (fun _ => true) true (n + 1) 23 [v] = some y) (hw : (y.1.weights Try.prog 23).all (· ≤ reachBytes) = true) :
    ∃ l, RowD W (fun b => b < W.heap.size) (TmD W (fun b => b < W.heap.size) n) v l ∧ l.length * 104 ≤ 140737488355328 ∧ ∀ x ∈ l, slim x := by
  rcases DataW.trod_slice Try.underlying23 h with ⟨hc, _⟩ | ⟨a, len, cap, elems, rest, m, hf, hc, hx, _, hl, hm, hlen, hel, _, _⟩
  · cases hc
    exact ⟨[], ⟨by simp, none, 0, rfl, Nat.le_refl _, Nat.zero_le _, fun i t h => by simp at h⟩, by simp, by simp⟩
  · cases hc
    obtain rfl : n = m := by omega
    obtain ⟨d, p⟩ := y
    simp only [Prod.mk.injEq] at hx
    obtain ⟨rfl, rfl⟩ := hx
    simp only [DataW.weights, Try.underlying23, Try.bytesTerm, List.all_cons, List.all_append, Bool.and_eq_true, decide_eq_true_eq, List.length_map] at hw
    obtain ⟨h1, h2, _⟩ := hw
    have hlen2 : len ≤ 140737488355328 := by unfold reachBytes at h1; omega
    rw [Try.cellsTerm] at hel
    by_cases h0 : len = 0
    · subst h0
      exact ⟨[], ⟨by simp, some a, cap, rfl, Nat.zero_le _, hm, fun i t h => by simp at h⟩, by simp, by simp⟩
    have hcell : ∀ i, i < len → ∃ (t : Tm) (vi vr vb : Value), (∀ j, j < 6 → W.cell? ((a.add (i * 6)).add j) = [Value.int .i64 t.kind, .int .i64 t.n, .string t.name, vi, vr, vb][j]?) ∧ (TmD W (fun b => b < W.heap.size) n (t.val vi vr vb) t ∧ slim t) := fun i hi => by
      have key := hel i hi
      rw [List.getElem?_eq_getElem (by omega)] at key
      obtain ⟨cs', k1, k2⟩ := Option.bind_eq_some_iff.1 key
      obtain ⟨t, vi, vr, vb, rfl, ht⟩ := IH cs' _ k2 (weightsAll_mem h2 _ (List.mem_map.2 ⟨_, List.getElem_mem _, rfl⟩))
      exact ⟨t, vi, vr, vb, (cells_get k1).2, ht⟩
    obtain ⟨b, o, sp⟩ := a
    obtain rfl : sp = none := by
      obtain ⟨t, vi, vr, vb, k, _⟩ := hcell 0 (by omega)
      have := World.cell?_spot (k 0 (by omega))
      simpa [Addr.add] using this
    obtain ⟨l, hl1, hl2⟩ := list_choose (p := fun i t => ∃ b' o' vi vr vb, some (⟨b, o, none⟩ : Addr) = some (⟨b', o', none⟩ : Addr) ∧ b' < W.heap.size ∧
      (W.cell? ⟨b', o' + i * 6, none⟩ = some (.int .i64 (Tm.kind t)) ∧ W.cell? ⟨b', o' + i * 6 + 1, none⟩ = some (.int .i64 t.n) ∧ W.cell? ⟨b', o' + i * 6 + 2, none⟩ = some (.string t.name) ∧
      W.cell? ⟨b', o' + i * 6 + 3, none⟩ = some vi ∧ W.cell? ⟨b', o' + i * 6 + 4, none⟩ = some vr ∧ W.cell? ⟨b', o' + i * 6 + 5, none⟩ = some vb) ∧ TmD W (fun b => b < W.heap.size) n (t.val vi vr vb) t ∧ slim t) (fun i hi => by
        obtain ⟨t, vi, vr, vb, kc, ht⟩ := hcell i hi
        have kk : ∀ j, j < 6 → W.cell? ⟨b, o + i * 6 + j, none⟩ = [Value.int .i64 t.kind, .int .i64 t.n, .string t.name, vi, vr, vb][j]? := fun j hj => by
          have := kc j hj
          rwa [add_plain, add_plain] at this
        exact ⟨t, b, o, vi, vr, vb, rfl, lt_cell (kk 0 (by omega)), ⟨kk 0 (by omega), kk 1 (by omega), kk 2 (by omega), kk 3 (by omega), kk 4 (by omega), kk 5 (by omega)⟩, ht⟩)
    refine ⟨l, ⟨by omega, some ⟨b, o, none⟩, cap, by rw [hl1], by omega, hm, fun i t ht => ?_⟩, ?_, fun x hx => ?_⟩
    · obtain ⟨b', o', vi, vr, vb, e, h1, h2, h3, _⟩ := hl2 i t ht
      exact ⟨b', o', vi, vr, vb, e, h1, h2, h3⟩
    · rw [hl1]; unfold reachBytes at h1; omega
    · obtain ⟨i, hi, rfl⟩ := List.getElem_of_mem hx
      obtain ⟨_, _, _, _, _, _, _, _, _, h⟩ := hl2 i _ (List.getElem?_eq_getElem hi)
      exact h

set_option maxRecDepth 100000 in
theorem term_open2 : ∀ (fuel : Nat) (cs : List Value) (x : DataW H × List MemPlace), DataW.trod enc Try.prog W 0 (fun _ => true) true fuel 26 cs = some x → (x.1.weights Try.prog 26).all (· ≤ reachBytes) = true →
      ∃ (t : Tm) (vi vr vb : Value), cs = [.int .i64 t.kind, .int .i64 t.n, .string t.name, vi, vr, vb] ∧ TmD W (fun b => b < W.heap.size) fuel (t.val vi vr vb) t ∧ slim t := by
  intro fuel
  induction fuel using Nat.strongRecOn with
  | ind fuel IH =>
    intro cs x h hw
    obtain ⟨xs, n, rfl, rfl, hcl, hxl, hf⟩ := DataW.trod_struct Try.underlying26 h
    rw [Try.cellsTerm] at hcl
    match cs, hcl with
    | [c0, c1, c2, c3, c4, c5], _ =>
      match xs, hxl with
      | [y0, y1, y2, y3, y4, y5], _ =>
        have f0 := hf 0 _ rfl
        have f1 := hf 1 _ rfl
        have f2 := hf 2 _ rfl
        have f3 := hf 3 _ rfl
        have f4 := hf 4 _ rfl
        have f5 := hf 5 _ rfl
        simp only [Try.cellsInt, Try.cellsI64, Try.cellsStr, Try.cellsTerms, Try.cellsBytes, List.drop_succ_cons, List.drop_zero, List.take_succ_cons, List.take_zero, List.getElem?_cons_zero, List.getElem?_cons_succ] at f0 f1 f2 f3 f4 f5
        simp only [DataW.weights, Try.underlying26, List.map_cons, List.map_nil, DataW.weightsEach, List.all_append, Bool.and_eq_true] at hw
        obtain ⟨_, _, w2, w3, w4, w5, _⟩ := hw
        obtain ⟨k, e0, _, wk⟩ := DataW.trod_int Try.underlying3 f0
        obtain ⟨z, e1, _, wz⟩ := DataW.trod_int Try.underlying2 f1
        obtain ⟨s, e2, hs, _⟩ := DataW.trod_string Try.underlying9 f2
        cases e0; cases e1; cases e2
        subst hs
        have hs : s.size ≤ 140737488355328 := by
          have w2 := of_decide_eq_true (List.all_eq_true.1 w2 s.data.toList.length (by simp [DataW.weights]))
          have h1 : s.data.toList.length = s.size := by rw [Array.length_toList]; rfl
          unfold reachBytes at w2
          omega
        cases n with
        | zero => simp [DataW.trod] at f3
        | succ m =>
          obtain ⟨is, hi, hi1, hi2⟩ := row_open2 (fun cs x => IH m (by omega) cs x) f3 w3
          obtain ⟨rs, hr, hr1, hr2⟩ := row_open2 (fun cs x => IH m (by omega) cs x) f4 w4
          obtain ⟨bs, hb⟩ := bytes_open f5 w5
          have hk := wf_i64 wk
          have hz := wf_i64 wz
          exact ⟨.mk k z s is rs bs, c3, c4, c5, rfl, ⟨c3, c4, c5, rfl, ⟨hk.1, hk.2, hz.1, hz.2⟩, hs, hi.mono (fun _ h => h) (fun _ _ _ _ h => h) fun _ _ h => h.deep (by omega), hr.mono (fun _ h => h) (fun _ _ _ _ h => h) fun _ _ h => h.deep (by omega), hb⟩, hi1, hr1, slims_of hi2, slims_of hr2⟩
set_option maxRecDepth 100000 in
/-- a term that is an argument -/
theorem term_arg {base : Nat} {v : Value} {d : DataW H} {p : List MemPlace} (hv : Value.okWide Try.prog W .any base 26 v) (h : DataW.Trod enc Try.prog W 0 (fun _ => true) true 26 v d p)
    (hw : (d.weights Try.prog 26).all (· ≤ reachBytes) = true) : ∃ fuel t, TmD W (fun b => b < W.heap.size) fuel v t ∧ slim t := by
  obtain ⟨cs, rfl, _⟩ := okWide_struct Try.underlying26 hv
  obtain ⟨fuel, hf⟩ := h
  obtain ⟨t, vi, vr, vb, e, ht, hs⟩ := term_open2 fuel _ _ hf hw
  refine ⟨fuel, t, ?_, hs⟩
  have e2 : cs = #[.int .i64 t.kind, .int .i64 t.n, .string t.name, vi, vr, vb] := by
    apply Array.toList_inj.1
    simpa [Value.cells] using e
  rw [e2]
  exact ht
theorem weights_at {P : Program} {ts : List TypeId} {ds : List (DataW H)} (h : (DataW.weightsEach P ts ds).all (· ≤ reachBytes) = true) {j : Nat} {t : TypeId} {d : DataW H} (ht : ts[j]? = some t) (hd : ds[j]? = some d) : (d.weights P t).all (· ≤ reachBytes) = true :=
  List.all_eq_true.2 fun n hn => List.all_eq_true.1 h n (DataW.weights_mem_each ht hd n hn)
end
end Go.Proofs.Ytnmhodejffpblaa

/-
  Terms that came in: from the form's reading to terms as plain data.
-/
import Derived.Test.YtnmhodejffpblaaTm
import Derived.Test.YtnmhodejffpblaaRowB
import Derived.SizedLaws
import Derived.OpenShut
namespace Go.Tx
open Go Go.RowKit Go.ChangeShapes Go.WideShapes Go.ChangeAt
theorem weightsAll_mem {H : Type} {P : Program} {e : TypeId} {q : Nat → Bool} : ∀ {l : List (DataW H)}, (DataW.weightsAll P e l).all q = true → ∀ d ∈ l, (d.weights P e).all q = true
  | [], _, d, hd => by simp at hd
  | x :: r, h, d, hd => by
    rw [DataW.weightsAll, List.all_append, Bool.and_eq_true] at h
    rcases List.mem_cons.1 hd with rfl | hd
    · exact h.1
    · exact weightsAll_mem h.2 d hd
theorem wf_u8 {n : Int} (h : (Lit.int .u8 n).wf = true) : 0 ≤ n ∧ n < 256 := by
  simp only [Lit.wf, Bool.and_eq_true, decide_eq_true_eq] at h
  have h1 : (0 : Int) ≤ n := h.1
  have h2 : n ≤ 255 := h.2
  omega
theorem cells_get {w : World} {base : Nat} {a : Addr} {n : Nat} {cs : List Value} (h : w.cells? base a n = some cs) : cs.length = n ∧ ∀ i, i < n → w.cell? (a.add i) = cs[i]? := by
  unfold World.cells? at h
  split at h
  · have hl := mapM_some_length h
    refine ⟨by simpa using hl, fun i hi => ?_⟩
    have := mapM_some_get h i i (by simp [hi])
    exact this
  · cases h
/-- bytes that were read, as bytes -/
def toBytes (zs : List Int) : ByteArray := ⟨(zs.map fun z => UInt8.ofNat z.toNat).toArray⟩
theorem toBytes_size (zs : List Int) : (toBytes zs).size = zs.length := by simp [toBytes, ByteArray.size]
theorem toBytes_cells {zs : List Int} (h : ∀ z ∈ zs, 0 ≤ z ∧ z < 256) : byteCells (toBytes zs) = zs.map (Value.int .u8 ·) := by
  simp only [byteCells, toBytes, List.map_map]
  refine List.map_congr_left fun z hz => ?_
  obtain ⟨h1, h2⟩ := h z hz
  simp only [Function.comp]
  congr 1
  rw [UInt8.toNat_ofNat']
  omega
end Go.Tx
namespace Go.Proofs.Ytnmhodejffpblaa
open Go.ChangeShapes Go.WideShapes Go.ChangeAt Go.RowKit Go.Tx
theorem Try.cellsTerm : Try.prog.cellsOf 26 = 6 := by kernel_rfl
theorem Try.bytesTerm : Try.prog.bytesOf 26 = 104 := by kernel_rfl
theorem Try.cellsI64 : Try.prog.cellsOf 2 = 1 := by kernel_rfl
theorem Try.cellsStr : Try.prog.cellsOf 9 = 1 := by kernel_rfl
theorem Try.cellsTerms : Try.prog.cellsOf 23 = 1 := by kernel_rfl
theorem Try.cellsBytes : Try.prog.cellsOf 24 = 1 := by kernel_rfl
theorem Try.cellsByte : Try.prog.cellsOf 5 = 1 := by kernel_rfl
theorem Try.bytesByte : Try.prog.bytesOf 5 = 1 := by kernel_rfl
section
variable {H : Type} {enc : TypeId × Value → H} {W : World}

theorem bytes_open {fuel : Nat} {v : Value} {y : DataW H × List MemPlace} (h : DataW.trod enc Try.prog W 0 (fun _ => true) true fuel 24 [v] = some y) (hw : (y.1.weights Try.prog 24).all (· ≤ reachBytes) = true) :
    ∃ s, BytesD W (fun b => b < W.heap.size) v s := by
  rcases open_ints Try.underlying24 Try.underlying5 Try.cellsByte h with ⟨hc, _⟩ | ⟨a, len, cap, zs, hc, _, hl, hm, hz, hx, hcell, hwz⟩
  · cases hc
    exact ⟨⟨#[]⟩, by decide, none, 0, rfl, Nat.le_refl _, Nat.zero_le _, fun h => absurd h (by decide)⟩
  · cases hc
    simp only [if_true] at hz
    obtain ⟨d, p⟩ := y
    simp only [Prod.mk.injEq] at hx
    obtain ⟨rfl, rfl⟩ := hx
    simp only [DataW.weights, Try.underlying24, Try.bytesByte, List.all_cons, Bool.and_eq_true, decide_eq_true_eq, lits, List.length_map, List.length_take, List.length_drop] at hw
    have hlen : len ≤ 140737488355328 := by
      have h1 := hw.1
      unfold reachBytes at h1
      omega
    refine ⟨toBytes (zs.take len), ?_⟩
    have hsz : (toBytes (zs.take len)).size = len := by rw [toBytes_size, List.length_take]; omega
    have hb : ∀ z ∈ zs, 0 ≤ z ∧ z < 256 := fun z hz => wf_u8 (hwz z hz)
    refine ⟨by rw [hsz]; exact hlen, some a, cap, by rw [hsz], by rw [hsz]; exact hl, hm, fun hp => ?_⟩
    rw [hsz] at hp
    obtain ⟨b, o, rfl, hc2⟩ := ints_at hcell (by omega)
    refine ⟨b, o, rfl, lt_cell (hc2 0 (by omega)), fun j u hu => ?_⟩
    rw [toBytes_cells fun z hz => hb z (List.mem_of_mem_take hz), List.getElem?_map, List.getElem?_take] at hu
    have hj : j < len := by
      by_cases hj : j < len
      · exact hj
      · rw [if_neg hj] at hu; cases hu
    rw [if_pos hj, List.getElem?_eq_getElem (by omega)] at hu
    have := hc2 j (by omega)
    rw [List.getD_eq_getElem?_getD, List.getElem?_eq_getElem (by omega)] at this
    simp at hu this
    rw [this, hu]

set_option maxRecDepth 100000 in
theorem row_open {n : Nat} (IH : ∀ cs x, DataW.trod enc Try.prog W 0 (fun _ => true) true n 26 cs = some x → (x.1.weights Try.prog 26).all (· ≤ reachBytes) = true →
      ∃ (t : Tm) (vi vr vb : Value), cs = [.int .i64 t.kind, .int .i64 t.n, .string t.name, vi, vr, vb] ∧ TmD W (fun b => b < W.heap.size) n (t.val vi vr vb) t)
    {v : Value} {y : DataW H × List MemPlace} (h : DataW.trod enc Try.prog W 0 (fun _ => true) true (n + 1) 23 [v] = some y) (hw : (y.1.weights Try.prog 23).all (· ≤ reachBytes) = true) :
    ∃ l, RowD W (fun b => b < W.heap.size) (TmD W (fun b => b < W.heap.size) n) v l := by
  rcases DataW.trod_slice Try.underlying23 h with ⟨hc, _⟩ | ⟨a, len, cap, elems, rest, m, hf, hc, hx, _, hl, hm, hlen, hel, _, _⟩
  · cases hc
    exact ⟨[], by simp, none, 0, rfl, Nat.le_refl _, Nat.zero_le _, fun i t h => by simp at h⟩
  · cases hc
    obtain rfl : n = m := by omega
    obtain ⟨d, p⟩ := y
    simp only [Prod.mk.injEq] at hx
    obtain ⟨rfl, rfl⟩ := hx
    simp only [DataW.weights, Try.underlying23, Try.bytesTerm, List.all_cons, List.all_append, Bool.and_eq_true, decide_eq_true_eq, List.length_map] at hw
    obtain ⟨h1, h2, _⟩ := hw
    have hlen2 : len ≤ 140737488355328 := by unfold reachBytes at h1; omega
    rw [Try.cellsTerm] at hel
    by_cases h0 : len = 0
    · subst h0
      exact ⟨[], by simp, some a, cap, rfl, Nat.zero_le _, hm, fun i t h => by simp at h⟩
    have hcell : ∀ i, i < len → ∃ (t : Tm) (vi vr vb : Value), (∀ j, j < 6 → W.cell? ((a.add (i * 6)).add j) = [Value.int .i64 t.kind, .int .i64 t.n, .string t.name, vi, vr, vb][j]?) ∧ TmD W (fun b => b < W.heap.size) n (t.val vi vr vb) t := fun i hi => by
      have key := hel i hi
      rw [List.getElem?_eq_getElem (by omega)] at key
      obtain ⟨cs', k1, k2⟩ := Option.bind_eq_some_iff.1 key
      obtain ⟨t, vi, vr, vb, rfl, ht⟩ := IH cs' _ k2 (weightsAll_mem h2 _ (List.mem_map.2 ⟨_, List.getElem_mem _, rfl⟩))
      exact ⟨t, vi, vr, vb, (cells_get k1).2, ht⟩
    obtain ⟨b, o, sp⟩ := a
    obtain rfl : sp = none := by
      obtain ⟨t, vi, vr, vb, k, _⟩ := hcell 0 (by omega)
      have := World.cell?_spot (k 0 (by omega))
      simpa [Addr.add] using this
    obtain ⟨l, hl1, hl2⟩ := list_choose (p := fun i t => ∃ b' o' vi vr vb, some (⟨b, o, none⟩ : Addr) = some (⟨b', o', none⟩ : Addr) ∧ b' < W.heap.size ∧
      (W.cell? ⟨b', o' + i * 6, none⟩ = some (.int .i64 (Tm.kind t)) ∧ W.cell? ⟨b', o' + i * 6 + 1, none⟩ = some (.int .i64 t.n) ∧ W.cell? ⟨b', o' + i * 6 + 2, none⟩ = some (.string t.name) ∧
      W.cell? ⟨b', o' + i * 6 + 3, none⟩ = some vi ∧ W.cell? ⟨b', o' + i * 6 + 4, none⟩ = some vr ∧ W.cell? ⟨b', o' + i * 6 + 5, none⟩ = some vb) ∧ TmD W (fun b => b < W.heap.size) n (t.val vi vr vb) t) (fun i hi => by
        obtain ⟨t, vi, vr, vb, kc, ht⟩ := hcell i hi
        have kk : ∀ j, j < 6 → W.cell? ⟨b, o + i * 6 + j, none⟩ = [Value.int .i64 t.kind, .int .i64 t.n, .string t.name, vi, vr, vb][j]? := fun j hj => by
          have := kc j hj
          rwa [add_plain, add_plain] at this
        exact ⟨t, b, o, vi, vr, vb, rfl, lt_cell (kk 0 (by omega)), ⟨kk 0 (by omega), kk 1 (by omega), kk 2 (by omega), kk 3 (by omega), kk 4 (by omega), kk 5 (by omega)⟩, ht⟩)
    exact ⟨l, by omega, some ⟨b, o, none⟩, cap, by rw [hl1], by omega, hm, hl2⟩

set_option maxRecDepth 100000 in
theorem term_open : ∀ (fuel : Nat) (cs : List Value) (x : DataW H × List MemPlace), DataW.trod enc Try.prog W 0 (fun _ => true) true fuel 26 cs = some x → (x.1.weights Try.prog 26).all (· ≤ reachBytes) = true →
      ∃ (t : Tm) (vi vr vb : Value), cs = [.int .i64 t.kind, .int .i64 t.n, .string t.name, vi, vr, vb] ∧ TmD W (fun b => b < W.heap.size) fuel (t.val vi vr vb) t := by
  intro fuel
  induction fuel using Nat.strongRecOn with
  | ind fuel IH =>
    intro cs x h hw
    obtain ⟨xs, n, rfl, rfl, hcl, hxl, hf⟩ := DataW.trod_struct Try.underlying26 h
    rw [Try.cellsTerm] at hcl
    match cs, hcl with
    | [c0, c1, c2, c3, c4, c5], _ =>
      match xs, hxl with
      | [y0, y1, y2, y3, y4, y5], _ =>
        have f0 := hf 0 _ rfl
        have f1 := hf 1 _ rfl
        have f2 := hf 2 _ rfl
        have f3 := hf 3 _ rfl
        have f4 := hf 4 _ rfl
        have f5 := hf 5 _ rfl
        simp only [Try.cellsInt, Try.cellsI64, Try.cellsStr, Try.cellsTerms, Try.cellsBytes, List.drop_succ_cons, List.drop_zero, List.take_succ_cons, List.take_zero, List.getElem?_cons_zero, List.getElem?_cons_succ] at f0 f1 f2 f3 f4 f5
        simp only [DataW.weights, Try.underlying26, List.map_cons, List.map_nil, DataW.weightsEach, List.all_append, Bool.and_eq_true] at hw
        obtain ⟨_, _, w2, w3, w4, w5, _⟩ := hw
        obtain ⟨k, e0, _, wk⟩ := DataW.trod_int Try.underlying3 f0
        obtain ⟨z, e1, _, wz⟩ := DataW.trod_int Try.underlying2 f1
        obtain ⟨s, e2, hs, _⟩ := DataW.trod_string Try.underlying9 f2
        cases e0; cases e1; cases e2
        subst hs
        have hs : s.size ≤ 140737488355328 := by
          have w2 := of_decide_eq_true (List.all_eq_true.1 w2 s.data.toList.length (by simp [DataW.weights]))
          have h1 : s.data.toList.length = s.size := by rw [Array.length_toList]; rfl
          unfold reachBytes at w2
          omega
        cases n with
        | zero => simp [DataW.trod] at f3
        | succ m =>
          obtain ⟨is, hi⟩ := row_open (fun cs x => IH m (by omega) cs x) f3 w3
          obtain ⟨rs, hr⟩ := row_open (fun cs x => IH m (by omega) cs x) f4 w4
          obtain ⟨bs, hb⟩ := bytes_open f5 w5
          have hk := wf_i64 wk
          have hz := wf_i64 wz
          exact ⟨.mk k z s is rs bs, c3, c4, c5, rfl, c3, c4, c5, rfl, ⟨hk.1, hk.2, hz.1, hz.2⟩, hs, hi.mono (fun _ h => h) (fun _ _ _ _ h => h) fun _ _ h => h.deep (by omega), hr.mono (fun _ h => h) (fun _ _ _ _ h => h) fun _ _ h => h.deep (by omega), hb⟩
end
end Go.Proofs.Ytnmhodejffpblaa

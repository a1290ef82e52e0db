import Derived.Test.YtgmieehheoknbaaDoorGn
import Derived.Test.YtgmieehheoknbaaDoorGp
import Derived.Test.YtgmieehheoknbaaDoorGe
import Derived.Test.YtgmieehheoknbaaDoorGb
import Derived.SizedLaws
import Derived.OpenShut
import Derived.Test.YtgmieehheoknbaaDoorGcm
import Derived.Test.YtgmieehheoknbaaDoorGp
section
/-
  What may be written fits the reader: sizes; modules cut or with bytes behind them (plain).
-/
namespace Go.Tx
open Go Go.RowKit
theorem Bytes.bsAt {w : World} {v : Value} {q : List UInt8} (h : Bytes w v q) : BsAt w v q := by
  obtain ⟨a, c, rfl, h1, h2⟩ := Row.len h
  refine ⟨a, c, rfl, h1, h2, fun i x hx => ?_⟩
  have hi := (List.getElem?_eq_some_iff.1 hx).1
  obtain ⟨g, c2, e, _, _⟩ := Row.form h (by omega)
  cases e
  refine ⟨g, rfl, Row.lt h rfl, Row.cell3 h ?_⟩
  simp [byteV, hx]
theorem Bytes.lt {w : World} {v : Value} {q : List UInt8} (h : Bytes w v q) : ∀ x, v.ownBlock = some x → x < w.heap.size := fun _ hx => Row.lt h hx
theorem errT_none {x : Except (Int × Int) (Int × Int)} (h : errTm x = none) : ∃ p, x = .ok p := by
  cases x with
  | ok p => exact ⟨p, rfl⟩
  | error e => simp [errTm] at h
theorem fitTs_of {l : List Tm} (h : ∀ t ∈ l, fitT t) : fitTs l := by
  induction l with
  | nil => exact True.intro
  | cons t l ih => exact ⟨h t (List.mem_cons_self ..), ih fun x hx => h x (List.mem_cons_of_mem _ hx)⟩
/-- a walk over a list of terms, each of which fits -/
theorem chks_fit {l : List Tm} (IH : ∀ t ∈ l, ∀ dep st st', 0 ≤ st.1 → 0 ≤ st.2 → chk t dep st = .ok st' → fitT t ∧ st.1 + 1 ≤ st'.1 ∧ st.2 ≤ st'.2 ∧ st'.1 + st'.2 ≤ 65536) :
    ∀ dep (st st' : Int × Int), 0 ≤ st.1 → 0 ≤ st.2 → st.1 + st.2 ≤ 65536 → chks l dep st = .ok st' → fitTs l ∧ st.1 + l.length ≤ st'.1 ∧ st.2 ≤ st'.2 ∧ st'.1 + st'.2 ≤ 65536 := by
  induction l with
  | nil =>
    intro dep st st' h1 h2 h3 h
    simp only [chks] at h
    obtain rfl := Except.ok.inj h
    exact ⟨True.intro, by simp, Int.le_refl _, h3⟩
  | cons t l ih =>
    intro dep st st' h1 h2 h3 h
    simp only [chks] at h
    cases hc : chk t dep st with
    | error e => rw [hc] at h; cases h
    | ok p =>
      rw [hc] at h
      have h : chks l dep p = .ok st' := h
      obtain ⟨f1, a1, a2, a3⟩ := IH t (List.mem_cons_self ..) dep st p h1 h2 hc
      obtain ⟨f2, b1, b2, b3⟩ := ih (fun x hx => IH x (List.mem_cons_of_mem _ hx)) dep p st' (by omega) (by omega) a3 h
      exact ⟨⟨f1, f2⟩, by simp only [List.length_cons]; omega, by omega, b3⟩
/-- a term that may be fits -/
theorem chk_fit {w : World} {S : Nat → Prop} : ∀ (d : Nat) {v : Value} {t : Tm}, TmD w S d v t → ∀ dep (st st' : Int × Int), 0 ≤ st.1 → 0 ≤ st.2 → chk t dep st = .ok st' → fitT t ∧ st.1 + 1 ≤ st'.1 ∧ st.2 ≤ st'.2 ∧ st'.1 + st'.2 ≤ 65536
  | 0, _, _, h, _, _, _, _, _, _ => h.elim
  | d + 1, v, .mk k n s is rs bs, h, dep, st, st', h1, h2, hc => by
    obtain ⟨vi, vr, vb, _, hf, _, hi, hr, _⟩ := h
    have e1 : ∀ t ∈ is, ∀ dep st st', 0 ≤ st.1 → 0 ≤ st.2 → chk t dep st = .ok st' → fitT t ∧ st.1 + 1 ≤ st'.1 ∧ st.2 ≤ st'.2 ∧ st'.1 + st'.2 ≤ 65536 := fun t ht => by
      obtain ⟨_, _, _, _, _, _, hel⟩ := hi
      obtain ⟨i, hi2, rfl⟩ := List.getElem_of_mem ht
      obtain ⟨_, _, _, _, _, _, _, _, htm⟩ := hel i _ (List.getElem?_eq_getElem hi2)
      exact chk_fit d htm
    have e2 : ∀ t ∈ rs, ∀ dep st st', 0 ≤ st.1 → 0 ≤ st.2 → chk t dep st = .ok st' → fitT t ∧ st.1 + 1 ≤ st'.1 ∧ st.2 ≤ st'.2 ∧ st'.1 + st'.2 ≤ 65536 := fun t ht => by
      obtain ⟨_, _, _, _, _, _, hel⟩ := hr
      obtain ⟨i, hi2, rfl⟩ := List.getElem_of_mem ht
      obtain ⟨_, _, _, _, _, _, _, _, htm⟩ := hel i _ (List.getElem?_eq_getElem hi2)
      exact chk_fit d htm
    have hn1 := hf.n1
    have hn2 := hf.n2
    simp only [Tm.n] at hn1 hn2
    rw [chk] at hc
    try simp only at hc
    by_cases q1 : st.1 + 1 + (st.2 + (Tm.mk k n s is rs bs).binSize) > 65536 ∨ dep > 200
    · rw [if_pos q1] at hc; cases hc
    rw [if_neg q1] at hc
    by_cases q2 : (Tm.mk k n s is rs bs).okB = false
    · rw [if_pos q2] at hc; cases hc
    rw [if_neg q2] at hc
    have ho : (Tm.mk k n s is rs bs).okB = true := by simpa using q2
    have hb0 : 0 ≤ (Tm.mk k n s is rs bs).binSize := by unfold Tm.binSize; split <;> omega
    have q3 : st.1 + 1 + (st.2 + (Tm.mk k n s is rs bs).binSize) ≤ 65536 := by
      have := mt Or.inl q1
      omega
    cases h3 : chks is (dep + 1) (st.1 + 1, st.2 + (Tm.mk k n s is rs bs).binSize) with
    | error e => rw [h3] at hc; cases hc
    | ok p =>
      rw [h3] at hc
      have hc : chks rs (dep + 1) p = .ok st' := hc
      obtain ⟨f1, a1, a2, a3⟩ := chks_fit e1 (dep + 1) _ p (by simp only; omega) (by simp only; omega) (by simp only; omega) h3
      simp only at a1 a2
      obtain ⟨f2, b1, b2, b3⟩ := chks_fit e2 (dep + 1) p st' (by omega) (by omega) a3 hc
      have hs : s.size ≤ 255 ∧ bs.size ≤ 65536 := by
        have hbz : k = 8 → (bs.size : Int) = (Tm.mk k n s is rs bs).binSize := fun e => by unfold Tm.binSize; rw [if_pos (by simpa [Tm.kind] using e)]; rfl
        rcases okB_parts ho with ⟨_, rfl, _, _, rfl⟩ | ⟨rfl, _, _, _, rfl⟩ | ⟨_, _, rfl, _, rfl⟩ | ⟨_, _, rfl, _, _, rfl⟩ | ⟨_, _, rfl, rfl, _⟩ | ⟨h8, _, rfl, _, _⟩
        · simp [ByteArray.size]
        · have h2 := of_decide_eq_true (show decide (n = 0 ∧ 1 ≤ s.size ∧ s.size ≤ 255 ∧ is.length = 0 ∧ rs.length = 0 ∧ (⟨#[]⟩ : ByteArray).size = 0) = true from ho)
          exact ⟨h2.2.2.1, by simp [ByteArray.size]⟩
        · simp [ByteArray.size]
        · simp [ByteArray.size]
        · simp [ByteArray.size]
        · have := hbz h8
          exact ⟨by simp [ByteArray.size], by omega⟩
      exact ⟨⟨ho, ⟨hn1, hn2⟩, by omega, by omega, by omega, f1, f2⟩, by omega, by omega, b3⟩
theorem right_fit {w : World} {S : Nat → Prop} {d : Nat} {v : Value} {t : Tm} (h : TmD w S d v t) (hr : rightTm t = none) : fitT t := by
  obtain ⟨p, hp⟩ := errT_none hr
  exact (chk_fit d h 1 (0, 0) p (Int.le_refl _) (Int.le_refl _) hp).1
theorem md_fits {w : World} {S : Nat → Prop} {d : Nat} {v : Value} {m : Md} (h : MdD w S d v m) (ho : mdOk m) (hl : m.lits.length ≤ 1099511627776) : mdFits m := by
  obtain ⟨vl, vf, _, hn, h1, h2⟩ := h
  obtain ⟨_, _, _, _, _, _, hel⟩ := h1
  obtain ⟨hfl, _, _, _, _, _, hfe⟩ := h2
  refine ⟨hn, hl, hfl, fun t ht => ?_, fun f hf => ?_⟩
  · obtain ⟨i, hi2, rfl⟩ := List.getElem_of_mem ht
    obtain ⟨_, _, _, _, _, _, _, _, htm⟩ := hel i _ (List.getElem?_eq_getElem hi2)
    exact right_fit htm (ho.1 _ ht)
  · obtain ⟨i, hi2, rfl⟩ := List.getElem_of_mem hf
    obtain ⟨hff, _, _, _, _, _, _, hin⟩ := hfe i _ (List.getElem?_eq_getElem hi2)
    exact ⟨hff.n1, hin.1⟩
theorem firstLit_none : ∀ {l : List Tm} {i : Nat}, firstLit l i = none ↔ ∀ t ∈ l, rightTm t = none
  | [], i => by simp [firstLit]
  | t :: l, i => by
    rw [firstLit]
    cases hr : rightTm t with
    | some x => obtain ⟨c, k⟩ := x; simp [hr]
    | none => simp [hr, firstLit_none (l := l) (i := i + 1)]
theorem firstFn_none : ∀ {l : List Fnc} {i : Nat}, firstFn l i = none ↔ ∀ f ∈ l, fnOk f = true
  | [], i => by simp [firstFn]
  | f :: l, i => by
    rw [firstFn]
    cases hr : fnOk f with
    | false => simp [hr]
    | true => simp [hr, firstFn_none (l := l) (i := i + 1)]
theorem errM_none {m : Md} : errM m = none ↔ mdOk m := by
  unfold errM mdOk
  cases h : firstLit m.lits 0 with
  | some e =>
    simp only [reduceCtorEq, false_iff]
    intro hh
    rw [firstLit_none.2 hh.1] at h
    cases h
  | none => simp only [firstFn_none, firstLit_none.1 h, implies_true, true_and]; exact ⟨fun h2 => ⟨firstLit_none.1 h, h2⟩, fun h2 => h2.2⟩
/-- no module's bytes are the front of another's -/
theorem cut_none {m n : Md} (hm : mdOk m) (hf : mdFits m) (gm : mdOk n) (gf : mdFits n) {k : Nat} (hk : k < (encM m).length) (h : (encM m).take k = encM n) : False := by
  have e : encM m = encM n ++ (encM m).drop k := by rw [← h, List.take_append_drop]
  have h1 := pBody_enc hm hf (F := (encM m).length) (Nat.le_refl _) []
  have h2 := pBody_enc gm gf (F := (encM m).length) (by rw [e, List.length_append]; omega) ((encM m).drop k)
  rw [List.append_nil] at h1
  rw [← e, h1] at h2
  simp only [Except.ok.injEq, Prod.mk.injEq] at h2
  have h3 : ((encM m).drop k).length = 0 := by rw [← h2.2]; rfl
  rw [List.length_drop] at h3
  omega
theorem pMod_more {m : Md} (hm : mdOk m) (hf : mdFits m) (r : List UInt8) : pMod ((encM m ++ r).length + 1) (encM m ++ r) = pEnd m r := by
  unfold pMod
  rw [pBody_enc hm hf (by rw [List.length_append]; omega) r]
  rfl
end Go.Tx
end
section
/-
  Terms that came in: from the form's reading to terms as plain data.
-/
namespace Go.Tx
open Go Go.RowKit Go.ChangeShapes Go.WideShapes Go.ChangeAt
theorem weightsAll_mem {H : Type} {P : Program} {e : TypeId} {q : Nat → Bool} : ∀ {l : List (DataW H)}, (DataW.weightsAll P e l).all q = true → ∀ d ∈ l, (d.weights P e).all q = true
  | [], _, d, hd => by simp at hd
  | x :: r, h, d, hd => by
    rw [DataW.weightsAll, List.all_append, Bool.and_eq_true] at h
    rcases List.mem_cons.1 hd with rfl | hd
    · exact h.1
    · exact weightsAll_mem h.2 d hd
theorem wf_u8 {n : Int} (h : (Lit.int .u8 n).wf = true) : 0 ≤ n ∧ n < 256 := by
  simp only [Lit.wf, Bool.and_eq_true, decide_eq_true_eq] at h
  have h1 : (0 : Int) ≤ n := h.1
  have h2 : n ≤ 255 := h.2
  omega
theorem cells_get {w : World} {base : Nat} {a : Addr} {n : Nat} {cs : List Value} (h : w.cells? base a n = some cs) : cs.length = n ∧ ∀ i, i < n → w.cell? (a.add i) = cs[i]? := by
  unfold World.cells? at h
  split at h
  · have hl := mapM_some_length h
    refine ⟨by simpa using hl, fun i hi => ?_⟩
    have := mapM_some_get h i i (by simp [hi])
    exact this
  · cases h
/-- bytes that were read, as bytes -/
def toBytes (zs : List Int) : ByteArray := ⟨(zs.map fun z => UInt8.ofNat z.toNat).toArray⟩
theorem toBytes_size (zs : List Int) : (toBytes zs).size = zs.length := by simp [toBytes, ByteArray.size]
theorem toBytes_cells {zs : List Int} (h : ∀ z ∈ zs, 0 ≤ z ∧ z < 256) : byteCells (toBytes zs) = zs.map (Value.int .u8 ·) := by
  simp only [byteCells, toBytes, List.map_map]
  refine List.map_congr_left fun z hz => ?_
  obtain ⟨h1, h2⟩ := h z hz
  simp only [Function.comp]
  congr 1
  rw [UInt8.toNat_ofNat']
  omega
end Go.Tx
namespace Go.Proofs.YtgmieehheoknbaaDoor
open Go.ChangeShapes Go.WideShapes Go.ChangeAt Go.RowKit Go.Tx
theorem Tryd.cellsTerm : Tryd.prog.cellsOf 46 = 6 := by kernel_rfl
theorem Tryd.bytesTerm : Tryd.prog.bytesOf 46 = 104 := by kernel_rfl
theorem Tryd.cellsI64 : Tryd.prog.cellsOf 2 = 1 := by kernel_rfl
theorem Tryd.cellsStr : Tryd.prog.cellsOf 9 = 1 := by kernel_rfl
theorem Tryd.cellsTerms : Tryd.prog.cellsOf 22 = 1 := by kernel_rfl
theorem Tryd.cellsBytes : Tryd.prog.cellsOf 26 = 1 := by kernel_rfl
theorem Tryd.cellsByte : Tryd.prog.cellsOf 5 = 1 := by kernel_rfl
theorem Tryd.bytesByte : Tryd.prog.bytesOf 5 = 1 := by kernel_rfl
section
variable {H : Type} {enc : TypeId × Value → H} {W : World}

theorem bytes_open {fuel : Nat} {v : Value} {y : DataW H × List MemPlace} (h : DataW.trod enc Tryd.prog W 0 (fun _ => true) true fuel 26 [v] = some y) (hw : (y.1.weights Tryd.prog 26).all (· ≤ reachBytes) = true) :
    ∃ s, BytesD W (fun b => b < W.heap.size) v s := by
  rcases open_ints Tryd.underlying26 Tryd.underlying5 Tryd.cellsByte h with ⟨hc, _⟩ | ⟨a, len, cap, zs, hc, _, hl, hm, hz, hx, hcell, hwz⟩
  · cases hc
    exact ⟨⟨#[]⟩, by decide, none, 0, rfl, Nat.le_refl _, Nat.zero_le _, fun h => absurd h (by decide)⟩
  · cases hc
    simp only [if_true] at hz
    obtain ⟨d, p⟩ := y
    simp only [Prod.mk.injEq] at hx
    obtain ⟨rfl, rfl⟩ := hx
    simp only [DataW.weights, Tryd.underlying26, Tryd.bytesByte, List.all_cons, Bool.and_eq_true, decide_eq_true_eq, lits, List.length_map, List.length_take, List.length_drop] at hw
    have hlen : len ≤ 140737488355328 := by
      have h1 := hw.1
      unfold reachBytes at h1
      omega
    refine ⟨toBytes (zs.take len), ?_⟩
    have hsz : (toBytes (zs.take len)).size = len := by rw [toBytes_size, List.length_take]; omega
    have hb : ∀ z ∈ zs, 0 ≤ z ∧ z < 256 := fun z hz => wf_u8 (hwz z hz)
    refine ⟨by rw [hsz]; exact hlen, some a, cap, by rw [hsz], by rw [hsz]; exact hl, hm, fun hp => ?_⟩
    rw [hsz] at hp
    obtain ⟨b, o, rfl, hc2⟩ := ints_at hcell (by omega)
    refine ⟨b, o, rfl, lt_cell (hc2 0 (by omega)), fun j u hu => ?_⟩
    rw [toBytes_cells fun z hz => hb z (List.mem_of_mem_take hz), List.getElem?_map, List.getElem?_take] at hu
    have hj : j < len := by
      by_cases hj : j < len
      · exact hj
      · rw [if_neg hj] at hu; cases hu
    rw [if_pos hj, List.getElem?_eq_getElem (by omega)] at hu
    have := hc2 j (by omega)
    rw [List.getD_eq_getElem?_getD, List.getElem?_eq_getElem (by omega)] at this
    simp at hu this
    rw [this, hu]

set_option maxRecDepth 100000 in
theorem row_open {n : Nat} (IH : ∀ cs x, DataW.trod enc Tryd.prog W 0 (fun _ => true) true n 46 cs = some x → (x.1.weights Tryd.prog 46).all (· ≤ reachBytes) = true →
      ∃ (t : Tm) (vi vr vb : Value), cs = [.int .i64 t.kind, .int .i64 t.n, .string t.name, vi, vr, vb] ∧ TmD W (fun b => b < W.heap.size) n (t.val vi vr vb) t)
    {v : Value} {y : DataW H × List MemPlace} (h : DataW.trod enc Tryd.prog W 0 (fun _ => true) true (n + 1) 22 [v] = some y) (hw : (y.1.weights Tryd.prog 22).all (· ≤ reachBytes) = true) :
    ∃ l, RowD W (fun b => b < W.heap.size) (TmD W (fun b => b < W.heap.size) n) v l := by
  rcases DataW.trod_slice Tryd.underlying22 h with ⟨hc, _⟩ | ⟨a, len, cap, elems, rest, m, hf, hc, hx, _, hl, hm, hlen, hel, _, _⟩
  · cases hc
    exact ⟨[], by simp, none, 0, rfl, Nat.le_refl _, Nat.zero_le _, fun i t h => by simp at h⟩
  · cases hc
    obtain rfl : n = m := by omega
    obtain ⟨d, p⟩ := y
    simp only [Prod.mk.injEq] at hx
    obtain ⟨rfl, rfl⟩ := hx
    simp only [DataW.weights, Tryd.underlying22, Tryd.bytesTerm, List.all_cons, List.all_append, Bool.and_eq_true, decide_eq_true_eq, List.length_map] at hw
    obtain ⟨h1, h2, _⟩ := hw
    have hlen2 : len ≤ 140737488355328 := by unfold reachBytes at h1; omega
    rw [Tryd.cellsTerm] at hel
    by_cases h0 : len = 0
    · subst h0
      exact ⟨[], by simp, some a, cap, rfl, Nat.zero_le _, hm, fun i t h => by simp at h⟩
    have hcell : ∀ i, i < len → ∃ (t : Tm) (vi vr vb : Value), (∀ j, j < 6 → W.cell? ((a.add (i * 6)).add j) = [Value.int .i64 t.kind, .int .i64 t.n, .string t.name, vi, vr, vb][j]?) ∧ TmD W (fun b => b < W.heap.size) n (t.val vi vr vb) t := fun i hi => by
      have key := hel i hi
      rw [List.getElem?_eq_getElem (by omega)] at key
      obtain ⟨cs', k1, k2⟩ := Option.bind_eq_some_iff.1 key
      obtain ⟨t, vi, vr, vb, rfl, ht⟩ := IH cs' _ k2 (weightsAll_mem h2 _ (List.mem_map.2 ⟨_, List.getElem_mem _, rfl⟩))
      exact ⟨t, vi, vr, vb, (cells_get k1).2, ht⟩
    obtain ⟨b, o, sp⟩ := a
    obtain rfl : sp = none := by
      obtain ⟨t, vi, vr, vb, k, _⟩ := hcell 0 (by omega)
      have := World.cell?_spot (k 0 (by omega))
      simpa [Addr.add] using this
    obtain ⟨l, hl1, hl2⟩ := list_choose (p := fun i t => ∃ b' o' vi vr vb, some (⟨b, o, none⟩ : Addr) = some (⟨b', o', none⟩ : Addr) ∧ b' < W.heap.size ∧
      (W.cell? ⟨b', o' + i * 6, none⟩ = some (.int .i64 (Tm.kind t)) ∧ W.cell? ⟨b', o' + i * 6 + 1, none⟩ = some (.int .i64 t.n) ∧ W.cell? ⟨b', o' + i * 6 + 2, none⟩ = some (.string t.name) ∧
      W.cell? ⟨b', o' + i * 6 + 3, none⟩ = some vi ∧ W.cell? ⟨b', o' + i * 6 + 4, none⟩ = some vr ∧ W.cell? ⟨b', o' + i * 6 + 5, none⟩ = some vb) ∧ TmD W (fun b => b < W.heap.size) n (t.val vi vr vb) t) (fun i hi => by
        obtain ⟨t, vi, vr, vb, kc, ht⟩ := hcell i hi
        have kk : ∀ j, j < 6 → W.cell? ⟨b, o + i * 6 + j, none⟩ = [Value.int .i64 t.kind, .int .i64 t.n, .string t.name, vi, vr, vb][j]? := fun j hj => by
          have := kc j hj
          rwa [add_plain, add_plain] at this
        exact ⟨t, b, o, vi, vr, vb, rfl, lt_cell (kk 0 (by omega)), ⟨kk 0 (by omega), kk 1 (by omega), kk 2 (by omega), kk 3 (by omega), kk 4 (by omega), kk 5 (by omega)⟩, ht⟩)
    exact ⟨l, by omega, some ⟨b, o, none⟩, cap, by rw [hl1], by omega, hm, hl2⟩

set_option maxRecDepth 100000 in
theorem term_open : ∀ (fuel : Nat) (cs : List Value) (x : DataW H × List MemPlace), DataW.trod enc Tryd.prog W 0 (fun _ => true) true fuel 46 cs = some x → (x.1.weights Tryd.prog 46).all (· ≤ reachBytes) = true →
      ∃ (t : Tm) (vi vr vb : Value), cs = [.int .i64 t.kind, .int .i64 t.n, .string t.name, vi, vr, vb] ∧ TmD W (fun b => b < W.heap.size) fuel (t.val vi vr vb) t := by
  intro fuel
  induction fuel using Nat.strongRecOn with
  | ind fuel IH =>
    intro cs x h hw
    obtain ⟨xs, n, rfl, rfl, hcl, hxl, hf⟩ := DataW.trod_struct Tryd.underlying46 h
    rw [Tryd.cellsTerm] at hcl
    match cs, hcl with
    | [c0, c1, c2, c3, c4, c5], _ =>
      match xs, hxl with
      | [y0, y1, y2, y3, y4, y5], _ =>
        have f0 := hf 0 _ rfl
        have f1 := hf 1 _ rfl
        have f2 := hf 2 _ rfl
        have f3 := hf 3 _ rfl
        have f4 := hf 4 _ rfl
        have f5 := hf 5 _ rfl
        simp only [Tryd.cellsInt, Tryd.cellsI64, Tryd.cellsStr, Tryd.cellsTerms, Tryd.cellsBytes, List.drop_succ_cons, List.drop_zero, List.take_succ_cons, List.take_zero, List.getElem?_cons_zero, List.getElem?_cons_succ] at f0 f1 f2 f3 f4 f5
        simp only [DataW.weights, Tryd.underlying46, List.map_cons, List.map_nil, DataW.weightsEach, List.all_append, Bool.and_eq_true] at hw
        obtain ⟨_, _, w2, w3, w4, w5, _⟩ := hw
        obtain ⟨k, e0, _, wk⟩ := DataW.trod_int Tryd.underlying3 f0
        obtain ⟨z, e1, _, wz⟩ := DataW.trod_int Tryd.underlying2 f1
        obtain ⟨s, e2, hs, _⟩ := DataW.trod_string Tryd.underlying9 f2
        cases e0; cases e1; cases e2
        subst hs
        have hs : s.size ≤ 140737488355328 := by
          have w2 := of_decide_eq_true (List.all_eq_true.1 w2 s.data.toList.length (by simp [DataW.weights]))
          have h1 : s.data.toList.length = s.size := by rw [Array.length_toList]; rfl
          unfold reachBytes at w2
          omega
        cases n with
        | zero => simp [DataW.trod] at f3
        | succ m =>
          obtain ⟨is, hi⟩ := row_open (fun cs x => IH m (by omega) cs x) f3 w3
          obtain ⟨rs, hr⟩ := row_open (fun cs x => IH m (by omega) cs x) f4 w4
          obtain ⟨bs, hb⟩ := bytes_open f5 w5
          have hk := wf_i64 wk
          have hz := wf_i64 wz
          exact ⟨.mk k z s is rs bs, c3, c4, c5, rfl, c3, c4, c5, rfl, ⟨hk.1, hk.2, hz.1, hz.2⟩, hs, hi.mono (fun _ h => h) (fun _ _ _ _ h => h) fun _ _ h => h.deep (by omega), hr.mono (fun _ h => h) (fun _ _ _ _ h => h) fun _ _ h => h.deep (by omega), hb⟩
end
end Go.Proofs.YtgmieehheoknbaaDoor
end
section
/-
  Terms and modules that came in: read, with their sizes held against the reading's bulk.
-/
namespace Go.Tx
open Go Go.RowKit
mutual
/-- how many parts and letters a term has -/
def tmSize : Tm → Nat
  | .mk _ _ s is rs bs => 1 + s.size + bs.size + tmsSize is + tmsSize rs
def tmsSize : List Tm → Nat
  | [] => 0
  | t :: l => tmSize t + tmsSize l
end
theorem tmsSize_mem : ∀ {l : List Tm} {t : Tm}, t ∈ l → tmSize t ≤ tmsSize l
  | u :: l, t, h => by
    rcases List.mem_cons.1 h with rfl | h
    · simp only [tmsSize]; omega
    · have := tmsSize_mem h; simp only [tmsSize]; omega
theorem tmSize_pos (t : Tm) : 1 ≤ tmSize t := by
  cases t
  simp only [tmSize]
  omega
theorem tmsSize_len : ∀ (l : List Tm), l.length ≤ tmsSize l
  | [] => Nat.zero_le _
  | t :: l => by have := tmSize_pos t; have := tmsSize_len l; simp only [tmsSize, List.length_cons]; omega
end Go.Tx
namespace Go.Proofs.YtgmieehheoknbaaDoor
open Go.ChangeShapes Go.WideShapes Go.ChangeAt Go.RowKit Go.Tx
theorem bulk_one {H : Type} (d : DataW H) : 1 ≤ Rows.uptoBulk d := by
  cases d with
  | lit l => cases l <;> simp [Rows.uptoBulk]
  | nil => simp [Rows.uptoBulk]
  | ptr d => simp [Rows.uptoBulk]
  | slice elems spare => simp [Rows.uptoBulk]
  | agg parts => simp [Rows.uptoBulk]
  | iface t d => simp [Rows.uptoBulk]
  | map entries => simp [Rows.uptoBulk]
  | held h => simp [Rows.uptoBulk]
theorem bulk_part {H : Type} {d : DataW H} {l : List (DataW H)} (h : d ∈ l) : Rows.uptoBulk d ≤ Rows.uptoBulkAll l := by
  induction l with
  | nil => cases h
  | cons x r ih =>
    simp only [Rows.uptoBulkAll]
    cases List.mem_cons.1 h with
    | inl e => subst e; omega
    | inr e => have := ih e; omega
theorem bulk_len {H : Type} (l : List (DataW H)) : l.length ≤ Rows.uptoBulkAll l := by
  induction l with
  | nil => simp [Rows.uptoBulkAll]
  | cons x r ih => have := bulk_one x; simp only [Rows.uptoBulkAll, List.length_cons]; omega
theorem tms_le {H : Type} : ∀ {l : List Tm} {e : List (DataW H)}, l.length ≤ e.length → (∀ (i : Nat) (t : Tm) (d : DataW H), l[i]? = some t → e[i]? = some d → tmSize t ≤ Rows.uptoBulk d) → tmsSize l ≤ Rows.uptoBulkAll e
  | [], _, _, _ => by simp [tmsSize]
  | t :: l, [], h, _ => by simp at h
  | t :: l, d :: e, h, hp => by
    have h0 := hp 0 t d rfl rfl
    have h1 := tms_le (l := l) (e := e) (by simpa using h) fun i t d ht hd => hp (i + 1) t d (by simpa using ht) (by simpa using hd)
    simp only [tmsSize, Rows.uptoBulkAll]
    omega
section
variable {H : Type} {enc : TypeId × Value → H} {W : World}
theorem bytes_open3 {fuel : Nat} {v : Value} {y : DataW H × List MemPlace} (h : DataW.trod enc Tryd.prog W 0 (fun _ => true) true fuel 26 [v] = some y) (hw : (y.1.weights Tryd.prog 26).all (· ≤ reachBytes) = true) :
    ∃ s, BytesD W (fun b => b < W.heap.size) v s ∧ s.size + 1 ≤ Rows.uptoBulk y.1 := by
  obtain ⟨s, hs⟩ := bytes_open h hw
  refine ⟨s, hs, ?_⟩
  obtain ⟨_, a', cap', e, _⟩ := hs
  rcases open_ints Tryd.underlying26 Tryd.underlying5 Tryd.cellsByte h with ⟨hc, hy⟩ | ⟨a, len, cap, zs, hc, _, hl, hm, hz, hx, hcell, hwz⟩
  · cases hc
    simp only [Value.slice.injEq] at e
    rw [← e.2.1, hy]
    simp [Rows.uptoBulk]
  · cases hc
    have e2 : len = s.size := by simp only [Value.slice.injEq] at e; exact e.2.1
    simp only [if_true] at hz
    obtain ⟨d, p⟩ := y
    simp only [Prod.mk.injEq] at hx
    obtain ⟨rfl, rfl⟩ := hx
    simp only [Rows.uptoBulk]
    have h1 := bulk_len (lits (H := H) .u8 (zs.take len))
    simp only [lits, List.length_map, List.length_take] at h1
    unfold lits
    omega

set_option maxRecDepth 100000 in
theorem row_open3 {n : Nat} (IH : ∀ cs x, DataW.trod enc Tryd.prog W 0 (fun _ => true) true n 46 cs = some x → (x.1.weights Tryd.prog 46).all (· ≤ reachBytes) = true →
      ∃ (t : Tm) (vi vr vb : Value), cs = [.int .i64 t.kind, .int .i64 t.n, .string t.name, vi, vr, vb] ∧ TmD W (fun b => b < W.heap.size) n (t.val vi vr vb) t ∧ tmSize t ≤ Rows.uptoBulk x.1)
    {v : Value} {y : DataW H × List MemPlace} (h : DataW.trod enc Tryd.prog W 0 (fun _ => true) true (n + 1) 22 [v] = some y) (hw : (y.1.weights Tryd.prog 22).all (· ≤ reachBytes) = true) :
    ∃ l, RowD W (fun b => b < W.heap.size) (TmD W (fun b => b < W.heap.size) n) v l ∧ tmsSize l + 1 ≤ Rows.uptoBulk y.1 := by
  rcases DataW.trod_slice Tryd.underlying22 h with ⟨hc, hy⟩ | ⟨a, len, cap, elems, rest, m, hf, hc, hx, _, hl, hm, hlen, hel, _, _⟩
  · cases hc
    subst hy
    exact ⟨[], ⟨by simp, none, 0, rfl, Nat.le_refl _, Nat.zero_le _, fun i t h => by simp at h⟩, by simp [tmsSize, Rows.uptoBulk]⟩
  · cases hc
    obtain rfl : n = m := by omega
    obtain ⟨d, p⟩ := y
    simp only [Prod.mk.injEq] at hx
    obtain ⟨rfl, rfl⟩ := hx
    simp only [DataW.weights, Tryd.underlying22, Tryd.bytesTerm, List.all_cons, List.all_append, Bool.and_eq_true, decide_eq_true_eq, List.length_map] at hw
    obtain ⟨h1, h2, _⟩ := hw
    have hlen2 : len ≤ 140737488355328 := by unfold reachBytes at h1; omega
    rw [Tryd.cellsTerm] at hel
    by_cases h0 : len = 0
    · subst h0
      exact ⟨[], ⟨by simp, some a, cap, rfl, Nat.zero_le _, hm, fun i t h => by simp at h⟩, by simp [tmsSize, Rows.uptoBulk]⟩
    have hcell : ∀ i, i < len → ∃ (t : Tm) (vi vr vb : Value), (∀ j, j < 6 → W.cell? ((a.add (i * 6)).add j) = [Value.int .i64 t.kind, .int .i64 t.n, .string t.name, vi, vr, vb][j]?) ∧ (TmD W (fun b => b < W.heap.size) n (t.val vi vr vb) t ∧ ∀ x, elems[i]? = some x → tmSize t ≤ Rows.uptoBulk x.1) := fun i hi => by
      have key := hel i hi
      rw [List.getElem?_eq_getElem (by omega)] at key
      obtain ⟨cs', k1, k2⟩ := Option.bind_eq_some_iff.1 key
      obtain ⟨t, vi, vr, vb, rfl, ht⟩ := IH cs' _ k2 (weightsAll_mem h2 _ (List.mem_map.2 ⟨_, List.getElem_mem _, rfl⟩))
      refine ⟨t, vi, vr, vb, (cells_get k1).2, ht.1, fun x hx => ?_⟩
      rw [List.getElem?_eq_getElem (by omega)] at hx
      obtain rfl := Option.some.inj hx
      exact ht.2
    obtain ⟨b, o, sp⟩ := a
    obtain rfl : sp = none := by
      obtain ⟨t, vi, vr, vb, k, _⟩ := hcell 0 (by omega)
      have := World.cell?_spot (k 0 (by omega))
      simpa [Addr.add] using this
    obtain ⟨l, hl1, hl2⟩ := list_choose (p := fun i t => ∃ b' o' vi vr vb, some (⟨b, o, none⟩ : Addr) = some (⟨b', o', none⟩ : Addr) ∧ b' < W.heap.size ∧
      (W.cell? ⟨b', o' + i * 6, none⟩ = some (.int .i64 (Tm.kind t)) ∧ W.cell? ⟨b', o' + i * 6 + 1, none⟩ = some (.int .i64 t.n) ∧ W.cell? ⟨b', o' + i * 6 + 2, none⟩ = some (.string t.name) ∧
      W.cell? ⟨b', o' + i * 6 + 3, none⟩ = some vi ∧ W.cell? ⟨b', o' + i * 6 + 4, none⟩ = some vr ∧ W.cell? ⟨b', o' + i * 6 + 5, none⟩ = some vb) ∧ TmD W (fun b => b < W.heap.size) n (t.val vi vr vb) t ∧ ∀ x, elems[i]? = some x → tmSize t ≤ Rows.uptoBulk x.1) (fun i hi => by
        obtain ⟨t, vi, vr, vb, kc, ht⟩ := hcell i hi
        have kk : ∀ j, j < 6 → W.cell? ⟨b, o + i * 6 + j, none⟩ = [Value.int .i64 t.kind, .int .i64 t.n, .string t.name, vi, vr, vb][j]? := fun j hj => by
          have := kc j hj
          rwa [add_plain, add_plain] at this
        exact ⟨t, b, o, vi, vr, vb, rfl, lt_cell (kk 0 (by omega)), ⟨kk 0 (by omega), kk 1 (by omega), kk 2 (by omega), kk 3 (by omega), kk 4 (by omega), kk 5 (by omega)⟩, ht⟩)
    refine ⟨l, ⟨by omega, some ⟨b, o, none⟩, cap, by rw [hl1], by omega, hm, fun i t ht => ?_⟩, ?_⟩
    · obtain ⟨b', o', vi, vr, vb, e, h1, h2, h3, _⟩ := hl2 i t ht
      exact ⟨b', o', vi, vr, vb, e, h1, h2, h3⟩
    · have hsum := tms_le (l := l) (e := elems.map (·.1)) (by rw [List.length_map, hl1]; omega) fun i t d ht hd => by
        obtain ⟨_, _, _, _, _, _, _, _, _, h⟩ := hl2 i t ht
        rw [List.getElem?_map, Option.map_eq_some_iff] at hd
        obtain ⟨x, hx, rfl⟩ := hd
        exact h x hx
      simp only [Rows.uptoBulk]
      omega

set_option maxRecDepth 100000 in
theorem term_open3 : ∀ (fuel : Nat) (cs : List Value) (x : DataW H × List MemPlace), DataW.trod enc Tryd.prog W 0 (fun _ => true) true fuel 46 cs = some x → (x.1.weights Tryd.prog 46).all (· ≤ reachBytes) = true →
      ∃ (t : Tm) (vi vr vb : Value), cs = [.int .i64 t.kind, .int .i64 t.n, .string t.name, vi, vr, vb] ∧ TmD W (fun b => b < W.heap.size) fuel (t.val vi vr vb) t ∧ tmSize t ≤ Rows.uptoBulk x.1 := by
  intro fuel
  induction fuel using Nat.strongRecOn with
  | ind fuel IH =>
    intro cs x h hw
    obtain ⟨xs, n, rfl, rfl, hcl, hxl, hf⟩ := DataW.trod_struct Tryd.underlying46 h
    rw [Tryd.cellsTerm] at hcl
    match cs, hcl with
    | [c0, c1, c2, c3, c4, c5], _ =>
      match xs, hxl with
      | [y0, y1, y2, y3, y4, y5], _ =>
        have f0 := hf 0 _ rfl
        have f1 := hf 1 _ rfl
        have f2 := hf 2 _ rfl
        have f3 := hf 3 _ rfl
        have f4 := hf 4 _ rfl
        have f5 := hf 5 _ rfl
        simp only [Tryd.cellsInt, Tryd.cellsI64, Tryd.cellsStr, Tryd.cellsTerms, Tryd.cellsBytes, List.drop_succ_cons, List.drop_zero, List.take_succ_cons, List.take_zero, List.getElem?_cons_zero, List.getElem?_cons_succ] at f0 f1 f2 f3 f4 f5
        simp only [DataW.weights, Tryd.underlying46, List.map_cons, List.map_nil, DataW.weightsEach, List.all_append, Bool.and_eq_true] at hw
        obtain ⟨_, _, w2, w3, w4, w5, _⟩ := hw
        obtain ⟨k, e0, _, wk⟩ := DataW.trod_int Tryd.underlying3 f0
        obtain ⟨z, e1, _, wz⟩ := DataW.trod_int Tryd.underlying2 f1
        obtain ⟨s, e2, hs, _⟩ := DataW.trod_string Tryd.underlying9 f2
        cases e0; cases e1; cases e2
        subst hs
        have hs : s.size ≤ 140737488355328 := by
          have w2 := of_decide_eq_true (List.all_eq_true.1 w2 s.data.toList.length (by simp [DataW.weights]))
          have h1 : s.data.toList.length = s.size := by rw [Array.length_toList]; rfl
          unfold reachBytes at w2
          omega
        cases n with
        | zero => simp [DataW.trod] at f3
        | succ m =>
          obtain ⟨is, hi, hi1⟩ := row_open3 (fun cs x => IH m (by omega) cs x) f3 w3
          obtain ⟨rs, hr, hr1⟩ := row_open3 (fun cs x => IH m (by omega) cs x) f4 w4
          obtain ⟨bs, hb, hb1⟩ := bytes_open3 f5 w5
          have hk := wf_i64 wk
          have hz := wf_i64 wz
          exact ⟨.mk k z s is rs bs, c3, c4, c5, rfl, ⟨c3, c4, c5, rfl, ⟨hk.1, hk.2, hz.1, hz.2⟩, hs, hi.mono (fun _ h => h) (fun _ _ _ _ h => h) fun _ _ h => h.deep (by omega), hr.mono (fun _ h => h) (fun _ _ _ _ h => h) fun _ _ h => h.deep (by omega), hb⟩, by
            have hsz : s.data.toList.length = s.size := by rw [Array.length_toList]; rfl
            simp only [tmSize, List.map_cons, List.map_nil, Rows.uptoBulk, Rows.uptoBulkAll, hsz]
            omega⟩
end
end Go.Proofs.YtgmieehheoknbaaDoor
namespace Go.Tx
open Go Go.RowKit
def fnSize (f : Fnc) : Nat := 1 + f.name.size + f.code.length
def fnsSize : List Fnc → Nat
  | [] => 0
  | f :: l => fnSize f + fnsSize l
theorem fnsSize_mem : ∀ {l : List Fnc} {f : Fnc}, f ∈ l → fnSize f ≤ fnsSize l
  | u :: l, t, h => by
    rcases List.mem_cons.1 h with rfl | h
    · simp only [fnsSize]; omega
    · have := fnsSize_mem h; simp only [fnsSize]; omega
theorem fnsSize_len : ∀ (l : List Fnc), l.length ≤ fnsSize l
  | [] => Nat.zero_le _
  | t :: l => by have := fnsSize_len l; simp only [fnsSize, fnSize, List.length_cons]; omega
theorem slim_of_size : ∀ {t : Tm}, tmSize t ≤ 1048576 → ∀ d, Slim d t := by
  intro t h d
  induction d generalizing t with
  | zero => exact True.intro
  | succ d ih =>
    obtain ⟨k, n, s, is, rs, bs⟩ := t
    simp only [tmSize] at h
    have h1 := tmsSize_len is
    have h2 := tmsSize_len rs
    refine ⟨by simp only [Tm.items]; omega, by simp only [Tm.rest]; omega, fun x hx => ih ?_, fun x hx => ih ?_⟩
    · have := tmsSize_mem hx; simp only [Tm.items] at this; omega
    · have := tmsSize_mem hx; simp only [Tm.rest] at this; omega
/-- so many bytes at the most: a term's -/
theorem encTs_size : ∀ {l : List Tm}, (∀ t ∈ l, (encT t).length ≤ 32 * tmSize t) → (encTs l).length ≤ 32 * tmsSize l
  | [], _ => by simp [encTs]
  | t :: l, h => by
    have h1 := h t (List.mem_cons_self ..)
    have h2 := encTs_size (l := l) fun x hx => h x (List.mem_cons_of_mem _ hx)
    simp only [encTs, tmsSize, List.length_append]
    omega
theorem encT_size {w : World} {S : Nat → Prop} : ∀ (d : Nat) {v : Value} {t : Tm}, TmD w S d v t → tmSize t ≤ 1048576 → (encT t).length ≤ 32 * tmSize t
  | 0, _, _, h, _ => h.elim
  | d + 1, v, .mk k n s is rs bs, h, hs => by
    obtain ⟨vi, vr, vb, _, hf, _, hi, hr, _⟩ := h
    simp only [tmSize] at hs ⊢
    have l1 := tmsSize_len is
    have l2 := tmsSize_len rs
    have e1 : ∀ t ∈ is, (encT t).length ≤ 32 * tmSize t := fun t ht => by
      obtain ⟨_, _, _, _, _, _, hel⟩ := hi
      obtain ⟨i, hi2, rfl⟩ := List.getElem_of_mem ht
      obtain ⟨_, _, _, _, _, _, _, _, htm⟩ := hel i _ (List.getElem?_eq_getElem hi2)
      have h3 := tmsSize_mem ht
      exact encT_size d htm (by omega)
    have e2 : ∀ t ∈ rs, (encT t).length ≤ 32 * tmSize t := fun t ht => by
      obtain ⟨_, _, _, _, _, _, hel⟩ := hr
      obtain ⟨i, hi2, rfl⟩ := List.getElem_of_mem ht
      obtain ⟨_, _, _, _, _, _, _, _, htm⟩ := hel i _ (List.getElem?_eq_getElem hi2)
      have h3 := tmsSize_mem ht
      exact encT_size d htm (by omega)
    have h1 := encTs_size e1
    have h2 := encTs_size e2
    have b1 := encS_ten hf.n1 hf.n2
    simp only [Tm.n] at b1
    have b2 := encN_ten (n := s.size) (by omega)
    have b3 := encN_ten (n := bs.size) (by omega)
    have b4 := encN_ten (n := is.length) (by omega)
    have b5 := encN_ten (n := rs.length) (by omega)
    rw [encT, List.length_cons]
    split
    · omega
    split
    · rw [encB_len]; omega
    split
    · rw [encB_len]; omega
    split
    · simp only [List.length_nil]; omega
    simp only [List.length_append]
    split
    · simp only [List.length_append]; omega
    · simp only [List.length_nil]; omega
theorem encI_size {p : Int × Int × Int × Int} (h : insOkI p) : (encI p).length ≤ 31 := by
  obtain ⟨_, h1, h2, h3⟩ := h
  have a := encS_ten h1.1 h1.2
  have b := encS_ten h2.1 h2.2
  have c := encS_ten h3.1 h3.2
  simp only [encI, List.length_cons, List.length_append]
  omega
theorem encIs_size : ∀ {l : List (Int × Int × Int × Int)}, (∀ p ∈ l, insOkI p) → (encIs l).length ≤ 31 * l.length
  | [], _ => by simp [encIs]
  | p :: l, h => by
    have h1 := encI_size (h p (List.mem_cons_self ..))
    have h2 := encIs_size (l := l) fun x hx => h x (List.mem_cons_of_mem _ hx)
    simp only [encIs, List.length_append, List.length_cons]
    omega
theorem encF_size {f : Fnc} (hf : f.fine) (hc : ∀ p ∈ f.code, insOkI p) (hs : fnSize f ≤ 1048576) : (encF f).length ≤ 50 * fnSize f := by
  unfold fnSize at *
  have b1 := encN_ten (n := f.name.size) (by omega)
  have b2 := encN_ten (n := f.args.toNat) (by have := hf.a2; omega)
  have b3 := encN_ten (n := f.slots.toNat) (by have := hf.s2; omega)
  have b4 := encN_ten (n := f.code.length) (by omega)
  have b5 := encIs_size hc
  simp only [encF, encH, List.length_append, encB_len]
  omega
theorem encFs_size : ∀ {l : List Fnc}, (∀ f ∈ l, (encF f).length ≤ 50 * fnSize f) → (encFs l).length ≤ 50 * fnsSize l
  | [], _ => by simp [encFs]
  | t :: l, h => by
    have h1 := h t (List.mem_cons_self ..)
    have h2 := encFs_size (l := l) fun x hx => h x (List.mem_cons_of_mem _ hx)
    simp only [encFs, fnsSize, List.length_append]
    omega
/-- so many bytes at the most: a module's -/
theorem encM_small {w : World} {S : Nat → Prop} {d : Nat} {v : Value} {m : Md} (h : MdD w S d v m) (hs : m.name.size + tmsSize m.lits + fnsSize m.funcs ≤ 1048576) : (encM m).length ≤ 1099511627776 := by
  obtain ⟨vl, vf, _, _, h1, h2⟩ := h
  have l1 := tmsSize_len m.lits
  have l2 := fnsSize_len m.funcs
  have e1 : (encTs m.lits).length ≤ 32 * tmsSize m.lits := encTs_size fun t ht => by
    obtain ⟨_, _, _, _, _, _, hel⟩ := h1
    obtain ⟨i, hi2, rfl⟩ := List.getElem_of_mem ht
    obtain ⟨_, _, _, _, _, _, _, _, htm⟩ := hel i _ (List.getElem?_eq_getElem hi2)
    have := tmsSize_mem ht
    exact encT_size d htm (by omega)
  have e2 : (encFs m.funcs).length ≤ 50 * fnsSize m.funcs := encFs_size fun f hf => by
    obtain ⟨_, _, _, _, _, _, hel⟩ := h2
    obtain ⟨i, hi2, rfl⟩ := List.getElem_of_mem hf
    obtain ⟨hff, _, _, _, _, _, _, hins⟩ := hel i _ (List.getElem?_eq_getElem hi2)
    have := fnsSize_mem hf
    exact encF_size hff hins.ints (by omega)
  have b1 := encN_ten (n := m.name.size) (by omega)
  have b2 := encN_ten (n := m.lits.length) (by omega)
  have b3 := encN_ten (n := m.funcs.length) (by omega)
  have b4 : magic.length = 4 := rfl
  simp only [encM, List.length_append, encB_len]
  omega
theorem encM_size {w : World} {S : Nat → Prop} {d : Nat} {v : Value} {m : Md} (h : MdD w S d v m) (hs : m.name.size + tmsSize m.lits + fnsSize m.funcs ≤ 1048576) : (encM m).length ≤ 70368744170000 := by
  have := encM_small h hs
  omega
end Go.Tx
namespace Go.Proofs.YtgmieehheoknbaaDoor
open Go.ChangeShapes Go.WideShapes Go.ChangeAt Go.RowKit Go.Tx
theorem Tryd.cellsIns : Tryd.prog.cellsOf 48 = 4 := by kernel_rfl
theorem Tryd.cellsFn : Tryd.prog.cellsOf 51 = 4 := by kernel_rfl
theorem Tryd.cellsMd : Tryd.prog.cellsOf 25 = 3 := by kernel_rfl
theorem Tryd.cellsInss : Tryd.prog.cellsOf 49 = 1 := by kernel_rfl
theorem Tryd.cellsFns : Tryd.prog.cellsOf 23 = 1 := by kernel_rfl
theorem fns_le {H : Type} : ∀ {l : List Fnc} {e : List (DataW H)}, l.length ≤ e.length → (∀ (i : Nat) (t : Fnc) (d : DataW H), l[i]? = some t → e[i]? = some d → fnSize t ≤ Rows.uptoBulk d) → fnsSize l ≤ Rows.uptoBulkAll e
  | [], _, _, _ => by simp [fnsSize]
  | t :: l, [], h, _ => by simp at h
  | t :: l, d :: e, h, hp => by
    have h0 := hp 0 t d rfl rfl
    have h1 := fns_le (l := l) (e := e) (by simpa using h) fun i t d ht hd => hp (i + 1) t d (by simpa using ht) (by simpa using hd)
    simp only [fnsSize, Rows.uptoBulkAll]
    omega
section
variable {H : Type} {enc : TypeId × Value → H} {W : World}
set_option maxRecDepth 100000 in
theorem code_open {fuel : Nat} {v : Value} {y : DataW H × List MemPlace} (h : DataW.trod enc Tryd.prog W 0 (fun _ => true) true fuel 49 [v] = some y) (hb : Rows.uptoBulk y.1 ≤ 1048576) :
    ∃ l, InsD W (fun b => b < W.heap.size) v l ∧ l.length + 1 ≤ Rows.uptoBulk y.1 := by
  rcases DataW.trod_slice Tryd.underlying49 h with ⟨hc, hy⟩ | ⟨a, len, cap, elems, rest, m, hf, hc, hx, _, hl, hm, hlen, hel, _, _⟩
  · cases hc
    subst hy
    exact ⟨[], ⟨by simp, none, 0, rfl, Nat.le_refl _, Nat.zero_le _, fun i t h => by simp at h⟩, by simp [Rows.uptoBulk]⟩
  · cases hc
    obtain ⟨d, p⟩ := y
    simp only [Prod.mk.injEq] at hx
    obtain ⟨rfl, rfl⟩ := hx
    have hbl := bulk_len (elems.map (·.1))
    rw [List.length_map] at hbl
    simp only [Rows.uptoBulk] at hb ⊢
    rw [Tryd.cellsIns] at hel
    by_cases h0 : len = 0
    · subst h0
      exact ⟨[], ⟨by simp, some a, cap, rfl, Nat.zero_le _, hm, fun i t h => by simp at h⟩, by simp⟩
    have hcell : ∀ i, i < len → ∃ (q : Int × Int × Int × Int), insOkI q ∧ (∀ j, j < 4 → W.cell? ((a.add (i * 4)).add j) = [Value.int .i64 q.1, .int .i64 q.2.1, .int .i64 q.2.2.1, .int .i64 q.2.2.2][j]?) := fun i hi => by
      have key := hel i hi
      rw [List.getElem?_eq_getElem (by omega)] at key
      obtain ⟨cs', k1, k2⟩ := Option.bind_eq_some_iff.1 key
      obtain ⟨xs, n, _, _, hcl, hxl, hfx⟩ := DataW.trod_struct Tryd.underlying48 k2
      rw [Tryd.cellsIns] at hcl
      match cs', hcl with
      | [c0, c1, c2, c3], _ =>
        match xs, hxl with
        | [y0, y1, y2, y3], _ =>
          have f0 := hfx 0 _ rfl
          have f1 := hfx 1 _ rfl
          have f2 := hfx 2 _ rfl
          have f3 := hfx 3 _ rfl
          simp only [Tryd.cellsInt, List.drop_succ_cons, List.drop_zero, List.take_succ_cons, List.take_zero, List.getElem?_cons_zero, List.getElem?_cons_succ] at f0 f1 f2 f3
          obtain ⟨z0, e0, _, q0⟩ := DataW.trod_int Tryd.underlying3 f0
          obtain ⟨z1, e1, _, q1⟩ := DataW.trod_int Tryd.underlying3 f1
          obtain ⟨z2, e2, _, q2⟩ := DataW.trod_int Tryd.underlying3 f2
          obtain ⟨z3, e3, _, q3⟩ := DataW.trod_int Tryd.underlying3 f3
          cases e0; cases e1; cases e2; cases e3
          exact ⟨(z0, z1, z2, z3), ⟨wf_i64 q0, wf_i64 q1, wf_i64 q2, wf_i64 q3⟩, (cells_get k1).2⟩
    obtain ⟨b, o, sp⟩ := a
    obtain rfl : sp = none := by
      obtain ⟨q, _, k⟩ := hcell 0 (by omega)
      have := World.cell?_spot (k 0 (by omega))
      simpa [Addr.add] using this
    obtain ⟨l, hl1, hl2⟩ := list_choose (p := fun i q => insOkI q ∧ ∃ b' o', some (⟨b, o, none⟩ : Addr) = some (⟨b', o', none⟩ : Addr) ∧ b' < W.heap.size ∧
      (W.cell? ⟨b', o' + i * 4, none⟩ = some (.int .i64 q.1) ∧ W.cell? ⟨b', o' + i * 4 + 1, none⟩ = some (.int .i64 q.2.1) ∧ W.cell? ⟨b', o' + i * 4 + 2, none⟩ = some (.int .i64 q.2.2.1) ∧ W.cell? ⟨b', o' + i * 4 + 3, none⟩ = some (.int .i64 q.2.2.2))) (fun i hi => by
        obtain ⟨q, hq, kc⟩ := hcell i hi
        have kk : ∀ j, j < 4 → W.cell? ⟨b, o + i * 4 + j, none⟩ = [Value.int .i64 q.1, .int .i64 q.2.1, .int .i64 q.2.2.1, .int .i64 q.2.2.2][j]? := fun j hj => by
          have := kc j hj
          rwa [add_plain, add_plain] at this
        exact ⟨q, hq, b, o, rfl, lt_cell (kk 0 (by omega)), kk 0 (by omega), kk 1 (by omega), kk 2 (by omega), kk 3 (by omega)⟩)
    refine ⟨l, ⟨by omega, some ⟨b, o, none⟩, cap, by rw [hl1], by omega, hm, fun i q hq => hl2 i q hq⟩, by omega⟩
set_option maxRecDepth 100000 in
theorem fns_open {fuel : Nat} {v : Value} {y : DataW H × List MemPlace} (h : DataW.trod enc Tryd.prog W 0 (fun _ => true) true fuel 23 [v] = some y) (hb : Rows.uptoBulk y.1 ≤ 1048576) :
    ∃ l, FnsD W (fun b => b < W.heap.size) v l ∧ fnsSize l + 1 ≤ Rows.uptoBulk y.1 := by
  rcases DataW.trod_slice Tryd.underlying23 h with ⟨hc, hy⟩ | ⟨a, len, cap, elems, rest, m, hf, hc, hx, _, hl, hm, hlen, hel, _, _⟩
  · cases hc
    subst hy
    exact ⟨[], ⟨by simp, none, 0, rfl, Nat.le_refl _, Nat.zero_le _, fun i t h => by simp at h⟩, by simp [fnsSize, Rows.uptoBulk]⟩
  · cases hc
    obtain ⟨d, p⟩ := y
    simp only [Prod.mk.injEq] at hx
    obtain ⟨rfl, rfl⟩ := hx
    have hbl := bulk_len (elems.map (·.1))
    rw [List.length_map] at hbl
    simp only [Rows.uptoBulk] at hb ⊢
    rw [Tryd.cellsFn] at hel
    by_cases h0 : len = 0
    · subst h0
      exact ⟨[], ⟨by simp, some a, cap, rfl, Nat.zero_le _, hm, fun i t h => by simp at h⟩, by simp [fnsSize]⟩
    have hcell : ∀ i, i < len → ∃ (q : Fnc) (vc : Value), q.fine ∧ InsD W (fun b => b < W.heap.size) vc q.code ∧ (∀ j, j < 4 → W.cell? ((a.add (i * 4)).add j) = [Value.string q.name, .int .i64 q.args, .int .i64 q.slots, vc][j]?) ∧ ∀ x, elems[i]? = some x → fnSize q ≤ Rows.uptoBulk x.1 := fun i hi => by
      have key := hel i hi
      rw [List.getElem?_eq_getElem (by omega)] at key
      obtain ⟨cs', k1, k2⟩ := Option.bind_eq_some_iff.1 key
      have hbe : Rows.uptoBulk (elems[i]'(by omega)).1 ≤ 1048576 := by
        have := bulk_part (d := (elems[i]'(by omega)).1) (l := elems.map (·.1)) (List.mem_map.2 ⟨_, List.getElem_mem _, rfl⟩)
        omega
      obtain ⟨xs, n, _, hx2, hcl, hxl, hfx⟩ := DataW.trod_struct Tryd.underlying51 k2
      rw [Tryd.cellsFn] at hcl
      match cs', hcl with
      | [c0, c1, c2, c3], _ =>
        match xs, hxl with
        | [y0, y1, y2, y3], _ =>
          have hd : (elems[i]'(by omega)).1 = .agg [y0.1, y1.1, y2.1, y3.1] := by rw [hx2]; rfl
          rw [hd] at hbe
          simp only [Rows.uptoBulk, Rows.uptoBulkAll] at hbe
          have f0 := hfx 0 _ rfl
          have f1 := hfx 1 _ rfl
          have f2 := hfx 2 _ rfl
          have f3 := hfx 3 _ rfl
          simp only [Tryd.cellsInt, Tryd.cellsStr, Tryd.cellsInss, List.drop_succ_cons, List.drop_zero, List.take_succ_cons, List.take_zero, List.getElem?_cons_zero, List.getElem?_cons_succ] at f0 f1 f2 f3
          obtain ⟨s, e0, hs, _⟩ := DataW.trod_string Tryd.underlying9 f0
          obtain ⟨z1, e1, _, q1⟩ := DataW.trod_int Tryd.underlying3 f1
          obtain ⟨z2, e2, _, q2⟩ := DataW.trod_int Tryd.underlying3 f2
          cases e0; cases e1; cases e2
          obtain ⟨cd, hcd, hcs⟩ := code_open f3 (by omega)
          have hsz : s.data.toList.length = s.size := by rw [Array.length_toList]; rfl
          subst hs
          simp only [Rows.uptoBulk, hsz] at hbe
          refine ⟨⟨s, z1, z2, cd⟩, c3, ⟨(wf_i64 q1).1, (wf_i64 q1).2, (wf_i64 q2).1, (wf_i64 q2).2, by simp only; omega⟩, hcd, (cells_get k1).2, fun x hx => ?_⟩
          rw [List.getElem?_eq_getElem (by omega)] at hx
          obtain rfl := Option.some.inj hx
          rw [hd]
          simp only [fnSize, Rows.uptoBulk, Rows.uptoBulkAll, hsz]
          omega
    obtain ⟨b, o, sp⟩ := a
    obtain rfl : sp = none := by
      obtain ⟨q, _, _, _, k, _⟩ := hcell 0 (by omega)
      have := World.cell?_spot (k 0 (by omega))
      simpa [Addr.add] using this
    obtain ⟨l, hl1, hl2⟩ := list_choose (p := fun i (q : Fnc) => (q.fine ∧ ∃ b' o' vc, some (⟨b, o, none⟩ : Addr) = some (⟨b', o', none⟩ : Addr) ∧ b' < W.heap.size ∧
      (W.cell? ⟨b', o' + i * 4, none⟩ = some (.string q.name) ∧ W.cell? ⟨b', o' + i * 4 + 1, none⟩ = some (.int .i64 q.args) ∧ W.cell? ⟨b', o' + i * 4 + 2, none⟩ = some (.int .i64 q.slots) ∧ W.cell? ⟨b', o' + i * 4 + 3, none⟩ = some vc) ∧ InsD W (fun b => b < W.heap.size) vc q.code) ∧
      ∀ x, elems[i]? = some x → fnSize q ≤ Rows.uptoBulk x.1) (fun i hi => by
        obtain ⟨q, vc, hq, hin, kc, hsz⟩ := hcell i hi
        have kk : ∀ j, j < 4 → W.cell? ⟨b, o + i * 4 + j, none⟩ = [Value.string q.name, .int .i64 q.args, .int .i64 q.slots, vc][j]? := fun j hj => by
          have := kc j hj
          rwa [add_plain, add_plain] at this
        exact ⟨q, ⟨hq, b, o, vc, rfl, lt_cell (kk 0 (by omega)), ⟨kk 0 (by omega), kk 1 (by omega), kk 2 (by omega), kk 3 (by omega)⟩, hin⟩, hsz⟩)
    refine ⟨l, ⟨by omega, some ⟨b, o, none⟩, cap, by rw [hl1], by omega, hm, fun i q hq => (hl2 i q hq).1⟩, ?_⟩
    have hsum := fns_le (l := l) (e := elems.map (·.1)) (by rw [List.length_map, hl1]; omega) fun i t d ht hd => by
      rw [List.getElem?_map, Option.map_eq_some_iff] at hd
      obtain ⟨x, hx, rfl⟩ := hd
      exact (hl2 i t ht).2 x hx
    omega
set_option maxRecDepth 100000 in
/-- a module that is an argument -/
theorem module_arg {base : Nat} {v : Value} {d : DataW H} {p : List MemPlace} (hv : Value.okWide Tryd.prog W .any base 25 v) (h : DataW.Trod enc Tryd.prog W 0 (fun _ => true) true 25 v d p)
    (hw : (d.weights Tryd.prog 25).all (· ≤ reachBytes) = true) (hb : Rows.uptoBulk d ≤ 1048576) : ∃ fuel m, MdD W (fun b => b < W.heap.size) fuel v m ∧ m.name.size + tmsSize m.lits + fnsSize m.funcs ≤ 1048576 := by
  obtain ⟨cs, rfl, _⟩ := okWide_struct Tryd.underlying25 hv
  obtain ⟨fuel, hf⟩ := h
  obtain ⟨xs, n, rfl, hx2, hcl, hxl, hfx⟩ := DataW.trod_struct Tryd.underlying25 hf
  rw [Tryd.cellsMd] at hcl
  have hcs : (Value.agg cs).cells.toList = cs.toList := by simp [Value.cells]
  rw [hcs] at hcl hfx
  obtain ⟨cl⟩ := cs
  simp only at hcl hfx ⊢
  match cl, hcl with
  | [c0, c1, c2], _ =>
    match xs, hxl with
    | [y0, y1, y2], _ =>
      have hd : d = .agg [y0.1, y1.1, y2.1] := by have := congrArg Prod.fst hx2; exact this
      subst hd
      simp only [DataW.weights, Tryd.underlying25, List.map_cons, List.map_nil, DataW.weightsEach, List.all_append, Bool.and_eq_true] at hw
      obtain ⟨_, w1, _⟩ := hw
      simp only [Rows.uptoBulk, Rows.uptoBulkAll] at hb
      have f0 := hfx 0 _ rfl
      have f1 := hfx 1 _ rfl
      have f2 := hfx 2 _ rfl
      simp only [Tryd.cellsStr, Tryd.cellsTerms, Tryd.cellsFns, List.drop_succ_cons, List.drop_zero, List.take_succ_cons, List.take_zero, List.getElem?_cons_zero, List.getElem?_cons_succ] at f0 f1 f2
      obtain ⟨s, e0, hs, _⟩ := DataW.trod_string Tryd.underlying9 f0
      cases e0
      have hsz : s.data.toList.length = s.size := by rw [Array.length_toList]; rfl
      subst hs
      simp only [Rows.uptoBulk, hsz] at hb
      cases n with
      | zero => simp [DataW.trod] at f1
      | succ n =>
        obtain ⟨ls, h1, s1⟩ := row_open3 (fun cs x => term_open3 n cs x) f1 w1
        obtain ⟨fs, h2, s2⟩ := fns_open f2 (by omega)
        exact ⟨n, ⟨s, ls, fs⟩, ⟨c1, c2, rfl, by simp only; omega, h1, h2⟩, by simp only; omega⟩
theorem weights_at {P : Program} {ts : List TypeId} {ds : List (DataW H)} (h : (DataW.weightsEach P ts ds).all (· ≤ reachBytes) = true) {j : Nat} {t : TypeId} {d : DataW H} (ht : ts[j]? = some t) (hd : ds[j]? = some d) : (d.weights P t).all (· ≤ reachBytes) = true :=
  List.all_eq_true.2 fun n hn => List.all_eq_true.1 h n (DataW.weights_mem_each ht hd n hn)
end
end Go.Proofs.YtgmieehheoknbaaDoor
end

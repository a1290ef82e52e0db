/-
  Links and monitors in memory; a link's key: what the Go code does.
-/
import Derived.Test.YtkdlhpddcpjpaaaMapo
import Derived.Test.YtkdlhpddcpjpaaaLnM
import Derived.Test.YtkdlhpddcpjpaaaHg
import Derived.Test.YtkdlhpddcpjpaaaPl
namespace Go.Tx
open Go Go.RowKit
def lsKV (l : List (Int × Int)) : List ((Int × Int) × Value) := l.map fun p => (p, .int .i64 1)
def watchV (t : Int × Int) : Value := .agg #[.int .i64 t.1, .int .i64 t.2]
def wsKV (l : List (Int × Int × Int)) : List (Int × Value) := l.map fun t => (t.1, watchV t.2)
def longKey (n : Int) : Value := .int .i64 n
/-- the blocks of S, and those that have come since -/
def ExtN (S : Nat → Prop) (w w' : World) (x : Nat) : Prop := S x ∨ Fresh w w' x

structure NetAt (w : World) (b : Nat) (N : NM) (S : Nat → Prop) (lv wv : Value) : Prop where
  blk : Blk w b 27 [lv, wv, .int .i64 (N.next : Nat)]
  ml : MapO pairV w lv (lsKV N.ls)
  mw : MapO longKey w wv (wsKV N.ws)
  sb : S b
  sl : ∀ m, mapB lv m → S m
  sw : ∀ m, mapB wv m → S m
  ne : ∀ m, mapB lv m → ¬ mapB wv m
  lt : ∀ x, S x → x < w.heap.size
def IsNet (w : World) (b : Nat) (N : NM) (S : Nat → Prop) : Prop := ∃ lv wv, NetAt w b N S lv wv

section
variable {w w' : World} {b : Nat} {N : NM} {S T : Nat → Prop} {lv wv : Value}
theorem Blk.ne_mapO {K : Type} {enc : K → Value} {T : TypeId} {xs : List Value} {v : Value} {kv : List (K × Value)} (h : Blk w b T xs) (r : MapO enc w v kv) {m : Nat} (hm : mapB v m) : b ≠ m := by
  rcases r with ⟨rfl, _⟩ | ⟨m', rfl, r⟩
  · cases hm
  · cases hm; exact h.ne_map r
theorem NetAt.keeps (h : NetAt w b N S lv wv) (k : Keeps T w w') (hs : ∀ x, S x → ¬ T x) : NetAt w' b N S lv wv :=
  ⟨h.blk.keeps k (hs b h.sb), h.ml.keeps k fun m hm => hs m (h.sl m hm), h.mw.keeps k fun m hm => hs m (h.sw m hm), h.sb, h.sl, h.sw, h.ne, fun x hx => Nat.lt_of_lt_of_le (h.lt x hx) k.size⟩
theorem IsNet.keeps (h : IsNet w b N S) (k : Keeps T w w') (hs : ∀ x, S x → ¬ T x) : IsNet w' b N S := by
  obtain ⟨lv, wv, h⟩ := h
  exact ⟨lv, wv, h.keeps k hs⟩
theorem NetAt.wider (h : NetAt w b N S lv wv) (hs : ∀ x, S x → T x) (ht : ∀ x, T x → x < w.heap.size) : NetAt w b N T lv wv :=
  ⟨h.blk, h.ml, h.mw, hs b h.sb, fun m hm => hs m (h.sl m hm), fun m hm => hs m (h.sw m hm), h.ne, ht⟩
theorem IsNet.wider (h : IsNet w b N S) (hs : ∀ x, S x → T x) (ht : ∀ x, T x → x < w.heap.size) : IsNet w b N T := by
  obtain ⟨lv, wv, h⟩ := h
  exact ⟨lv, wv, h.wider hs ht⟩
/-- the map of links turned -/
theorem NetAt.turnL (h : NetAt w b N S lv wv) (k : Keeps (mapB lv) w w') {l : List (Int × Int)} (hm : MapO pairV w' lv (lsKV l)) : NetAt w' b { N with ls := l } S lv wv :=
  ⟨h.blk.keeps k fun hb => h.blk.ne_mapO h.ml hb rfl, hm, h.mw.keeps k fun m h1 h2 => h.ne m h2 h1, h.sb, h.sl, h.sw, h.ne, fun x hx => Nat.lt_of_lt_of_le (h.lt x hx) k.size⟩
/-- the map of monitors turned -/
theorem NetAt.turnW (h : NetAt w b N S lv wv) (k : Keeps (mapB wv) w w') {l : List (Int × Int × Int)} (hm : MapO longKey w' wv (wsKV l)) : NetAt w' b { N with ws := l } S lv wv :=
  ⟨h.blk.keeps k fun hb => h.blk.ne_mapO h.mw hb rfl, h.ml.keeps k fun m h1 h2 => h.ne m h1 h2, hm, h.sb, h.sl, h.sw, h.ne, fun x hx => Nat.lt_of_lt_of_le (h.lt x hx) k.size⟩
theorem MapO.some {K : Type} {enc : K → Value} {m : Nat} {kv : List (K × Value)} (h : MapO enc w (.map (some m)) kv) : MapIs enc w m kv := by
  rcases h with ⟨h, _⟩ | ⟨m', h, hm⟩
  · cases h
  · cases h; exact hm
theorem NetAt.madeL' (h : NetAt w b N S (.map none) wv) {m : Nat} (hk : Keeps (fun x => x = b) w w') (hb : Blk w' b 27 [.map (some m), wv, .int .i64 (N.next : Nat)]) (hm : MapIs pairV w' m []) (h1 : w.heap.size ≤ m) : NetAt w' b N (ExtN S w w') (.map (some m)) wv := by
  have hls : N.ls = [] := by
    rcases h.ml with ⟨_, h2⟩ | ⟨m, h2, _⟩
    · simpa [lsKV] using h2
    · cases h2
  refine ⟨hb, .inr ⟨_, rfl, by rw [hls]; exact hm⟩, h.mw.keeps hk fun m hm e => by subst e; exact h.blk.ne_mapO h.mw hm rfl, .inl h.sb, fun x hx => ?_, fun x hx => .inl (h.sw x hx), fun x hx hw => ?_, fun x hx => ?_⟩
  · cases hx; exact .inr ⟨h1, hm.lt⟩
  · cases hx; have := h.lt _ (h.sw _ hw); omega
  · rcases hx with hx | hx
    · exact Nat.lt_of_lt_of_le (h.lt x hx) hk.size
    · exact hx.2
theorem NetAt.madeW' (h : NetAt w b N S lv (.map none)) {m : Nat} (hk : Keeps (fun x => x = b) w w') (hb : Blk w' b 27 [lv, .map (some m), .int .i64 (N.next : Nat)]) (hm : MapIs longKey w' m []) (h1 : w.heap.size ≤ m) : NetAt w' b N (ExtN S w w') lv (.map (some m)) := by
  have hws : N.ws = [] := by
    rcases h.mw with ⟨_, h2⟩ | ⟨m, h2, _⟩
    · simpa [wsKV] using h2
    · cases h2
  refine ⟨hb, h.ml.keeps hk fun m hm e => by subst e; exact h.blk.ne_mapO h.ml hm rfl, .inr ⟨_, rfl, by rw [hws]; exact hm⟩, .inl h.sb, fun x hx => .inl (h.sl x hx), fun x hx => ?_, fun x hx hw => ?_, fun x hx => ?_⟩
  · cases hx; exact .inr ⟨h1, hm.lt⟩
  · cases hw; have := h.lt _ (h.sl _ hx); omega
  · rcases hx with hx | hx
    · exact Nat.lt_of_lt_of_le (h.lt x hx) hk.size
    · exact hx.2
theorem NetAt.setNext (h : NetAt w b N S lv wv) (n : Nat) : NetAt (w.setCell ⟨b, 2, none⟩ (.int .i64 (n : Nat))) b { N with next := n } S lv wv := by
  have hk : Keeps (fun x => x = b) w (w.setCell ⟨b, 2, none⟩ (.int .i64 (n : Nat))) := Keeps.setCell (p := ⟨b, 2, none⟩) (Keeps.refl (fun x => x = b) _) (fun _ => rfl) _
  refine ⟨?_, h.ml.keeps hk fun m hm e => by subst e; exact h.blk.ne_mapO h.ml hm rfl, h.mw.keeps hk fun m hm e => by subst e; exact h.blk.ne_mapO h.mw hm rfl, h.sb, h.sl, h.sw, h.ne, fun x hx => Nat.lt_of_lt_of_le (h.lt x hx) hk.size⟩
  have := h.blk.set 2 (.int .i64 (n : Nat))
  simpa using this
theorem net_new (w : World) : IsNet (w.alloc (.cells #[.map none, .map none, .int .i64 0] 27)) w.heap.size NM.new (Fresh w (w.alloc (.cells #[.map none, .map none, .int .i64 0] 27))) :=
  ⟨.map none, .map none, Blk.new w _ _, .inl ⟨rfl, rfl⟩, .inl ⟨rfl, rfl⟩, ⟨Nat.le_refl _, by simp⟩, (fun m h => by cases h), (fun m h => by cases h), (fun m h => by cases h), fun x hx => hx.2⟩
end

theorem kvGet_ls (l : List (Int × Int)) (p : Int × Int) : kvGet (lsKV l) p = if p ∈ l then some (.int .i64 1) else none := by
  unfold kvGet lsKV
  induction l with
  | nil => simp
  | cons q l ih =>
    simp only [List.map_cons, List.find?_cons, List.mem_cons]
    by_cases h : q = p
    · simp [h]
    · have h' : ¬ p = q := fun e => h e.symm
      simp only [h, h', decide_false, false_or]
      exact ih
theorem kvPut_ls {l : List (Int × Int)} {p : Int × Int} (h : p ∉ l) : kvPut (lsKV l) p (.int .i64 1) = lsKV (l ++ [p]) := by
  have : p ∉ (lsKV l).map (·.1) := by simpa [lsKV] using h
  unfold kvPut
  rw [if_neg this]
  simp [lsKV]
theorem kvDel_ls (l : List (Int × Int)) (p : Int × Int) : kvDel (lsKV l) p = lsKV (l.filter fun q => decide (q ≠ p)) := by
  simp [kvDel, lsKV, List.filter_map, Function.comp_def]
theorem kvGet_ws (l : List (Int × Int × Int)) (r : Int) : kvGet (wsKV l) r = ((l.find? fun t => decide (t.1 = r)).map (·.2)).map watchV := by
  unfold kvGet wsKV
  induction l with
  | nil => simp
  | cons q l ih =>
    simp only [List.map_cons, List.find?_cons]
    by_cases h : q.1 = r
    · simp [h]
    · simp only [h, decide_false]
      exact ih
theorem kvPut_ws {l : List (Int × Int × Int)} {r : Int} {t : Int × Int} (h : ∀ q ∈ l, q.1 ≠ r) : kvPut (wsKV l) r (watchV t) = wsKV (l ++ [(r, t)]) := by
  have : r ∉ (wsKV l).map (·.1) := by
    intro hm
    obtain ⟨q, hq, e⟩ := List.mem_map.1 hm
    obtain ⟨q', hq', rfl⟩ := List.mem_map.1 hq
    exact h q' hq' e
  unfold kvPut
  rw [if_neg this]
  simp [wsKV]
theorem kvDel_ws (l : List (Int × Int × Int)) (r : Int) : kvDel (wsKV l) r = wsKV (l.filter fun t => decide (t.1 ≠ r)) := by
  simp [kvDel, wsKV, List.filter_map, Function.comp_def]

section
variable {P : Program} {ops : Array Oper} {Q : Exit → Act → World → Prop} {H : World → Prop} {hl : List Nat}
/-- an operation that is held, by its run in every world of H -/
theorem wpH_held {k : Nat} {o : Oper} {l : List Oper} {a : Act} {w : World} (hg : o.guard = none) (v : Value) (hr : ∀ w, H w → (execOp a.eval o).run P w = .ok (.value v) w) (hH : H w)
    (h : wpListH H hl P ops Q l (k + 1) (a.put o.dst v) w) : wpListH H hl P ops Q (o :: l) k a w := by
  have hw : Region.wanted o (yielded ops a.tmps) = true := by simp [Region.wanted, hg]
  refine ⟨?_, fun _ => ⟨v, fun w hHw => .inl ⟨hw, hr w hHw⟩⟩⟩
  rw [if_pos hw]
  unfold Oper.wp
  rw [hr w hH]
  exact ⟨hH, h⟩
/-- a load of an array of two numbers that is held -/
theorem wpH_load2 {k : Nat} {o : Oper} {l : List Oper} {a : Act} {w : World} (hg : o.guard = none) (t E : TypeId) (x : Operand) (ho : o.op = .load t x) (ht : P.underlying t = some (.array 2 E)) (hc2 : P.cellsOf t = 2) (i : TypeInfo) (hi : P.info? t = some i) (b : Nat) (u v : Value) (hx : a.eval x = .pointer (some ⟨b, 0, none⟩))
    (hc : ∀ w, H w → w.cell? ⟨b, 0, none⟩ = some u ∧ w.cell? ⟨b, 1, none⟩ = some v) (hH : H w)
    (h : wpListH H hl P ops Q l (k + 1) (a.put o.dst (.agg #[u, v])) w) : wpListH H hl P ops Q (o :: l) k a w := by
  refine wpH_held hg _ (fun w hHw => ?_) hH h
  have hag : (isAgg t).run P w = .ok true w := by
    unfold isAgg
    rw [Sem.run_bind, run_underlying ht]
    rfl
  unfold execOp
  simp only [ho, Instr.loadAt, Sem.run_bind, hx, Instr.sureAddr, Sem.run_pure, Result.andThen_ok, loadVar, hag]
  simp [run_sizeOf w hi, hc2, loadCells, loadCellsFrom, (hc w hHw).1, (hc w hHw).2, Addr.add]
end
end Go.Tx
namespace Go.Proofs.Ytkdlhpddcpjpaaa
open Go.RowKit Go.Tx
theorem cells_pair : Try.prog.cellsOf 2 = 1 := by kernel_rfl
theorem cells_two : Try.prog.cellsOf 47 = 2 := by kernel_rfl
theorem keyPair : KeyL Try.prog 47 pairV := by
  obtain ⟨i, hi⟩ := info_of_underlying Try.underlying2
  exact keyL_pair Try.underlying47 Try.underlying2 hi cells_pair
theorem keyLong : KeyL Try.prog 2 longKey := keyL_int Try.underlying2
set_option maxHeartbeats 400000 in
theorem key_any (a b : Int) (w : World) : Calls Try.prog 17 #[.int .i64 a, .int .i64 b] w fun e w' => e = .returned (pairV (pairK a b)) ∧ Keeps (fun _ => False) w w' := by
  go_enter Try.func17, Try.ntmps17
  go_wp2
  · have e : pairK a b = (b, a) := by unfold pairK; rw [if_neg (by omega)]
    refine bodyPost_ret (v := .agg #[.int .i64 b, .int .i64 a]) (by simp [results, Try.results17, go_sem]) rfl ⟨by rw [e]; rfl, (Keeps.refl _ _).alloc _⟩
  · have e : pairK a b = (a, b) := by unfold pairK; rw [if_pos (by omega)]
    refine bodyPost_ret (v := .agg #[.int .i64 a, .int .i64 b]) (by simp [results, Try.results17, go_sem]) rfl ⟨by rw [e]; rfl, (Keeps.refl _ _).alloc _⟩
  · obtain rfl : a = b := by omega
    have e : pairK a a = (a, a) := by unfold pairK; rw [if_pos (by omega)]
    refine bodyPost_ret (v := .agg #[.int .i64 a, .int .i64 a]) (by simp [results, Try.results17, go_sem]) rfl ⟨by rw [e]; rfl, (Keeps.refl _ _).alloc _⟩
end Go.Proofs.Ytkdlhpddcpjpaaa

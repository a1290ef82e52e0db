/-
  What a call leaves as it was, said by a set of blocks; a slice that starts at the head of its own block; append, made slices.
-/
import Derived.Test.YtacedeaopgbdhaaRegB
import Derived.WalkKit
namespace Go.Tx
open Go Go.RowKit

/-- Nothing but the blocks of S (and new ones) has turned. -/
structure Keeps (S : Nat → Prop) (w w' : World) : Prop where
  os : w'.os = w.os
  tape : w'.tape = w.tape
  output : w'.output = w.output
  size : w.heap.size ≤ w'.heap.size
  block : ∀ k, k < w.heap.size → ¬ S k → w'.heap[k]? = w.heap[k]?

section
variable {S T : Nat → Prop} {w w' w'' : World}

theorem Keeps.refl (S : Nat → Prop) (w : World) : Keeps S w w := ⟨rfl, rfl, rfl, Nat.le_refl _, fun _ _ _ => rfl⟩
theorem Keeps.trans (h : Keeps S w w') (k : Keeps T w' w'') (ht : ∀ b, b < w.heap.size → T b → S b) : Keeps S w w'' :=
  ⟨k.os.trans h.os, k.tape.trans h.tape, k.output.trans h.output, Nat.le_trans h.size k.size,
    fun b hb hs => (k.block b (Nat.lt_of_lt_of_le hb h.size) fun hT => hs (ht b hb hT)).trans (h.block b hb hs)⟩
theorem Keeps.mono (h : Keeps S w w') (hs : ∀ b, b < w.heap.size → S b → T b) : Keeps T w w' :=
  ⟨h.os, h.tape, h.output, h.size, fun b hb ht => h.block b hb fun hS => ht (hs b hb hS)⟩
theorem Keeps.drew (h : Keeps S w w') : Keeps S w w'.drew := ⟨h.os, h.tape, h.output, h.size, h.block⟩
theorem Keeps.of_drew (h : Keeps S w.drew w') : Keeps S w w' := ⟨h.os, h.tape, h.output, h.size, h.block⟩
theorem Keeps.alloc (h : Keeps S w w') (o : Obj) : Keeps S w (w'.alloc o) :=
  h.trans (T := fun _ => False) ⟨rfl, rfl, rfl, by simp, fun k hk _ => Below.heap_alloc _ _ _ hk⟩ (fun _ _ h => h.elim)
theorem Keeps.setCell (h : Keeps S w w') {p : Addr} (hp : p.block < w.heap.size → S p.block) (u : Value) : Keeps S w (w'.setCell p u) :=
  h.trans (T := fun b => b = p.block) ⟨rfl, rfl, rfl, by simp [World.setCell], fun k _ hk => Below.heap_setCell _ _ _ _ hk⟩ (fun b hb e => by subst e; exact hp hb)
theorem Keeps.cell (h : Keeps S w w') {p : Addr} {v : Value} (hc : w.cell? p = some v) (hs : ¬ S p.block) : w'.cell? p = some v :=
  (World.cell?_of_block (h.block p.block (World.block_lt_of_cell? w p hc) hs)).trans hc
theorem Keeps.frozen (h : Keeps S w w') {p : Addr} (hp : p.block < w.heap.size) (hs : ¬ S p.block) : w'.frozen? p = w.frozen? p := World.frozen?_of_block (w := w) (h.block p.block hp hs)
theorem Keeps.below {B : Nat} (h : Keeps S w w') (hB : B ≤ w.heap.size) (hs : ∀ b, b < w.heap.size → S b → B ≤ b) : Below B w w' :=
  ⟨h.os, h.tape, h.output, h.size, fun k hk => h.block k (by omega) fun hS => by have := hs k (by omega) hS; omega⟩
end

/-- the blocks that have come in between -/
def Fresh (w w' : World) (b : Nat) : Prop := w.heap.size ≤ b ∧ b < w'.heap.size

/-! ## Rows: a slice that starts at the head of its own block -/

abbrev Row (w : World) (e : TypeId) (size : Nat) (v : Value) (n : Nat) (xs : List Value) : Prop := w.ownsRow 0 e size v n xs

section
variable {w w' : World} {S : Nat → Prop} {e : TypeId} {size : Nat} {v : Value} {n : Nat} {xs : List Value}

theorem Row.keeps (h : Row w e size v n xs) (k : Keeps S w w') (hs : ∀ g, v.ownBlock = some g → ¬ S g) : Row w' e size v n xs := by
  refine ⟨h.1, ?_⟩
  rcases h.2 with hn | ⟨g, cap, cur, rfl, hb, hgg, rest⟩
  · exact .inl hn
  · refine .inr ⟨g, cap, cur, rfl, hb, ?_, rest⟩
    rw [k.block g (Array.getElem?_eq_some_iff.1 hgg).1 (hs g rfl)]
    exact hgg
theorem Row.lt (h : Row w e size v n xs) {g : Nat} (hg : v.ownBlock = some g) : g < w.heap.size := (World.ownsRow.lt h g hg).2
theorem Row.form (h : Row w e size v n xs) (hn : 0 < n) : ∃ g cap, v = .slice (some ⟨g, 0, none⟩) n cap ∧ n ≤ cap ∧ cap ≤ maxLen := by
  rcases h.2 with ⟨_, h0⟩ | ⟨g, cap, cur, rfl, _, _, h1, h2, _⟩
  · omega
  · exact ⟨g, cap, rfl, h1, h2⟩
theorem Row.len (h : Row w e size v n xs) : ∃ a cap, v = .slice a n cap ∧ n ≤ cap ∧ cap ≤ maxLen := by
  rcases h.2 with ⟨rfl, rfl⟩ | ⟨g, cap, cur, rfl, _, _, h1, h2, _⟩
  · exact ⟨none, 0, rfl, Nat.le_refl _, by simp [maxLen]⟩
  · exact ⟨_, cap, rfl, h1, h2⟩
/-- the first k elements -/
theorem Row.cut {g cap : Nat} (h : Row w e size (.slice (some ⟨g, 0, none⟩) n cap) n xs) {k : Nat} (hk : k ≤ n) : Row w e size (.slice (some ⟨g, 0, none⟩) k cap) k (xs.take (k * size)) := by
  refine ⟨?_, ?_⟩
  · rw [List.length_take, h.1]; exact Nat.min_eq_left (Nat.mul_le_mul_right _ hk)
  · rcases h.2 with ⟨h0, _⟩ | ⟨g', cap', cur, hv, hb, hgg, h1, h2, h3, h4⟩
    · cases h0
    · cases hv
      refine .inr ⟨_, _, cur, rfl, hb, hgg, by omega, h2, h3, ?_⟩
      rw [← h4, List.take_take, Nat.min_eq_left (Nat.mul_le_mul_right _ hk)]
end

section
variable {P : Program} (w : World)

theorem size_zero1 (z : Array Value) (n : Nat) : (Builtin.zeroCells z n).size = n * z.size := by simp [Builtin.zeroCells]

/-- the blocks of a value: at most one -/
def Own (v : Value) (b : Nat) : Prop := v.ownBlock = some b

theorem keeps_setRow {w : World} {g : Nat} {cs : Array Value} : Keeps (fun b => b = g) w (w.setRow g cs) :=
  ⟨rfl, rfl, rfl, by simp, fun k _ hk => setRow_other w g k _ hk⟩

/-- 'append(s, x...)' onto a row: what stands behind it -/
structure Appended (w w' : World) (e : TypeId) (size : Nat) (v v' : Value) (n : Nat) (xs : List Value) : Prop where
  row : Row w' e size v' n xs
  keeps : Keeps (Own v) w w'
  own : v'.ownBlock = v.ownBlock ∨ (v'.ownBlock = some w.heap.size ∧ w'.heap.size = w.heap.size + 1)
  notNil : 0 < n → v'.ownBlock ≠ none

theorem run_append_row (t t2 ty e : TypeId) (d2 : TypeDesc) (i : TypeInfo) (z : Value) (ht : P.underlying t = some (.slice e)) (ht2 : P.underlying t2 = some d2) (hd2 : ∀ k, d2 ≠ .int k)
    (hi : P.info? e = some i) (hz : i.zero = some z) (hzs : z.cells.size = i.size)
    (v : Value) (n : Nat) (xs : List Value) (hrow : Row w e i.size v n xs)
    (x : Value) (m : Nat) (news : List Value) (hl : news.length = m * i.size) (hlen : ∀ W, (Builtin.lenOf x).run P W = .ok m W) (hfc : ∀ W : World, W.heap = w.heap → (Builtin.firstCells i.size m x).run P W = .ok news.toArray W)
    (h1 : ∀ u ∈ news, u.oneCell' = true) (h63 : n + m ≤ maxLen) (hbytes : (n + m) * i.bytes ≤ 140737488355328) :
    ∃ v' w', (Builtin.append_ #[t, t2] ty #[v, x]).run P w = .ok v' w' ∧ Appended w w' e i.size v v' (n + m) (xs ++ news) := by
  have hint : ∀ k, d2 ≠ .int k := hd2
  have hm2 : (match d2 with | .int _ => true | _ => false) = false := by cases d2 <;> first | rfl | exact absurd rfl (hd2 _)
  have hlen2 : (xs ++ news).length = (n + m) * i.size := by rw [List.length_append, hrow.1, hl, Nat.add_mul]
  have hsmall : ¬ (((n + m : Nat) : Int) > IntKind.i64.max) := by
    have : IntKind.i64.max = 9223372036854775807 := by decide
    rw [this]; unfold maxLen at h63; omega
  -- the grown block
  have grown : ∀ old : Nat, old < n + m →
      Appended w (w.drew.alloc (.cells (xs.toArray ++ news.toArray ++ Builtin.zeroCells z.cells (grownCap w (n + m) old e - (n + m))) e)) e i.size v
        (.slice (some ⟨w.heap.size, 0, none⟩) (n + m) (grownCap w (n + m) old e)) (n + m) (xs ++ news) := by
    intro old ho
    have hge := grownCap_ge w (n + m) old e
    have hcm : grownCap w (n + m) old e ≤ maxLen := grownCap_le_maxLen w (n + m) old e h63
    refine ⟨⟨hlen2, .inr ⟨w.heap.size, _, _, rfl, Nat.zero_le _, heap_alloc_new w.drew _, hge, hcm, ?_, ?_⟩⟩, (Keeps.drew (Keeps.refl _ _)).alloc _, .inr ⟨rfl, by simp⟩, fun _ => by simp [Value.ownBlock]⟩
    · simp only [Array.size_append, List.size_toArray, size_zero1, hzs, hrow.1, hl, ← Nat.add_mul]
      congr 1
      omega
    · simp only [Array.toList_append, List.append_assoc]
      rw [← List.append_assoc, ← hlen2]
      exact List.take_left
  have hw0 := hfc w rfl
  rcases hrow.2 with ⟨rfl, rfl⟩ | ⟨g, cap, cur, rfl, _, hg, hnc, hcm, hcs, htake⟩
  · have hx : xs = [] := List.eq_nil_of_length_eq_zero (by simpa using hrow.1)
    subst hx
    by_cases hm : m = 0
    · subst hm
      have hn : news = [] := List.eq_nil_of_length_eq_zero (by simpa using hl)
      subst hn
      refine ⟨.slice none 0 0, w, ?_, World.ownsRow_nil w 0 e i.size, Keeps.refl _ _, .inl rfl, fun h => absurd h (by simp)⟩
      simp [Builtin.append_, run_underlying ht, run_underlying ht2, sizeOf, typeInfo, hi, hlen, hw0]
    · have hgr := grown 0 (by omega)
      have hfit := growslice_fits (need := 0 + m) (old := 0) (bytes := i.bytes) (by omega) hbytes
      have hfd := hfc w.drew rfl
      simp only [Nat.zero_add, List.nil_append, Array.empty_append] at hgr hfit hsmall ⊢
      refine ⟨_, _, ?_, hgr⟩
      have hnil : ∀ W, (Builtin.firstCells i.size 0 (.slice none 0 0)).run P W = .ok #[] W := fun W => by simp [Builtin.firstCells]
      have hno : ¬ (281474976710656 < Builtin.nextslicecap m 0 * i.bytes) := by omega
      have hnm : ¬ m ≤ 0 := by omega
      have hs2 : ¬ ((9223372036854775807 : Int) < (m : Int)) := by unfold maxLen at h63; omega
      simp [Builtin.append_, run_underlying ht, run_underlying ht2, sizeOf, typeInfo, hi, hlen, hs2, hno, Question.forced, grownCap, hfd, hnil, zeroValue, hz, newRow, hm]
  · by_cases hroom : n + m ≤ cap
    · have hfit : n * i.size + news.length ≤ cur.size := by rw [hl, hcs, ← Nat.add_mul]; exact Nat.mul_le_mul_right _ hroom
      have hst := run_storeCells_at P g (n * i.size) e news 0 cur w hg (by simpa using hfit) h1
      simp only [Nat.add_zero] at hst
      refine ⟨.slice (some ⟨g, 0, none⟩) (n + m) cap, w.setRow g (cur.toList.take (n * i.size) ++ news ++ cur.toList.drop (n * i.size + news.length)).toArray, ?_, ⟨hlen2, .inr ⟨g, cap, _, rfl, Nat.zero_le _, setRow_heap w g cur _ e _ hg, hroom, hcm, ?_, ?_⟩⟩, ?_, .inl rfl, fun _ => by simp [Value.ownBlock]⟩
      · simp [Builtin.append_, run_underlying ht, run_underlying ht2, sizeOf, typeInfo, hi, hlen, hroom, hw0, Addr.add_lit, hst]
      · simp only [List.size_toArray, List.length_append, List.length_take, List.length_drop, Array.length_toList]
        omega
      · rw [htake, ← hlen2]
        exact List.take_left
      · exact keeps_setRow.mono fun b _ hb => by subst hb; rfl
    · have hold : (Builtin.firstCells i.size n (.slice (some ⟨g, 0, none⟩) n cap)).run P w.drew = .ok xs.toArray w.drew :=
        run_firstCells_some (P := P) w.drew i.size n ⟨g, 0, none⟩ n cap xs hrow.1 (hrow.cells (g := g) rfl)
      have hgr := grown cap (by omega)
      have hfit := growslice_fits (need := n + m) (old := cap) (bytes := i.bytes) (by omega) hbytes
      have hfd := hfc w.drew rfl
      refine ⟨_, _, ?_, hgr⟩
      have hno : ¬ (281474976710656 < Builtin.nextslicecap (n + m) cap * i.bytes) := by omega
      have hs2 : ¬ ((9223372036854775807 : Int) < (n : Int) + (m : Int)) := by unfold maxLen at h63; omega
      simp [Builtin.append_, run_underlying ht, run_underlying ht2, sizeOf, typeInfo, hi, hlen, hroom, hs2, hno, Question.forced, grownCap, hfd, hold, zeroValue, hz, newRow]
      rw [← Array.append_assoc]; simp

/-- THE WALK's LAW for 'append' onto a row, whatever is appended. -/
theorem wpList_append_row {ops : Array Oper} {rest : List Oper} {o : Oper} {a : Act} {Q : Exit → Act → World → Prop} (hgd : o.guard = none) (s x : Operand) (t t2 : TypeId)
    (ho : o.op = .call { callee := .builtin .append, args := #[s, x], argTypes := #[t, t2] })
    (e : TypeId) (d2 : TypeDesc) (size bytes : Nat) (z : Value) (hinfo : (P.info? e).map (fun i => (i.zero, i.size, i.bytes)) = some (some z, size, bytes))
    (ht : P.underlying t = some (.slice e)) (ht2 : P.underlying t2 = some d2) (hd2 : ∀ k, d2 ≠ .int k) (hzs : z.cells.size = size)
    (v : Value) (n : Nat) (xs : List Value) (hs : a.eval s = v) (hrow : Row w e size v n xs)
    (xv : Value) (m : Nat) (news : List Value) (hx : a.eval x = xv) (hl : news.length = m * size) (hlen : ∀ W, (Builtin.lenOf xv).run P W = .ok m W)
    (hfc : ∀ W : World, W.heap = w.heap → (Builtin.firstCells size m xv).run P W = .ok news.toArray W)
    (h1 : ∀ u ∈ news, u.oneCell' = true) (h63 : n + m ≤ maxLen) (hbytes : (n + m) * bytes ≤ 140737488355328)
    (h : ∀ v' w', Appended w w' e size v v' (n + m) (xs ++ news) → wpList P ops Q rest (a.put o.dst v') w') : wpList P ops Q (o :: rest) a w := by
  obtain ⟨i, hi, hz, rfl, rfl⟩ := info_parts hinfo
  obtain ⟨v', w', hr, happ⟩ := run_append_row (P := P) w t t2 o.type e d2 i z ht ht2 hd2 hi hz hzs v n xs hrow xv m news hl hlen hfc h1 h63 hbytes
  refine wpList_plain hgd fun K hK => ?_
  unfold Oper.wp execOp
  simp only [ho, resolve, invoke, builtin, Sem.run_bind, Sem.run_pure, Result.andThen_ok, List.map_toArray, List.map_cons, List.map_nil, hs, hx, hr]
  exact hK _ _ (h v' w' happ)

theorem lenOf_slice (ad : Option Addr) (m c : Nat) (W : World) : (Builtin.lenOf (.slice ad m c)).run P W = .ok m W := rfl
theorem lenOf_string (b : ByteArray) (W : World) : (Builtin.lenOf (.string b)).run P W = .ok b.size W := rfl
theorem firstCells_at {size m c : Nat} {ad : Addr} {news : List Value} (hl : news.length = m * size) (hn : ∀ j u, news[j]? = some u → w.cell? (ad.add j) = some u) (W : World) (hW : W.heap = w.heap) :
    (Builtin.firstCells size m (.slice (some ad) m c)).run P W = .ok news.toArray W :=
  run_firstCells_some (P := P) W size m ad m c news hl fun j u hu => by
    rw [World.cell?_of_block (w := w) (w' := W) (by rw [hW])]; exact hn j u hu
theorem firstCells_nil (size m n c : Nat) (W : World) : (Builtin.firstCells size m (.slice none n c)).run P W = .ok #[] W := by simp [Builtin.firstCells]
theorem firstCells_string (b : ByteArray) (W : World) : (Builtin.firstCells 1 b.size (.string b)).run P W = .ok (b.data.toList.map fun c => Value.int .u8 c.toNat).toArray W := by
  simp only [Builtin.firstCells, Sem.run_pure]
  congr 1
  have : b.extract 0 b.size = b := by simp
  rw [this]
  apply Array.toList_inj.1
  simp

/-- one cell, in the block that has just been made -/
theorem one_new {w0 : World} {u : Value} {e : TypeId} : ∀ j v, [u][j]? = some v → (w0.alloc (.cells #[u] e)).cell? ((⟨w0.heap.size, 0, none⟩ : Addr).add j) = some v := by
  intro j v hv
  cases j with
  | zero => simp at hv; subst hv; simp [Addr.add]
  | succ j => simp at hv

theorem zeroCells_one (z : Value) (m : Nat) : Builtin.zeroCells #[z] m = (List.replicate m z).toArray := by
  simp only [Builtin.zeroCells]
  apply Array.toList_inj.1
  simp
  apply List.ext_getElem
  · simp
  · intro j h1 h2
    simp [Nat.mod_one]

/-- 'append(s, make([]T, m)...)' onto a row of elements of one cell -/
theorem run_append_zeros (t t2 ty e : TypeId) (k2 k3 : IntKind) (i : TypeInfo) (z : Value) (ht : P.underlying t = some (.slice e)) (ht2 : P.underlying t2 = some (.int k2))
    (hi : P.info? e = some i) (hz : i.zero = some z) (hzs : z.cells = #[z]) (hsz : i.size = 1) (h1z : z.oneCell' = true)
    (v : Value) (n : Nat) (xs : List Value) (hrow : Row w e 1 v n xs)
    (m : Nat) (hm0 : 0 < m) (h63 : n + m ≤ maxLen) (hbytes : (n + m) * i.bytes ≤ 140737488355328) :
    ∃ v' w', (Builtin.append_ #[t, t2] ty #[v, .int k3 m]).run P w = .ok v' w' ∧ Appended w w' e 1 v v' (n + m) (xs ++ List.replicate m z) := by
  have hm63 : m ≤ 9223372036854775807 := by unfold maxLen at h63; omega
  have hwrap : IntKind.i64.wrap (m : Int) = (m : Int) := by
    simp only [IntKind.wrap, IntKind.bits, IntKind.signed]
    have : (m : Int) % 2 ^ 64 = m := by omega
    simp only [this]
    split <;> rename_i hh
    · simp at hh; omega
    · rfl
  have hlen2 : (xs ++ List.replicate m z).length = (n + m) * 1 := by rw [List.length_append, hrow.1]; simp
  have hmul : (m : Int) * (i.bytes : Int) = ((m * i.bytes : Nat) : Int) := by simp
  have hmb : m * i.bytes ≤ 140737488355328 := Nat.le_trans (Nat.mul_le_mul_right _ (by omega)) hbytes
  have hbig : ¬ ((281474976710656 : Int) < (m : Int) * (i.bytes : Int)) := by rw [hmul]; omega
  have grown : ∀ old : Nat, old < n + m →
      Appended w (w.drew.alloc (.cells (xs.toArray ++ (List.replicate m z).toArray ++ Builtin.zeroCells z.cells (grownCap w (n + m) old e - (n + m))) e)) e 1 v
        (.slice (some ⟨w.heap.size, 0, none⟩) (n + m) (grownCap w (n + m) old e)) (n + m) (xs ++ List.replicate m z) := by
    intro old ho
    have hge := grownCap_ge w (n + m) old e
    have hcm : grownCap w (n + m) old e ≤ maxLen := grownCap_le_maxLen w (n + m) old e h63
    refine ⟨⟨hlen2, .inr ⟨w.heap.size, _, _, rfl, Nat.zero_le _, heap_alloc_new w.drew _, hge, hcm, ?_, ?_⟩⟩, (Keeps.drew (Keeps.refl _ _)).alloc _, .inr ⟨rfl, by simp⟩, fun _ => by simp [Value.ownBlock]⟩
    · simp only [Array.size_append, List.size_toArray, size_zero1, hzs, hrow.1, List.length_replicate]
      simp
      omega
    · simp only [Array.toList_append, List.append_assoc]
      rw [← List.append_assoc, ← hlen2]
      exact List.take_left
  have h0m : m ≠ 0 := by omega
  have hneg : ¬ ((m : Int) < 0) := by omega
  rcases hrow.2 with ⟨rfl, rfl⟩ | ⟨g, cap, cur, rfl, _, hg, hnc, hcm, hcs, htake⟩
  · have hx : xs = [] := List.eq_nil_of_length_eq_zero (by simpa using hrow.1)
    subst hx
    have hgr := grown 0 (by omega)
    have hfit := growslice_fits (need := 0 + m) (old := 0) (bytes := i.bytes) (by omega) hbytes
    have hnil : ∀ W, (Builtin.firstCells 1 0 (.slice none 0 0)).run P W = .ok #[] W := fun W => by simp [Builtin.firstCells]
    simp only [Nat.zero_add, List.nil_append, Array.empty_append] at hgr hfit ⊢
    refine ⟨_, _, ?_, hgr⟩
    have hno : ¬ (281474976710656 < Builtin.nextslicecap m 0 * i.bytes) := by omega
    have hnm : ¬ m ≤ 0 := by omega
    have hs2 : ¬ ((9223372036854775807 : Int) < (m : Int)) := by omega
    simp [Builtin.append_, run_underlying ht, run_underlying ht2, sizeOf, typeInfo, hi, hsz, asInt, asIntOf, hwrap, hneg, hbig, hs2, hno, Question.forced, grownCap, hnil, zeroValue, hz, newRow, hzs, zeroCells_one, h0m]
  · by_cases hroom : n + m ≤ cap
    · have hfit : n * 1 + (List.replicate m z).length ≤ cur.size := by rw [hcs]; simp; omega
      have hst := run_storeCells_at P g (n * 1) e (List.replicate m z) 0 cur w hg (by simpa using hfit) (fun u hu => by rw [List.eq_of_mem_replicate hu]; exact h1z)
      simp only [Nat.add_zero, Nat.mul_one] at hst
      refine ⟨.slice (some ⟨g, 0, none⟩) (n + m) cap, w.setRow g (cur.toList.take (n * 1) ++ List.replicate m z ++ cur.toList.drop (n * 1 + (List.replicate m z).length)).toArray, ?_, ⟨hlen2, .inr ⟨g, cap, _, rfl, Nat.zero_le _, setRow_heap w g cur _ e _ hg, hroom, hcm, ?_, ?_⟩⟩, ?_, .inl rfl, fun _ => by simp [Value.ownBlock]⟩
      · simp only [Nat.mul_one] 
        simp [Builtin.append_, run_underlying ht, run_underlying ht2, sizeOf, typeInfo, hi, hsz, asInt, asIntOf, hwrap, hneg, hbig, hroom, zeroValue, hz, hzs, zeroCells_one, h0m, Addr.add_lit]
        simpa using congrArg (fun r => r.andThen fun a w' => Result.ok (Value.slice (some ⟨g, 0, none⟩) (n + m) cap) w') hst
      · simp only [List.size_toArray, List.length_append, List.length_take, List.length_drop, Array.length_toList]
        omega
      · rw [htake, ← hlen2]
        exact List.take_left
      · exact keeps_setRow.mono fun b _ hb => by subst hb; rfl
    · have hold : (Builtin.firstCells 1 n (.slice (some ⟨g, 0, none⟩) n cap)).run P w.drew = .ok xs.toArray w.drew :=
        run_firstCells_some (P := P) w.drew 1 n ⟨g, 0, none⟩ n cap xs hrow.1 (hrow.cells (g := g) rfl)
      have hgr := grown cap (by omega)
      have hfit := growslice_fits (need := n + m) (old := cap) (bytes := i.bytes) (by omega) hbytes
      refine ⟨_, _, ?_, hgr⟩
      have hno : ¬ (281474976710656 < Builtin.nextslicecap (n + m) cap * i.bytes) := by omega
      have hs2 : ¬ ((9223372036854775807 : Int) < (n : Int) + (m : Int)) := by unfold maxLen at h63; omega
      simp [Builtin.append_, run_underlying ht, run_underlying ht2, sizeOf, typeInfo, hi, hsz, asInt, asIntOf, hwrap, hneg, hbig, hroom, hs2, hno, Question.forced, grownCap, hold, zeroValue, hz, newRow, hzs, zeroCells_one, h0m]

theorem wpList_append_zeros {ops : Array Oper} {rest : List Oper} {o : Oper} {a : Act} {Q : Exit → Act → World → Prop} (hgd : o.guard = none) (s x : Operand) (t t2 : TypeId)
    (ho : o.op = .call { callee := .builtin .append, args := #[s, x], argTypes := #[t, t2] })
    (e : TypeId) (k2 k3 : IntKind) (bytes : Nat) (z : Value) (hinfo : (P.info? e).map (fun i => (i.zero, i.size, i.bytes)) = some (some z, 1, bytes))
    (ht : P.underlying t = some (.slice e)) (ht2 : P.underlying t2 = some (.int k2)) (hzs : z.cells = #[z]) (h1z : z.oneCell' = true)
    (v : Value) (n : Nat) (xs : List Value) (hs : a.eval s = v) (hrow : Row w e 1 v n xs)
    (m : Nat) (xi : Int) (hx : a.eval x = .int k3 xi) (hxi : xi = (m : Int)) (hm : 0 < m) (h63 : n + m ≤ maxLen) (hbytes : (n + m) * bytes ≤ 140737488355328)
    (h : ∀ v' w', Appended w w' e 1 v v' (n + m) (xs ++ List.replicate m z) → wpList P ops Q rest (a.put o.dst v') w') : wpList P ops Q (o :: rest) a w := by
  subst hxi
  obtain ⟨i, hi, hz, hsz, rfl⟩ := info_parts hinfo
  obtain ⟨v', w', hr, happ⟩ := run_append_zeros (P := P) w t t2 o.type e k2 k3 i z ht ht2 hi hz hzs hsz h1z v n xs hrow m hm h63 hbytes
  refine wpList_plain hgd fun K hK => ?_
  unfold Oper.wp execOp
  simp only [ho, resolve, invoke, builtin, Sem.run_bind, Sem.run_pure, Result.andThen_ok, List.map_toArray, List.map_cons, List.map_nil, hs, hx, hr]
  exact hK _ _ (h v' w' happ)

/-! ## clear of a part of a row -/

/-- a list with m elements from p on put to z -/
def wiped (xs : List Value) (p m : Nat) (z : Value) : List Value := xs.take p ++ List.replicate m z ++ xs.drop (p + m)
theorem wiped_length (xs : List Value) (p m : Nat) (z : Value) (h : p + m ≤ xs.length) : (wiped xs p m z).length = xs.length := by
  simp [wiped]; omega

theorem wpList_clear_row {ops : Array Oper} {rest : List Oper} {o : Oper} {a : Act} {Q : Exit → Act → World → Prop} (hgd : o.guard = none) (x : Operand) (t : TypeId)
    (ho : o.op = .call { callee := .builtin .clear, args := #[x], argTypes := #[t] })
    (e : TypeId) (bytes : Nat) (z : Value) (hinfo : (P.info? e).map (fun i => (i.zero, i.size, i.bytes)) = some (some z, 1, bytes))
    (ht : P.underlying t = some (.slice e)) (hzs : z.cells = #[z]) (h1z : z.oneCell' = true)
    (g n cap p m c : Nat) (xs : List Value) (hrow : Row w e 1 (.slice (some ⟨g, 0, none⟩) n cap) n xs) (hx : a.eval x = .slice (some ⟨g, p, none⟩) m c) (hm : 0 < m) (hpm : p + m ≤ n)
    (h : ∀ w', Row w' e 1 (.slice (some ⟨g, 0, none⟩) n cap) n (wiped xs p m z) → Keeps (fun b => b = g) w w' → w'.heap.size = w.heap.size → wpList P ops Q rest (a.put o.dst (.tuple #[])) w') : wpList P ops Q (o :: rest) a w := by
  obtain ⟨i, hi, hz, hsz, rfl⟩ := info_parts hinfo
  rcases hrow.2 with ⟨h0, _⟩ | ⟨g', cap', cur, hv, _, hg, hnc, hcm, hcs, htake⟩
  · cases h0
  cases hv
  have hfit : p + (List.replicate m z).length ≤ cur.size := by rw [hcs]; simp; omega
  have hst := run_storeCells_at P g p e (List.replicate m z) 0 cur w hg (by simpa using hfit) (fun u hu => by rw [List.eq_of_mem_replicate hu]; exact h1z)
  simp only [Nat.add_zero] at hst
  have hlen : xs.length = n := by simpa using hrow.1
  have hrow' : Row (w.setRow g (cur.toList.take p ++ List.replicate m z ++ cur.toList.drop (p + (List.replicate m z).length)).toArray) e 1 (.slice (some ⟨g, 0, none⟩) n cap) n (wiped xs p m z) := by
    refine ⟨by rw [wiped_length _ _ _ _ (by omega)]; exact hrow.1, .inr ⟨g, cap, _, rfl, Nat.zero_le _, setRow_heap w g cur _ e _ hg, hnc, hcm, ?_, ?_⟩⟩
    · simp only [List.size_toArray, List.length_append, List.length_take, List.length_drop, Array.length_toList]
      omega
    · rw [← htake]
      simp only [wiped, Nat.mul_one, List.length_replicate]
      have hc : cur.toList.length = cap := by simpa using hcs
      apply List.ext_getElem?
      intro j
      simp only [List.getElem?_take, List.getElem?_append, List.length_append, List.length_take, List.length_replicate, List.getElem?_replicate, List.getElem?_drop, hc]
      have e1 : min p cap = p := by omega
      have e2 : min p (min n cap) = p := by omega
      rw [e1, e2]
      by_cases h1 : j < n
      · simp only [h1, if_true]
        by_cases h2 : j < p + m
        · simp only [h2, if_true]
        · simp only [h2, if_false]
          rw [if_pos (by omega)]
      · simp only [h1, if_false]
        rw [if_neg (by omega), if_neg (by omega)]
  refine wpList_plain hgd fun K hK => ?_
  have hr : (Builtin.clear_ #[t] o.type #[.slice (some ⟨g, p, none⟩) m c]).run P w = .ok (.tuple #[]) (w.setRow g (cur.toList.take p ++ List.replicate m z ++ cur.toList.drop (p + (List.replicate m z).length)).toArray) := by
    obtain ⟨m', rfl⟩ : ∃ k, m = k + 1 := ⟨m - 1, by omega⟩
    simp only [Builtin.clear_, List.getElem?_toArray, List.getElem?_cons_zero, Sem.run_bind, run_underlying ht, Result.andThen_ok]
    simp only [zeroValue, typeInfo, Sem.run_bind, run_program, Result.andThen_ok, hi, hz, Sem.run_pure, hzs, zeroCells_one]
    rw [hst]
    rfl
  unfold Oper.wp execOp
  simp only [ho, resolve, invoke, builtin, Sem.run_bind, Sem.run_pure, Result.andThen_ok, List.map_toArray, List.map_cons, List.map_nil, hx, hr]
  exact hK _ _ (h _ hrow' keeps_setRow (by simp))
end
end Go.Tx

import Derived.Test.YtgmieehheoknbaaDoorGa
import Derived.WalkKit
import Derived.Test.YtgmieehheoknbaaDoorRows
import Derived.ProofKit
import Derived.WalkSpells
import Derived.WalkLawsBesides
import Derived.Lib.Hide
section
/-
  What a call leaves as it was, said by a set of blocks; a slice that starts at the head of its own block; append, made slices.
-/
namespace Go.Tx
open Go Go.RowKit

/-- Nothing but the blocks of S (and new ones) has turned. -/
structure Keeps (S : Nat → Prop) (w w' : World) : Prop where
  os : w'.os = w.os
  tape : w'.tape = w.tape
  output : w'.output = w.output
  size : w.heap.size ≤ w'.heap.size
  block : ∀ k, k < w.heap.size → ¬ S k → w'.heap[k]? = w.heap[k]?

section
variable {S T : Nat → Prop} {w w' w'' : World}

theorem Keeps.refl (S : Nat → Prop) (w : World) : Keeps S w w := ⟨rfl, rfl, rfl, Nat.le_refl _, fun _ _ _ => rfl⟩
theorem Keeps.trans (h : Keeps S w w') (k : Keeps T w' w'') (ht : ∀ b, b < w.heap.size → T b → S b) : Keeps S w w'' :=
  ⟨k.os.trans h.os, k.tape.trans h.tape, k.output.trans h.output, Nat.le_trans h.size k.size,
    fun b hb hs => (k.block b (Nat.lt_of_lt_of_le hb h.size) fun hT => hs (ht b hb hT)).trans (h.block b hb hs)⟩
theorem Keeps.mono (h : Keeps S w w') (hs : ∀ b, b < w.heap.size → S b → T b) : Keeps T w w' :=
  ⟨h.os, h.tape, h.output, h.size, fun b hb ht => h.block b hb fun hS => ht (hs b hb hS)⟩
theorem Keeps.drew (h : Keeps S w w') : Keeps S w w'.drew := ⟨h.os, h.tape, h.output, h.size, h.block⟩
theorem Keeps.of_drew (h : Keeps S w.drew w') : Keeps S w w' := ⟨h.os, h.tape, h.output, h.size, h.block⟩
theorem Keeps.alloc (h : Keeps S w w') (o : Obj) : Keeps S w (w'.alloc o) :=
  h.trans (T := fun _ => False) ⟨rfl, rfl, rfl, by simp, fun k hk _ => Below.heap_alloc _ _ _ hk⟩ (fun _ _ h => h.elim)
theorem Keeps.setCell (h : Keeps S w w') {p : Addr} (hp : p.block < w.heap.size → S p.block) (u : Value) : Keeps S w (w'.setCell p u) :=
  h.trans (T := fun b => b = p.block) ⟨rfl, rfl, rfl, by simp [World.setCell], fun k _ hk => Below.heap_setCell _ _ _ _ hk⟩ (fun b hb e => by subst e; exact hp hb)
theorem Keeps.cell (h : Keeps S w w') {p : Addr} {v : Value} (hc : w.cell? p = some v) (hs : ¬ S p.block) : w'.cell? p = some v :=
  (World.cell?_of_block (h.block p.block (World.block_lt_of_cell? w p hc) hs)).trans hc
theorem Keeps.frozen (h : Keeps S w w') {p : Addr} (hp : p.block < w.heap.size) (hs : ¬ S p.block) : w'.frozen? p = w.frozen? p := World.frozen?_of_block (w := w) (h.block p.block hp hs)
theorem Keeps.below {B : Nat} (h : Keeps S w w') (hB : B ≤ w.heap.size) (hs : ∀ b, b < w.heap.size → S b → B ≤ b) : Below B w w' :=
  ⟨h.os, h.tape, h.output, h.size, fun k hk => h.block k (by omega) fun hS => by have := hs k (by omega) hS; omega⟩
end

/-- the blocks that have come in between -/
def Fresh (w w' : World) (b : Nat) : Prop := w.heap.size ≤ b ∧ b < w'.heap.size

/-! ## Rows: a slice that starts at the head of its own block -/

abbrev Row (w : World) (e : TypeId) (size : Nat) (v : Value) (n : Nat) (xs : List Value) : Prop := w.ownsRow 0 e size v n xs

section
variable {w w' : World} {S : Nat → Prop} {e : TypeId} {size : Nat} {v : Value} {n : Nat} {xs : List Value}

theorem Row.keeps (h : Row w e size v n xs) (k : Keeps S w w') (hs : ∀ g, v.ownBlock = some g → ¬ S g) : Row w' e size v n xs := by
  refine ⟨h.1, ?_⟩
  rcases h.2 with hn | ⟨g, cap, cur, rfl, hb, hgg, rest⟩
  · exact .inl hn
  · refine .inr ⟨g, cap, cur, rfl, hb, ?_, rest⟩
    rw [k.block g (Array.getElem?_eq_some_iff.1 hgg).1 (hs g rfl)]
    exact hgg
theorem Row.lt (h : Row w e size v n xs) {g : Nat} (hg : v.ownBlock = some g) : g < w.heap.size := (World.ownsRow.lt h g hg).2
theorem Row.form (h : Row w e size v n xs) (hn : 0 < n) : ∃ g cap, v = .slice (some ⟨g, 0, none⟩) n cap ∧ n ≤ cap ∧ cap ≤ maxLen := by
  rcases h.2 with ⟨_, h0⟩ | ⟨g, cap, cur, rfl, _, _, h1, h2, _⟩
  · omega
  · exact ⟨g, cap, rfl, h1, h2⟩
theorem Row.len (h : Row w e size v n xs) : ∃ a cap, v = .slice a n cap ∧ n ≤ cap ∧ cap ≤ maxLen := by
  rcases h.2 with ⟨rfl, rfl⟩ | ⟨g, cap, cur, rfl, _, _, h1, h2, _⟩
  · exact ⟨none, 0, rfl, Nat.le_refl _, by simp [maxLen]⟩
  · exact ⟨_, cap, rfl, h1, h2⟩
/-- the first k elements -/
theorem Row.cut {g cap : Nat} (h : Row w e size (.slice (some ⟨g, 0, none⟩) n cap) n xs) {k : Nat} (hk : k ≤ n) : Row w e size (.slice (some ⟨g, 0, none⟩) k cap) k (xs.take (k * size)) := by
  refine ⟨?_, ?_⟩
  · rw [List.length_take, h.1]; exact Nat.min_eq_left (Nat.mul_le_mul_right _ hk)
  · rcases h.2 with ⟨h0, _⟩ | ⟨g', cap', cur, hv, hb, hgg, h1, h2, h3, h4⟩
    · cases h0
    · cases hv
      refine .inr ⟨_, _, cur, rfl, hb, hgg, by omega, h2, h3, ?_⟩
      rw [← h4, List.take_take, Nat.min_eq_left (Nat.mul_le_mul_right _ hk)]
end

section
variable {P : Program} (w : World)

theorem size_zero1 (z : Array Value) (n : Nat) : (Builtin.zeroCells z n).size = n * z.size := by simp [Builtin.zeroCells]

/-- the blocks of a value: at most one -/
def Own (v : Value) (b : Nat) : Prop := v.ownBlock = some b

theorem keeps_setRow {w : World} {g : Nat} {cs : Array Value} : Keeps (fun b => b = g) w (w.setRow g cs) :=
  ⟨rfl, rfl, rfl, by simp, fun k _ hk => setRow_other w g k _ hk⟩

/-- 'append(s, x...)' onto a row: what stands behind it -/
structure Appended (w w' : World) (e : TypeId) (size : Nat) (v v' : Value) (n : Nat) (xs : List Value) : Prop where
  row : Row w' e size v' n xs
  keeps : Keeps (Own v) w w'
  own : v'.ownBlock = v.ownBlock ∨ (v'.ownBlock = some w.heap.size ∧ w'.heap.size = w.heap.size + 1)
  notNil : 0 < n → v'.ownBlock ≠ none

theorem run_append_row (t t2 ty e : TypeId) (d2 : TypeDesc) (i : TypeInfo) (z : Value) (ht : P.underlying t = some (.slice e)) (ht2 : P.underlying t2 = some d2) (hd2 : ∀ k, d2 ≠ .int k)
    (hi : P.info? e = some i) (hz : i.zero = some z) (hzs : z.cells.size = i.size)
    (v : Value) (n : Nat) (xs : List Value) (hrow : Row w e i.size v n xs)
    (x : Value) (m : Nat) (news : List Value) (hl : news.length = m * i.size) (hlen : ∀ W, (Builtin.lenOf x).run P W = .ok m W) (hfc : ∀ W : World, W.heap = w.heap → (Builtin.firstCells i.size m x).run P W = .ok news.toArray W)
    (h1 : ∀ u ∈ news, u.oneCell' = true) (h63 : n + m ≤ maxLen) (hbytes : (n + m) * i.bytes ≤ 140737488355328) :
    ∃ v' w', (Builtin.append_ #[t, t2] ty #[v, x]).run P w = .ok v' w' ∧ Appended w w' e i.size v v' (n + m) (xs ++ news) := by
  have hint : ∀ k, d2 ≠ .int k := hd2
  have hm2 : (match d2 with | .int _ => true | _ => false) = false := by cases d2 <;> first | rfl | exact absurd rfl (hd2 _)
  have hlen2 : (xs ++ news).length = (n + m) * i.size := by rw [List.length_append, hrow.1, hl, Nat.add_mul]
  have hsmall : ¬ (((n + m : Nat) : Int) > IntKind.i64.max) := by
    have : IntKind.i64.max = 9223372036854775807 := by decide
    rw [this]; unfold maxLen at h63; omega
  -- the grown block
  have grown : ∀ old : Nat, old < n + m →
      Appended w (w.drew.alloc (.cells (xs.toArray ++ news.toArray ++ Builtin.zeroCells z.cells (grownCap w (n + m) old e - (n + m))) e)) e i.size v
        (.slice (some ⟨w.heap.size, 0, none⟩) (n + m) (grownCap w (n + m) old e)) (n + m) (xs ++ news) := by
    intro old ho
    have hge := grownCap_ge w (n + m) old e
    have hcm : grownCap w (n + m) old e ≤ maxLen := grownCap_le_maxLen w (n + m) old e h63
    refine ⟨⟨hlen2, .inr ⟨w.heap.size, _, _, rfl, Nat.zero_le _, heap_alloc_new w.drew _, hge, hcm, ?_, ?_⟩⟩, (Keeps.drew (Keeps.refl _ _)).alloc _, .inr ⟨rfl, by simp⟩, fun _ => by simp [Value.ownBlock]⟩
    · simp only [Array.size_append, List.size_toArray, size_zero1, hzs, hrow.1, hl, ← Nat.add_mul]
      congr 1
      omega
    · simp only [Array.toList_append, List.append_assoc]
      rw [← List.append_assoc, ← hlen2]
      exact List.take_left
  have hw0 := hfc w rfl
  rcases hrow.2 with ⟨rfl, rfl⟩ | ⟨g, cap, cur, rfl, _, hg, hnc, hcm, hcs, htake⟩
  · have hx : xs = [] := List.eq_nil_of_length_eq_zero (by simpa using hrow.1)
    subst hx
    by_cases hm : m = 0
    · subst hm
      have hn : news = [] := List.eq_nil_of_length_eq_zero (by simpa using hl)
      subst hn
      refine ⟨.slice none 0 0, w, ?_, World.ownsRow_nil w 0 e i.size, Keeps.refl _ _, .inl rfl, fun h => absurd h (by simp)⟩
      simp [Builtin.append_, run_underlying ht, run_underlying ht2, sizeOf, typeInfo, hi, hlen, hw0]
    · have hgr := grown 0 (by omega)
      have hfit := growslice_fits (need := 0 + m) (old := 0) (bytes := i.bytes) (by omega) hbytes
      have hfd := hfc w.drew rfl
      simp only [Nat.zero_add, List.nil_append, Array.empty_append] at hgr hfit hsmall ⊢
      refine ⟨_, _, ?_, hgr⟩
      have hnil : ∀ W, (Builtin.firstCells i.size 0 (.slice none 0 0)).run P W = .ok #[] W := fun W => by simp [Builtin.firstCells]
      have hno : ¬ (281474976710656 < Builtin.nextslicecap m 0 * i.bytes) := by omega
      have hnm : ¬ m ≤ 0 := by omega
      have hs2 : ¬ ((9223372036854775807 : Int) < (m : Int)) := by unfold maxLen at h63; omega
      simp [Builtin.append_, run_underlying ht, run_underlying ht2, sizeOf, typeInfo, hi, hlen, hs2, hno, Question.forced, grownCap, hfd, hnil, zeroValue, hz, newRow, hm]
  · by_cases hroom : n + m ≤ cap
    · have hfit : n * i.size + news.length ≤ cur.size := by rw [hl, hcs, ← Nat.add_mul]; exact Nat.mul_le_mul_right _ hroom
      have hst := run_storeCells_at P g (n * i.size) e news 0 cur w hg (by simpa using hfit) h1
      simp only [Nat.add_zero] at hst
      refine ⟨.slice (some ⟨g, 0, none⟩) (n + m) cap, w.setRow g (cur.toList.take (n * i.size) ++ news ++ cur.toList.drop (n * i.size + news.length)).toArray, ?_, ⟨hlen2, .inr ⟨g, cap, _, rfl, Nat.zero_le _, setRow_heap w g cur _ e _ hg, hroom, hcm, ?_, ?_⟩⟩, ?_, .inl rfl, fun _ => by simp [Value.ownBlock]⟩
      · simp [Builtin.append_, run_underlying ht, run_underlying ht2, sizeOf, typeInfo, hi, hlen, hroom, hw0, Addr.add_lit, hst]
      · simp only [List.size_toArray, List.length_append, List.length_take, List.length_drop, Array.length_toList]
        omega
      · rw [htake, ← hlen2]
        exact List.take_left
      · exact keeps_setRow.mono fun b _ hb => by subst hb; rfl
    · have hold : (Builtin.firstCells i.size n (.slice (some ⟨g, 0, none⟩) n cap)).run P w.drew = .ok xs.toArray w.drew :=
        run_firstCells_some (P := P) w.drew i.size n ⟨g, 0, none⟩ n cap xs hrow.1 (hrow.cells (g := g) rfl)
      have hgr := grown cap (by omega)
      have hfit := growslice_fits (need := n + m) (old := cap) (bytes := i.bytes) (by omega) hbytes
      have hfd := hfc w.drew rfl
      refine ⟨_, _, ?_, hgr⟩
      have hno : ¬ (281474976710656 < Builtin.nextslicecap (n + m) cap * i.bytes) := by omega
      have hs2 : ¬ ((9223372036854775807 : Int) < (n : Int) + (m : Int)) := by unfold maxLen at h63; omega
      simp [Builtin.append_, run_underlying ht, run_underlying ht2, sizeOf, typeInfo, hi, hlen, hroom, hs2, hno, Question.forced, grownCap, hfd, hold, zeroValue, hz, newRow]
      rw [← Array.append_assoc]; simp

/-- THE WALK's LAW for 'append' onto a row, whatever is appended. -/
theorem wpList_append_row {ops : Array Oper} {rest : List Oper} {o : Oper} {a : Act} {Q : Exit → Act → World → Prop} (hgd : o.guard = none) (s x : Operand) (t t2 : TypeId)
    (ho : o.op = .call { callee := .builtin .append, args := #[s, x], argTypes := #[t, t2] })
    (e : TypeId) (d2 : TypeDesc) (size bytes : Nat) (z : Value) (hinfo : (P.info? e).map (fun i => (i.zero, i.size, i.bytes)) = some (some z, size, bytes))
    (ht : P.underlying t = some (.slice e)) (ht2 : P.underlying t2 = some d2) (hd2 : ∀ k, d2 ≠ .int k) (hzs : z.cells.size = size)
    (v : Value) (n : Nat) (xs : List Value) (hs : a.eval s = v) (hrow : Row w e size v n xs)
    (xv : Value) (m : Nat) (news : List Value) (hx : a.eval x = xv) (hl : news.length = m * size) (hlen : ∀ W, (Builtin.lenOf xv).run P W = .ok m W)
    (hfc : ∀ W : World, W.heap = w.heap → (Builtin.firstCells size m xv).run P W = .ok news.toArray W)
    (h1 : ∀ u ∈ news, u.oneCell' = true) (h63 : n + m ≤ maxLen) (hbytes : (n + m) * bytes ≤ 140737488355328)
    (h : ∀ v' w', Appended w w' e size v v' (n + m) (xs ++ news) → wpList P ops Q rest (a.put o.dst v') w') : wpList P ops Q (o :: rest) a w := by
  obtain ⟨i, hi, hz, rfl, rfl⟩ := info_parts hinfo
  obtain ⟨v', w', hr, happ⟩ := run_append_row (P := P) w t t2 o.type e d2 i z ht ht2 hd2 hi hz hzs v n xs hrow xv m news hl hlen hfc h1 h63 hbytes
  refine wpList_plain hgd fun K hK => ?_
  unfold Oper.wp execOp
  simp only [ho, resolve, invoke, builtin, Sem.run_bind, Sem.run_pure, Result.andThen_ok, List.map_toArray, List.map_cons, List.map_nil, hs, hx, hr]
  exact hK _ _ (h v' w' happ)

theorem lenOf_slice (ad : Option Addr) (m c : Nat) (W : World) : (Builtin.lenOf (.slice ad m c)).run P W = .ok m W := rfl
theorem lenOf_string (b : ByteArray) (W : World) : (Builtin.lenOf (.string b)).run P W = .ok b.size W := rfl
theorem firstCells_at {size m c : Nat} {ad : Addr} {news : List Value} (hl : news.length = m * size) (hn : ∀ j u, news[j]? = some u → w.cell? (ad.add j) = some u) (W : World) (hW : W.heap = w.heap) :
    (Builtin.firstCells size m (.slice (some ad) m c)).run P W = .ok news.toArray W :=
  run_firstCells_some (P := P) W size m ad m c news hl fun j u hu => by
    rw [World.cell?_of_block (w := w) (w' := W) (by rw [hW])]; exact hn j u hu
theorem firstCells_nil (size m n c : Nat) (W : World) : (Builtin.firstCells size m (.slice none n c)).run P W = .ok #[] W := by simp [Builtin.firstCells]
theorem firstCells_string (b : ByteArray) (W : World) : (Builtin.firstCells 1 b.size (.string b)).run P W = .ok (b.data.toList.map fun c => Value.int .u8 c.toNat).toArray W := by
  simp only [Builtin.firstCells, Sem.run_pure]
  congr 1
  have : b.extract 0 b.size = b := by simp
  rw [this]
  apply Array.toList_inj.1
  simp

/-- one cell, in the block that has just been made -/
theorem one_new {w0 : World} {u : Value} {e : TypeId} : ∀ j v, [u][j]? = some v → (w0.alloc (.cells #[u] e)).cell? ((⟨w0.heap.size, 0, none⟩ : Addr).add j) = some v := by
  intro j v hv
  cases j with
  | zero => simp at hv; subst hv; simp [Addr.add]
  | succ j => simp at hv

theorem zeroCells_one (z : Value) (m : Nat) : Builtin.zeroCells #[z] m = (List.replicate m z).toArray := by
  simp only [Builtin.zeroCells]
  apply Array.toList_inj.1
  simp
  apply List.ext_getElem
  · simp
  · intro j h1 h2
    simp [Nat.mod_one]

/-- 'append(s, make([]T, m)...)' onto a row of elements of one cell -/
theorem run_append_zeros (t t2 ty e : TypeId) (k2 k3 : IntKind) (i : TypeInfo) (z : Value) (ht : P.underlying t = some (.slice e)) (ht2 : P.underlying t2 = some (.int k2))
    (hi : P.info? e = some i) (hz : i.zero = some z) (hzs : z.cells = #[z]) (hsz : i.size = 1) (h1z : z.oneCell' = true)
    (v : Value) (n : Nat) (xs : List Value) (hrow : Row w e 1 v n xs)
    (m : Nat) (hm0 : 0 < m) (h63 : n + m ≤ maxLen) (hbytes : (n + m) * i.bytes ≤ 140737488355328) :
    ∃ v' w', (Builtin.append_ #[t, t2] ty #[v, .int k3 m]).run P w = .ok v' w' ∧ Appended w w' e 1 v v' (n + m) (xs ++ List.replicate m z) := by
  have hm63 : m ≤ 9223372036854775807 := by unfold maxLen at h63; omega
  have hwrap : IntKind.i64.wrap (m : Int) = (m : Int) := by
    simp only [IntKind.wrap, IntKind.bits, IntKind.signed]
    have : (m : Int) % 2 ^ 64 = m := by omega
    simp only [this]
    split <;> rename_i hh
    · simp at hh; omega
    · rfl
  have hlen2 : (xs ++ List.replicate m z).length = (n + m) * 1 := by rw [List.length_append, hrow.1]; simp
  have hmul : (m : Int) * (i.bytes : Int) = ((m * i.bytes : Nat) : Int) := by simp
  have hmb : m * i.bytes ≤ 140737488355328 := Nat.le_trans (Nat.mul_le_mul_right _ (by omega)) hbytes
  have hbig : ¬ ((281474976710656 : Int) < (m : Int) * (i.bytes : Int)) := by rw [hmul]; omega
  have grown : ∀ old : Nat, old < n + m →
      Appended w (w.drew.alloc (.cells (xs.toArray ++ (List.replicate m z).toArray ++ Builtin.zeroCells z.cells (grownCap w (n + m) old e - (n + m))) e)) e 1 v
        (.slice (some ⟨w.heap.size, 0, none⟩) (n + m) (grownCap w (n + m) old e)) (n + m) (xs ++ List.replicate m z) := by
    intro old ho
    have hge := grownCap_ge w (n + m) old e
    have hcm : grownCap w (n + m) old e ≤ maxLen := grownCap_le_maxLen w (n + m) old e h63
    refine ⟨⟨hlen2, .inr ⟨w.heap.size, _, _, rfl, Nat.zero_le _, heap_alloc_new w.drew _, hge, hcm, ?_, ?_⟩⟩, (Keeps.drew (Keeps.refl _ _)).alloc _, .inr ⟨rfl, by simp⟩, fun _ => by simp [Value.ownBlock]⟩
    · simp only [Array.size_append, List.size_toArray, size_zero1, hzs, hrow.1, List.length_replicate]
      simp
      omega
    · simp only [Array.toList_append, List.append_assoc]
      rw [← List.append_assoc, ← hlen2]
      exact List.take_left
  have h0m : m ≠ 0 := by omega
  have hneg : ¬ ((m : Int) < 0) := by omega
  rcases hrow.2 with ⟨rfl, rfl⟩ | ⟨g, cap, cur, rfl, _, hg, hnc, hcm, hcs, htake⟩
  · have hx : xs = [] := List.eq_nil_of_length_eq_zero (by simpa using hrow.1)
    subst hx
    have hgr := grown 0 (by omega)
    have hfit := growslice_fits (need := 0 + m) (old := 0) (bytes := i.bytes) (by omega) hbytes
    have hnil : ∀ W, (Builtin.firstCells 1 0 (.slice none 0 0)).run P W = .ok #[] W := fun W => by simp [Builtin.firstCells]
    simp only [Nat.zero_add, List.nil_append, Array.empty_append] at hgr hfit ⊢
    refine ⟨_, _, ?_, hgr⟩
    have hno : ¬ (281474976710656 < Builtin.nextslicecap m 0 * i.bytes) := by omega
    have hnm : ¬ m ≤ 0 := by omega
    have hs2 : ¬ ((9223372036854775807 : Int) < (m : Int)) := by omega
    simp [Builtin.append_, run_underlying ht, run_underlying ht2, sizeOf, typeInfo, hi, hsz, asInt, asIntOf, hwrap, hneg, hbig, hs2, hno, Question.forced, grownCap, hnil, zeroValue, hz, newRow, hzs, zeroCells_one, h0m]
  · by_cases hroom : n + m ≤ cap
    · have hfit : n * 1 + (List.replicate m z).length ≤ cur.size := by rw [hcs]; simp; omega
      have hst := run_storeCells_at P g (n * 1) e (List.replicate m z) 0 cur w hg (by simpa using hfit) (fun u hu => by rw [List.eq_of_mem_replicate hu]; exact h1z)
      simp only [Nat.add_zero, Nat.mul_one] at hst
      refine ⟨.slice (some ⟨g, 0, none⟩) (n + m) cap, w.setRow g (cur.toList.take (n * 1) ++ List.replicate m z ++ cur.toList.drop (n * 1 + (List.replicate m z).length)).toArray, ?_, ⟨hlen2, .inr ⟨g, cap, _, rfl, Nat.zero_le _, setRow_heap w g cur _ e _ hg, hroom, hcm, ?_, ?_⟩⟩, ?_, .inl rfl, fun _ => by simp [Value.ownBlock]⟩
      · simp only [Nat.mul_one] 
        simp [Builtin.append_, run_underlying ht, run_underlying ht2, sizeOf, typeInfo, hi, hsz, asInt, asIntOf, hwrap, hneg, hbig, hroom, zeroValue, hz, hzs, zeroCells_one, h0m, Addr.add_lit]
        simpa using congrArg (fun r => r.andThen fun a w' => Result.ok (Value.slice (some ⟨g, 0, none⟩) (n + m) cap) w') hst
      · simp only [List.size_toArray, List.length_append, List.length_take, List.length_drop, Array.length_toList]
        omega
      · rw [htake, ← hlen2]
        exact List.take_left
      · exact keeps_setRow.mono fun b _ hb => by subst hb; rfl
    · have hold : (Builtin.firstCells 1 n (.slice (some ⟨g, 0, none⟩) n cap)).run P w.drew = .ok xs.toArray w.drew :=
        run_firstCells_some (P := P) w.drew 1 n ⟨g, 0, none⟩ n cap xs hrow.1 (hrow.cells (g := g) rfl)
      have hgr := grown cap (by omega)
      have hfit := growslice_fits (need := n + m) (old := cap) (bytes := i.bytes) (by omega) hbytes
      refine ⟨_, _, ?_, hgr⟩
      have hno : ¬ (281474976710656 < Builtin.nextslicecap (n + m) cap * i.bytes) := by omega
      have hs2 : ¬ ((9223372036854775807 : Int) < (n : Int) + (m : Int)) := by unfold maxLen at h63; omega
      simp [Builtin.append_, run_underlying ht, run_underlying ht2, sizeOf, typeInfo, hi, hsz, asInt, asIntOf, hwrap, hneg, hbig, hroom, hs2, hno, Question.forced, grownCap, hold, zeroValue, hz, newRow, hzs, zeroCells_one, h0m]

theorem wpList_append_zeros {ops : Array Oper} {rest : List Oper} {o : Oper} {a : Act} {Q : Exit → Act → World → Prop} (hgd : o.guard = none) (s x : Operand) (t t2 : TypeId)
    (ho : o.op = .call { callee := .builtin .append, args := #[s, x], argTypes := #[t, t2] })
    (e : TypeId) (k2 k3 : IntKind) (bytes : Nat) (z : Value) (hinfo : (P.info? e).map (fun i => (i.zero, i.size, i.bytes)) = some (some z, 1, bytes))
    (ht : P.underlying t = some (.slice e)) (ht2 : P.underlying t2 = some (.int k2)) (hzs : z.cells = #[z]) (h1z : z.oneCell' = true)
    (v : Value) (n : Nat) (xs : List Value) (hs : a.eval s = v) (hrow : Row w e 1 v n xs)
    (m : Nat) (xi : Int) (hx : a.eval x = .int k3 xi) (hxi : xi = (m : Int)) (hm : 0 < m) (h63 : n + m ≤ maxLen) (hbytes : (n + m) * bytes ≤ 140737488355328)
    (h : ∀ v' w', Appended w w' e 1 v v' (n + m) (xs ++ List.replicate m z) → wpList P ops Q rest (a.put o.dst v') w') : wpList P ops Q (o :: rest) a w := by
  subst hxi
  obtain ⟨i, hi, hz, hsz, rfl⟩ := info_parts hinfo
  obtain ⟨v', w', hr, happ⟩ := run_append_zeros (P := P) w t t2 o.type e k2 k3 i z ht ht2 hi hz hzs hsz h1z v n xs hrow m hm h63 hbytes
  refine wpList_plain hgd fun K hK => ?_
  unfold Oper.wp execOp
  simp only [ho, resolve, invoke, builtin, Sem.run_bind, Sem.run_pure, Result.andThen_ok, List.map_toArray, List.map_cons, List.map_nil, hs, hx, hr]
  exact hK _ _ (h v' w' happ)

/-! ## clear of a part of a row -/

/-- a list with m elements from p on put to z -/
def wiped (xs : List Value) (p m : Nat) (z : Value) : List Value := xs.take p ++ List.replicate m z ++ xs.drop (p + m)
theorem wiped_length (xs : List Value) (p m : Nat) (z : Value) (h : p + m ≤ xs.length) : (wiped xs p m z).length = xs.length := by
  simp [wiped]; omega

theorem wpList_clear_row {ops : Array Oper} {rest : List Oper} {o : Oper} {a : Act} {Q : Exit → Act → World → Prop} (hgd : o.guard = none) (x : Operand) (t : TypeId)
    (ho : o.op = .call { callee := .builtin .clear, args := #[x], argTypes := #[t] })
    (e : TypeId) (bytes : Nat) (z : Value) (hinfo : (P.info? e).map (fun i => (i.zero, i.size, i.bytes)) = some (some z, 1, bytes))
    (ht : P.underlying t = some (.slice e)) (hzs : z.cells = #[z]) (h1z : z.oneCell' = true)
    (g n cap p m c : Nat) (xs : List Value) (hrow : Row w e 1 (.slice (some ⟨g, 0, none⟩) n cap) n xs) (hx : a.eval x = .slice (some ⟨g, p, none⟩) m c) (hm : 0 < m) (hpm : p + m ≤ n)
    (h : ∀ w', Row w' e 1 (.slice (some ⟨g, 0, none⟩) n cap) n (wiped xs p m z) → Keeps (fun b => b = g) w w' → w'.heap.size = w.heap.size → wpList P ops Q rest (a.put o.dst (.tuple #[])) w') : wpList P ops Q (o :: rest) a w := by
  obtain ⟨i, hi, hz, hsz, rfl⟩ := info_parts hinfo
  rcases hrow.2 with ⟨h0, _⟩ | ⟨g', cap', cur, hv, _, hg, hnc, hcm, hcs, htake⟩
  · cases h0
  cases hv
  have hfit : p + (List.replicate m z).length ≤ cur.size := by rw [hcs]; simp; omega
  have hst := run_storeCells_at P g p e (List.replicate m z) 0 cur w hg (by simpa using hfit) (fun u hu => by rw [List.eq_of_mem_replicate hu]; exact h1z)
  simp only [Nat.add_zero] at hst
  have hlen : xs.length = n := by simpa using hrow.1
  have hrow' : Row (w.setRow g (cur.toList.take p ++ List.replicate m z ++ cur.toList.drop (p + (List.replicate m z).length)).toArray) e 1 (.slice (some ⟨g, 0, none⟩) n cap) n (wiped xs p m z) := by
    refine ⟨by rw [wiped_length _ _ _ _ (by omega)]; exact hrow.1, .inr ⟨g, cap, _, rfl, Nat.zero_le _, setRow_heap w g cur _ e _ hg, hnc, hcm, ?_, ?_⟩⟩
    · simp only [List.size_toArray, List.length_append, List.length_take, List.length_drop, Array.length_toList]
      omega
    · rw [← htake]
      simp only [wiped, Nat.mul_one, List.length_replicate]
      have hc : cur.toList.length = cap := by simpa using hcs
      apply List.ext_getElem?
      intro j
      simp only [List.getElem?_take, List.getElem?_append, List.length_append, List.length_take, List.length_replicate, List.getElem?_replicate, List.getElem?_drop, hc]
      have e1 : min p cap = p := by omega
      have e2 : min p (min n cap) = p := by omega
      rw [e1, e2]
      by_cases h1 : j < n
      · simp only [h1, if_true]
        by_cases h2 : j < p + m
        · simp only [h2, if_true]
        · simp only [h2, if_false]
          rw [if_pos (by omega)]
      · simp only [h1, if_false]
        rw [if_neg (by omega), if_neg (by omega)]
  refine wpList_plain hgd fun K hK => ?_
  have hr : (Builtin.clear_ #[t] o.type #[.slice (some ⟨g, p, none⟩) m c]).run P w = .ok (.tuple #[]) (w.setRow g (cur.toList.take p ++ List.replicate m z ++ cur.toList.drop (p + (List.replicate m z).length)).toArray) := by
    obtain ⟨m', rfl⟩ : ∃ k, m = k + 1 := ⟨m - 1, by omega⟩
    simp only [Builtin.clear_, List.getElem?_toArray, List.getElem?_cons_zero, Sem.run_bind, run_underlying ht, Result.andThen_ok]
    simp only [zeroValue, typeInfo, Sem.run_bind, run_program, Result.andThen_ok, hi, hz, Sem.run_pure, hzs, zeroCells_one]
    rw [hst]
    rfl
  unfold Oper.wp execOp
  simp only [ho, resolve, invoke, builtin, Sem.run_bind, Sem.run_pure, Result.andThen_ok, List.map_toArray, List.map_cons, List.map_nil, hx, hr]
  exact hK _ _ (h _ hrow' keeps_setRow (by simp))
end
end Go.Tx
end
section
/-
  The rows of laws: a call that answers true and leaves every block that was there as it was does what its row says.
-/
namespace Go.Tx
open Go Go.RowKit Go.ChangeShapes Go.WideShapes Go.ChangeAt
section
variable {H : Type} {enc : TypeId × Value → H} {P : Program} {W W' : World}

theorem below_trodAll (hl : laidOutB P = true) (hb : Below W.heap.size W W') : ∀ {ts : List TypeId} {vs : List Value} {ds : List (DataW H)} {ps : List MemPlace},
    ts.all (fun t => P.readableRec t && decide (t < P.types.size)) = true → (∀ x ∈ ps, x.block < W.heap.size) → DataW.TrodAll enc P W 0 (fun _ => true) true ts vs ds ps → DataW.TrodAll enc P W' 0 (fun b => decide (b < W.heap.size)) true ts vs ds ps
  | [], [], [], _, _, _, h => h
  | t :: ts, v :: vs, d :: ds, ps, hr, hp, h => by
    obtain ⟨p, q, h1, h2, rfl⟩ := h
    simp only [List.all_cons, Bool.and_eq_true, decide_eq_true_eq] at hr
    exact ⟨p, q, Below.trod hl hr.1.1 hr.1.2 h1 hb fun x hx => hp x (List.mem_append_left _ hx), below_trodAll hl hb hr.2 (fun x hx => hp x (List.mem_append_right _ hx)) h2, rfl⟩
  | [], _ :: _, _, _, _, _, h => h.elim
  | [], [], _ :: _, _, _, _, h => h.elim
  | _ :: _, [], _, _, _, _, h => h.elim
  | _ :: _, _ :: _, [], _, _, _, h => h.elim

/-- a law's row, behind a call that answers true and turns nothing that was there -/
theorem law_post {f : Func} {s : ChangeSpec} {apart handsOn : Bool} {args : Array Value} {ds gs : List (DataW H)} {before : List MemPlace} {tb : TypeId} (hl : laidOutB P = true)
    (hr : f.params.toList.all (fun t => P.readableRec t && decide (t < P.types.size)) = true) (hv : s.vars = []) (hrt : f.resultTypes = #[tb]) (hb : P.underlying tb = some .bool)
    (hW : DataW.Whole enc P f.params.toList s.vars apart W args.toList ds gs before) (hk : Keeps (fun _ => False) W W')
    (hargs : ds.length = f.params.size → (s.fn H (ds ++ gs)).args = ds ∧ (s.fn H (ds ++ gs)).results = [.lit (.bool true)] ∧ (s.fn H (ds ++ gs)).vars = []) :
    s.post enc P f apart true handsOn false W args (.bool true) W' := by
  have hbl : Below W.heap.size W W' := hk.below (Nat.le_refl _) fun _ _ h => h.elim
  have hlt := hW.lt
  have hW' := hW
  obtain ⟨p, q, hA, hV, rfl, _, _⟩ := hW
  rw [hv] at hV
  obtain ⟨rfl, rfl⟩ := trodVars_none hV
  have hlen : ds.length = f.params.size := by
    have : ∀ {ts : List TypeId} {vs : List Value} {ds : List (DataW H)} {ps : List MemPlace}, DataW.TrodAll enc P W 0 (fun _ => true) true ts vs ds ps → ds.length = ts.length := by
      intro ts
      induction ts with
      | nil => intro vs ds ps h; cases vs <;> cases ds <;> first | rfl | exact h.elim
      | cons t ts ih => intro vs ds ps h; cases vs <;> cases ds <;> first | exact h.elim | (obtain ⟨_, _, _, h2, _⟩ := h; simp [ih h2])
    simpa using this hA
  obtain ⟨e1, e2, e3⟩ := hargs hlen
  have hres : DataW.TrodAll enc P W' W.heap.size (fun _ => false) handsOn f.resultTypes.toList ((Value.bool true).resultList f.resultTypes.size) [.lit (.bool true)] [] := by
    rw [hrt]
    refine ⟨[], [], ?_, rfl, rfl⟩
    exact ⟨1, by simp [DataW.trod, hb, Value.cells]⟩
  refine ⟨ds, [], p ++ [], [], p, [], hW', ?_, ?_, ?_, ?_, fun h => by cases h⟩
  · rw [e2]; exact hres
  · rw [e1]
    exact below_trodAll hl hbl hr (fun x hx => hlt x (List.mem_append_left _ hx)) hA
  · rw [e3, hv]; rfl
  · refine ⟨hbl.os, hbl.output, fun i hi => ?_⟩
    rw [hbl.block i hi]
    cases hc : W.heap[i]? with
    | none => simp
    | some o => cases o <;> simp
end
end Go.Tx
end
section
/-
  Facts of the loaded program that the rows of the laws use.
-/
namespace Go.Tx
open Go Go.RowKit Go.ChangeShapes Go.WideShapes Go.ChangeAt
theorem wf_i64 {n : Int} (h : (Lit.int .i64 n).wf = true) : -9223372036854775808 ≤ n ∧ n ≤ 9223372036854775807 := by
  simp only [Lit.wf, Bool.and_eq_true, decide_eq_true_eq] at h
  exact h
theorem wf_u64 {n : Int} (h : (Lit.int .u64 n).wf = true) : 0 ≤ n ∧ n < 18446744073709551616 := by
  simp only [Lit.wf, Bool.and_eq_true, decide_eq_true_eq] at h
  have h1 : (0 : Int) ≤ n := h.1
  have h2 : n ≤ 18446744073709551615 := h.2
  omega
/-- a slice of integers as its cells -/
theorem ints_cells {H : Type} {enc : TypeId × Value → H} {P : Program} {W : World} {t e : TypeId} {a0 : Option Addr} {len cap : Nat} {d : DataW H} {p : List MemPlace} (ht : P.underlying t = some (.slice e)) (he : P.underlying e = some (.int .i64)) (hc : P.cellsOf e = 1)
    (h : DataW.Trod enc P W 0 (fun _ => true) true t (.slice a0 len cap) d p) (hp : ∀ x ∈ p, x.block < W.heap.size) :
    ∃ zs : Nat → Int, len ≤ maxLen ∧ ∀ i, i < len → ∃ ad, a0 = some ad ∧ ad.block < W.heap.size ∧ W.cell? (ad.add i) = some (.int .i64 (zs i)) ∧ -9223372036854775808 ≤ zs i ∧ zs i ≤ 9223372036854775807 := by
  obtain ⟨fuel, hf⟩ := h
  rcases open_ints ht he hc hf with ⟨hcs, hx⟩ | ⟨a, len', cap', zs, hcs, _, hl, hm, hz, hx, hcell, hwz⟩
  · simp [Value.cells] at hcs
    obtain ⟨rfl, rfl, rfl⟩ := hcs
    exact ⟨fun _ => 0, Nat.zero_le _, fun i hi => by omega⟩
  · simp [Value.cells] at hcs
    obtain ⟨rfl, rfl, rfl⟩ := hcs
    simp only [Prod.mk.injEq] at hx
    simp only [if_true] at hz
    refine ⟨fun i => zs.getD i 0, Nat.le_trans hl hm, fun i hi => ⟨a, rfl, ?_, hcell i (by omega), ?_⟩⟩
    · have := hp (.cell a.block (a.off + i)) (by rw [hx.2]; exact MemPlace.mem_row.2 ⟨i, by omega, by simp⟩)
      exact this
    · refine wf_i64 (hwz _ ?_)
      show zs.getD i 0 ∈ zs
      rw [List.getD_eq_getElem?_getD, List.getElem?_eq_getElem (by omega)]
      simp
end Go.Tx
namespace Go.Proofs.YtgmieehheoknbaaDoor
open Go.RowKit
theorem Tryd.own : ownKnob Tryd.prog.godebug = none := by kernel_rfl
theorem Tryd.laidOut : laidOutB Tryd.prog = true := by kernel_rfl
theorem Tryd.cellsInt : Tryd.prog.cellsOf 3 = 1 := by kernel_rfl
end Go.Proofs.YtgmieehheoknbaaDoor
end
section
/-
  Maps as lists of keys and values: look-up, store, delete, length, range; keys that are numbers or texts.
-/
namespace Go.Tx
open Go Go.RowKit

section
variable {K : Type} [DecidableEq K]

/-- the place and the value of a key -/
def hit (k : K) : List K → List MapEntry → Nat → Option (Nat × Value)
  | k' :: ks, e :: es, i => if k = k' then some (i, e.val) else hit k ks es (i + 1)
  | _, _, _ => none

structure KeyL (P : Program) (T : TypeId) (enc : K → Value) : Prop where
  chk : ∀ b k w, (Instr.checkKey b 10000 T (enc k)).run P w = .ok () w
  find : ∀ k (es : List MapEntry) (ks : List K), es.map (·.key) = ks.map enc → ∀ w, (Instr.findKey T (enc k) es).run P w = .ok (hit k ks es 0) w
  same : ∀ k, Instr.sameBits 10000 (enc k) (enc k) = true

/-- block m is a map of these keys and values, in the order in which they came -/
def MapIs (enc : K → Value) (w : World) (m : Nat) (kv : List (K × Value)) : Prop :=
  ∃ es clock, w.heap[m]? = some (.map es clock) ∧ es.toList.map (fun e => (e.key, e.val)) = kv.map (fun p => (enc p.1, p.2)) ∧ (kv.map (·.1)).Nodup ∧ (es.toList.map (·.born)).Nodup ∧ ∀ e ∈ es.toList, e.born < clock

def kvGet (kv : List (K × Value)) (k : K) : Option Value := (kv.find? fun p => decide (p.1 = k)).map (·.2)
def kvPut (kv : List (K × Value)) (k : K) (v : Value) : List (K × Value) :=
  if k ∈ kv.map (·.1) then kv.map fun p => if p.1 = k then (k, v) else p else kv ++ [(k, v)]
def kvDel (kv : List (K × Value)) (k : K) : List (K × Value) := kv.filter fun p => decide (p.1 ≠ k)

theorem hit_none {k : K} : ∀ {ks : List K} {es : List MapEntry} {i : Nat}, k ∉ ks → hit k ks es i = none
  | [], _, _, _ => by simp [hit]
  | k' :: ks, [], _, _ => by simp [hit]
  | k' :: ks, e :: es, i, h => by
    simp only [List.mem_cons, not_or] at h
    simp only [hit, h.1, if_false]
    exact hit_none h.2

/-- of the entries: where a key is -/
theorem hit_some {enc : K → Value} {k : K} : ∀ {kv : List (K × Value)} {es : List MapEntry} {i : Nat}, es.map (fun e => (e.key, e.val)) = kv.map (fun p => (enc p.1, p.2)) → k ∈ kv.map (·.1) →
    ∃ j e, es[j]? = some e ∧ e.key = enc k ∧ (kv.map (·.1))[j]? = some k ∧ hit k (kv.map (·.1)) es i = some (i + j, e.val) ∧ kvGet kv k = some e.val
  | [], _, _, _, hk => by simp at hk
  | p :: kv, [], _, h, _ => by simp at h
  | p :: kv, e :: es, i, h, hk => by
    simp only [List.map_cons, List.cons.injEq, Prod.mk.injEq] at h
    obtain ⟨⟨hke, hve⟩, ht⟩ := h
    by_cases hkp : k = p.1
    · exact ⟨0, e, rfl, by rw [hke, hkp], by simp [hkp], by simp [hit, hkp], by simp [kvGet, hkp, hve]⟩
    · have hk' : k ∈ kv.map (·.1) := by simpa [hkp] using hk
      obtain ⟨j, e', h1, h2, h3, h4, h5⟩ := hit_some (i := i + 1) ht hk'
      refine ⟨j + 1, e', by simpa using h1, h2, by simpa using h3, ?_, ?_⟩
      · simp only [List.map_cons, hit, hkp, if_false, h4]
        congr 2; omega
      · have : ¬ p.1 = k := fun e => hkp e.symm
        simpa [kvGet, List.find?_cons, this] using h5

theorem kvGet_none {kv : List (K × Value)} {k : K} (h : k ∉ kv.map (·.1)) : kvGet kv k = none := by
  simp only [kvGet, Option.map_eq_none_iff, List.find?_eq_none]
  intro p hp he
  exact h (List.mem_map.2 ⟨p, hp, by simpa using he⟩)
theorem kvGet_isSome {kv : List (K × Value)} {k : K} : (kvGet kv k).isSome = true ↔ k ∈ kv.map (·.1) := by
  simp [kvGet]
end

section
variable {K : Type} [DecidableEq K] {P : Program} {enc : K → Value} {w w' : World} {m : Nat} {kv : List (K × Value)} {T kT eT : TypeId} {z : Value}

omit [DecidableEq K] in
theorem MapIs.keeps {S : Nat → Prop} (h : MapIs enc w m kv) (k : Keeps S w w') (hs : ¬ S m) : MapIs enc w' m kv := by
  obtain ⟨es, clock, h1, h2⟩ := h
  exact ⟨es, clock, by rw [k.block m (Array.getElem?_eq_some_iff.1 h1).1 hs]; exact h1, h2⟩
omit [DecidableEq K] in
theorem MapIs.lt (h : MapIs enc w m kv) : m < w.heap.size := by
  obtain ⟨es, clock, h1, _⟩ := h
  exact (Array.getElem?_eq_some_iff.1 h1).1
omit [DecidableEq K] in
theorem MapIs.nodup (h : MapIs enc w m kv) : (kv.map (·.1)).Nodup := by obtain ⟨es, clock, _, _, h1, _⟩ := h; exact h1
omit [DecidableEq K] in
theorem mapIs_made (enc : K → Value) (w : World) : MapIs enc (w.alloc (.map #[] 0)) w.heap.size [] :=
  ⟨#[], 0, heap_alloc_new _ _, by simp, by simp, by simp, by simp⟩

omit [DecidableEq K] in
theorem keys_of {es : List MapEntry} (h : es.map (fun e => (e.key, e.val)) = kv.map (fun p => (enc p.1, p.2))) : es.map (·.key) = (kv.map (·.1)).map enc := by
  have := congrArg (List.map Prod.fst) h
  simpa [List.map_map, Function.comp_def] using this

theorem run_lookup_kv (hK : KeyL P kT enc) (ht : P.underlying T = some (.map kT eT)) (hz : (zeroValue eT).run P w = .ok z w) (h : MapIs enc w m kv) (k : K) (ok : Bool) :
    (Instr.lookup T (.map (some m)) (enc k) ok).run P w = .ok (if ok then .tuple #[(kvGet kv k).getD z, .bool (kvGet kv k).isSome] else (kvGet kv k).getD z) w := by
  obtain ⟨es, clock, h1, h2, h3, h4, h5⟩ := h
  have hg : (getObj m).run P w = .ok (.map es clock) w := by simp [getObj, Sem.run, h1]
  have hf := hK.find k es.toList (kv.map (·.1)) (keys_of h2) w
  by_cases hm : k ∈ kv.map (·.1)
  · obtain ⟨j, e, _, _, _, hh, hv⟩ := hit_some (i := 0) h2 hm
    simp [Instr.lookup, run_underlying ht, hg, hK.chk, hf, hh, hv]
  · have hh := hit_none (K := K) (es := es.toList) (i := 0) hm
    simp [Instr.lookup, run_underlying ht, hg, hK.chk, hf, hh, kvGet_none hm, hz]
theorem run_lookup_nil (hK : KeyL P kT enc) (ht : P.underlying T = some (.map kT eT)) (hz : (zeroValue eT).run P w = .ok z w) (k : K) (ok : Bool) :
    (Instr.lookup T (.map none) (enc k) ok).run P w = .ok (if ok then .tuple #[z, .bool false] else z) w := by
  have hf := hK.find k [] [] rfl w
  simp [Instr.lookup, run_underlying ht, hK.chk, hf, hit, hz]

def setMap (w : World) (m : Nat) (es : Array MapEntry) (clock : Nat) : World := { w with heap := w.heap.setIfInBounds m (.map es clock) }
theorem keeps_setMap (w : World) (m : Nat) (es : Array MapEntry) (clock : Nat) : Keeps (fun b => b = m) w (setMap w m es clock) :=
  ⟨rfl, rfl, rfl, by simp [setMap], fun k hk hn => by simp only [setMap]; rw [Array.getElem?_setIfInBounds_ne (Ne.symm hn)]⟩
theorem setMap_size (w : World) (m : Nat) (es : Array MapEntry) (clock : Nat) : (setMap w m es clock).heap.size = w.heap.size := by simp [setMap]
theorem setMap_at {w : World} {m : Nat} {o : Obj} (h : w.heap[m]? = some o) (es : Array MapEntry) (clock : Nat) : (setMap w m es clock).heap[m]? = some (.map es clock) := by
  have hlt := (Array.getElem?_eq_some_iff.1 h).1
  simp [setMap, hlt]

omit [DecidableEq K] in
theorem nodup_key {es : List MapEntry} {j i : Nat} {ks : List K} (hn : ks.Nodup) (_ : es.map (·.key) = ks.map enc) {k : K} (hj : ks[j]? = some k) (hi : ks[i]? = some k) : i = j := by
  have h1 := (List.getElem?_eq_some_iff.1 hj)
  have h2 := (List.getElem?_eq_some_iff.1 hi)
  exact (List.getElem_inj hn).1 (h2.2.trans h1.2.symm)

theorem run_update_kv (hK : KeyL P kT enc) (ht : P.underlying T = some (.map kT eT)) (h : MapIs enc w m kv) (k : K) (v : Value) :
    ∃ w', (Instr.mapUpdate T (.map (some m)) (enc k) v).run P w = .ok () w' ∧ MapIs enc w' m (kvPut kv k v) ∧ Keeps (fun b => b = m) w w' ∧ w'.heap.size = w.heap.size := by
  obtain ⟨es, clock, h1, h2, h3, h4, h5⟩ := h
  have hg : (getObj m).run P w = .ok (.map es clock) w := by simp [getObj, Sem.run, h1]
  have hs : ∀ es' c', (setObj m (.map es' c')).run P w = .ok () (setMap w m es' c') := fun es' c' => by simp [setObj, Sem.run, h1, setMap]
  have hf := hK.find k es.toList (kv.map (·.1)) (keys_of h2) w
  by_cases hm : k ∈ kv.map (·.1)
  · obtain ⟨j, e, he, hek, hkj, hh, hv⟩ := hit_some (i := 0) h2 hm
    have hea : es[j]? = some e := by simpa using he
    refine ⟨setMap w m (es.modify j fun e => { e with key := enc k, val := v }) clock, ?_, ⟨_, _, setMap_at h1 _ _, ?_, ?_, ?_, ?_⟩, keeps_setMap _ _ _ _, setMap_size _ _ _ _⟩
    · simp [Instr.mapUpdate, run_underlying ht, hg, hK.chk, hf, hh, hea, hek, Instr.keyThatStays, hK.same, hs]
    · have hl : es.toList.length = kv.length := by simpa using congrArg List.length h2
      apply List.ext_getElem?
      intro i
      have h2i := congrArg (·[i]?) h2
      simp only [List.getElem?_map, Array.getElem?_toList] at h2i
      simp only [kvPut, hm, if_true, List.getElem?_map, Array.getElem?_toList, Array.getElem?_modify]
      by_cases hij : j = i
      · subst hij
        have hkj' : ∃ p, kv[j]? = some p ∧ p.1 = k := by simpa using hkj
        obtain ⟨p, hp1, hp2⟩ := hkj'
        simp [hea, hp1, hp2]
      · simp only [hij, if_false, h2i]
        cases hp : kv[i]? with
        | none => simp
        | some p =>
          have : ¬ p.1 = k := fun hpk => hij (nodup_key (es := es.toList) h3 (keys_of h2) (j := i) (i := j) (k := k) (by simp [hp, hpk]) hkj)
          simp [this]
    · have : (kvPut kv k v).map (·.1) = kv.map (·.1) := by
        simp only [kvPut, hm, if_true, List.map_map]
        apply List.map_congr_left
        intro p _
        simp only [Function.comp]
        split
        · rename_i hp; exact hp.symm
        · rfl
      rw [this]; exact h3
    · have : ((es.modify j fun e => { e with key := enc k, val := v }).toList.map (·.born)) = es.toList.map (·.born) := by
        apply List.ext_getElem?
        intro i
        simp only [List.getElem?_map, Array.getElem?_toList, Array.getElem?_modify]
        split
        · cases es[i]? <;> rfl
        · rfl
      rw [this]; exact h4
    · intro x hx
      obtain ⟨i, hi⟩ := List.getElem?_of_mem hx
      simp only [Array.getElem?_toList, Array.getElem?_modify] at hi
      split at hi
      · cases hq : es[i]? with
        | none => rw [hq] at hi; simp at hi
        | some q =>
          rw [hq] at hi; simp at hi; subst hi
          exact h5 q (List.mem_of_getElem? (i := i) (by simpa using hq))
      · exact h5 x (List.mem_of_getElem? (i := i) (by simpa using hi))
  · have hh := hit_none (K := K) (es := es.toList) (i := 0) hm
    refine ⟨setMap w m (es.push { key := enc k, val := v, born := clock }) (clock + 1), ?_, ⟨_, _, setMap_at h1 _ _, ?_, ?_, ?_, ?_⟩, keeps_setMap _ _ _ _, setMap_size _ _ _ _⟩
    · simp [Instr.mapUpdate, run_underlying ht, hg, hK.chk, hf, hh, hs]
    · simp [kvPut, hm, h2]
    · simp only [kvPut, hm, if_false, List.map_append, List.map_cons, List.map_nil]
      rw [List.nodup_append]
      refine ⟨h3, by simp, ?_⟩
      intro a ha b hb
      simp at hb; subst hb
      intro he; subst he; exact hm ha
    · simp only [Array.toList_push, List.map_append, List.map_cons, List.map_nil]
      rw [List.nodup_append]
      refine ⟨h4, by simp, ?_⟩
      intro a ha b hb
      simp at hb; subst hb
      obtain ⟨x, hx, rfl⟩ := List.mem_map.1 ha
      have := h5 x hx
      omega
    · intro x hx
      simp only [Array.toList_push, List.mem_append, List.mem_singleton] at hx
      rcases hx with hx | rfl
      · have := h5 x hx; omega
      · exact Nat.lt_succ_self _

omit [DecidableEq K] in
theorem map_erase {α β : Type} (f : α → β) (l : List α) (j : Nat) : (l.eraseIdx j).map f = (l.map f).eraseIdx j := by
  simp [List.eraseIdx_eq_take_drop_succ, List.map_take, List.map_drop]

theorem run_delete_kv (hK : KeyL P kT enc) (ht : P.underlying T = some (.map kT eT)) (h : MapIs enc w m kv) (k : K) (kt ty : TypeId) :
    ∃ w', (Builtin.delete_ #[T, kt] ty #[.map (some m), enc k]).run P w = .ok (.tuple #[]) w' ∧ MapIs enc w' m (kvDel kv k) ∧ Keeps (fun b => b = m) w w' ∧ w'.heap.size = w.heap.size := by
  obtain ⟨es, clock, h1, h2, h3, h4, h5⟩ := h
  have hg : (getObj m).run P w = .ok (.map es clock) w := by simp [getObj, Sem.run, h1]
  have hs : ∀ es' c', (setObj m (.map es' c')).run P w = .ok () (setMap w m es' c') := fun es' c' => by simp [setObj, Sem.run, h1, setMap]
  have hf := hK.find k es.toList (kv.map (·.1)) (keys_of h2) w
  by_cases hm : k ∈ kv.map (·.1)
  · obtain ⟨j, e, he, hek, hkj, hh, hv⟩ := hit_some (i := 0) h2 hm
    have hdel : kvDel kv k = kv.eraseIdx j := by
      have hp := (List.getElem?_eq_some_iff.1 hkj)
      have hj : j < kv.length := by simpa using hp.1
      simp only [kvDel]
      rw [List.eraseIdx_eq_take_drop_succ]
      conv => lhs; rw [← List.take_append_drop j kv]
      rw [List.filter_append, List.drop_eq_getElem_cons hj, List.filter_cons]
      have hkk : kv[j].1 = k := by simpa using hp.2
      simp only [hkk, ne_eq, not_true, decide_false, Bool.false_eq_true, if_false]
      congr 1
      · rw [List.filter_eq_self]
        intro p hp'
        obtain ⟨i, hi⟩ := List.getElem?_of_mem hp'
        rw [List.getElem?_take] at hi
        split at hi
        · rename_i hlt
          simp only [decide_eq_true_eq]
          intro hpk
          have := nodup_key (es := es.toList) h3 (keys_of h2) (j := i) (i := j) (k := k) (by simp [hi, hpk]) hkj
          omega
        · cases hi
      · rw [List.filter_eq_self]
        intro p hp'
        obtain ⟨i, hi⟩ := List.getElem?_of_mem hp'
        rw [List.getElem?_drop] at hi
        simp only [decide_eq_true_eq]
        intro hpk
        have := nodup_key (es := es.toList) h3 (keys_of h2) (j := j + 1 + i) (i := j) (k := k) (by simp [hi, hpk]) hkj
        omega
    have her : (es.eraseIdxIfInBounds j).toList = es.toList.eraseIdx j := by simp
    refine ⟨setMap w m (es.eraseIdxIfInBounds j) clock, ?_, ⟨_, _, setMap_at h1 _ _, ?_, ?_, ?_, ?_⟩, keeps_setMap _ _ _ _, setMap_size _ _ _ _⟩
    · simp [Builtin.delete_, run_underlying ht, hg, hK.chk, hf, hh, hs]
    · rw [her, hdel, map_erase, map_erase, h2]
    · rw [hdel, map_erase]; exact h3.sublist (List.eraseIdx_sublist _ _)
    · rw [her, map_erase]; exact h4.sublist (List.eraseIdx_sublist _ _)
    · intro x hx; rw [her] at hx; exact h5 x ((List.eraseIdx_sublist _ _).subset hx)
  · have hh := hit_none (K := K) (es := es.toList) (i := 0) hm
    have hdel : kvDel kv k = kv := by
      simp only [kvDel, List.filter_eq_self, decide_eq_true_eq]
      intro p hp he
      exact hm (List.mem_map.2 ⟨p, hp, he⟩)
    refine ⟨setMap w m es clock, ?_, ⟨_, _, setMap_at h1 _ _, ?_, ?_, h4, h5⟩, keeps_setMap _ _ _ _, setMap_size _ _ _ _⟩
    · simp [Builtin.delete_, run_underlying ht, hg, hK.chk, hf, hh, hs]
    · rw [hdel]; exact h2
    · rw [hdel]; exact h3

omit [DecidableEq K] in
theorem run_len_kv (ht : P.underlying T = some (.map kT eT)) (h : MapIs enc w m kv) (ty : TypeId) : (Builtin.len_ #[T] ty #[.map (some m)]).run P w = .ok (.int .i64 kv.length) w := by
  obtain ⟨es, clock, h1, h2, h3, h4, h5⟩ := h
  have hg : (getObj m).run P w = .ok (.map es clock) w := by simp [getObj, Sem.run, h1]
  have hl : es.size = kv.length := by simpa using congrArg List.length h2
  simp [Builtin.len_, run_underlying ht, hg, goInt, hl]
end

/-! ## Keys -/

theorem sameNow_int (j : IntKind) (a b : Int) : Instr.sameNow (.int j) (.int j a) (.int j b) = some (a == b) := by simp [Instr.sameNow]
theorem findNow_int (q : IntKind) (k : Int) : ∀ (es : List MapEntry) (ks : List Int) (i : Nat), es.map (·.key) = ks.map (Value.int q) → Instr.findNow (.int q) (.int q k) es i = some (hit k ks es i)
  | [], ks, i, h => by cases ks <;> simp [Instr.findNow, hit] at h ⊢
  | e :: es, [], i, h => by simp at h
  | e :: es, k' :: ks, i, h => by
    simp only [List.map_cons, List.cons.injEq] at h
    simp only [Instr.findNow, h.1, sameNow_int, hit]
    by_cases hk : k = k'
    · simp [hk]
    · have : (k == k') = false := by simpa using hk
      simp only [this, hk, if_false]
      exact findNow_int q k es ks (i + 1) h.2
theorem keyL_int {P : Program} {T : TypeId} {q : IntKind} (h : P.underlying T = some (.int q)) : KeyL P T (fun n : Int => Value.int q n) where
  chk := fun b k w => by unfold Instr.checkKey; rw [Sem.run_bind, run_underlying h]; rfl
  find := fun k es ks hk w => by simp [Instr.findKey, run_underlying h, findNow_int q k es ks 0 hk]
  same := fun k => by simp [Instr.sameBits]

theorem ba_beq (a b : ByteArray) : (a == b) = decide (a = b) := by
  cases a with | mk x => cases b with | mk y =>
    show (x == y) = _
    rw [Bool.eq_iff_iff]; simp

theorem findNow_string (k : ByteArray) : ∀ (es : List MapEntry) (ks : List ByteArray) (i : Nat), es.map (·.key) = ks.map Value.string → Instr.findNow .string (.string k) es i = some (hit k ks es i)
  | [], ks, i, h => by cases ks <;> simp [Instr.findNow, hit] at h ⊢
  | e :: es, [], i, h => by simp at h
  | e :: es, k' :: ks, i, h => by
    simp only [List.map_cons, List.cons.injEq] at h
    have hs : Instr.sameNow .string (.string k) (.string k') = some (decide (k = k')) := by rw [← ba_beq]; rfl
    simp only [Instr.findNow, h.1, hs, hit]
    by_cases hk : k = k'
    · simp [hk]
    · simp only [hk, if_false, decide_false]
      exact findNow_string k es ks (i + 1) h.2
theorem keyL_string {P : Program} {T : TypeId} (h : P.underlying T = some .string) : KeyL P T Value.string where
  chk := fun b k w => by unfold Instr.checkKey; rw [Sem.run_bind, run_underlying h]; rfl
  find := fun k es ks hk w => by simp [Instr.findKey, run_underlying h, findNow_string k es ks 0 hk]
  same := fun k => by simp [Instr.sameBits, ba_beq]

/-! ## Ranging over a map that nobody turns meanwhile -/

section
variable {K : Type} [DecidableEq K] {P : Program} {enc : K → Value} {w w' : World} {m r : Nat} {kv left : List (K × Value)} {T kT eT : TypeId}

/-- block r is an iterator over the map m; these entries are still to come -/
def IterIs (enc : K → Value) (w : World) (r m : Nat) (kv left : List (K × Value)) : Prop :=
  ∃ es clock seen, w.heap[m]? = some (.map es clock) ∧ es.toList.map (fun e => (e.key, e.val)) = kv.map (fun p => (enc p.1, p.2)) ∧ (es.toList.map (·.born)).Nodup ∧ (∀ e ∈ es.toList, e.born < clock) ∧
    w.heap[r]? = some (.mapIter (some m) clock seen clock) ∧ (es.toList.filter fun e => !seen.contains e.born).map (fun e => (e.key, e.val)) = left.map (fun p => (enc p.1, p.2))

/-- the iterator r stands at this entry -/
def EntryIs (enc : K → Value) (w : World) (r : Nat) (p : K × Value) : Prop :=
  ∃ m clock seen es e, w.heap[r]? = some (.mapIter (some m) clock seen clock) ∧ seen.back? = some e.born ∧ w.heap[m]? = some (.map es clock) ∧ es.find? (fun x : MapEntry => x.born == e.born) = some e ∧ e.key = enc p.1 ∧ e.val = p.2

omit [DecidableEq K] in
theorem IterIs.keeps {S : Nat → Prop} (h : IterIs enc w r m kv left) (k : Keeps S w w') (hm : ¬ S m) (hr : ¬ S r) : IterIs enc w' r m kv left := by
  obtain ⟨es, clock, seen, h1, h2, h3, h4, h5, h6⟩ := h
  exact ⟨es, clock, seen, by rw [k.block m (Array.getElem?_eq_some_iff.1 h1).1 hm]; exact h1, h2, h3, h4, by rw [k.block r (Array.getElem?_eq_some_iff.1 h5).1 hr]; exact h5, h6⟩

theorem find_born : ∀ (l : List MapEntry), (l.map (·.born)).Nodup → ∀ e ∈ l, l.find? (fun x : MapEntry => x.born == e.born) = some e
  | [], _, _, h => by cases h
  | u :: l, hn, e, h => by
    simp only [List.map_cons, List.nodup_cons] at hn
    rcases List.mem_cons.1 h with rfl | h
    · simp
    · have : ¬ u.born = e.born := fun he => hn.1 (List.mem_map.2 ⟨e, h, he.symm⟩)
      simp [this, find_born l hn.2 e h]
omit [DecidableEq K] in
theorem run_range_kv (ht : P.underlying T = some (.map kT eT)) (h : MapIs enc w m kv) :
    ∃ w', (Instr.range T (.map (some m))).run P w = .ok (.pointer (some ⟨w.heap.size, 0, none⟩)) w' ∧ IterIs enc w' w.heap.size m kv kv ∧ Keeps (fun _ => False) w w' ∧ w'.heap.size = w.heap.size + 1 := by
  obtain ⟨es, clock, h1, h2, h3, h4, h5⟩ := h
  have hg : (getObj m).run P w = .ok (.map es clock) w := by simp [getObj, Sem.run, h1]
  refine ⟨w.alloc (.mapIter (some m) clock #[] clock), ?_, ⟨es, clock, #[], ?_, h2, h4, h5, heap_alloc_new _ _, ?_⟩, (Keeps.refl _ _).alloc _, by simp⟩
  · simp [Instr.range, run_underlying ht, hg]
  · rw [Below.heap_alloc w _ m (Array.getElem?_eq_some_iff.1 h1).1]; exact h1
  · rw [List.filter_eq_self.2 (by simp)]; exact h2

def setIter (w : World) (r : Nat) (o : Obj) : World := { w with heap := w.heap.setIfInBounds r o }
theorem keeps_setIter (w : World) (r : Nat) (o : Obj) : Keeps (fun b => b = r) w (setIter w r o) :=
  ⟨rfl, rfl, rfl, by simp [setIter], fun k hk hn => by simp only [setIter]; rw [Array.getElem?_setIfInBounds_ne (Ne.symm hn)]⟩

omit [DecidableEq K] in
theorem run_next_over (h : IterIs enc w r m kv []) (t : TypeId) : (Instr.next (.pointer (some ⟨r, 0, none⟩)) false t).run P w = .ok (.tuple #[.bool false]) w := by
  obtain ⟨es, clock, seen, h1, h2, h3, h4, h5, h6⟩ := h
  have hg : (getObj m).run P w = .ok (.map es clock) w := by simp [getObj, Sem.run, h1]
  have hr : (getObj r).run P w = .ok (.mapIter (some m) clock seen clock) w := by simp [getObj, Sem.run, h5]
  have hl : es.filter (fun e => !seen.contains e.born) = #[] := by
    apply Array.toList_inj.1
    simpa using h6
  have hall : ¬ ((!seen.isEmpty && !es.isEmpty && es.all (fun e => decide (e.born ≥ clock))) = true) := by
    intro hc
    simp only [Bool.and_eq_true, Bool.not_eq_true', Array.all_eq_true_iff_forall_mem, decide_eq_true_eq] at hc
    cases hes : es.toList with
    | nil => have : es = #[] := Array.toList_inj.1 (by simpa using hes); simp [this] at hc
    | cons e l =>
      have he : e ∈ es.toList := by rw [hes]; simp
      have := hc.2 e (by simpa using he)
      have := h4 e he
      omega
  simp only [Instr.next, Sem.run_bind, hr, Result.andThen_ok, hg]
  rw [if_neg hall]
  simp only [hl]
  simp [Question.forced]

theorem filter_born (l : List MapEntry) (hnd : (l.map (·.born)).Nodup) (j : Nat) (x : MapEntry) (hx : l[j]? = some x) : l.filter (fun e => !decide (e.born = x.born)) = l.eraseIdx j := by
  obtain ⟨hj, hx'⟩ := List.getElem?_eq_some_iff.1 hx
  have nd : ∀ i e, l[i]? = some e → e.born = x.born → i = j := fun i e hi hb => by
    obtain ⟨hi1, hi2⟩ := List.getElem?_eq_some_iff.1 hi
    exact (List.getElem_inj (i := i) (j := j) (h₀ := by simpa using hi1) (h₁ := by simpa using hj) hnd).1 (by simp [hi2, hx', hb])
  rw [List.eraseIdx_eq_take_drop_succ]
  conv => lhs; rw [← List.take_append_drop j l]
  rw [List.filter_append, List.drop_eq_getElem_cons hj, List.filter_cons, hx']
  simp only [decide_true, Bool.not_true, Bool.false_eq_true, if_false]
  congr 1
  · rw [List.filter_eq_self]
    intro e he'
    obtain ⟨i, hi⟩ := List.getElem?_of_mem he'
    rw [List.getElem?_take] at hi
    split at hi
    · simp only [Bool.not_eq_true', decide_eq_false_iff_not]
      intro hb
      have := nd i e hi hb
      omega
    · cases hi
  · rw [List.filter_eq_self]
    intro e he'
    obtain ⟨i, hi⟩ := List.getElem?_of_mem he'
    rw [List.getElem?_drop] at hi
    simp only [Bool.not_eq_true', decide_eq_false_iff_not]
    intro hb
    have := nd _ e hi hb
    omega

omit [DecidableEq K] in
theorem run_next_kv (h : IterIs enc w r m kv left) (hne : left ≠ []) (t : TypeId) :
    ∃ j p w', left[j]? = some p ∧ (Instr.next (.pointer (some ⟨r, 0, none⟩)) false t).run P w = .ok (.tuple #[.bool true, enc p.1, p.2]) w' ∧
      IterIs enc w' r m kv (left.eraseIdx j) ∧ Keeps (fun b => b = r) w w' ∧ w'.heap.size = w.heap.size ∧ EntryIs enc w' r p := by
  obtain ⟨es, clock, seen, h1, h2, h3, h4, h5, h6⟩ := h
  have hg : (getObj m).run P w = .ok (.map es clock) w := by simp [getObj, Sem.run, h1]
  have hr : (getObj r).run P w = .ok (.mapIter (some m) clock seen clock) w := by simp [getObj, Sem.run, h5]
  have hall : ¬ ((!seen.isEmpty && !es.isEmpty && es.all (fun e => decide (e.born ≥ clock))) = true) := by
    intro hc
    simp only [Bool.and_eq_true, Bool.not_eq_true', Array.all_eq_true_iff_forall_mem, decide_eq_true_eq] at hc
    cases hes : es.toList with
    | nil => have : es = #[] := Array.toList_inj.1 (by simpa using hes); simp [this] at hc
    | cons e l =>
      have he : e ∈ es.toList := by rw [hes]; simp
      have := hc.2 e (by simpa using he)
      have := h4 e he
      omega
  have hmr : m ≠ r := by intro e; subst e; rw [h1] at h5; cases h5
  -- the entries that are left
  generalize hL : (es.filter fun e => !seen.contains e.born) = L at *
  have hLl : L.toList = es.toList.filter (fun e => !seen.contains e.born) := by rw [← hL]; simp
  have hLm : ∀ e ∈ L, e.born < clock := fun e he => h4 e (by
    have : e ∈ L.toList := by simpa using he
    rw [hLl] at this
    exact (List.mem_filter.1 this).1)
  have hold : L.filter (fun e => decide (e.born < clock)) = L := by
    rw [Array.filter_eq_self]; intro e he; simpa using hLm e he
  have hnew : L.filter (fun e => decide (e.born ≥ clock)) = #[] := by
    rw [Array.filter_eq_empty_iff]; intro e he; have := hLm e he; simp; omega
  have hlen : L.size = left.length := by
    have := congrArg List.length h6
    rw [← hLl] at this
    simpa using this
  have hpos : 0 < L.size := by rw [hlen]; exact List.length_pos_iff.2 hne
  -- what the tape says
  have key : ∀ (j : Nat) (w0 : World), w0.heap = w.heap → w0.os = w.os → w0.tape = w.tape → w0.output = w.output → j < L.size →
      ∃ p w', left[j]? = some p ∧ (do
        match (L.map some)[j]? with
        | some (some e) => do setObj r (.mapIter (some m) clock (seen.push e.born) clock); pure (Value.tuple #[.bool true, e.key, e.val])
        | some none => pure (.tuple #[.bool false])
        | none => stuck "Next: no such candidate" : Sem Value).run P w0 = .ok (.tuple #[.bool true, enc p.1, p.2]) w' ∧
        IterIs enc w' r m kv (left.eraseIdx j) ∧ Keeps (fun b => b = r) w w' ∧ w'.heap.size = w.heap.size ∧ EntryIs enc w' r p := by
    intro j w0 hw0 ho0 ht0 hp0 hj
    have he : L[j]? = some L[j] := by simp [hj]
    have hmap := congrArg (·[j]?) h6
    rw [← hLl] at hmap
    simp only [List.getElem?_map, Array.getElem?_toList, he, Option.map_some] at hmap
    cases hp : left[j]? with
    | none => rw [hp] at hmap; simp at hmap
    | some p =>
      rw [hp] at hmap
      simp only [Option.map_some, Option.some.injEq, Prod.mk.injEq] at hmap
      have hset : (setObj r (.mapIter (some m) clock (seen.push L[j].born) clock)).run P w0 = .ok () (setIter w0 r (.mapIter (some m) clock (seen.push L[j].born) clock)) := by
        simp [setObj, Sem.run, hw0, h5, setIter]
      refine ⟨p, setIter w0 r (.mapIter (some m) clock (seen.push L[j].born) clock), rfl, ?_, ⟨es, clock, seen.push L[j].born, ?_, h2, h3, h4, ?_, ?_⟩, ?_, by simp [setIter, hw0], m, clock, seen.push L[j].born, es, L[j], ?_, by simp, ?_, ?_, hmap.1, hmap.2⟩
      · simp only [Array.getElem?_map, he, Option.map_some, Sem.run_bind, hset, Result.andThen_ok, Sem.run_pure, hmap.1, hmap.2]
      · simp only [setIter]; rw [Array.getElem?_setIfInBounds_ne (Ne.symm hmr), hw0]; exact h1
      · have hlt := (Array.getElem?_eq_some_iff.1 h5).1
        simp [setIter, hw0, hlt]
      · have hf : (es.toList.filter fun e => !(seen.push L[j].born).contains e.born) = (L.toList).eraseIdx j := by
          have h7 : (es.toList.filter fun e => !(seen.push L[j].born).contains e.born) = L.toList.filter (fun e => !decide (e.born = L[j].born)) := by
            rw [hLl, List.filter_filter]
            apply List.filter_congr
            intro e _
            simp [Bool.and_comm]
          have hnd : (L.toList.map (·.born)).Nodup := by rw [hLl]; exact h3.sublist ((List.filter_sublist).map _)
          rw [h7]
          exact filter_born L.toList hnd j L[j] (by simp)
        rw [hf, map_erase, map_erase, hLl, h6]
      · exact ⟨by simp [setIter, ho0], by simp [setIter, ht0], by simp [setIter, hp0], by simp [setIter, hw0], fun k hk hn => by simp only [setIter]; rw [Array.getElem?_setIfInBounds_ne (Ne.symm hn), hw0]⟩
      · have hlt := (Array.getElem?_eq_some_iff.1 h5).1
        simp [setIter, hw0, hlt]
      · simp only [setIter]; rw [Array.getElem?_setIfInBounds_ne (Ne.symm hmr), hw0]; exact h1
      · have hmem : L[j] ∈ es.toList := by
          have : L[j] ∈ L.toList := by simp
          rw [hLl] at this
          exact (List.mem_filter.1 this).1
        rw [← Array.find?_toList]
        exact find_born es.toList h3 L[j] hmem
  have hcand : (if L.isEmpty then #[none] else #[]) ++ (L ++ #[]).map some = L.map some := by
    have : L.isEmpty = false := by simpa [Array.isEmpty] using (by omega : ¬ L.size = 0)
    simp [this]
  have hpre : (Instr.next (.pointer (some ⟨r, 0, none⟩)) false t).run P w = ((choose (.mapNext (L.map some).size)).run P w).andThen fun n w0 => (do
        match (L.map some)[n]? with
        | some (some e) => do setObj r (.mapIter (some m) clock (seen.push e.born) clock); pure (Value.tuple #[.bool true, e.key, e.val])
        | some none => pure (.tuple #[.bool false])
        | none => stuck "Next: no such candidate" : Sem Value).run P w0 := by
    simp only [Instr.next, Sem.run_bind, hr, Result.andThen_ok, hg]
    rw [if_neg hall]
    simp only [hL, hold, hnew, hcand, Sem.run_bind]
    rfl
  have hsz : (L.map some).size = L.size := by simp
  rw [hsz] at hpre
  by_cases h1s : L.size ≤ 1
  · have hc : (choose (.mapNext L.size)).run P w = .ok 0 w := by rw [run_choose, if_pos (by simp [Question.forced, h1s])]
    obtain ⟨p, w', hp, hrun, hi, hk, hs, hen⟩ := key 0 w rfl rfl rfl rfl hpos
    refine ⟨0, p, w', hp, ?_, hi, hk, hs, hen⟩
    rw [hpre, hc]; exact hrun
  · have hc : (choose (.mapNext L.size)).run P w = .ok ((Question.mapNext L.size).cut (w.tape w.drawn (.mapNext L.size))) w.drew := by rw [run_choose, if_neg (by simp [Question.forced, h1s])]; rfl
    have hlt : (Question.mapNext L.size).cut (w.tape w.drawn (.mapNext L.size)) < L.size := by simp [Question.cut]; exact Nat.mod_lt _ hpos
    obtain ⟨p, w', hp, hrun, hi, hk, hs, hen⟩ := key _ w.drew rfl rfl rfl rfl hlt
    refine ⟨_, p, w', hp, ?_, hi, hk, hs, hen⟩
    rw [hpre, hc]; exact hrun
end

/-! ## The walk's laws -/

section
variable {K : Type} [DecidableEq K] {P : Program} {enc : K → Value} {w : World} {kv left : List (K × Value)} {ops : Array Oper} {rest : List Oper} {o : Oper} {a : Act} {Q : Exit → Act → World → Prop}

theorem wpList_lookup_kv (hg : o.guard = none) (mO kO : Operand) (T : TypeId) (ok : Bool) (hop : o.op = .lookup T mO kO ok) (kT eT : TypeId) (hK : KeyL P kT enc) (ht : P.underlying T = some (.map kT eT))
    (z : Value) (hz : (zeroValue eT).run P w = .ok z w) (m : Nat) (hm : a.eval mO = .map (some m)) (h : MapIs enc w m kv) (k : K) (hk : a.eval kO = enc k)
    (hK' : wpList P ops Q rest (a.put o.dst (if ok then .tuple #[(kvGet kv k).getD z, .bool (kvGet kv k).isSome] else (kvGet kv k).getD z)) w) : wpList P ops Q (o :: rest) a w := by
  refine wpList_plain hg fun K0 hK0 => ?_
  unfold Oper.wp execOp
  simp only [hop, hm, hk, Sem.run_bind, run_lookup_kv hK ht hz h k ok, Result.andThen_ok, Sem.run_pure]
  exact hK0 _ _ hK'

theorem wpList_lookup_some (hg : o.guard = none) (mO kO : Operand) (T : TypeId) (ok : Bool) (hop : o.op = .lookup T mO kO ok) (kT eT : TypeId) (hK : KeyL P kT enc) (ht : P.underlying T = some (.map kT eT))
    (z : Value) (hz : (zeroValue eT).run P w = .ok z w) (m : Nat) (hm : a.eval mO = .map (some m)) (h : MapIs enc w m kv) (k : K) (hk : a.eval kO = enc k) (v : Value) (hget : kvGet kv k = some v)
    (hK' : wpList P ops Q rest (a.put o.dst (if ok then .tuple #[v, .bool true] else v)) w) : wpList P ops Q (o :: rest) a w :=
  wpList_lookup_kv hg mO kO T ok hop kT eT hK ht z hz m hm h k hk (by rw [hget]; exact hK')
theorem wpList_lookup_none (hg : o.guard = none) (mO kO : Operand) (T : TypeId) (ok : Bool) (hop : o.op = .lookup T mO kO ok) (kT eT : TypeId) (hK : KeyL P kT enc) (ht : P.underlying T = some (.map kT eT))
    (z : Value) (hz : (zeroValue eT).run P w = .ok z w) (m : Nat) (hm : a.eval mO = .map (some m)) (h : MapIs enc w m kv) (k : K) (hk : a.eval kO = enc k) (hget : kvGet kv k = none)
    (hK' : wpList P ops Q rest (a.put o.dst (if ok then .tuple #[z, .bool false] else z)) w) : wpList P ops Q (o :: rest) a w :=
  wpList_lookup_kv hg mO kO T ok hop kT eT hK ht z hz m hm h k hk (by rw [hget]; exact hK')

theorem wpList_lookup_nil (hg : o.guard = none) (mO kO : Operand) (T : TypeId) (ok : Bool) (hop : o.op = .lookup T mO kO ok) (kT eT : TypeId) (hK : KeyL P kT enc) (ht : P.underlying T = some (.map kT eT))
    (z : Value) (hz : (zeroValue eT).run P w = .ok z w) (hm : a.eval mO = .map none) (k : K) (hk : a.eval kO = enc k)
    (hK' : wpList P ops Q rest (a.put o.dst (if ok then .tuple #[z, .bool false] else z)) w) : wpList P ops Q (o :: rest) a w := by
  refine wpList_plain hg fun K0 hK0 => ?_
  unfold Oper.wp execOp
  simp only [hop, hm, hk, Sem.run_bind, run_lookup_nil hK ht hz k ok, Result.andThen_ok, Sem.run_pure]
  exact hK0 _ _ hK'

theorem wpList_update_kv (hg : o.guard = none) (mO kO vO : Operand) (T : TypeId) (hop : o.op = .mapUpdate T mO kO vO) (kT eT : TypeId) (hK : KeyL P kT enc) (ht : P.underlying T = some (.map kT eT))
    (m : Nat) (hm : a.eval mO = .map (some m)) (h : MapIs enc w m kv) (k : K) (hk : a.eval kO = enc k) (v : Value) (hv : a.eval vO = v)
    (hK' : ∀ w', MapIs enc w' m (kvPut kv k v) → Keeps (fun b => b = m) w w' → w'.heap.size = w.heap.size → wpList P ops Q rest (a.put o.dst undef) w') : wpList P ops Q (o :: rest) a w := by
  obtain ⟨w', hr, h1, h2, h3⟩ := run_update_kv (P := P) hK ht h k v
  refine wpList_plain hg fun K0 hK0 => ?_
  unfold Oper.wp execOp
  simp only [hop, hm, hk, hv, Sem.run_bind, hr, Result.andThen_ok, Sem.run_pure]
  exact hK0 _ _ (hK' w' h1 h2 h3)

theorem wpList_delete_kv (hg : o.guard = none) (mO kO : Operand) (T kt : TypeId) (hop : o.op = .call { callee := .builtin .delete, args := #[mO, kO], argTypes := #[T, kt] }) (kT eT : TypeId) (hK : KeyL P kT enc) (ht : P.underlying T = some (.map kT eT))
    (m : Nat) (hm : a.eval mO = .map (some m)) (h : MapIs enc w m kv) (k : K) (hk : a.eval kO = enc k)
    (hK' : ∀ w', MapIs enc w' m (kvDel kv k) → Keeps (fun b => b = m) w w' → w'.heap.size = w.heap.size → wpList P ops Q rest (a.put o.dst (.tuple #[])) w') : wpList P ops Q (o :: rest) a w := by
  obtain ⟨w', hr, h1, h2, h3⟩ := run_delete_kv (P := P) hK ht h k kt o.type
  refine wpList_plain hg fun K0 hK0 => ?_
  unfold Oper.wp execOp
  simp only [hop, resolve, invoke, builtin, Sem.run_bind, Sem.run_pure, Result.andThen_ok, List.map_toArray, List.map_cons, List.map_nil, hm, hk, hr]
  exact hK0 _ _ (hK' w' h1 h2 h3)

omit [DecidableEq K] in
theorem wpList_len_kv (hg : o.guard = none) (mO : Operand) (T : TypeId) (hop : o.op = .call { callee := .builtin .len, args := #[mO], argTypes := #[T] }) (kT eT : TypeId) (ht : P.underlying T = some (.map kT eT))
    (m : Nat) (hm : a.eval mO = .map (some m)) (h : MapIs enc w m kv)
    (hK' : wpList P ops Q rest (a.put o.dst (.int .i64 kv.length)) w) : wpList P ops Q (o :: rest) a w := by
  refine wpList_plain hg fun K0 hK0 => ?_
  unfold Oper.wp execOp
  simp only [hop, resolve, invoke, builtin, Sem.run_bind, Sem.run_pure, Result.andThen_ok, List.map_toArray, List.map_cons, List.map_nil, hm, run_len_kv (P := P) ht h o.type]
  exact hK0 _ _ hK'

omit [DecidableEq K] in
theorem wpList_range_kv (hg : o.guard = none) (mO : Operand) (T : TypeId) (hop : o.op = .range T mO) (kT eT : TypeId) (ht : P.underlying T = some (.map kT eT)) (m : Nat) (hm : a.eval mO = .map (some m)) (h : MapIs enc w m kv)
    (hK' : ∀ w', IterIs enc w' w.heap.size m kv kv → Keeps (fun _ => False) w w' → w'.heap.size = w.heap.size + 1 → wpList P ops Q rest (a.put o.dst (.pointer (some ⟨w.heap.size, 0, none⟩))) w') : wpList P ops Q (o :: rest) a w := by
  obtain ⟨w', hr, h1, h2, h3⟩ := run_range_kv (P := P) ht h
  refine wpList_plain hg fun K0 hK0 => ?_
  unfold Oper.wp execOp
  simp only [hop, hm, Sem.run_bind, hr, Result.andThen_ok, Sem.run_pure]
  exact hK0 _ _ (hK' w' h1 h2 h3)

omit [DecidableEq K] in
theorem wpList_next_kv (hg : o.guard = none) (it : Operand) (hop : o.op = .next it false) (r m : Nat) (hit : a.eval it = .pointer (some ⟨r, 0, none⟩)) (h : IterIs enc w r m kv left)
    (h0 : left = [] → wpList P ops Q rest (a.put o.dst (.tuple #[.bool false])) w)
    (h1 : ∀ j p w', left[j]? = some p → IterIs enc w' r m kv (left.eraseIdx j) → Keeps (fun b => b = r) w w' → w'.heap.size = w.heap.size → EntryIs enc w' r p → wpList P ops Q rest (a.put o.dst (.tuple #[.bool true, enc p.1, p.2])) w') : wpList P ops Q (o :: rest) a w := by
  refine wpList_plain hg fun K0 hK0 => ?_
  unfold Oper.wp execOp
  by_cases hl : left = []
  · subst hl
    simp only [hop, hit, Sem.run_bind, run_next_over h o.type, Result.andThen_ok, Sem.run_pure]
    exact hK0 _ _ (h0 rfl)
  · obtain ⟨j, p, w', hp, hr, hi, hk, hs, hen⟩ := run_next_kv (P := P) h hl o.type
    simp only [hop, hit, Sem.run_bind, hr, Result.andThen_ok, Sem.run_pure]
    exact hK0 _ _ (h1 j p w' hp hi hk hs hen)

omit [DecidableEq K] in
theorem wpList_entry_kv (hg : o.guard = none) (it : Operand) (hop : o.op = .entry it) (r : Nat) (p : K × Value) (hit : a.eval it = .pointer (some ⟨r, 0, none⟩)) (h : EntryIs enc w r p)
    (hK' : wpList P ops Q rest (a.put o.dst (.tuple #[enc p.1, p.2])) w) : wpList P ops Q (o :: rest) a w := by
  obtain ⟨m, clock, seen, es, e, h1, h2, h3, h4, h5, h6⟩ := h
  have hr : (Instr.entry (.pointer (some ⟨r, 0, none⟩))).run P w = .ok (.tuple #[enc p.1, p.2]) w := by
    have hgr : (getObj r).run P w = .ok (.mapIter (some m) clock seen clock) w := by simp [getObj, Sem.run, h1]
    have hgm : (getObj m).run P w = .ok (.map es clock) w := by simp [getObj, Sem.run, h3]
    simp [Instr.entry, hgr, hgm, h2, h4, h5, h6]
  refine wpList_plain hg fun K0 hK0 => ?_
  unfold Oper.wp execOp
  simp only [hop, hit, Sem.run_bind, hr, Result.andThen_ok, Sem.run_pure]
  exact hK0 _ _ hK'
end
end Go.Tx
end
section
/-
  A block of cells whose every cell is known; rows beside it.
-/
namespace Go.Tx
open Go Go.RowKit

/-- a goal at which the walk stands still -/
structure Stop (p : Prop) : Prop where
  out : p

/-- block b holds these cells, of type T; it may be written -/
def Blk (w : World) (b : Nat) (T : TypeId) (xs : List Value) : Prop := w.heap[b]? = some (.cells xs.toArray T (0, 0))

section
variable {w w' : World} {b : Nat} {T : TypeId} {xs : List Value}

theorem Blk.lt (h : Blk w b T xs) : b < w.heap.size := (Array.getElem?_eq_some_iff.1 h).1
theorem Blk.cell (h : Blk w b T xs) {i : Nat} {v : Value} (hx : xs[i]? = some v) : w.cell? ⟨b, i, none⟩ = some v := by
  unfold Blk at h
  simp only [World.cell?, h]
  simpa using hx
theorem Blk.free (h : Blk w b T xs) (i : Nat) : w.frozen? ⟨b, i, none⟩ = false := by
  unfold Blk at h
  simp [World.frozen?, h]
theorem Blk.set (h : Blk w b T xs) (i : Nat) (v : Value) : Blk (w.setCell ⟨b, i, none⟩ v) b T (xs.set i v) := by
  have hlt := h.lt
  have h' : w.heap[b] = .cells xs.toArray T (0, 0) := by
    unfold Blk at h; simpa [Array.getElem?_eq_getElem hlt] using h
  show (w.heap.modify b _)[b]? = _
  rw [Array.getElem?_eq_getElem (by simpa using hlt), Array.getElem_modify_self, h']
  simp
theorem Blk.keeps {S : Nat → Prop} (h : Blk w b T xs) (k : Keeps S w w') (hs : ¬ S b) : Blk w' b T xs := by
  unfold Blk at *
  rw [k.block b (Array.getElem?_eq_some_iff.1 h).1 hs]; exact h
theorem Blk.new (w : World) (xs : List Value) (T : TypeId) : Blk (w.alloc (.cells xs.toArray T)) w.heap.size T xs := heap_alloc_new w _
theorem Blk.drew (h : Blk w b T xs) : Blk w.drew b T xs := h
theorem Blk.alloc (h : Blk w b T xs) (o : Obj) : Blk (w.alloc o) b T xs := h.keeps (Keeps.alloc (Keeps.refl (fun _ => False) w) o) id
theorem Blk.set_other (h : Blk w b T xs) {a : Addr} (ha : b ≠ a.block) (v : Value) : Blk (w.setCell a v) b T xs :=
  h.keeps (Keeps.setCell (Keeps.refl (fun k => k = a.block) w) (fun _ => rfl) v) ha
theorem Blk.ne_row {e : TypeId} {size n : Nat} {v : Value} {ys : List Value} (h : Blk w b T xs) (r : Row w e size v n ys) (hT : T ≠ e) {g : Nat} (hg : v.ownBlock = some g) : b ≠ g := by
  intro he
  subst he
  rcases r.2 with ⟨rfl, _⟩ | ⟨g', cap, cur, rfl, _, hgg, _⟩
  · simp [Value.ownBlock] at hg
  · simp [Value.ownBlock] at hg
    subst hg
    unfold Blk at h
    rw [h] at hgg
    simp at hgg
    exact hT hgg.2
theorem Blk.ne_map {K : Type} {enc : K → Value} {m : Nat} {kv : List (K × Value)} (h : Blk w b T xs) (r : MapIs enc w m kv) : b ≠ m := by
  intro he
  subst he
  obtain ⟨es, clock, h1, _⟩ := r
  unfold Blk at h
  rw [h] at h1; cases h1
theorem row_ne_row {e f : TypeId} {size n size2 n2 : Nat} {v u : Value} {ys zs : List Value} (h : Row w e size v n ys) (r : Row w f size2 u n2 zs) (hT : e ≠ f) {g : Nat} (hg : v.ownBlock = some g) : u.ownBlock ≠ some g := by
  intro hu
  rcases h.2 with ⟨rfl, _⟩ | ⟨g', cap, cur, rfl, _, hgg, _⟩
  · simp [Value.ownBlock] at hg
  · simp [Value.ownBlock] at hg
    subst hg
    rcases r.2 with ⟨rfl, _⟩ | ⟨g2, cap2, cur2, rfl, _, hgg2, _⟩
    · simp [Value.ownBlock] at hu
    · simp [Value.ownBlock] at hu
      subst hu
      rw [hgg] at hgg2
      simp at hgg2
      exact hT hgg2.2
theorem row_ne_map {K : Type} {enc : K → Value} {m : Nat} {kv : List (K × Value)} {e : TypeId} {size n : Nat} {v : Value} {ys : List Value} (h : Row w e size v n ys) (r : MapIs enc w m kv) : v.ownBlock ≠ some m := by
  intro hg
  rcases h.2 with ⟨rfl, _⟩ | ⟨g', cap, cur, rfl, _, hgg, _⟩
  · simp [Value.ownBlock] at hg
  · simp [Value.ownBlock] at hg
    subst hg
    obtain ⟨es, clock, h1, _⟩ := r
    rw [hgg] at h1; cases h1

/-- a row's element, of one cell -/
theorem Row.cell {e : TypeId} {g n cap : Nat} {ys : List Value} (h : Row w e 1 (.slice (some ⟨g, 0, none⟩) n cap) n ys) {i : Nat} {v : Value} (hv : ys[i]? = some v) : w.cell? ⟨g, i, none⟩ = some v := by
  have hi : i < n * 1 := by
    have := (List.getElem?_eq_some_iff.1 hv).1
    rw [h.1] at this; exact this
  rw [World.ownsRow.cellAt h i hi]; exact hv
theorem Row.free {e : TypeId} {g n cap size : Nat} {ys : List Value} (h : Row w e size (.slice (some ⟨g, 0, none⟩) n cap) n ys) (i : Nat) : w.frozen? ⟨g, i, none⟩ = false := World.ownsRow.frozenAt h i
theorem Row.setCell_other {e : TypeId} {size n : Nat} {v : Value} {ys : List Value} (h : Row w e size v n ys) {a : Addr} (ha : v.ownBlock ≠ some a.block) (u : Value) : Row (w.setCell a u) e size v n ys :=
  h.keeps (Keeps.setCell (Keeps.refl (fun k => k = a.block) w) (fun _ => rfl) u) fun g hg he => ha (by rw [hg, he])
theorem MapIs.setCell {K : Type} {enc : K → Value} {m : Nat} {kv : List (K × Value)} (h : MapIs enc w m kv) {a : Addr} (ha : m ≠ a.block) (u : Value) : MapIs enc (w.setCell a u) m kv :=
  h.keeps (Keeps.setCell (Keeps.refl (fun k => k = a.block) w) (fun _ => rfl) u) ha
end
end Go.Tx
end
section
/-
  Errors of the program: a chain of faults around a kind; making one.
-/
namespace Go.Tx
open Go Go.RowKit

/-- an error of the program: what was done, at which number, around a kind; its blocks lie in E -/
def IsErr (w : World) (E : Nat → Prop) : Value → List (ByteArray × Int) → Int → Prop
  | v, [], k => v = .iface 41 (.int .i64 k)
  | v, (op, n) :: l, k => ∃ b u, v = .iface 40 (.pointer (some ⟨b, 0, none⟩)) ∧ Blk w b 43 [.string op, .int .i64 n, u] ∧ E b ∧ IsErr w E u l k

theorem IsErr.keeps {w w' : World} {E T : Nat → Prop} : ∀ {l : List (ByteArray × Int)} {v : Value} {k : Int}, IsErr w E v l k → Keeps T w w' → (∀ g, E g → ¬ T g) → IsErr w' E v l k
  | [], _, _, h, _, _ => h
  | _ :: _, _, _, ⟨b, u, h1, h2, h3, h4⟩, hk, hs => ⟨b, u, h1, h2.keeps hk (hs b h3), h3, IsErr.keeps h4 hk hs⟩
theorem IsErr.mono {w : World} {E T : Nat → Prop} (ht : ∀ g, E g → T g) : ∀ {l : List (ByteArray × Int)} {v : Value} {k : Int}, IsErr w E v l k → IsErr w T v l k
  | [], _, _, h => h
  | _ :: _, _, _, ⟨b, u, h1, h2, h3, h4⟩ => ⟨b, u, h1, h2, ht b h3, IsErr.mono ht h4⟩

section
variable {w : World}
theorem isErr_new (W : World) (op : ByteArray) (n : Int) (u : Value) (l : List (ByteArray × Int)) (k : Int) (E : Nat → Prop) (hu : IsErr W E u l k) :
    IsErr (W.alloc (.cells #[.string op, .int .i64 n, u] 43)) (fun g => g = W.heap.size ∨ E g) (.iface 40 (.pointer (some ⟨W.heap.size, 0, none⟩))) ((op, n) :: l) k :=
  ⟨W.heap.size, u, rfl, Blk.new W _ _, .inl rfl, (hu.keeps (Keeps.alloc (Keeps.refl (fun _ => False) W) _) fun _ _ h => h).mono fun _ h => .inr h⟩

/-- a call that ends in an error: nothing that was there has turned -/
def ErrPost (f : Value → Value) (l : List (ByteArray × Int)) (k : Int) (I : World → Prop) (w : World) (e : Ending) (w' : World) : Prop :=
  ∃ E, e = .returned (f E) ∧ IsErr w' (Fresh w w') E l k ∧ I w' ∧ Keeps (fun _ => False) w w'
theorem errPost_one {f : Value → Value} {op : ByteArray} {n k : Int} {I : World → Prop} {w1 : World} {g : Nat} (hg : g = w1.heap.size) (hI : I w1) (hk : Keeps (fun _ => False) w w1) (hi : ∀ w2, I w1 → Keeps (fun _ => False) w1 w2 → I w2) :
    ErrPost f [(op, n)] k I w (.returned (f (.iface 40 (.pointer (some ⟨g, 0, none⟩))))) (w1.alloc (.cells #[.string op, .int .i64 n, .iface 41 (.int .i64 k)] 43)) := by
  subst hg
  refine ⟨_, rfl, (isErr_new w1 op n (.iface 41 (.int .i64 k)) [] k (fun _ => False) rfl).mono (fun g hg => ?_), hi _ hI ((Keeps.refl _ _).alloc _), hk.alloc _⟩
  rcases hg with rfl | hg
  · exact ⟨hk.size, by simp⟩
  · exact hg.elim
theorem errPost_two {f : Value → Value} {op op2 : ByteArray} {n n2 k : Int} {I : World → Prop} {w1 : World} {g1 g2 : Nat} (hg1 : g1 = w1.heap.size) (hg2 : g2 = w1.heap.size + 1) (hI : I w1) (hk : Keeps (fun _ => False) w w1) (hi : ∀ w2, I w1 → Keeps (fun _ => False) w1 w2 → I w2) :
    ErrPost f [(op, n), (op2, n2)] k I w (.returned (f (.iface 40 (.pointer (some ⟨g2, 0, none⟩)))))
      ((w1.alloc (.cells #[.string op2, .int .i64 n2, .iface 41 (.int .i64 k)] 43)).alloc (.cells #[.string op, .int .i64 n, .iface 40 (.pointer (some ⟨g1, 0, none⟩))] 43)) := by
  subst hg1 hg2
  have h1 := isErr_new w1 op2 n2 (.iface 41 (.int .i64 k)) [] k (fun _ => False) rfl
  have h2 := isErr_new _ op n _ _ k _ h1
  rw [World.size_alloc] at h2
  refine ⟨_, rfl, h2.mono (fun g hg => ?_), hi _ hI (((Keeps.refl _ _).alloc _).alloc _), (hk.alloc _).alloc _⟩
  have := hk.size
  rcases hg with rfl | rfl | hg
  · exact ⟨by omega, by simp⟩
  · exact ⟨this, by simp; omega⟩
  · exact hg.elim
end
end Go.Tx

namespace Go.Proofs.YtgmieehheoknbaaDoor
open Go.RowKit Go.Tx

set_option maxHeartbeats 400000 in
theorem at_any (op : ByteArray) (n : Int) (t : TypeId) (v : Value) (w : World) :
    Calls Tryd.prog 19 #[.string op, .int .i64 n, .iface t v] w fun e w' => e = .returned (.iface 40 (.pointer (some ⟨w.heap.size, 0, none⟩))) ∧ w' = w.alloc (.cells #[.string op, .int .i64 n, .iface t v] 43 (0, 0)) := by
  go_enter Tryd.func19, Tryd.ntmps19
  go_wp2
  go_ret
  exact ⟨rfl, rfl⟩
set_option maxHeartbeats 400000 in
theorem at_nil (op : ByteArray) (n : Int) (w : World) :
    Calls Tryd.prog 19 #[.string op, .int .i64 n, .nilIface] w fun e w' => e = .returned .nilIface ∧ w' = w := by
  go_enter Tryd.func19, Tryd.ntmps19
  go_wp2
  go_ret
  exact ⟨rfl, rfl⟩
end Go.Proofs.YtgmieehheoknbaaDoor
end
section
/-
  A number as one from 0 to below n: what troupelaw00.Place does.
-/
namespace Go.Tx
open Go Go.RowKit
theorem place_at (v n : Int) (hn : 0 < n) : (if v.tmod n < 0 then v.tmod n + n else v.tmod n) = v % n := by
  have h1 := Int.tmod_eq_emod (a := v) (b := n)
  have h2 := Int.emod_nonneg v (Int.ne_of_gt hn)
  have h3 := Int.emod_lt_of_pos v hn
  rw [h1]
  split <;> split <;> omega
end Go.Tx
namespace Go.Proofs.YtgmieehheoknbaaDoor
open Go.RowKit Go.Tx
set_option maxHeartbeats 400000 in
theorem place_any (v n : Int) (hn : 0 < n) (hn2 : n ≤ 9223372036854775807) (_ : -9223372036854775808 ≤ v) (_ : v ≤ 9223372036854775807) (w : World) :
    Calls Tryd.prog 14 #[.int .i64 v, .int .i64 n] w fun e w' => e = .returned (.int .i64 (v % n)) ∧ w = w' := by
  have hp := place_at v n hn
  have h3 := Int.emod_lt_of_pos v hn
  have h4 := Int.emod_nonneg v (Int.ne_of_gt hn)
  go_enter Tryd.func14, Tryd.ntmps14
  go_wp2
  · rw [if_pos (by omega)] at hp
    rw [hp]
    go_ret
    exact ⟨rfl, rfl⟩
  · rw [if_neg (by omega)] at hp
    rw [hp]
    go_ret
    exact ⟨rfl, rfl⟩
end Go.Proofs.YtgmieehheoknbaaDoor
end
section
/-
  append onto a slice that has no room left, whatever its block's marks are.
-/
namespace Go.Tx
open Go Go.RowKit
variable {P : Program} {w : World}
theorem run_append_full (t t2 ty e : TypeId) (d2 : TypeDesc) (i : TypeInfo) (z : Value) (ht : P.underlying t = some (.slice e)) (ht2 : P.underlying t2 = some d2) (hd2 : ∀ k, d2 ≠ .int k)
    (hi : P.info? e = some i) (hz : i.zero = some z) (hzs : z.cells.size = i.size)
    (g n : Nat) (xs : List Value) (hx : xs.length = n * i.size) (hcell : ∀ j u, xs[j]? = some u → w.cell? ⟨g, j, none⟩ = some u)
    (x : Value) (m : Nat) (news : List Value) (hl : news.length = m * i.size) (hlen : ∀ W, (Builtin.lenOf x).run P W = .ok m W) (hfc : ∀ W : World, W.heap = w.heap → (Builtin.firstCells i.size m x).run P W = .ok news.toArray W)
    (hm : 0 < m) (h63 : n + m ≤ maxLen) (hbytes : (n + m) * i.bytes ≤ 140737488355328) :
    ∃ v' w', (Builtin.append_ #[t, t2] ty #[.slice (some ⟨g, 0, none⟩) n n, x]).run P w = .ok v' w' ∧ Appended w w' e i.size (.slice none 0 0) v' (n + m) (xs ++ news) := by
  have hint : ∀ k, d2 ≠ .int k := hd2
  have hm2 : (match d2 with | .int _ => true | _ => false) = false := by cases d2 <;> first | rfl | exact absurd rfl (hd2 _)
  have hlen2 : (xs ++ news).length = (n + m) * i.size := by rw [List.length_append, hx, hl, Nat.add_mul]
  have grown : Appended w (w.drew.alloc (.cells (xs.toArray ++ news.toArray ++ Builtin.zeroCells z.cells (grownCap w (n + m) n e - (n + m))) e)) e i.size (.slice none 0 0)
        (.slice (some ⟨w.heap.size, 0, none⟩) (n + m) (grownCap w (n + m) n e)) (n + m) (xs ++ news) := by
    have hge := grownCap_ge w (n + m) n e
    have hcm : grownCap w (n + m) n e ≤ maxLen := grownCap_le_maxLen w (n + m) n e h63
    refine ⟨⟨hlen2, .inr ⟨w.heap.size, _, _, rfl, Nat.zero_le _, heap_alloc_new w.drew _, hge, hcm, ?_, ?_⟩⟩, (Keeps.drew (Keeps.refl _ _)).alloc _, .inr ⟨rfl, by simp⟩, fun _ => by simp [Value.ownBlock]⟩
    · simp only [Array.size_append, List.size_toArray, size_zero1, hzs, hx, hl, ← Nat.add_mul]
      congr 1
      omega
    · simp only [Array.toList_append, List.append_assoc]
      rw [← List.append_assoc, ← hlen2]
      exact List.take_left
  have hw0 := hfc w rfl
  have hroom : ¬ n + m ≤ n := by omega
  have hold : (Builtin.firstCells i.size n (.slice (some ⟨g, 0, none⟩) n n)).run P w.drew = .ok xs.toArray w.drew :=
    run_firstCells_some (P := P) w.drew i.size n ⟨g, 0, none⟩ n n xs hx (fun j u hu => by rw [Addr.add_lit, Nat.zero_add]; exact hcell j u hu)
  have hfit := growslice_fits (need := n + m) (old := n) (bytes := i.bytes) (by omega) hbytes
  have hfd := hfc w.drew rfl
  refine ⟨_, _, ?_, grown⟩
  have hno : ¬ (281474976710656 < Builtin.nextslicecap (n + m) n * i.bytes) := by omega
  have hs2 : ¬ ((9223372036854775807 : Int) < (n : Int) + (m : Int)) := by unfold maxLen at h63; omega
  have hmz : ¬ m = 0 := by omega
  simp [Builtin.append_, run_underlying ht, run_underlying ht2, sizeOf, typeInfo, hi, hlen, hroom, hs2, hno, Question.forced, grownCap, hfd, hold, zeroValue, hz, newRow, hmz]
  rw [← Array.append_assoc]; simp
/-- THE WALK's LAW for 'append' onto such a slice. -/
theorem wpList_append_full {ops : Array Oper} {rest : List Oper} {o : Oper} {a : Act} {Q : Exit → Act → World → Prop} (hgd : o.guard = none) (s x : Operand) (t t2 : TypeId)
    (ho : o.op = .call { callee := .builtin .append, args := #[s, x], argTypes := #[t, t2] })
    (e : TypeId) (d2 : TypeDesc) (size bytes : Nat) (z : Value) (hinfo : (P.info? e).map (fun i => (i.zero, i.size, i.bytes)) = some (some z, size, bytes))
    (ht : P.underlying t = some (.slice e)) (ht2 : P.underlying t2 = some d2) (hd2 : ∀ k, d2 ≠ .int k) (hzs : z.cells.size = size)
    (g n : Nat) (xs : List Value) (hs : a.eval s = .slice (some ⟨g, 0, none⟩) n n) (hxl : xs.length = n * size) (hcell : ∀ j u, xs[j]? = some u → w.cell? ⟨g, j, none⟩ = some u)
    (xv : Value) (m : Nat) (news : List Value) (hx : a.eval x = xv) (hl : news.length = m * size) (hlen : ∀ W, (Builtin.lenOf xv).run P W = .ok m W)
    (hfc : ∀ W : World, W.heap = w.heap → (Builtin.firstCells size m xv).run P W = .ok news.toArray W)
    (hm : 0 < m) (h63 : n + m ≤ maxLen) (hbytes : (n + m) * bytes ≤ 140737488355328)
    (h : ∀ v' w', Appended w w' e size (.slice none 0 0) v' (n + m) (xs ++ news) → wpList P ops Q rest (a.put o.dst v') w') : wpList P ops Q (o :: rest) a w := by
  obtain ⟨i, hi, hz, rfl, rfl⟩ := info_parts hinfo
  obtain ⟨v', w', hr, happ⟩ := run_append_full (P := P) t t2 o.type e d2 i z ht ht2 hd2 hi hz hzs g n xs hxl hcell xv m news hl hlen hfc hm h63 hbytes
  refine wpList_plain hgd fun K hK => ?_
  unfold Oper.wp execOp
  simp only [ho, resolve, invoke, builtin, Sem.run_bind, Sem.run_pure, Result.andThen_ok, List.map_toArray, List.map_cons, List.map_nil, hs, hx, hr]
  exact hK _ _ (h v' w' happ)
end Go.Tx
end

import Derived.Test.YtgmieehheoknbaaDoorGi
import Derived.Test.YtgmieehheoknbaaDoorGg
import Derived.Test.YtgmieehheoknbaaDoorGa
import Derived.Deep.RegionLaw
import Derived.Great.Walk
section
/-
  code.Read: a part is put into a term that is open.
-/
namespace Go.Tx
open Go Go.RowKit
theorem appended_cells {W w4 : World} {T : TypeId} {v : Value} {g4 vc i size : Nat} {xs news : List Value} (ha : Appended W w4 T size v (.slice (some ⟨g4, 0, none⟩) (i + 1) vc) (i + 1) (xs ++ news)) (hx : xs.length = i * size) : ∀ j u, news[j]? = some u → w4.cell? ⟨g4, i * size + j, none⟩ = some u := fun j u hu =>
  ha.row.cell3 (by rw [List.getElem?_append_right (by omega), hx, Nat.add_sub_cancel_left]; exact hu)
theorem put_facts {w : World} {T : TypeId} {g o i vc : Nat} {va : Option Addr} {xs : List Value} {u : Value} (hx : xs.length = i * 6) (c3 : w.cell? ⟨g, o + 3, none⟩ = some (.slice va i vc)) (f3 : w.frozen? ⟨g, o + 3, none⟩ = false) (hgv : (Value.slice va i vc).ownBlock ≠ some g) :
    ∀ (W w4 : World) (g4 vc' : Nat), Appended W w4 T 6 (.slice va i vc) (.slice (some ⟨g4, 0, none⟩) (i + 1) vc') (i + 1) (xs ++ [.int .i64 0, .int .i64 0, .string ⟨#[]⟩, .slice none 0 0, .slice none 0 0, .slice none 0 0]) → Keeps (fun _ => False) (w.setCell ⟨g, o + 6, none⟩ u) W →
      w4.cell? ⟨g4, i * 6, none⟩ = some (.int .i64 0) ∧ w4.cell? ⟨g4, i * 6 + 1, none⟩ = some (.int .i64 0) ∧ w4.cell? ⟨g4, i * 6 + 2, none⟩ = some (.string ⟨#[]⟩) ∧ w4.cell? ⟨g4, i * 6 + 3, none⟩ = some (.slice none 0 0) ∧ w4.cell? ⟨g4, i * 6 + 4, none⟩ = some (.slice none 0 0) ∧ w4.cell? ⟨g4, i * 6 + 5, none⟩ = some (.slice none 0 0) ∧
        w4.frozen? ⟨g4, i * 6, none⟩ = false ∧ w4.frozen? ⟨g4, i * 6 + 1, none⟩ = false ∧ w4.frozen? ⟨g4, i * 6 + 2, none⟩ = false ∧ w4.frozen? ⟨g4, i * 6 + 3, none⟩ = false ∧ w4.frozen? ⟨g4, i * 6 + 4, none⟩ = false ∧ w4.frozen? ⟨g4, i * 6 + 5, none⟩ = false ∧
          w4.cell? ⟨g, o + 3, none⟩ = some (.slice va i vc) ∧ w4.frozen? ⟨g, o + 3, none⟩ = false ∧ ¬ g = g4 ∧ ¬ g4 = g := by
  intro W w4 g4 vc' ha hW
  have hz := appended_cells ha hx
  have hg3 : (w.setCell ⟨g, o + 6, none⟩ u).cell? ⟨g, o + 3, none⟩ = some (.slice va i vc) := (World.cell?_setCell_other _ _ _ _ (by simp)).trans c3
  have hf3 : (w.setCell ⟨g, o + 6, none⟩ u).frozen? ⟨g, o + 3, none⟩ = false := (World.frozen?_setCell _ _ _ _).trans f3
  have hl := lt_cell hg3
  have hne : ¬ g4 = g := fun e => by
    rcases ha.own with h | ⟨h, _⟩
    · exact hgv (by rw [← h, ← e]; rfl)
    · have h2 : g4 = W.heap.size := Option.some.inj h
      have h3 := hW.size
      have h4 : g < _ := hl
      omega
  exact ⟨hz 0 _ rfl, hz 1 _ rfl, hz 2 _ rfl, hz 3 _ rfl, hz 4 _ rfl, hz 5 _ rfl, ha.row.free _, ha.row.free _, ha.row.free _, ha.row.free _, ha.row.free _, ha.row.free _, ha.keeps.cell (hW.cell hg3 fun h => h) hgv, (ha.keeps.frozen (Nat.lt_of_lt_of_le hl hW.size) hgv).trans ((hW.frozen hl fun h => h).trans hf3), fun e => hne e.symm, hne⟩
/-- the six stores of a term behind the room that was made for it -/
def six (w : World) (g i : Nat) (v0 v1 v2 v3 v4 v5 : Value) : World :=
  (((((w.setCell ⟨g, i * 6, none⟩ v0).setCell ⟨g, i * 6 + 1, none⟩ v1).setCell ⟨g, i * 6 + 2, none⟩ v2).setCell ⟨g, i * 6 + 3, none⟩ v3).setCell ⟨g, i * 6 + 4, none⟩ v4).setCell ⟨g, i * 6 + 5, none⟩ v5
theorem six_row {w : World} {T : TypeId} {g i c : Nat} {xs : List Value} {z0 z1 z2 z3 z4 z5 : Value} (v0 v1 v2 v3 v4 v5 : Value) (hx : xs.length = i * 6) (h : Row w T 6 (.slice (some ⟨g, 0, none⟩) (i + 1) c) (i + 1) (xs ++ [z0, z1, z2, z3, z4, z5])) :
    Row (six w g i v0 v1 v2 v3 v4 v5) T 6 (.slice (some ⟨g, 0, none⟩) (i + 1) c) (i + 1) (xs ++ [v0, v1, v2, v3, v4, v5]) := by
  have h5 := (World.ownsRow.stored (World.ownsRow.stored (World.ownsRow.stored (World.ownsRow.stored (World.ownsRow.stored (World.ownsRow.stored h (i * 6) v0).1 (i * 6 + 1) v1).1 (i * 6 + 2) v2).1 (i * 6 + 3) v3).1 (i * 6 + 4) v4).1 (i * 6 + 5) v5).1
  have e : ∀ (ys : List Value) (k : Nat) (v : Value), (xs ++ ys).set (i * 6 + k) v = xs ++ ys.set k v := fun ys k v => by
    rw [List.set_append, if_neg (by omega), hx, Nat.add_sub_cancel_left]
  have e0 : ∀ (ys : List Value) (v : Value), (xs ++ ys).set (i * 6) v = xs ++ ys.set 0 v := fun ys v => e ys 0 v
  rw [e0, e, e, e, e, e] at h5
  exact h5
theorem six_keeps (w : World) (g i : Nat) (v0 v1 v2 v3 v4 v5 : Value) : Keeps (fun y => y = g) w (six w g i v0 v1 v2 v3 v4 v5) :=
  Keeps.setCell (S := fun y => y = g) (Keeps.setCell (S := fun y => y = g) (Keeps.setCell (S := fun y => y = g) (Keeps.setCell (S := fun y => y = g) (Keeps.setCell (S := fun y => y = g) (Keeps.setCell (S := fun y => y = g) (Keeps.refl _ w) (fun _ => rfl) _) (fun _ => rfl) _) (fun _ => rfl) _) (fun _ => rfl) _) (fun _ => rfl) _) (fun _ => rfl) _
theorem heap_set_congr {w w' : World} {g : Nat} (h : w.heap[g]? = w'.heap[g]?) (j : Nat) (v : Value) : (w.setCell ⟨g, j, none⟩ v).heap[g]? = (w'.setCell ⟨g, j, none⟩ v).heap[g]? := by
  simp [World.setCell, Array.getElem?_modify, h]
/-- what 'put' has done, where an item was put: the row of items is longer by it; the open term's own block has its new row and number -/
def PutI (w : World) (T : TypeId) (g o n i : Nat) (vi : Value) (xs ys : List Value) (w' : World) : Prop :=
  ∃ v', Row w' T 6 v' (i + 1) (xs ++ ys) ∧ w'.heap[g]? = ((w.setCell ⟨g, o + 6, none⟩ (.int .i64 ((n : Int) - 1))).setCell ⟨g, o + 3, none⟩ v').heap[g]? ∧ Keeps (fun y => y = g ∨ vi.ownBlock = some y) w w' ∧
    (v'.ownBlock = vi.ownBlock ∨ ∃ y, v'.ownBlock = some y ∧ w.heap.size ≤ y) ∧ v'.ownBlock ≠ some g
theorem put_end {w W w4 w' : World} {T : TypeId} {g o i n vc g4 vc' : Nat} {va : Option Addr} {xs : List Value} {z0 z1 z2 z3 z4 z5 v0 v1 v2 v3 v4 v5 : Value} (hx : xs.length = i * 6) (hgl : g < w.heap.size) (hgv : (Value.slice va i vc).ownBlock ≠ some g)
    (ha : Appended W w4 T 6 (.slice va i vc) (.slice (some ⟨g4, 0, none⟩) (i + 1) vc') (i + 1) (xs ++ [z0, z1, z2, z3, z4, z5])) (hW : Keeps (fun _ => False) (w.setCell ⟨g, o + 6, none⟩ (.int .i64 ((n : Int) - 1))) W) (hne : ¬ g4 = g)
    (hw : w' = (six w4 g4 i v0 v1 v2 v3 v4 v5).setCell ⟨g, o + 3, none⟩ (.slice (some ⟨g4, 0, none⟩) (i + 1) vc') ∨ w' = six (w4.setCell ⟨g, o + 3, none⟩ (.slice (some ⟨g4, 0, none⟩) (i + 1) vc')) g4 i v0 v1 v2 v3 v4 v5) :
    PutI w T g o n i (.slice va i vc) xs [v0, v1, v2, v3, v4, v5] w' := by
  have hgl1 : g < (w.setCell ⟨g, o + 6, none⟩ (.int .i64 ((n : Int) - 1))).heap.size := by rw [World.size_setCell]; exact hgl
  have hg1 : W.heap[g]? = (w.setCell ⟨g, o + 6, none⟩ (.int .i64 ((n : Int) - 1))).heap[g]? := hW.block g hgl1 fun h => h
  have hg2 : w4.heap[g]? = W.heap[g]? := ha.keeps.block g (Nat.lt_of_lt_of_le hgl1 hW.size) hgv
  have hsz : w.heap.size ≤ W.heap.size := by have := hW.size; rwa [World.size_setCell] at this
  have hk4 : Keeps (fun y => y = g ∨ (Value.slice va i vc).ownBlock = some y) w w4 := by
    have h1 : Keeps (fun y => y = g) w W := (Keeps.put w ⟨g, o + 6, none⟩ _).trans hW fun _ _ h => h.elim
    exact (h1.mono fun _ _ h => .inl h).trans ha.keeps fun _ _ h => .inr h
  have hown : (Value.slice (some ⟨g4, 0, none⟩) (i + 1) vc').ownBlock = (Value.slice va i vc).ownBlock ∨ ∃ y, (Value.slice (some ⟨g4, 0, none⟩) (i + 1) vc').ownBlock = some y ∧ w.heap.size ≤ y := by
    rcases ha.own with h | ⟨h, _⟩
    · exact .inl h
    · exact .inr ⟨_, h, hsz⟩
  have hgy : ∀ y, y < w.heap.size → y = g4 → y = g ∨ (Value.slice va i vc).ownBlock = some y := fun y hy e => by
    subst e
    rcases ha.own with h | ⟨h, _⟩
    · exact .inr (by rw [← h]; rfl)
    · have h2 : y = W.heap.size := Option.some.inj h
      omega
  have hn : (Value.slice (some ⟨g4, 0, none⟩) (i + 1) vc').ownBlock ≠ some g := fun h => hne (Option.some.inj h)
  have hrow := six_row v0 v1 v2 v3 v4 v5 hx ha.row
  rcases hw with rfl | rfl
  · refine ⟨_, Row.setCell_other hrow hn _, heap_set_congr ?_ _ _, ?_, hown, hn⟩
    · rw [(six_keeps w4 g4 i v0 v1 v2 v3 v4 v5).block g (by have := ha.keeps.size; omega) (fun h => hne h.symm), hg2, hg1]
    · exact (hk4.trans (six_keeps w4 g4 i v0 v1 v2 v3 v4 v5) hgy).setCell (fun _ => .inl rfl) _
  · refine ⟨_, six_row v0 v1 v2 v3 v4 v5 hx (Row.setCell_other ha.row hn _), ?_, ?_, hown, hn⟩
    · rw [(six_keeps _ g4 i v0 v1 v2 v3 v4 v5).block g (by rw [World.size_setCell]; have := ha.keeps.size; omega) (fun h => hne h.symm)]
      exact heap_set_congr (hg2.trans hg1) _ _
    · exact (hk4.setCell (fun _ => .inl rfl) _).trans (six_keeps _ g4 i v0 v1 v2 v3 v4 v5) hgy
theorem put_ends {w : World} {T : TypeId} {g o i n vc : Nat} {va : Option Addr} {xs : List Value} (v0 v1 v2 v3 v4 v5 : Value) (hx : xs.length = i * 6) (hgl : g < w.heap.size) (hgv : (Value.slice va i vc).ownBlock ≠ some g) :
    ∀ (W w4 : World) (g4 vc' : Nat) (z0 z1 z2 z3 z4 z5 : Value), Appended W w4 T 6 (.slice va i vc) (.slice (some ⟨g4, 0, none⟩) (i + 1) vc') (i + 1) (xs ++ [z0, z1, z2, z3, z4, z5]) → Keeps (fun _ => False) (w.setCell ⟨g, o + 6, none⟩ (.int .i64 ((n : Int) - 1))) W → ¬ g4 = g →
      PutI w T g o n i (.slice va i vc) xs [v0, v1, v2, v3, v4, v5] (((((((w4.setCell ⟨g4, i * 6, none⟩ v0).setCell ⟨g4, i * 6 + 1, none⟩ v1).setCell ⟨g4, i * 6 + 2, none⟩ v2).setCell ⟨g4, i * 6 + 3, none⟩ v3).setCell ⟨g4, i * 6 + 4, none⟩ v4).setCell ⟨g4, i * 6 + 5, none⟩ v5).setCell ⟨g, o + 3, none⟩ (.slice (some ⟨g4, 0, none⟩) (i + 1) vc')) ∧
        PutI w T g o n i (.slice va i vc) xs [v0, v1, v2, v3, v4, v5] (((((((w4.setCell ⟨g, o + 3, none⟩ (.slice (some ⟨g4, 0, none⟩) (i + 1) vc')).setCell ⟨g4, i * 6, none⟩ v0).setCell ⟨g4, i * 6 + 1, none⟩ v1).setCell ⟨g4, i * 6 + 2, none⟩ v2).setCell ⟨g4, i * 6 + 3, none⟩ v3).setCell ⟨g4, i * 6 + 4, none⟩ v4).setCell ⟨g4, i * 6 + 5, none⟩ v5) :=
  fun _ _ _ _ _ _ _ _ _ _ ha hW hne => ⟨put_end hx hgl hgv ha hW hne (.inl rfl), put_end hx hgl hgv ha hW hne (.inr rfl)⟩
/-- a region that ends normally, in a world such as R says -/
def Reg0 (R : World → Prop) : Exit → Act → World → Prop
  | .normal, a, w => a.defers = [] ∧ R w
  | _, _, _ => False
theorem reg0 {R : World → Prop} {a : Act} {w : World} (hd : a.defers = []) (h : R w) : Reg0 R .normal a w := ⟨hd, h⟩
/-- what 'put' has done, where the rest was put -/
def PutR (w : World) (T : TypeId) (g o : Nat) (ys : List Value) (w' : World) : Prop :=
  ∃ y, Row w' T 6 (.slice (some ⟨y, 0, none⟩) 1 1) 1 ys ∧ w'.heap[g]? = ((w.setCell ⟨g, o + 4, none⟩ (.slice (some ⟨y, 0, none⟩) 1 1)).setCell ⟨g, o + 7, none⟩ (.int .i64 2)).heap[g]? ∧ Keeps (fun x => x = g) w w' ∧ w.heap.size ≤ y
/-- .. as one step of a region that draws its order -/
theorem step_append_row {P : Program} {w : World} {ops : Array Oper} {o : Oper} {a : Act} {K : Act → World → Prop} {Q : Exit → Act → World → Prop} {E : Prop} (hgd : o.guard = none) (s x : Operand) (t t2 : TypeId)
    (ho : o.op = .call { callee := .builtin .append, args := #[s, x], argTypes := #[t, t2] })
    (e : TypeId) (d2 : TypeDesc) (size bytes : Nat) (z : Value) (hinfo : (P.info? e).map (fun i => (i.zero, i.size, i.bytes)) = some (some z, size, bytes))
    (ht : P.underlying t = some (.slice e)) (ht2 : P.underlying t2 = some d2) (hd2 : ∀ k, d2 ≠ .int k) (hzs : z.cells.size = size)
    (v : Value) (n : Nat) (xs : List Value) (hs : a.eval s = v) (hrow : Row w e size v n xs)
    (xv : Value) (m : Nat) (news : List Value) (hx : a.eval x = xv) (hl : news.length = m * size) (hlen : ∀ W, (Builtin.lenOf xv).run P W = .ok m W)
    (hfc : ∀ W : World, W.heap = w.heap → (Builtin.firstCells size m xv).run P W = .ok news.toArray W)
    (h1 : ∀ u ∈ news, u.oneCell' = true) (h63 : n + m ≤ maxLen) (hbytes : (n + m) * bytes ≤ 140737488355328)
    (h : ∀ v' w', Appended w w' e size v v' (n + m) (xs ++ news) → K (a.put o.dst v') w') :
    if Region.wanted o (yielded ops a.tmps) = true then Oper.wp P o a w K Q else E := by
  rw [if_pos (by simp [Region.wanted, hgd])]
  obtain ⟨i, hi, hz, rfl, rfl⟩ := info_parts hinfo
  obtain ⟨v', w', hr, happ⟩ := run_append_row (P := P) w t t2 o.type e d2 i z ht ht2 hd2 hi hz hzs v n xs hrow xv m news hl hlen hfc h1 h63 hbytes
  unfold Oper.wp execOp
  simp only [ho, resolve, invoke, builtin, Sem.run_bind, Sem.run_pure, Result.andThen_ok, List.map_toArray, List.map_cons, List.map_nil, hs, hx, hr]
  exact h v' w' happ
end Go.Tx
namespace Go.Proofs.YtgmieehheoknbaaDoor
open Go.RowKit Go.Tx
set_option maxRecDepth 100000 in
set_option maxHeartbeats 6400000 in
theorem put_item {w : World} {g o n i : Nat} {kk nn : Int} {nm : ByteArray} {a3 a4 a5 : Option Addr} {l3 k3 l4 k4 l5 k5 : Nat} {va : Option Addr} {vc : Nat} {xs : List Value} (c6 : w.cell? ⟨g, o + 6, none⟩ = some (.int .i64 (n : Nat))) (hn : 0 < n) (hn2 : n ≤ 9223372036854775807) (f6 : w.frozen? ⟨g, o + 6, none⟩ = false)
    (c3 : w.cell? ⟨g, o + 3, none⟩ = some (.slice va i vc)) (f3 : w.frozen? ⟨g, o + 3, none⟩ = false) (hr : Row w 46 6 (.slice va i vc) i xs) (hgv : (Value.slice va i vc).ownBlock ≠ some g) (hi : i < 1099511627776)
    :
    Calls Tryd.prog 53 #[.pointer (some ⟨g, o, none⟩), .agg #[.int .i64 kk, .int .i64 nn, .string nm, .slice a3 l3 k3, .slice a4 l4 k4, .slice a5 l5 k5]] w fun e w' => e = .returned (.tuple #[]) ∧ PutI w 46 g o n i (.slice va i vc) xs [.int .i64 kk, .int .i64 nn, .string nm, .slice a3 l3 k3, .slice a4 l4 k4, .slice a5 l5 k5] w' := by
  have g1 : decide (0 < n) = true := decide_eq_true hn
  have g2 : wrap64 ((n : Int) - 1) = ((n : Int) - 1) := by unfold wrap64; omega
  have hg := lt_cell c6
  have HR := Lib.hid hr
  have hgv2 : ∀ y, (Value.slice va i vc).ownBlock = some y → ¬ y = g := fun y hy e => hgv (e ▸ hy)
  have HGV := Lib.hid hgv2
  have hvc : i ≤ vc ∧ vc ≤ 9223372036854775807 := by
    obtain ⟨a, c, e, h1, h2⟩ := hr.len
    simp only [Value.slice.injEq] at e
    obtain ⟨_, _, rfl⟩ := e
    unfold maxLen at h2
    exact ⟨h1, h2⟩
  have HX := Lib.hid hr.1
  have hii : (i : Int) < (i : Int) + 1 := by omega
  have HKP : Hid (Keeps (fun y => y = g) w (w.setCell ⟨g, o + 6, none⟩ (.int .i64 ((n : Int) - 1)))) := Lib.hid (Keeps.put w ⟨g, o + 6, none⟩ _)
  have PF := Lib.hid (put_facts (T := 46) (u := .int .i64 ((n : Int) - 1)) hr.1 c3 f3 hgv)
  have PE := Lib.hid (put_ends (T := 46) (n := n) (o := o) (.int .i64 kk) (.int .i64 nn) (.string nm) (.slice a3 l3 k3) (.slice a4 l4 k4) (.slice a5 l5 k5) hr.1 hg hgv)
  clear hr hgv hgv2
  go_enter Tryd.func53, Tryd.ntmps53
  go_wp2
  refine Code.wp_mono (Q := Reg0 (PutI w 46 g o n i (.slice va i vc) xs [.int .i64 kk, .int .i64 nn, .string nm, .slice a3 l3 k3, .slice a4 l4 k4, .slice a5 l5 k5])) ?_ ?_
  · intro e a w' hq
    cases e <;> first | exact hq.elim | skip
    obtain ⟨hd, hp⟩ := hq
    have HP := Lib.hid hp
    clear hp
    go_wp2
    exact bodyPost_ret (results_none rfl _ _ _) hd ⟨rfl, HP.out⟩
  · go_region_law (refine step_append_row rfl _ _ 22 22 rfl 46 (.slice 46) 6 104 (.agg #[.int .i64 0, .int .i64 0, .string ByteArray.empty, .slice none 0 0, .slice none 0 0, .slice none 0 0]) info_terms Tryd.underlying22 Tryd.underlying22 (by intro k h; cases h) rfl (.slice va i vc) i xs rfl (HR.out.keeps (S := fun y => y = g) (by repeat (first | with_reducible exact Keeps.refl _ _ | with_reducible apply Keeps.drew | with_reducible apply Keeps.alloc | with_reducible exact HKP.out)) HGV.out) _ 1 zeroT rfl rfl (lenOf_slice _ _ _) (firstCells_at _ rfl (cells_newAt (by simp))) (by decide) (by unfold maxLen; omega) (by omega) ?_; intro v' w4 ha; obtain ⟨g4, vc', rfl, _, _⟩ := ha.row.form (Nat.succ_pos _); obtain ⟨z0, z1, z2, z3, z4, z5, q0, q1, q2, q3, q4, q5, c3', f3', n1, n2⟩ := PF.out _ _ _ _ ha (by repeat (first | with_reducible exact Keeps.refl _ _ | with_reducible apply Keeps.drew | with_reducible apply Keeps.alloc)); have HA := Lib.hid ha; clear ha)
    all_goals (have pe := PE.out _ _ _ _ _ _ _ _ _ _ HA.out (by repeat (first | with_reducible exact Keeps.refl _ _ | with_reducible apply Keeps.drew | with_reducible apply Keeps.alloc)) n2)
    all_goals clear PF PE HA
    all_goals refine reg0 rfl ?_
    all_goals first | with_reducible exact pe.1 | with_reducible exact pe.2
set_option maxRecDepth 100000 in
set_option maxHeartbeats 1600000 in
theorem put_rest {w : World} {g o : Nat} {kk nn : Int} {nm : ByteArray} {a3 a4 a5 b4 : Option Addr} {l3 k3 l4 k4 l5 k5 m4 n4 : Nat} (c6 : w.cell? ⟨g, o + 6, none⟩ = some (.int .i64 (0 : Nat))) (c4 : w.cell? ⟨g, o + 4, none⟩ = some (.slice b4 m4 n4)) (f4 : w.frozen? ⟨g, o + 4, none⟩ = false) {t : Nat} (c7 : w.cell? ⟨g, o + 7, none⟩ = some (.int .i64 t)) (f7 : w.frozen? ⟨g, o + 7, none⟩ = false) :
    Calls Tryd.prog 53 #[.pointer (some ⟨g, o, none⟩), .agg #[.int .i64 kk, .int .i64 nn, .string nm, .slice a3 l3 k3, .slice a4 l4 k4, .slice a5 l5 k5]] w fun e w' => e = .returned (.tuple #[]) ∧
      PutR w 46 g o [.int .i64 kk, .int .i64 nn, .string nm, .slice a3 l3 k3, .slice a4 l4 k4, .slice a5 l5 k5] w' := by
  have hg := lt_cell c6
  go_enter Tryd.func53, Tryd.ntmps53
  go_wp2
  refine Go.Great.bodyPost_end0 rfl rfl ⟨rfl, w.heap.size + 1, ?_, ?_, ?_, Nat.le_succ _⟩
  · have h1 := World.ownsRow_lit (base := 0) (e := 46) (size := 6) (((w.setCell ⟨g, o + 4, none⟩ (.slice (some ⟨w.heap.size + 1, 0, none⟩) 1 1)).setCell ⟨g, o + 7, none⟩ (.int .i64 2)).alloc (.cells #[.int .i64 kk, .int .i64 nn, .string nm, .slice a3 l3 k3, .slice a4 l4 k4, .slice a5 l5 k5] 46)) #[.int .i64 kk, .int .i64 nn, .string nm, .slice a3 l3 k3, .slice a4 l4 k4, .slice a5 l5 k5] 1 (Nat.zero_le _) (by decide) rfl
    simpa using h1
  · rw [Below.heap_alloc _ _ _ (by simp; omega), Below.heap_alloc _ _ _ (by simp; omega)]
  · exact (((Keeps.put w ⟨g, o + 4, none⟩ _).trans (Keeps.put _ ⟨g, o + 7, none⟩ _) fun _ _ h => h).alloc _).alloc _
end Go.Proofs.YtgmieehheoknbaaDoor
end
section
/-
  code.Read: the stack of open terms, in memory.
-/
namespace Go.Tx
open Go Go.RowKit
/-- a slice of terms that grows: its terms lie in S, its own block does not -/
def TsAt (T : TypeId) (w : World) (S : Nat → Prop) (d : Nat) (v : Value) (l : List Tm) : Prop :=
  ∃ ps : List (Tm × Value × Value × Value), ps.map (·.1) = l ∧ Row w T 6 v l.length (rowCells ps) ∧ (∀ p ∈ ps, TmD w S d (p.1.val p.2.1 p.2.2.1 p.2.2.2) p.1) ∧ ∀ g, v.ownBlock = some g → ¬ S g
section
variable {T TO : TypeId} {w w' : World} {S S' E U : Nat → Prop} {d d' N : Nat} {v l : Value}
theorem TsAt.keeps {is : List Tm} (h : TsAt T w S d v is) (k : Keeps U w w') (hS : ∀ g, S g → ¬ U g) (hv : ∀ g, v.ownBlock = some g → ¬ U g) : TsAt T w' S d v is := by
  obtain ⟨ps, h1, h2, h3, h4⟩ := h
  exact ⟨ps, h1, h2.keeps k hv, fun p hp => (h3 p hp).keeps k hS, h4⟩
theorem TsAt.wide {is : List Tm} (h : TsAt T w S d v is) (hS : ∀ g, S g → S' g) (hv : ∀ g, v.ownBlock = some g → ¬ S' g) : TsAt T w S' d v is := by
  obtain ⟨ps, h1, h2, h3, h4⟩ := h
  exact ⟨ps, h1, h2, fun p hp => (h3 p hp).mono hS fun _ _ _ _ h => h, hv⟩
theorem TsAt.deep {is : List Tm} (h : TsAt T w S d v is) (hd : d ≤ d') : TsAt T w S d' v is := by
  obtain ⟨ps, h1, h2, h3, h4⟩ := h
  exact ⟨ps, h1, h2, fun p hp => (h3 p hp).deep hd, h4⟩
theorem TsAt.nil (T : TypeId) (w : World) (S : Nat → Prop) (d : Nat) : TsAt T w S d (.slice none 0 0) [] :=
  ⟨[], rfl, World.ownsRow_nil _ _ _ _, fun p hp => by simp at hp, fun g hg => by simp [Value.ownBlock] at hg⟩
theorem RowD.deeper {is : List Tm} (h : RowD w S (TmD w S d) v is) (hd : d ≤ d') : RowD w S (TmD w S d') v is :=
  h.mono (fun _ h => h) (fun _ _ _ _ h => h) fun _ _ h => h.deep hd
theorem RowD.wide {is : List Tm} (h : RowD w S (TmD w S d) v is) (hS : ∀ g, S g → S' g) : RowD w S' (TmD w S' d) v is :=
  h.mono hS (fun _ _ _ _ h => h) fun _ _ h => h.mono hS fun _ _ _ _ h => h
theorem RowD.nil (w : World) (S : Nat → Prop) (R : Value → Tm → Prop) : RowD w S R (.slice none 0 0) [] :=
  ⟨by simp, none, 0, rfl, Nat.le_refl _, Nat.zero_le _, fun i t h => by simp at h⟩
theorem BytesD.wide {s : ByteArray} (h : BytesD w S v s) (hS : ∀ g, S g → S' g) : BytesD w S' v s := h.mono hS fun _ _ _ _ h => h
/-- a slice that grows no more -/
theorem TsAt.done {is : List Tm} (h : TsAt T w S d v is) (hl : is.length ≤ 140737488355328) (hS : ∀ g, S g → S' g) (hv : ∀ g, v.ownBlock = some g → S' g) : RowD w S' (TmD w S' d) v is := by
  obtain ⟨ps, hps, hrow, hts, _⟩ := h
  obtain ⟨a, cap, rfl, h1, h2⟩ := hrow.len
  refine ⟨hl, a, cap, rfl, h1, h2, fun i t ht => ?_⟩
  have hi : i < is.length := (List.getElem?_eq_some_iff.1 ht).1
  obtain ⟨g, c2, e, _, _⟩ := hrow.form (by omega)
  cases e
  have hlen : ps.length = is.length := by rw [← hps, List.length_map]
  obtain ⟨p, hp⟩ : ∃ p, ps[i]? = some p := ⟨ps[i], by simp⟩
  have hpt : p.1 = t := by
    have h := ht
    rw [← hps, List.getElem?_map, hp] at h
    simpa using h
  subst hpt
  have hc : ∀ j u, (tcells p)[j]? = some u → w.cell? ⟨g, 0 + i * 6 + j, none⟩ = some u := fun j u hu => by
    rw [Nat.zero_add]
    exact hrow.cell3 (rowCells_get ps i p hp j u hu)
  exact ⟨g, 0, p.2.1, p.2.2.1, p.2.2.2, rfl, hv g rfl, ⟨hc 0 _ rfl, hc 1 _ rfl, hc 2 _ rfl, hc 3 _ rfl, hc 4 _ rfl, hc 5 _ rfl⟩, (hts p (List.mem_of_getElem? hp)).mono hS fun _ _ _ _ h => h⟩
/-- an open term, and the values of its slices -/
abbrev Qf := Fr × Value × Value × Value
/-- its cells -/
def fc (q : Qf) : List Value := [.int .i64 q.1.kind, .int .i64 q.1.n, .string q.1.name, q.2.1, q.2.2.1, q.2.2.2, .int .i64 q.1.left, .int .i64 q.1.st]
/-- the stack's cells; the topmost open term stands first in the list, last in memory -/
def stRow (qs : List Qf) : List Value := qs.reverse.flatMap fc
theorem stRow_cons (q : Qf) (qs : List Qf) : stRow (q :: qs) = stRow qs ++ fc q := by simp [stRow]
theorem stRow_length : ∀ qs : List Qf, (stRow qs).length = qs.length * 8
  | [] => rfl
  | q :: qs => by rw [stRow_cons, List.length_append, stRow_length qs, List.length_cons]; simp [fc]; omega
theorem stRow_cell {q : Qf} {qs : List Qf} {j : Nat} {u : Value} (h : (fc q)[j]? = some u) : (stRow (q :: qs))[qs.length * 8 + j]? = some u := by
  rw [stRow_cons, List.getElem?_append_right (by rw [stRow_length]; omega), stRow_length, Nat.add_sub_cancel_left]
  exact h
theorem stRow_set (q : Qf) (qs : List Qf) (j : Nat) (u : Value) : (stRow qs ++ fc q).set (qs.length * 8 + j) u = stRow qs ++ (fc q).set j u := by
  rw [List.set_append, if_neg (by rw [stRow_length]; omega), stRow_length, Nat.add_sub_cancel_left]
structure FrAt (T : TypeId) (w : World) (S : Nat → Prop) (N : Nat) (q : Qf) : Prop where
  mem : ∃ d, TsAt T w S d q.2.1 q.1.items ∧ RowD w S (TmD w S d) q.2.2.1 q.1.rest ∧ BytesD w S q.2.2.2 q.1.bytes
  kind : q.1.kind < 256
  n1 : -9223372036854775808 ≤ q.1.n
  n2 : q.1.n ≤ 9223372036854775807
  name : q.1.name.size ≤ 1099511627776
  left : q.1.items.length + q.1.left ≤ N
theorem FrAt.keeps {q : Qf} (h : FrAt T w S N q) (k : Keeps U w w') (hS : ∀ g, S g → ¬ U g) (hv : ∀ g, q.2.1.ownBlock = some g → ¬ U g) : FrAt T w' S N q := by
  obtain ⟨⟨d, h1, h2, h3⟩, k1, k2, k3, k4, k5⟩ := h
  exact ⟨⟨d, h1.keeps k hS hv, h2.keeps k hS, h3.keeps k hS⟩, k1, k2, k3, k4, k5⟩
theorem FrAt.wide {q : Qf} (h : FrAt T w S N q) (hS : ∀ g, S g → S' g) (hv : ∀ g, q.2.1.ownBlock = some g → ¬ S' g) : FrAt T w S' N q := by
  obtain ⟨⟨d, h1, h2, h3⟩, k1, k2, k3, k4, k5⟩ := h
  exact ⟨⟨d, h1.wide hS hv, h2.wide hS, h3.wide hS⟩, k1, k2, k3, k4, k5⟩
/-- no two of them share a block for their items -/
def Dist : List Qf → Prop
  | [] => True
  | q :: qs => (∀ r ∈ qs, ∀ g, q.2.1.ownBlock = some g → r.2.1.ownBlock ≠ some g) ∧ Dist qs
structure StAt (T TO : TypeId) (w : World) (S E : Nat → Prop) (N : Nat) (l : Value) (qs : List Qf) : Prop where
  row : Row w TO 8 l qs.length (stRow qs)
  frs : ∀ q ∈ qs, FrAt T w S N q
  dist : Dist qs
  lown : ∀ g, l.ownBlock = some g → ¬ S g ∧ ¬ E g ∧ ∀ q ∈ qs, q.2.1.ownBlock ≠ some g
  vown : ∀ q ∈ qs, ∀ g, q.2.1.ownBlock = some g → ¬ E g ∧ ¬ S g ∧ g < w.heap.size
  sE : ∀ x, S x → ¬ E x ∧ x < w.heap.size
theorem StAt.keeps {qs : List Qf} (h : StAt T TO w S E N l qs) (k : Keeps U w w') (hU : ∀ x, x < w.heap.size → U x → E x) : StAt T TO w' S E N l qs := by
  have hv : ∀ q ∈ qs, ∀ g, q.2.1.ownBlock = some g → ¬ U g := fun q hq g hg hu => (h.vown q hq g hg).1 (hU g (h.vown q hq g hg).2.2 hu)
  have hS : ∀ g, S g → ¬ U g := fun g hg hu => (h.sE g hg).1 (hU g (h.sE g hg).2 hu)
  exact ⟨h.row.keeps k fun g hg hu => (h.lown g hg).2.1 (hU g (h.row.lt hg) hu), fun q hq => (h.frs q hq).keeps k hS (hv q hq), h.dist, h.lown, fun q hq g hg => ⟨(h.vown q hq g hg).1, (h.vown q hq g hg).2.1, Nat.lt_of_lt_of_le (h.vown q hq g hg).2.2 k.size⟩, fun x hx => ⟨(h.sE x hx).1, Nat.lt_of_lt_of_le (h.sE x hx).2 k.size⟩⟩
/-- more blocks hold what is finished; other blocks are kept free -/
theorem StAt.wide {qs : List Qf} {E' : Nat → Prop} (h : StAt T TO w S E N l qs) (hS : ∀ g, S g → S' g) (hl : ∀ g, l.ownBlock = some g → ¬ S' g ∧ ¬ E' g) (hv : ∀ q ∈ qs, ∀ g, q.2.1.ownBlock = some g → ¬ S' g ∧ ¬ E' g) (hx : ∀ x, S' x → ¬ E' x ∧ x < w.heap.size) : StAt T TO w S' E' N l qs :=
  ⟨h.row, fun q hq => (h.frs q hq).wide hS fun g hg => (hv q hq g hg).1, h.dist, fun g hg => ⟨(hl g hg).1, (hl g hg).2, (h.lown g hg).2.2⟩, fun q hq g hg => ⟨(hv q hq g hg).2, (hv q hq g hg).1, (h.vown q hq g hg).2.2⟩, hx⟩
theorem StAt.nil (T TO : TypeId) (w : World) (E : Nat → Prop) (N : Nat) : StAt T TO w (fun _ => False) E N (.slice none 0 0) [] :=
  ⟨World.ownsRow_nil _ _ _ _, fun q hq => by simp at hq, True.intro, fun g hg => by simp [Value.ownBlock] at hg, fun q hq => by simp at hq, fun x hx => hx.elim⟩
theorem Row.of_block {e : TypeId} {size n : Nat} {xs : List Value} (h : Row w e size v n xs) (hb : ∀ g, v.ownBlock = some g → w'.heap[g]? = w.heap[g]?) : Row w' e size v n xs := by
  refine ⟨h.1, ?_⟩
  rcases h.2 with hn | ⟨g, cap, cur, rfl, hz, hgg, rest⟩
  · exact .inl hn
  · exact .inr ⟨g, cap, cur, rfl, hz, (hb g rfl).trans hgg, rest⟩
/-- one open term more -/
theorem StAt.push {qs : List Qf} {q : Qf} {W w4 : World} {l' : Value} (h : StAt T TO W S E N l qs) (ha : Appended W w4 TO 8 l l' (qs.length + 1) (stRow qs ++ fc q)) (hq : FrAt T W S N q) (hi : q.2.1.ownBlock = none) (hE : ∀ x, E x → x < W.heap.size) : StAt T TO w4 S E N l' (q :: qs) := by
  have hsz := ha.keeps.size
  have hq4 : ∀ r ∈ q :: qs, ∀ g, r.2.1.ownBlock = some g → ¬ E g ∧ ¬ S g ∧ g < W.heap.size := fun r hr g hg => by
    rcases List.mem_cons.1 hr with rfl | hr
    · rw [hi] at hg; cases hg
    · exact h.vown r hr g hg
  have hlv : ∀ r ∈ q :: qs, ∀ g, l.ownBlock = some g → r.2.1.ownBlock ≠ some g := fun r hr g hg => by
    rcases List.mem_cons.1 hr with rfl | hr
    · rw [hi]; intro h; cases h
    · exact (h.lown g hg).2.2 r hr
  refine ⟨by rw [stRow_cons]; exact ha.row, ?_, ⟨fun r _ g hg => (by rw [hi] at hg; cases hg), h.dist⟩, ?_, ?_, ?_⟩
  · intro r hr
    have hr0 : FrAt T W S N r := by
      rcases List.mem_cons.1 hr with rfl | hr
      · exact hq
      · exact h.frs r hr
    exact hr0.keeps ha.keeps (fun g hs ho => (h.lown g ho).1 hs) fun g hg ho => hlv r hr g ho hg
  · intro g hg
    rcases ha.own with e | ⟨e, _⟩
    · rw [e] at hg
      exact ⟨(h.lown g hg).1, (h.lown g hg).2.1, fun r hr => hlv r hr g hg⟩
    · rw [e] at hg
      have hgw : W.heap.size = g := Option.some.inj hg
      refine ⟨fun hs => ?_, fun he => ?_, fun r hr hg2 => ?_⟩
      · have := (h.sE g hs).2; omega
      · have := hE g he; omega
      · have := (hq4 r hr g hg2).2.2; omega
  · intro r hr g hg
    exact ⟨(hq4 r hr g hg).1, (hq4 r hr g hg).2.1, Nat.lt_of_lt_of_le (hq4 r hr g hg).2.2 hsz⟩
  · intro x hx
    exact ⟨(h.sE x hx).1, Nat.lt_of_lt_of_le (h.sE x hx).2 hsz⟩
/-- the topmost open term is taken off -/
theorem StAt.pop {qs : List Qf} {q : Qf} {g c : Nat} (h : StAt T TO w S E N (.slice (some ⟨g, 0, none⟩) (qs.length + 1) c) (q :: qs)) : StAt T TO w S E N (.slice (some ⟨g, 0, none⟩) qs.length c) qs := by
  have hr := Row.cut (k := qs.length) h.row (by simp)
  rw [stRow_cons, List.take_append_of_le_length (by rw [stRow_length]; exact Nat.le_refl _), List.take_of_length_le (by rw [stRow_length]; exact Nat.le_refl _)] at hr
  exact ⟨hr, fun r hr => h.frs r (List.mem_cons_of_mem _ hr), h.dist.2, fun y hy => ⟨(h.lown y hy).1, (h.lown y hy).2.1, fun r hr => (h.lown y hy).2.2 r (List.mem_cons_of_mem _ hr)⟩, fun r hr => h.vown r (List.mem_cons_of_mem _ hr), h.sE⟩
/-- .. as a term -/
theorem FrAt.term {q : Qf} (h : FrAt T w S N q) (hN : N ≤ 140737488355328) (hS : ∀ g, S g → S' g) (hv : ∀ g, q.2.1.ownBlock = some g → S' g) : ∃ d, TmD w S' d (q.1.tm.val q.2.1 q.2.2.1 q.2.2.2) q.1.tm := by
  obtain ⟨⟨d, h1, h2, h3⟩, k1, k2, k3, k4, k5⟩ := h
  exact ⟨d + 1, _, _, _, rfl, ⟨by show (-9223372036854775808 : Int) ≤ (q.1.kind : Int); omega, by show (q.1.kind : Int) ≤ 9223372036854775807; omega, k2, k3⟩, Nat.le_trans k4 (by decide), h1.done (by omega) hS hv, h2.wide hS, h3.wide hS⟩
/-- the state of its rest is set -/
theorem StAt.set7 {qs : List Qf} {q : Qf} {g c st : Nat} (h : StAt T TO w S E N (.slice (some ⟨g, 0, none⟩) (qs.length + 1) c) (q :: qs)) : StAt T TO (w.setCell ⟨g, qs.length * 8 + 7, none⟩ (.int .i64 st)) S E N (.slice (some ⟨g, 0, none⟩) (qs.length + 1) c) (({ q.1 with st := st }, q.2) :: qs) := by
  have hr := (World.ownsRow.stored h.row (qs.length * 8 + 7) (.int .i64 st)).1
  rw [stRow_cons, stRow_set] at hr
  have hk : Keeps (fun y => y = g) w (w.setCell ⟨g, qs.length * 8 + 7, none⟩ (.int .i64 st)) := Keeps.put w ⟨g, qs.length * 8 + 7, none⟩ _
  have hg := h.lown g rfl
  have hS : ∀ x, S x → ¬ x = g := fun x hx e => hg.1 (e ▸ hx)
  refine ⟨by rw [stRow_cons]; exact hr, ?_, ⟨h.dist.1, h.dist.2⟩, ?_, ?_, ?_⟩
  · intro r hr
    rcases List.mem_cons.1 hr with rfl | hr
    · have hq := (h.frs q (List.mem_cons_self ..)).keeps hk hS fun x hx e => hg.2.2 q (List.mem_cons_self ..) (e ▸ hx)
      exact ⟨hq.mem, hq.kind, hq.n1, hq.n2, hq.name, hq.left⟩
    · exact (h.frs r (List.mem_cons_of_mem _ hr)).keeps hk hS fun x hx e => hg.2.2 r (List.mem_cons_of_mem _ hr) (e ▸ hx)
  · intro y hy
    refine ⟨(h.lown y hy).1, (h.lown y hy).2.1, fun r hr => ?_⟩
    rcases List.mem_cons.1 hr with rfl | hr
    · exact (h.lown y hy).2.2 q (List.mem_cons_self ..)
    · exact (h.lown y hy).2.2 r (List.mem_cons_of_mem _ hr)
  · intro r hr y hy
    rw [World.size_setCell]
    rcases List.mem_cons.1 hr with rfl | hr
    · exact h.vown q (List.mem_cons_self ..) y hy
    · exact h.vown r (List.mem_cons_of_mem _ hr) y hy
  · intro x hx
    rw [World.size_setCell]
    exact h.sE x hx
end
end Go.Tx
end
section
/-
  code.Read: 'more' and 'put' at the stack of open terms.
-/
namespace Go.Tx
open Go Go.RowKit
/-- what 'more' does at the topmost open term -/
def MoreP (T TO : TypeId) (w : World) (S E : Nat → Prop) (N : Nat) (l : Value) (F b : Nat) (v : Value) (s : List UInt8) (p : Nat) (q : Qf) (qs : List Qf) (e : Ending) (w' : World) : Prop :=
  (∃ st p2, e = .returned (.bool true) ∧ after F q.1 (qs.map (·.1)) (s.drop p) = resume F ({ q.1 with st := st } :: qs.map (·.1)) (s.drop p2) ∧ StAt T TO w' S E N l (({ q.1 with st := st }, q.2) :: qs) ∧ RdAt w' b v s p2 ∧ p ≤ p2 ∧ Keeps (fun x => x = b ∨ l.ownBlock = some x) w w') ∨
    (∃ st p2, e = .returned (.bool false) ∧ after F q.1 (qs.map (·.1)) (s.drop p) = unwind F (qs.map (·.1)) q.1.tm (s.drop p2) ∧ StAt T TO w' S E N l (({ q.1 with st := st }, q.2) :: qs) ∧ RdAt w' b v s p2 ∧ p ≤ p2 ∧ Keeps (fun x => x = b ∨ l.ownBlock = some x) w w') ∨
    ∃ l0 c k E0, after F q.1 (qs.map (·.1)) (s.drop p) = .error (l0, c, k) ∧ e = .panicked [{ v := E0, recovered := false }] ∧ GaveUp w b (s.length - l0) c k (.panicked [{ v := E0, recovered := false }]) w'
theorem more_panic {T TO : TypeId} {w w' : World} {S E : Nat → Prop} {N l0 k0 F b p : Nat} {l v : Value} {c : List (ByteArray × Int)} {k : Int} {s : List UInt8} {q : Qf} {qs : List Qf} {e : Ending} (h : GaveUp w b k0 c k e w') (hk : k0 = s.length - l0) (ha : after F q.1 (qs.map (·.1)) (s.drop p) = .error (l0, c, k)) : MoreP T TO w S E N l F b v s p q qs e w' := by
  subst hk
  obtain ⟨E0, rfl, h1, h2⟩ := h
  exact .inr (.inr ⟨l0, c, k, E0, ha, rfl, E0, rfl, h1, h2⟩)
end Go.Tx
namespace Go.Proofs.YtgmieehheoknbaaDoor
open Go.RowKit Go.Tx
theorem more_stack {w : World} {S E : Nat → Prop} {N F b g c : Nat} {v : Value} {s : List UInt8} {p : Nat} {q : Qf} {qs : List Qf} {TO : TypeId} (h : StAt 46 TO w S E N (.slice (some ⟨g, 0, none⟩) (qs.length + 1) c) (q :: qs)) (hr : RdAt w b v s p) (hb : E b) (hv : ∀ x, v.ownBlock = some x → E x) :
    Calls Tryd.prog 52 #[.pointer (some ⟨b, 0, none⟩), .pointer (some ⟨g, qs.length * 8, none⟩)] w (MoreP 46 TO w S E N (.slice (some ⟨g, 0, none⟩) (qs.length + 1) c) F b v s p q qs) := by
  have hgb : g ≠ b := fun e => (h.lown g rfl).2.1 (e ▸ hb)
  have hc : ∀ j u, (fc q)[j]? = some u → w.cell? ⟨g, qs.length * 8 + j, none⟩ = some u := fun j u hu => h.row.cell3 (stRow_cell hu)
  have hfree : ∀ j, w.frozen? ⟨g, j, none⟩ = false := fun j => h.row.free j
  have hset : ∀ (w1 : World) (st : Nat), RdAt w1 b v s (p + 1) → Keeps (fun y => y = b) w w1 → StAt 46 TO (w1.setCell ⟨g, qs.length * 8 + 7, none⟩ (.int .i64 st)) S E N (.slice (some ⟨g, 0, none⟩) (qs.length + 1) c) (({ q.1 with st := st }, q.2) :: qs) ∧ RdAt (w1.setCell ⟨g, qs.length * 8 + 7, none⟩ (.int .i64 st)) b v s (p + 1) ∧
      Keeps (fun x => x = b ∨ (Value.slice (some ⟨g, 0, none⟩) (qs.length + 1) c).ownBlock = some x) w (w1.setCell ⟨g, qs.length * 8 + 7, none⟩ (.int .i64 st)) := fun w1 st h1 hk => by
    have h2 : StAt 46 TO w1 S E N (.slice (some ⟨g, 0, none⟩) (qs.length + 1) c) (q :: qs) := h.keeps hk fun x _ e => e ▸ hb
    have hkp : Keeps (fun y => y = g) w1 (w1.setCell ⟨g, qs.length * 8 + 7, none⟩ (.int .i64 st)) := Keeps.put w1 ⟨g, qs.length * 8 + 7, none⟩ _
    refine ⟨h2.set7, h1.keeps hkp (fun e => hgb e.symm) fun y hy e => (h.lown g rfl).2.1 (hv g (e ▸ hy)), ?_⟩
    exact (hk.mono fun _ _ h => .inl h).trans hkp fun x _ e => .inr (by subst e; rfl)
  by_cases hl : 0 < q.1.left
  · refine (more_yes hl (hc 6 _ rfl)).mono ?_
    rintro e w' ⟨rfl, rfl⟩
    exact .inl ⟨q.1.st, p, rfl, after_more (n := q.1.left - 1) (by omega), h, hr, Nat.le_refl _, Keeps.refl _ _⟩
  · have hl0 : q.1.left = 0 := by omega
    have c6 : w.cell? ⟨g, qs.length * 8 + 6, none⟩ = some (.int .i64 (0 : Nat)) := by rw [hc 6 _ rfl, hl0]
    by_cases hk : q.1.kind = 7
    · have c0 : w.cell? ⟨g, qs.length * 8, none⟩ = some (.int .i64 (7 : Nat)) := by rw [show (⟨g, qs.length * 8, none⟩ : Addr) = ⟨g, qs.length * 8 + 0, none⟩ from rfl, hc 0 _ rfl, hk]
      by_cases hs : q.1.st = 0
      · have c7 : w.cell? ⟨g, qs.length * 8 + 7, none⟩ = some (.int .i64 (0 : Nat)) := by rw [hc 7 _ rfl, hs]
        cases hx : s[p]? with
        | none =>
          have hp : p = s.length := by have := hr.2.2.1; have := List.getElem?_eq_none_iff.1 hx; omega
          refine (more_end hr hx c0 c6 c7).mono ?_
          intro e w' hg
          exact more_panic hg (l0 := 0) (by omega) (by rw [hp, List.drop_length]; exact after_end hl0 ⟨hk, hs⟩)
        | some x =>
          by_cases hx0 : x.toNat = 0
          · refine (more_none hr hx hx0 hgb c0 c6 c7 (hfree _)).mono ?_
            rintro e w' ⟨w1, rfl, rfl, h1, hk1⟩
            obtain ⟨h2, h3, h4⟩ := hset w1 2 h1 hk1
            exact .inr (.inl ⟨2, p + 1, rfl, by rw [rdrop_cons hx]; exact after_none hl0 ⟨hk, hs⟩ hx0, h2, h3, Nat.le_succ _, h4⟩)
          · by_cases hx1 : x.toNat = 1
            · refine (more_one hr hx hx1 hgb c0 c6 c7 (hfree _)).mono ?_
              rintro e w' ⟨w1, rfl, rfl, h1, hk1⟩
              obtain ⟨h2, h3, h4⟩ := hset w1 1 h1 hk1
              exact .inl ⟨1, p + 1, rfl, by rw [rdrop_cons hx]; exact after_rest hl0 ⟨hk, hs⟩ hx1, h2, h3, Nat.le_succ _, h4⟩
            · refine (more_bad hr hx hx0 hx1 c0 c6 c7).mono ?_
              intro e w' hg
              have hpl := (List.getElem?_eq_some_iff.1 hx).1
              exact more_panic hg (l0 := (s.drop (p + 1)).length + 1) (by rw [List.length_drop]; omega) (by rw [rdrop_cons hx]; exact after_bad hl0 ⟨hk, hs⟩ hx0 hx1)
      · refine (more_known hs c0 c6 (hc 7 _ rfl)).mono ?_
        rintro e w' ⟨rfl, rfl⟩
        exact .inr (.inl ⟨q.1.st, p, rfl, after_done hl0 (fun h => hs h.2), h, hr, Nat.le_refl _, Keeps.refl _ _⟩)
    · refine (more_leaf hk (by rw [show (⟨g, qs.length * 8, none⟩ : Addr) = ⟨g, qs.length * 8 + 0, none⟩ from rfl]; exact hc 0 _ rfl) c6).mono ?_
      rintro e w' ⟨rfl, rfl⟩
      exact .inr (.inl ⟨q.1.st, p, rfl, after_done hl0 (fun h => hk h.1), h, hr, Nat.le_refl _, Keeps.refl _ _⟩)
set_option maxHeartbeats 800000 in
theorem put_stack {w : World} {S E : Nat → Prop} {N g c d : Nat} {q : Qf} {qs : List Qf} {TO : TypeId} {t : Tm} {vi vr vb : Value} (h : StAt 46 TO w S E N (.slice (some ⟨g, 0, none⟩) (qs.length + 1) c) (q :: qs)) (ht : TmD w S d (t.val vi vr vb) t) (hN : N ≤ 1099511627776) (hE : ∀ x, E x → x < w.heap.size) :
    Calls Tryd.prog 53 #[.pointer (some ⟨g, qs.length * 8, none⟩), t.val vi vr vb] w fun e w' => e = .returned (.tuple #[]) ∧ ∃ S' q', q'.1 = q.1.put t ∧ StAt 46 TO w' S' E N (.slice (some ⟨g, 0, none⟩) (qs.length + 1) c) (q' :: qs) ∧ Keeps (fun x => x = g ∨ q.2.1.ownBlock = some x) w w' ∧ ∀ x, S' x → S x ∨ w.heap.size ≤ x := by
  obtain ⟨a3, k3, a4, k4, a5, k5, rfl, rfl, rfl⟩ := ht.slices
  obtain ⟨fr, vi0, vr0, vb0⟩ := q
  obtain ⟨⟨d0, ⟨ps, hps, hrow, hts, hown⟩, hrest, hbytes⟩, k1, k2, k3', k4', k5'⟩ := h.frs _ (List.mem_cons_self ..)
  have hq0 := h.vown _ (List.mem_cons_self ..)
  have hg := h.lown g rfl
  have hc : ∀ j u, (fc (fr, vi0, vr0, vb0))[j]? = some u → w.cell? ⟨g, qs.length * 8 + j, none⟩ = some u := fun j u hu => h.row.cell3 (stRow_cell hu)
  have hfree : ∀ j, w.frozen? ⟨g, j, none⟩ = false := fun j => h.row.free j
  have hSg : ∀ x, S x → ¬ x = g := fun x hx e => hg.1 (e ▸ hx)
  dsimp only at hrow hts hown hrest hbytes k5' hq0
  by_cases hl : 0 < fr.left
  · obtain ⟨va, vc, rfl, hvc⟩ := hrow.len
    have hgv : (Value.slice va fr.items.length vc).ownBlock ≠ some g := hg.2.2 _ (List.mem_cons_self ..)
    refine (put_item (hc 6 _ rfl) hl (by show fr.left ≤ _; omega) (hfree _) (hc 3 _ rfl) (hfree _) hrow hgv (by omega)).mono ?_
    rintro e w' ⟨rfl, v', hr', hgb, hk, hov, hvg⟩
    have hU : ∀ x, S x → ¬ (x = g ∨ (Value.slice va fr.items.length vc).ownBlock = some x) := fun x hx => by
      rintro (e | e)
      · exact hSg x hx e
      · exact hown x e hx
    have hv' : ∀ y, v'.ownBlock = some y → ¬ S y ∧ ¬ E y := fun y hy => by
      rcases hov with e | ⟨z, e, hz⟩
      · rw [e] at hy; exact ⟨hown y hy, (hq0 y hy).1⟩
      · rw [e] at hy
        have hzy : z = y := Option.some.inj hy
        subst hzy
        exact ⟨fun hs => by have := (h.sE z hs).2; omega, fun he => by have := hE z he; omega⟩
    have hput : fr.put t = { fr with left := fr.left - 1, items := fr.items ++ [t] } := by unfold Fr.put; rw [if_pos hl]
    refine ⟨rfl, S, (fr.put t, v', vr0, vb0), rfl, ⟨?_, ?_, ⟨?_, h.dist.2⟩, ?_, ?_, ?_⟩, hk, fun _ h => .inl h⟩
    · have h1 := (World.ownsRow.stored (World.ownsRow.stored h.row (qs.length * 8 + 6) (.int .i64 ((fr.left : Int) - 1))).1 (qs.length * 8 + 3) v').1
      rw [stRow_cons, stRow_set, List.set_append, if_neg (by rw [stRow_length]; omega), stRow_length, Nat.add_sub_cancel_left] at h1
      have h2 : Row w' TO 8 (.slice (some ⟨g, 0, none⟩) (qs.length + 1) c) (qs.length + 1) _ := Row.of_block h1 fun y hy => by
        have : g = y := Option.some.inj hy
        subst this
        exact hgb
      rw [stRow_cons, hput]
      have e1 : ((fr.left : Int) - 1) = ((fr.left - 1 : Nat) : Int) := by omega
      rw [e1] at h2
      exact h2
    · intro r hr
      rcases List.mem_cons.1 hr with rfl | hr
      · rw [hput]
        refine ⟨⟨max d0 d, ⟨ps ++ [(t, .slice a3 t.items.length k3, .slice a4 t.rest.length k4, .slice a5 t.bytes.size k5)], ?_, ?_, ?_, fun y hy => (hv' y hy).1⟩, ?_, ?_⟩, k1, k2, k3', k4', ?_⟩
        · rw [List.map_append, hps]; rfl
        · rw [rowCells_snoc, List.length_append]; exact hr'
        · intro p hp
          rcases List.mem_append.1 hp with hp | hp
          · exact ((hts p hp).deep (Nat.le_max_left ..)).keeps hk hU
          · simp only [List.mem_singleton] at hp
            subst hp
            exact (ht.deep (Nat.le_max_right ..)).keeps hk hU
        · exact (RowD.deeper hrest (Nat.le_max_left ..)).keeps hk hU
        · exact hbytes.keeps hk hU
        · show (fr.items ++ [t]).length + (fr.left - 1) ≤ N
          rw [List.length_append]
          simp only [List.length_singleton]
          omega
      · refine (h.frs r (List.mem_cons_of_mem _ hr)).keeps hk hU fun y hy => ?_
        rintro (e | e)
        · exact hg.2.2 r (List.mem_cons_of_mem _ hr) (e ▸ hy)
        · exact h.dist.1 r hr y e hy
    · intro r hr y hy
      rcases hov with e | ⟨z, e, hz⟩
      · exact h.dist.1 r hr y (by rw [← e]; exact hy)
      · have hzy : z = y := Option.some.inj (e.symm.trans hy)
        intro hry
        have := (h.vown r (List.mem_cons_of_mem _ hr) y hry).2.2
        omega
    · intro y hy
      have : g = y := Option.some.inj hy
      subst this
      refine ⟨hg.1, hg.2.1, fun r hr => ?_⟩
      rcases List.mem_cons.1 hr with rfl | hr
      · exact hvg
      · exact hg.2.2 r (List.mem_cons_of_mem _ hr)
    · intro r hr y hy
      rcases List.mem_cons.1 hr with rfl | hr
      · exact ⟨(hv' y hy).2, (hv' y hy).1, hr'.lt hy⟩
      · have h1 := h.vown r (List.mem_cons_of_mem _ hr) y hy
        exact ⟨h1.1, h1.2.1, Nat.lt_of_lt_of_le h1.2.2 hk.size⟩
    · intro x hx
      exact ⟨(h.sE x hx).1, Nat.lt_of_lt_of_le (h.sE x hx).2 hk.size⟩
  · have hl0 : fr.left = 0 := by omega
    obtain ⟨b4, n4, rfl⟩ := hrest.form
    refine (put_rest (t := fr.st) (by rw [hc 6 _ rfl, hl0]) (hc 4 _ rfl) (hfree _) (hc 7 _ rfl) (hfree _)).mono ?_
    rintro e w' ⟨rfl, y, hr', hgb, hk, hy⟩
    have hyl : y < w'.heap.size := hr'.lt rfl
    have hSS : ∀ x, S x → S x ∨ x = y := fun _ h => .inl h
    have hSy : ¬ S y := fun hs => by have := (h.sE y hs).2; omega
    have hvy : ∀ r ∈ (fr, vi0, Value.slice b4 fr.rest.length n4, vb0) :: qs, ∀ x, r.2.1.ownBlock = some x → ¬ (S x ∨ x = y) := fun r hr x hx => by
      have h1 := h.vown r hr x hx
      rintro (e | e)
      · exact h1.2.1 e
      · omega
    have hvg : ∀ r ∈ (fr, vi0, Value.slice b4 fr.rest.length n4, vb0) :: qs, ∀ x, r.2.1.ownBlock = some x → ¬ x = g := fun r hr x hx e => hg.2.2 r hr (e ▸ hx)
    have hput : fr.put t = { fr with rest := [t], st := 2 } := by unfold Fr.put; rw [if_neg hl]
    have hgl := h.row.lt (g := g) rfl
    refine ⟨rfl, fun x => S x ∨ x = y, (fr.put t, vi0, .slice (some ⟨y, 0, none⟩) 1 1, vb0), rfl, ⟨?_, ?_, ⟨?_, h.dist.2⟩, ?_, ?_, ?_⟩, hk.mono fun _ _ h => .inl h, ?_⟩
    · have h1 := (World.ownsRow.stored (World.ownsRow.stored h.row (qs.length * 8 + 4) (.slice (some ⟨y, 0, none⟩) 1 1)).1 (qs.length * 8 + 7) (.int .i64 2)).1
      rw [stRow_cons, stRow_set, List.set_append, if_neg (by rw [stRow_length]; omega), stRow_length, Nat.add_sub_cancel_left] at h1
      have h2 : Row w' TO 8 (.slice (some ⟨g, 0, none⟩) (qs.length + 1) c) (qs.length + 1) _ := Row.of_block h1 fun z hz => by
        have : g = z := Option.some.inj hz
        subst this
        exact hgb
      rw [stRow_cons, hput]
      exact h2
    · intro r hr
      rcases List.mem_cons.1 hr with rfl | hr
      · rw [hput]
        have hT : TsAt 46 w' S d (.slice (some ⟨y, 0, none⟩) 1 1) [t] := ⟨[(t, .slice a3 t.items.length k3, .slice a4 t.rest.length k4, .slice a5 t.bytes.size k5)], rfl, hr', fun p hp => by
          simp only [List.mem_singleton] at hp
          subst hp
          exact ht.keeps hk hSg, fun z hz => by
            have : y = z := Option.some.inj hz
            subst this
            exact hSy⟩
        refine ⟨⟨max d0 d, ?_, RowD.deeper (hT.done (S' := fun x => S x ∨ x = y) (by show 1 ≤ 140737488355328; decide) hSS fun z hz => .inr (Option.some.inj hz).symm) (Nat.le_max_right ..), (hbytes.keeps hk hSg).wide hSS⟩, k1, k2, k3', k4', k5'⟩
        have h0 : TsAt 46 w S d0 vi0 fr.items := ⟨ps, hps, hrow, hts, hown⟩
        exact ((h0.keeps hk hSg (hvg _ (List.mem_cons_self ..))).wide hSS (hvy _ (List.mem_cons_self ..))).deep (Nat.le_max_left ..)
      · exact ((h.frs r (List.mem_cons_of_mem _ hr)).keeps hk hSg (hvg r (List.mem_cons_of_mem _ hr))).wide hSS (hvy r (List.mem_cons_of_mem _ hr))
    · exact h.dist.1
    · intro z hz
      have : g = z := Option.some.inj hz
      subst this
      refine ⟨fun e => e.elim hg.1 fun e => by omega, hg.2.1, fun r hr => ?_⟩
      rcases List.mem_cons.1 hr with rfl | hr
      · exact hg.2.2 (fr, vi0, Value.slice b4 fr.rest.length n4, vb0) (List.mem_cons_self ..)
      · exact hg.2.2 r (List.mem_cons_of_mem _ hr)
    · intro r hr z hz
      rcases List.mem_cons.1 hr with rfl | hr
      · exact ⟨(hq0 z hz).1, hvy _ (List.mem_cons_self ..) z hz, Nat.lt_of_lt_of_le (hq0 z hz).2.2 hk.size⟩
      · have h1 := h.vown r (List.mem_cons_of_mem _ hr) z hz
        exact ⟨h1.1, hvy r (List.mem_cons_of_mem _ hr) z hz, Nat.lt_of_lt_of_le h1.2.2 hk.size⟩
    · intro x hx
      rcases hx with hx | rfl
      · exact ⟨(h.sE x hx).1, Nat.lt_of_lt_of_le (h.sE x hx).2 hk.size⟩
      · exact ⟨fun he => by have := hE x he; omega, hyl⟩
    · intro x hx
      rcases hx with hx | rfl
      · exact .inl hx
      · exact .inr hy
end Go.Proofs.YtgmieehheoknbaaDoor
end

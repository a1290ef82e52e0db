/-
  A row of integers before and behind the library's sort.
-/
import Derived.Test.YtacedeaopgbdhaaBlk
import Derived.Shelf.SortG.Plain
namespace Go.Tx
open Go Go.RowKit Go.Sort
section
variable {w : World} {e : TypeId} {g n cap : Nat} {zs : List Int}

theorem row_holds (h : Row w e 1 (.slice (some ⟨g, 0, none⟩) n cap) n (zs.map (Value.int .i64))) : Holds (Value.int .i64) w g 0 zs.toArray := by
  intro j hj
  have hj' : j < zs.length := by simpa using hj
  refine ⟨?_, ?_⟩
  · rw [Nat.zero_add]
    refine h.cell ?_
    simp [hj', getElem!_pos]
  · exact h.free _
theorem row_sorted (h : Row w e 1 (.slice (some ⟨g, 0, none⟩) n cap) n (zs.map (Value.int .i64))) {ds : List Int} (hd : ds.length = n) (k : Nat) (os : Array Obj) :
    Row (grow (putRow (Value.int .i64) (Sort.ahead w k) g 0 ds.toArray) os) e 1 (.slice (some ⟨g, 0, none⟩) n cap) n (ds.map (Value.int .i64)) ∧ Keeps (fun b => b = g) w (grow (putRow (Value.int .i64) (Sort.ahead w k) g 0 ds.toArray) os) := by
  have hlt := h.lt (g := g) rfl
  refine ⟨⟨by simp [hd], ?_⟩, rfl, rfl, rfl, ?_, ?_⟩
  · rcases h.2 with ⟨h0, _⟩ | ⟨g', cap', cur, hv, hb, hgg, h1, h2, h3, h4⟩
    · cases h0
    · cases hv
      refine .inr ⟨_, _, putCells (Value.int .i64) 0 ds.toArray cur, rfl, hb, ?_, h1, h2, by simpa [putCells] using h3, ?_⟩
      · show (w.heap.modify g (onCells (putCells (Value.int .i64) 0 ds.toArray)) ++ os)[g]? = _
        rw [Array.getElem?_append_left (by simpa using hlt), Array.getElem?_modify, if_pos rfl, hgg]
        rfl
      · apply List.ext_getElem?
        intro j
        simp only [putCells, Array.toList_mapIdx, List.getElem?_take, List.getElem?_mapIdx, List.getElem?_map, Array.getElem?_toList, Nat.mul_one]
        by_cases hj : j < n
        · have hc : j < cur.size := by rw [h3]; omega
          have hjd : j < ds.length := by omega
          simp [hj, hc, hjd, getElem!_pos]
        · have : ds.length ≤ j := by omega
          simp [hj, this]
  · show w.heap.size ≤ (w.heap.modify g _ ++ os).size
    simp
  · intro b hb hne
    show (w.heap.modify g _ ++ os)[b]? = _
    rw [Array.getElem?_append_left (by simpa using hb), Array.getElem?_modify, if_neg (fun he => hne he.symm)]
end
end Go.Tx

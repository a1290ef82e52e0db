/-
  A block of cells whose every cell is known; rows beside it.
-/
import Derived.Test.YtacedeaopgbdhaaMaps
namespace Go.Tx
open Go Go.RowKit

/-- a goal at which the walk stands still -/
structure Stop (p : Prop) : Prop where
  out : p

/-- block b holds these cells, of type T; it may be written -/
def Blk (w : World) (b : Nat) (T : TypeId) (xs : List Value) : Prop := w.heap[b]? = some (.cells xs.toArray T (0, 0))

section
variable {w w' : World} {b : Nat} {T : TypeId} {xs : List Value}

theorem Blk.lt (h : Blk w b T xs) : b < w.heap.size := (Array.getElem?_eq_some_iff.1 h).1
theorem Blk.cell (h : Blk w b T xs) {i : Nat} {v : Value} (hx : xs[i]? = some v) : w.cell? ⟨b, i, none⟩ = some v := by
  unfold Blk at h
  simp only [World.cell?, h]
  simpa using hx
theorem Blk.free (h : Blk w b T xs) (i : Nat) : w.frozen? ⟨b, i, none⟩ = false := by
  unfold Blk at h
  simp [World.frozen?, h]
theorem Blk.set (h : Blk w b T xs) (i : Nat) (v : Value) : Blk (w.setCell ⟨b, i, none⟩ v) b T (xs.set i v) := by
  have hlt := h.lt
  have h' : w.heap[b] = .cells xs.toArray T (0, 0) := by
    unfold Blk at h; simpa [Array.getElem?_eq_getElem hlt] using h
  show (w.heap.modify b _)[b]? = _
  rw [Array.getElem?_eq_getElem (by simpa using hlt), Array.getElem_modify_self, h']
  simp
theorem Blk.keeps {S : Nat → Prop} (h : Blk w b T xs) (k : Keeps S w w') (hs : ¬ S b) : Blk w' b T xs := by
  unfold Blk at *
  rw [k.block b (Array.getElem?_eq_some_iff.1 h).1 hs]; exact h
theorem Blk.new (w : World) (xs : List Value) (T : TypeId) : Blk (w.alloc (.cells xs.toArray T)) w.heap.size T xs := heap_alloc_new w _
theorem Blk.drew (h : Blk w b T xs) : Blk w.drew b T xs := h
theorem Blk.alloc (h : Blk w b T xs) (o : Obj) : Blk (w.alloc o) b T xs := h.keeps (Keeps.alloc (Keeps.refl (fun _ => False) w) o) id
theorem Blk.set_other (h : Blk w b T xs) {a : Addr} (ha : b ≠ a.block) (v : Value) : Blk (w.setCell a v) b T xs :=
  h.keeps (Keeps.setCell (Keeps.refl (fun k => k = a.block) w) (fun _ => rfl) v) ha
theorem Blk.ne_row {e : TypeId} {size n : Nat} {v : Value} {ys : List Value} (h : Blk w b T xs) (r : Row w e size v n ys) (hT : T ≠ e) {g : Nat} (hg : v.ownBlock = some g) : b ≠ g := by
  intro he
  subst he
  rcases r.2 with ⟨rfl, _⟩ | ⟨g', cap, cur, rfl, _, hgg, _⟩
  · simp [Value.ownBlock] at hg
  · simp [Value.ownBlock] at hg
    subst hg
    unfold Blk at h
    rw [h] at hgg
    simp at hgg
    exact hT hgg.2
theorem Blk.ne_map {K : Type} {enc : K → Value} {m : Nat} {kv : List (K × Value)} (h : Blk w b T xs) (r : MapIs enc w m kv) : b ≠ m := by
  intro he
  subst he
  obtain ⟨es, clock, h1, _⟩ := r
  unfold Blk at h
  rw [h] at h1; cases h1
theorem row_ne_row {e f : TypeId} {size n size2 n2 : Nat} {v u : Value} {ys zs : List Value} (h : Row w e size v n ys) (r : Row w f size2 u n2 zs) (hT : e ≠ f) {g : Nat} (hg : v.ownBlock = some g) : u.ownBlock ≠ some g := by
  intro hu
  rcases h.2 with ⟨rfl, _⟩ | ⟨g', cap, cur, rfl, _, hgg, _⟩
  · simp [Value.ownBlock] at hg
  · simp [Value.ownBlock] at hg
    subst hg
    rcases r.2 with ⟨rfl, _⟩ | ⟨g2, cap2, cur2, rfl, _, hgg2, _⟩
    · simp [Value.ownBlock] at hu
    · simp [Value.ownBlock] at hu
      subst hu
      rw [hgg] at hgg2
      simp at hgg2
      exact hT hgg2.2
theorem row_ne_map {K : Type} {enc : K → Value} {m : Nat} {kv : List (K × Value)} {e : TypeId} {size n : Nat} {v : Value} {ys : List Value} (h : Row w e size v n ys) (r : MapIs enc w m kv) : v.ownBlock ≠ some m := by
  intro hg
  rcases h.2 with ⟨rfl, _⟩ | ⟨g', cap, cur, rfl, _, hgg, _⟩
  · simp [Value.ownBlock] at hg
  · simp [Value.ownBlock] at hg
    subst hg
    obtain ⟨es, clock, h1, _⟩ := r
    rw [hgg] at h1; cases h1

/-- a row's element, of one cell -/
theorem Row.cell {e : TypeId} {g n cap : Nat} {ys : List Value} (h : Row w e 1 (.slice (some ⟨g, 0, none⟩) n cap) n ys) {i : Nat} {v : Value} (hv : ys[i]? = some v) : w.cell? ⟨g, i, none⟩ = some v := by
  have hi : i < n * 1 := by
    have := (List.getElem?_eq_some_iff.1 hv).1
    rw [h.1] at this; exact this
  rw [World.ownsRow.cellAt h i hi]; exact hv
theorem Row.free {e : TypeId} {g n cap size : Nat} {ys : List Value} (h : Row w e size (.slice (some ⟨g, 0, none⟩) n cap) n ys) (i : Nat) : w.frozen? ⟨g, i, none⟩ = false := World.ownsRow.frozenAt h i
theorem Row.setCell_other {e : TypeId} {size n : Nat} {v : Value} {ys : List Value} (h : Row w e size v n ys) {a : Addr} (ha : v.ownBlock ≠ some a.block) (u : Value) : Row (w.setCell a u) e size v n ys :=
  h.keeps (Keeps.setCell (Keeps.refl (fun k => k = a.block) w) (fun _ => rfl) u) fun g hg he => ha (by rw [hg, he])
theorem MapIs.setCell {K : Type} {enc : K → Value} {m : Nat} {kv : List (K × Value)} (h : MapIs enc w m kv) {a : Addr} (ha : m ≠ a.block) (u : Value) : MapIs enc (w.setCell a u) m kv :=
  h.keeps (Keeps.setCell (Keeps.refl (fun k => k = a.block) w) (fun _ => rfl) u) ha
end
end Go.Tx

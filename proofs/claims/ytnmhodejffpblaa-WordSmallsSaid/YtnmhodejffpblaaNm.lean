/-
  Names that came in: from the form's reading to a list of names.
-/
import Derived.Test.YtnmhodejffpblaaBo
import Derived.Test.YtnmhodejffpblaaRowB
import Derived.Deep.Slices
namespace Go.Tx
open Go Go.RowKit Go.ChangeShapes Go.WideShapes Go.ChangeAt
theorem names_open {H : Type} {enc : TypeId × Value → H} {P : Program} {W : World} {t e : TypeId} {v : Value} {d : DataW H} {p : List MemPlace} (ht : P.underlying t = some (.slice e)) (he : P.underlying e = some .string) (hc : P.cellsOf e = 1)
    {a0 : Option Addr} {len cap : Nat} (hv : v = .slice a0 len cap) (h : DataW.Trod enc P W 0 (fun _ => true) true t v d p) : ∃ names, StrsD W v names := by
  subst hv
  obtain ⟨fuel, hf⟩ := h
  rcases Go.Deep.open_slice1 ht hc hf with ⟨hcs, _⟩ | ⟨a, len', cap', m, n, V, D, Pl, hcs, _, hl, hm, hmm, _, hx⟩
  · simp [Value.cells] at hcs
    obtain ⟨rfl, rfl, rfl⟩ := hcs
    exact ⟨[], by simp, none, 0, rfl, fun i s h => by simp at h⟩
  · simp [Value.cells] at hcs
    obtain ⟨rfl, rfl, rfl⟩ := hcs
    simp only [if_true] at hmm
    have hV : ∀ i, i < len → ∃ s : ByteArray, W.cell? (a.add i) = some (.string s) := fun i hi => by
      obtain ⟨h1, h2⟩ := hx i (by omega)
      obtain ⟨s, e1, _⟩ := DataW.trod_string he h2
      simp only [List.cons.injEq, and_true] at e1
      exact ⟨s, e1 ▸ h1⟩
    by_cases h0 : len = 0
    · subst h0
      exact ⟨[], by simp, some a, cap, rfl, fun i s h => by simp at h⟩
    obtain ⟨b, o, sp⟩ := a
    obtain rfl : sp = none := by
      obtain ⟨s, h1⟩ := hV 0 (by omega)
      simpa [Addr.add] using World.cell?_spot h1
    obtain ⟨l, hl1, hl2⟩ := list_choose (p := fun i (s : ByteArray) => W.cell? ⟨b, o + i, none⟩ = some (.string s)) (fun i hi => by
      obtain ⟨s, h1⟩ := hV i hi
      rw [add_plain] at h1
      exact ⟨s, h1⟩)
    unfold maxLen at hm
    refine ⟨l, by omega, some ⟨b, o, none⟩, cap, by rw [hl1], fun i s hs => ⟨b, o, rfl, lt_cell (hl2 i s hs), hl2 i s hs⟩⟩
end Go.Tx
namespace Go.Proofs.Ytnmhodejffpblaa
open Go.RowKit
theorem Try.cellsString : Try.prog.cellsOf 9 = 1 := by kernel_rfl
end Go.Proofs.Ytnmhodejffpblaa

import Derived.Test.YtgmieehheoknbaaDoorGs
/-
  Bytes that came in, held against the reading's bulk; a module's bytes under a tighter bound.
-/
namespace Go.Tx
open Go Go.RowKit
/-- so many bytes at the most: a module's -/
theorem encM_less {w : World} {S : Nat → Prop} {d : Nat} {v : Value} {m : Md} (h : MdD w S d v m) (hs : m.name.size + tmsSize m.lits + fnsSize m.funcs ≤ 1048576) : (encM m).length ≤ 1099510000000 := by
  obtain ⟨vl, vf, _, _, h1, h2⟩ := h
  have l1 := tmsSize_len m.lits
  have l2 := fnsSize_len m.funcs
  have e1 : (encTs m.lits).length ≤ 32 * tmsSize m.lits := encTs_size fun t ht => by
    obtain ⟨_, _, _, _, _, _, hel⟩ := h1
    obtain ⟨i, hi2, rfl⟩ := List.getElem_of_mem ht
    obtain ⟨_, _, _, _, _, _, _, _, htm⟩ := hel i _ (List.getElem?_eq_getElem hi2)
    have := tmsSize_mem ht
    exact encT_size d htm (by omega)
  have e2 : (encFs m.funcs).length ≤ 50 * fnsSize m.funcs := encFs_size fun f hf => by
    obtain ⟨_, _, _, _, _, _, hel⟩ := h2
    obtain ⟨i, hi2, rfl⟩ := List.getElem_of_mem hf
    obtain ⟨hff, _, _, _, _, _, _, hins⟩ := hel i _ (List.getElem?_eq_getElem hi2)
    have := fnsSize_mem hf
    exact encF_size hff hins.ints (by omega)
  have b1 := encN_ten (n := m.name.size) (by omega)
  have b2 := encN_ten (n := m.lits.length) (by omega)
  have b3 := encN_ten (n := m.funcs.length) (by omega)
  have b4 : magic.length = 4 := rfl
  simp only [encM, List.length_append, encB_len]
  omega
end Go.Tx
namespace Go.Proofs.YtgmieehheoknbaaDoor
open Go.ChangeShapes Go.WideShapes Go.ChangeAt Go.RowKit Go.Tx
section
variable {H : Type} {enc : TypeId × Value → H} {W : World}
set_option maxRecDepth 100000 in
theorem bytes_arg3 {base : Nat} {v : Value} {d : DataW H} {p : List MemPlace} (hv : Value.okWide Tryd.prog W .any base 26 v) (h : DataW.Trod enc Tryd.prog W 0 (fun _ => true) true 26 v d p)
    (hw : (d.weights Tryd.prog 26).all (· ≤ reachBytes) = true) : ∃ s, BytesD W (fun b => b < W.heap.size) v s ∧ s.size + 1 ≤ Rows.uptoBulk d := by
  obtain ⟨a, l, c, rfl⟩ := okWide_slice Tryd.underlying26 hv
  obtain ⟨fuel, hf⟩ := h
  have hcs : (Value.slice a l c).cells.toList = [.slice a l c] := by simp [Value.cells]
  rw [hcs] at hf
  exact bytes_open3 hf hw
end
end Go.Proofs.YtgmieehheoknbaaDoor

/-
  Facts of the loaded program that the rows of the arena's laws use.
-/
import Derived.Test.YtacedeaopgbdhaaRow
import Derived.Test.YtacedeaopgbdhaaArF
namespace Go.Tx
open Go Go.RowKit Go.ChangeShapes Go.WideShapes Go.ChangeAt
theorem wf_i64 {n : Int} (h : (Lit.int .i64 n).wf = true) : -9223372036854775808 ≤ n ∧ n ≤ 9223372036854775807 := by
  simp only [Lit.wf, Bool.and_eq_true, decide_eq_true_eq] at h
  exact h
/-- a slice of integers as its cells -/
theorem ints_cells {H : Type} {enc : TypeId × Value → H} {P : Program} {W : World} {t e : TypeId} {a0 : Option Addr} {len cap : Nat} {d : DataW H} {p : List MemPlace} (ht : P.underlying t = some (.slice e)) (he : P.underlying e = some (.int .i64)) (hc : P.cellsOf e = 1)
    (h : DataW.Trod enc P W 0 (fun _ => true) true t (.slice a0 len cap) d p) (hp : ∀ x ∈ p, x.block < W.heap.size) :
    ∃ zs : Nat → Int, len ≤ maxLen ∧ ∀ i, i < len → ∃ ad, a0 = some ad ∧ ad.block < W.heap.size ∧ W.cell? (ad.add i) = some (.int .i64 (zs i)) ∧ -9223372036854775808 ≤ zs i ∧ zs i ≤ 9223372036854775807 := by
  obtain ⟨fuel, hf⟩ := h
  rcases open_ints ht he hc hf with ⟨hcs, hx⟩ | ⟨a, len', cap', zs, hcs, _, hl, hm, hz, hx, hcell, hwz⟩
  · simp [Value.cells] at hcs
    obtain ⟨rfl, rfl, rfl⟩ := hcs
    exact ⟨fun _ => 0, Nat.zero_le _, fun i hi => by omega⟩
  · simp [Value.cells] at hcs
    obtain ⟨rfl, rfl, rfl⟩ := hcs
    simp only [Prod.mk.injEq] at hx
    simp only [if_true] at hz
    refine ⟨fun i => zs.getD i 0, Nat.le_trans hl hm, fun i hi => ⟨a, rfl, ?_, hcell i (by omega), ?_⟩⟩
    · have := hp (.cell a.block (a.off + i)) (by rw [hx.2]; exact MemPlace.mem_row.2 ⟨i, by omega, by simp⟩)
      exact this
    · refine wf_i64 (hwz _ ?_)
      show zs.getD i 0 ∈ zs
      rw [List.getD_eq_getElem?_getD, List.getElem?_eq_getElem (by omega)]
      simp
end Go.Tx
namespace Go.Proofs.Ytacedeaopgbdhaa
open Go.RowKit
theorem Try.own : ownKnob Try.prog.godebug = none := by kernel_rfl
theorem Try.laidOut : laidOutB Try.prog = true := by kernel_rfl
theorem Try.cellsInt : Try.prog.cellsOf 3 = 1 := by kernel_rfl
end Go.Proofs.Ytacedeaopgbdhaa

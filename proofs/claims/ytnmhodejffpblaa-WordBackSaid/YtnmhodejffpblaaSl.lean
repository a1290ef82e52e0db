/-
  Terms that are leaves: as values; a slice of bytes as a text; a term out of its cell.
-/
import Derived.Test.YtnmhodejffpblaaTm
import Derived.Laws.BytesString
import Derived.Laws.Cells
namespace Go.Tx
open Go Go.RowKit
/-- a term without parts -/
def leaf (k n : Int) (s : ByteArray) : Value := .agg #[.int .i64 k, .int .i64 n, .string s, .slice none 0 0, .slice none 0 0, .slice none 0 0]
theorem results_cellN {P : Program} {fn : Func} {c u v : Tmp} {t : TypeId} {w : World} (h : fn.results = #[.cell c t, .tmp u, .tmp v]) (tmps : Array Value) (p : Addr) (hp : tmps.getD c undef = .pointer (some p)) (x : Value) (hl : (loadVar t p).run P w = .ok x w) :
    (results fn tmps).run P w = .ok (.tuple #[x, tmps.getD u undef, tmps.getD v undef]) w := by
  have hp' : tmps[c]?.getD undef = .pointer (some p) := by rw [← Array.getD_eq_getD_getElem?]; exact hp
  simp [results, h, asAddr, hp', hl]
theorem results_cell1 {P : Program} {fn : Func} {c : Tmp} {t : TypeId} {w : World} (h : fn.results = #[.cell c t]) (tmps : Array Value) (p : Addr) (hp : tmps.getD c undef = .pointer (some p)) (x : Value) (hl : (loadVar t p).run P w = .ok x w) :
    (results fn tmps).run P w = .ok x w := by
  have hp' : tmps[c]?.getD undef = .pointer (some p) := by rw [← Array.getD_eq_getD_getElem?]; exact hp
  simp [results, h, asAddr, hp', hl]
theorem addN (g : Nat) (i : Nat) : (⟨g, 0, none⟩ : Addr).add i = ⟨g, i, none⟩ := by
  unfold Addr.add
  cases i with
  | zero => rfl
  | succ j => simp
theorem foldl_push (l : List UInt8) (r : ByteArray) : (l.map fun c => (c.toNat : Int)).foldl (fun r n => r.push (UInt8.ofNat n.toNat)) r = ⟨r.data ++ l.toArray⟩ := by
  induction l generalizing r with
  | nil => simp
  | cons c l ih =>
    rw [List.map_cons, List.foldl_cons, ih]
    simp [ByteArray.push]
/-- a slice of bytes as a text -/
theorem conv_bytes {P : Program} {w : World} {src dst e : TypeId} {a : Option Addr} {l c : Nat} (s : ByteArray) (hs : P.underlying src = some (.slice e)) (he : P.underlying e = some (.int .u8)) (hd : P.underlying dst = some .string)
    (hl : l = s.size) (hc : 0 < s.size → ∃ b o, a = some ⟨b, o, none⟩ ∧ ∀ j u, (byteCells s)[j]? = some u → w.cell? ⟨b, o + j, none⟩ = some u) : (convert src dst (.slice a l c)).run P w = .ok (.string s) w := by
  subst hl
  rw [run_convert_bytes_string w src dst e a s.size c hs he hd]
  cases a with
  | none =>
    have h0 : s.size = 0 := by
      rcases Nat.eq_zero_or_pos s.size with h | h
      · exact h
      · obtain ⟨b, o, h1, _⟩ := hc h; cases h1
    rw [size_nil h0]
    unfold Conv.bytesToString
    simp [Sem.run_pure]
    rfl
  | some ad =>
    have hb : byteCells s = (s.data.toList.map fun c => (c.toNat : Int)).map (Value.int .u8) := by
      unfold byteCells
      rw [List.map_map]
      rfl
    have hsz : (byteCells s).length = s.size := by
      unfold byteCells
      rw [List.length_map, Array.length_toList]
      rfl
    have h1 : (loadCells ad s.size).run P w = .ok ((s.data.toList.map fun c => (c.toNat : Int)).map (Value.int .u8)).toArray w := by
      rw [← hb, ← hsz]
      refine run_loadCells_list w ad (byteCells s) fun j v hv => ?_
      have hp : 0 < s.size := by
        have := (List.getElem?_eq_some_iff.1 hv).1
        omega
      obtain ⟨b, o, h1, h2⟩ := hc hp
      cases h1
      rw [Go.WideShapes.add_plain]
      exact h2 j v hv
    rw [run_bytesToString w ad s.size c _ h1, foldl_push]
    congr 2
    obtain ⟨d⟩ := s
    simp
theorem conv_none {P : Program} {w : World} {src dst e : TypeId} (a : Option Addr) (c : Nat) (hs : P.underlying src = some (.slice e)) (he : P.underlying e = some (.int .u8)) (hd : P.underlying dst = some .string) :
    (convert src dst (.slice a 0 c)).run P w = .ok (.string ⟨#[]⟩) w := conv_bytes ⟨#[]⟩ hs he hd rfl fun h => absurd h (by decide)
end Go.Tx
namespace Go.Proofs.Ytnmhodejffpblaa
open Go.RowKit Go.Tx
theorem sizeTerm : (Try.prog.info? 26).map (·.size) = some 6 := by kernel_rfl
theorem load_at {w : World} {g : Nat} {x0 x1 x2 x3 x4 x5 : Value} (hb : Blk w g 26 [x0, x1, x2, x3, x4, x5]) : (loadVar 26 ⟨g, 0, none⟩).run Try.prog w = .ok (.agg #[x0, x1, x2, x3, x4, x5]) w := by
  cases hi : Try.prog.info? 26 with
  | none => have := sizeTerm; rw [hi] at this; cases this
  | some i =>
    have hs : i.size = 6 := by have := sizeTerm; rw [hi] at this; simpa using this
    unfold loadVar loadCells
    simp [loadCellsFrom, isAgg, sizeOf, typeInfo, Try.underlying26, hi, hs, addN, hb.cell (i := 0) rfl, hb.cell (i := 1) rfl, hb.cell (i := 2) rfl, hb.cell (i := 3) rfl, hb.cell (i := 4) rfl, hb.cell (i := 5) rfl]
end Go.Proofs.Ytnmhodejffpblaa

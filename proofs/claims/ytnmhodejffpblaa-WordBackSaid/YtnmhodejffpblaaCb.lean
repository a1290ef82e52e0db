/-
  Copies of bytes: what troupelaw00.CopyBytes does.
-/
import Derived.Test.YtnmhodejffpblaaTm
import Derived.Test.YtnmhodejffpblaaLk
namespace Go.Tx
open Go Go.RowKit
theorem byteCells_length (s : ByteArray) : (byteCells s).length = s.size := by
  unfold byteCells
  rw [List.length_map, Array.length_toList]
  rfl
/-- a row of bytes, as bytes -/
theorem bytes_row {w : World} {S : Nat → Prop} {v : Value} {s : ByteArray} (h : Row w 5 1 v s.size (byteCells s)) (hb : s.size ≤ 140737488355328) (ho : ∀ g, v.ownBlock = some g → S g) : BytesD w S v s := by
  obtain ⟨a, cap, rfl, h1, h2⟩ := h.len
  refine ⟨hb, a, cap, rfl, h1, h2, fun hp => ?_⟩
  obtain ⟨g, c2, e, _, _⟩ := h.form hp
  simp only [Value.slice.injEq] at e
  obtain ⟨rfl, _, rfl⟩ := e
  exact ⟨g, 0, rfl, ho g rfl, fun j u hu => by rw [Nat.zero_add]; exact h.cell hu⟩
end Go.Tx
namespace Go.Proofs.Ytnmhodejffpblaa
open Go.RowKit Go.Tx
theorem info_u8 : (Try.prog.info? 5).map (fun i => (i.zero, i.size, i.bytes)) = some (some (.int .u8 0), 1, 1) := by kernel_rfl
theorem first_bytes {w W : World} {S : Nat → Prop} {a : Option Addr} {cap : Nat} {s : ByteArray} (h : BytesD w S (.slice a s.size cap) s) (hW : W.heap = w.heap) : (Builtin.firstCells 1 s.size (.slice a s.size cap)).run Try.prog W = .ok (byteCells s).toArray W := by
  obtain ⟨_, a', cap', e, _, _, hc⟩ := h
  cases e
  by_cases h0 : 0 < s.size
  · obtain ⟨b, o, rfl, _, hcell⟩ := hc h0
    refine firstCells_at (w := w) (by rw [byteCells_length, Nat.mul_one]) (fun j u hu => ?_) W hW
    rw [Go.WideShapes.add_plain]
    exact hcell j u hu
  · have e0 : s.size = 0 := by omega
    have e1 : byteCells s = [] := List.length_eq_zero_iff.1 (by rw [byteCells_length, e0])
    rw [e1, e0]
    cases a with
    | none => exact firstCells_nil ..
    | some ad => exact firstCells_at (w := w) (news := []) rfl (fun j u hu => by simp at hu) W hW
set_option maxRecDepth 100000 in
set_option maxHeartbeats 400000 in
theorem copyBytes_any {w : World} {S : Nat → Prop} {v : Value} {s : ByteArray} (h : BytesD w S v s) :
    Calls Try.prog 37 #[v] w fun e w' => ∃ v', e = .returned v' ∧ BytesD w' (Fresh w w') v' s ∧ Keeps (fun _ => False) w w' := by
  have H := Lib.hid h
  obtain ⟨hb, a, cap, rfl, _⟩ := h
  go_enter Try.func37, Try.ntmps37
  go_wp2_with (first | (at_builtin; go_must (refine wpList_append_row _ rfl _ _ 24 24 rfl 5 (.slice 5) 1 1 (.int .u8 0) info_u8 Try.underlying24 Try.underlying24 (by intro k h; cases h) rfl (.slice none 0 0) 0 [] rfl (World.ownsRow_nil _ _ _ _) _ s.size (byteCells s) rfl (by rw [byteCells_length, Nat.mul_one]) (lenOf_slice _ _ _) (fun W hW => first_bytes H.out hW) (by intro u hu; simp only [byteCells, List.mem_map] at hu; obtain ⟨_, _, rfl⟩ := hu; rfl) (by unfold maxLen; omega) (by omega) ?_); intro v' w4 ha; obtain ⟨va, vc, rfl, _, _⟩ := ha.row.len; have HA := Lib.hid ha; clear ha))
  go_ret
  have ha := HA.out
  rw [Nat.zero_add, List.nil_append] at ha
  have hk : Keeps (fun _ => False) w _ := ha.keeps.mono fun g _ hg => by simp [Own, Value.ownBlock] at hg
  refine ⟨.slice va s.size vc, rfl, bytes_row ha.row hb (fun g hg => ?_), hk⟩
  rcases ha.own with e | ⟨e, hs⟩
  · rw [e] at hg; simp [Value.ownBlock] at hg
  · rw [e] at hg; cases hg; exact ⟨Nat.le_refl _, by omega⟩
end Go.Proofs.Ytnmhodejffpblaa

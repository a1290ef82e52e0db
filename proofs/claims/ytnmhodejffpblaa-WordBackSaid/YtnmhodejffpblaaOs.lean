/-
  sync.Once in a table of atoms: the slow way: the table's map is made.
-/
import Derived.Test.YtnmhodejffpblaaOn
import Derived.Test.YtnmhodejffpblaaMaps
import Derived.Test.YtnmhodejffpblaaAm
namespace Go.Proofs.Ytnmhodejffpblaa
open Go.RowKit Go.Tx
set_option maxRecDepth 100000 in
set_option maxHeartbeats 400000 in
theorem bload_any (a : Addr) (x : Int) (w : World) (h : w.cell? a = some (.int .u32 x)) : Calls Try.prog 54 #[.pointer (some a)] w fun e w' => e = .returned (.bool (x != 0)) ∧ w' = w := by
  have hl := run_call_load (P := Try.prog) Try.func58 (by kernel_rfl) (by kernel_rfl) (by kernel_rfl) .u32 (by kernel_rfl) h
  go_enter Try.func54, Try.ntmps54
  go_wp2
  go_ret
  exact ⟨rfl, rfl⟩
set_option maxRecDepth 100000 in
set_option maxHeartbeats 400000 in
theorem made_any (b : Nat) (pl : Addr) (w : World) (hp : w.cell? pl = some (.pointer (some ⟨b, 0, none⟩))) (v : Value) (h3 : w.cell? ⟨b, 3, none⟩ = some v) (f3 : w.frozen? ⟨b, 3, none⟩ = false) (hbw : b < w.heap.size) :
    Calls Try.prog 44 #[.pointer (some pl)] w fun e w' => e = .returned (.tuple #[]) ∧ w' = (w.setCell ⟨b, 3, none⟩ (.map (some w.heap.size))).alloc (.map #[] 0) := by
  have hmm : ∀ W : World, (Instr.makeMap 105 none).run Try.prog W = .ok (.map (some W.heap.size)) (W.alloc (.map #[] 0)) := fun W => rfl
  have hplw := lt_cell hp
  go_enter Try.func44, Try.ntmps44
  go_wp2
  go_end0
  exact ⟨rfl, rfl⟩
set_option maxRecDepth 100000 in
set_option maxHeartbeats 1600000 in
theorem slow_any (b : Nat) (pl : Addr) (hpb : ¬ b = pl.block) (l : Value) (w : World) (hp : w.cell? pl = some (.pointer (some ⟨b, 0, none⟩))) (hb : Blk w b 107 (atomsCells 0 (.map none) l)) :
    Calls Try.prog 55 #[.pointer (some ⟨b, 0, none⟩), .func (.func 44) #[] #[.pointer (some pl)]] w fun e w' => e = .returned (.tuple #[]) ∧
      Keeps (fun x => x = b) w w' ∧ Blk w' b 107 (atomsCells 1 (.map (some w.heap.size)) l) ∧ MapIs Value.string w' w.heap.size ([] : List (ByteArray × Value)) := by
  have hbw := hb.lt
  have h0 : w.cell? ⟨b, 0, none⟩ = some (.int .u32 0) := hb.cell (i := 0) rfl
  have h1 : w.cell? ⟨b, 1, none⟩ = some (.int .i32 0) := hb.cell (i := 1) rfl
  have h3 : w.cell? ⟨b, 3, none⟩ = some (.map none) := hb.cell (i := 3) rfl
  have f0 := hb.free 0
  have f1 := hb.free 1
  have f3 := hb.free 3
  have hp1 : (w.setCell ⟨b, 1, none⟩ (.int .i32 1)).cell? pl = some (.pointer (some ⟨b, 0, none⟩)) := (World.cell?_setCell_other _ ⟨b, 1, none⟩ pl _ (fun h => hpb (by rw [← h]))).trans hp
  have h31 : (w.setCell ⟨b, 1, none⟩ (.int .i32 1)).cell? ⟨b, 3, none⟩ = some (.map none) := (World.cell?_setCell_other _ ⟨b, 1, none⟩ ⟨b, 3, none⟩ _ (by simp)).trans h3
  have hnot : ∀ (x : Bool) (w : World), (Op.unary .not (.bool x)).run Try.prog w = .ok (.bool (!x)) w := fun _ _ => rfl
  go_enter_defers Try.func55, Try.ntmps55
  have h01 : (w.setCell ⟨b, 1, none⟩ (.int .i32 1)).cell? ⟨b, 0, none⟩ = some (.int .u32 0) := (World.cell?_setCell_other _ ⟨b, 1, none⟩ ⟨b, 0, none⟩ _ (by simp)).trans h0
  go_wp2_with (first | (go_at_call 59; refine (lock_free ⟨b, 1, none⟩ _ (by go_simp) (by go_simp)).mono ?_; rintro e w' ⟨rfl, rfl⟩) | (go_at_call 54; refine (bload_any ⟨b, 0, none⟩ 0 _ h01).mono ?_; rintro e w' ⟨rfl, rfl⟩) | (go_at_call 44; refine (made_any b pl _ hp1 _ h31 (by go_simp) (by simp; exact hbw)).mono ?_; rintro e w' ⟨rfl, rfl⟩))
  refine leaves_cons (f := 61) (args := #[.pointer (some ⟨b, 0, none⟩), .bool true]) (by simp) (by simp [go_sem]) ?_
  have k1 : Blk ((w.setCell ⟨b, 1, none⟩ (.int .i32 1)).setCell ⟨b, 3, none⟩ (.map (some w.heap.size))) b 107 [.int .u32 0, .int .i32 1, .int .u32 0, .map (some w.heap.size), l] := (hb.set 1 (.int .i32 1)).set 3 (.map (some w.heap.size))
  have k2 := k1.alloc (.map #[] 0)
  refine (store_deferred ⟨b, 0, none⟩ (.int .u32 0) .returning _ (k2.cell (i := 0) rfl) (k2.free 0)).mono ?_
  rintro e u' w'' ⟨rfl, rfl, rfl⟩
  have k3 := (k2.drew).set 0 (.int .u32 1)
  refine leaves_cons (f := 60) (args := #[.pointer (some ⟨b, 1, none⟩)]) (by simp [settle]) (by simp [go_sem]) ?_
  refine (unlock_deferred ⟨b, 1, none⟩ _ _ (k3.cell (i := 1) rfl) (k3.free 1)).mono ?_
  rintro e u' w'' ⟨rfl, rfl, rfl⟩
  simp [Leaves, settle, results, Try.results55]
  have hK : Keeps (fun x => x = b) (((w.setCell ⟨b, 1, none⟩ (.int .i32 1)).setCell ⟨b, 3, none⟩ (.map (some w.heap.size))).alloc (.map #[] 0)) (((((w.setCell ⟨b, 1, none⟩ (.int .i32 1)).setCell ⟨b, 3, none⟩ (.map (some w.heap.size))).alloc (.map #[] 0)).drew.setCell ⟨b, 0, none⟩ (.int .u32 1)).setCell ⟨b, 1, none⟩ (.int .i32 0)) :=
    (((Keeps.refl (fun x => x = b) _).drew.setCell (p := ⟨b, 0, none⟩) (fun _ => rfl) _).setCell (p := ⟨b, 1, none⟩) (fun _ => rfl) _)
  refine ⟨Keeps.trans (T := fun x => x = b) ((((Keeps.refl (fun x => x = b) _).setCell (p := ⟨b, 1, none⟩) (fun _ => rfl) _).setCell (p := ⟨b, 3, none⟩) (fun _ => rfl) _).alloc _) hK fun _ _ h => h, k3.set 1 (.int .i32 0), ?_⟩
  have hm := mapIs_made Value.string ((w.setCell ⟨b, 1, none⟩ (.int .i32 1)).setCell ⟨b, 3, none⟩ (.map (some w.heap.size)))
  rw [World.size_setCell, World.size_setCell] at hm
  exact hm.keeps hK (by omega)
set_option maxRecDepth 100000 in
set_option maxHeartbeats 1600000 in
theorem do_first (b : Nat) (pl : Addr) (hpb : ¬ b = pl.block) (l : Value) (w : World) (hp : w.cell? pl = some (.pointer (some ⟨b, 0, none⟩))) (hb : Blk w b 107 (atomsCells 0 (.map none) l)) :
    Calls Try.prog 43 #[.pointer (some ⟨b, 0, none⟩), .func (.func 44) #[] #[.pointer (some pl)]] w fun e w' => e = .returned (.tuple #[]) ∧
      Keeps (fun x => x = b) w w' ∧ Blk w' b 107 (atomsCells 1 (.map (some w.heap.size)) l) ∧ MapIs Value.string w' w.heap.size ([] : List (ByteArray × Value)) := by
  have h0 : w.cell? ⟨b, 0, none⟩ = some (.int .u32 0) := hb.cell (i := 0) rfl
  have hnot : ∀ (x : Bool) (w : World), (Op.unary .not (.bool x)).run Try.prog w = .ok (.bool (!x)) w := fun _ _ => rfl
  have HS := Lib.hid (slow_any b pl hpb l w hp hb)
  go_enter Try.func43, Try.ntmps43
  go_wp2_with (first | (go_at_call 54; refine (bload_any ⟨b, 0, none⟩ 0 _ h0).mono ?_; rintro e w' ⟨rfl, rfl⟩) | (go_at_call 55; refine HS.out.mono ?_; rintro e w2 ⟨rfl, h1, h2, h3⟩; have H1 := Lib.hid h1; have H2 := Lib.hid h2; have H3 := Lib.hid h3; clear h1 h2 h3))
  go_end0
  exact ⟨rfl, H1.out, H2.out, H3.out⟩
set_option maxRecDepth 100000 in
set_option maxHeartbeats 1600000 in
theorem do_done (b : Nat) (fv : Value) (w : World) (h0 : w.cell? ⟨b, 0, none⟩ = some (.int .u32 1)) :
    Calls Try.prog 43 #[.pointer (some ⟨b, 0, none⟩), fv] w fun e w' => e = .returned (.tuple #[]) ∧ w' = w := by
  have hnot : ∀ (x : Bool) (w : World), (Op.unary .not (.bool x)).run Try.prog w = .ok (.bool (!x)) w := fun _ _ => rfl
  go_enter Try.func43, Try.ntmps43
  go_wp2_with (go_at_call 54; refine (bload_any ⟨b, 0, none⟩ 1 _ h0).mono ?_; rintro e w' ⟨rfl, rfl⟩)
  go_end0
  exact ⟨rfl, rfl⟩
end Go.Proofs.Ytnmhodejffpblaa

/-
  The document's look at a term, once it has failed: what (*L).look does.
-/
import Derived.Test.YtgmieehheoknbaaLo
namespace Go.Proofs.Ytgmieehheoknbaa
open Go.RowKit Go.Tx
set_option maxRecDepth 100000 in
set_option maxHeartbeats 12800000 in
theorem look_err (d : Nat) (IH : LookSpec d) (w : World) (S E : Nat → Prop) (v : Value) (k n : Int) (s : ByteArray) (is rs : List Tm) (bs : ByteArray) (g : Nat) (dep : Int) (h : TmD w S (d + 1) v (.mk k n s is rs bs)) (hgS : ∀ x, S x → ¬ x = g)
    (hE : ∀ x, E x → ¬ x = g) (hE2 : ∀ x, w.heap.size ≤ x → E x) (hd : 1 ≤ dep) (hd2 : dep ≤ 201) (x : Int × Int) (hl : LookIs w E g (.error x)) :
    Calls Try.prog 31 #[.pointer (some ⟨g, 0, none⟩), v, .int .i64 dep] w (LookPost E g ((Except.error x).bind fun st => chk (.mk k n s is rs bs) dep st) w) := by
  have HT := Lib.hid h
  obtain ⟨vi, vr, vb, rfl, hfine, hns, hi, hr, hbs⟩ := h
  have HIS := Lib.hid hi
  have HRS := Lib.hid hr
  obtain ⟨hil, ai, ci, rfl, hic, him, _⟩ := hi
  obtain ⟨hrl, ar, cr, rfl, hrc, hrm, _⟩ := hr
  obtain ⟨hbl, ab, cb, rfl, hbc, hbm, _⟩ := hbs
  simp only [Tm.kind, Tm.n, Tm.name, Tm.items, Tm.rest, Tm.bytes] at hil hrl hbl hic him hrc hrm hbc hbm hns HIS HRS
  have HIH := Lib.hid IH
  have HGS := Lib.hid hgS
  have HE1 := Lib.hid hE
  have HE2 := Lib.hid hE2
  have HL := Lib.hid hl
  obtain ⟨a, b, c, hb, _⟩ := hl
  have hg := hb.lt
  have c2 : w.cell? ⟨g, 2, none⟩ = some (.pointer (some ⟨c, 0, none⟩)) := hb.cell (i := 2) rfl
  clear IH hgS hE hE2 hb HT hfine
  simp only [Tm.val, Tm.kind, Tm.n, Tm.name, Tm.items, Tm.rest, Tm.bytes]
  go_enter Try.func31, Try.ntmps31
  go_wp2_with (first | (with_reducible refine wp_region_text (by kernel_rfl) (by kernel_rfl) ?_) | (with_reducible refine text_fin (by kernel_rfl) ?_))
  first | go_end0 | (simp only [Exit.inBlock, Exit.then]; refine bodyPost_ret (results_none rfl _ _ _) rfl ?_) | refine bodyPost_ret (results_none rfl _ _ _) rfl ?_
  refine ⟨rfl, (by repeat (first | with_reducible exact Keeps.refl _ _ | with_reducible apply Keeps.drew | with_reducible apply Keeps.alloc)), HL.out.keeps (T := fun _ => False) (by repeat (first | with_reducible exact Keeps.refl _ _ | with_reducible apply Keeps.drew | with_reducible apply Keeps.alloc)) (fun h => h) fun _ _ h => h⟩
end Go.Proofs.Ytgmieehheoknbaa

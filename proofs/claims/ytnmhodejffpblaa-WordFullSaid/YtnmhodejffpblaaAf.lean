/-
  A full table of atoms: what (*Atoms).Number does; its error lies apart from the table.
-/
import Derived.Test.YtnmhodejffpblaaAn
namespace Go.Tx
open Go Go.RowKit
def AskFull (b : Nat) (E : Nat → Prop) (r : Int × ErrO × List ByteArray) (w : World) (e : Ending) (w' : World) : Prop :=
  ∃ v E2, e = .returned (.tuple #[.int .i64 r.1, v]) ∧ IsErrO w' (fun x => Fresh w w' x ∧ ¬ E2 x) v r.2.1 ∧ IsAtoms w' b E2 r.2.2 ∧ (∀ x, E2 x → Wider E w w' x) ∧ Keeps E w w'
end Go.Tx
namespace Go.Proofs.Ytnmhodejffpblaa
open Go.RowKit Go.Tx
set_option maxRecDepth 100000 in
set_option maxHeartbeats 1600000 in
theorem number_full2 {w : World} {b : Nat} {E : Nat → Prop} {l : List ByteArray} (s : ByteArray) (h : IsAtoms w b E l) (hs1 : 1 ≤ s.size) (hs2 : s.size ≤ 255) (hp : placeOf s l = none) (hf : 1024 ≤ l.length) :
    Calls Try.prog 19 #[.pointer (some ⟨b, 0, none⟩), .string s] w (AskFull b E (-1, some ([(⟨#[97, 116, 111, 109]⟩, (s.size : Int))], 2), l) w) := by
  have H := Lib.hid h
  have hbw := h.lt b h.own
  have HG := Lib.hid (numbered_get s l 0)
  have HP := Lib.hid hp
  have g1 : decide ((s.size : Int) < 1) = false := decide_eq_false (by omega)
  have g2 : decide (255 < (s.size : Int)) = false := decide_eq_false (by omega)
  have g3 : decide (1024 ≤ (l.length : Int)) = true := decide_eq_true (by omega)
  clear hp
  clear h
  go_enter Try.func19, Try.ntmps19
  go_wp2_with (go_at_call 43; refine Stop.out ?_)
  refine ⟨(do_any (E := E) (l := l) (H.out.keeps (T := fun _ => False) ((Keeps.refl _ w).alloc _) fun _ _ h => h) (one_cell w _ _) (by show ¬ b = w.heap.size; omega)).mono ?_⟩
  rintro e w2 ⟨rfl, hk2, m, lv, hb2, hm2, hr2, hE2, ho2⟩
  have hm : ¬ m = w.heap.size ∧ ¬ m = b := ⟨fun he => by rcases hE2 with h | h; (have := H.out.lt m h; omega); (rw [World.size_alloc] at h; omega), fun he => by have := hb2.ne_map hm2; omega⟩
  have hpl : w2.cell? ⟨w.heap.size, 0, none⟩ = some (.pointer (some ⟨b, 0, none⟩)) := hk2.cell (one_cell w _ _) (by show ¬ w.heap.size = b; omega)
  have c3 : w2.cell? ⟨b, 3, none⟩ = some (.map (some m)) := hb2.cell (i := 3) rfl
  have c4 : w2.cell? ⟨b, 4, none⟩ = some lv := hb2.cell (i := 4) rfl
  have f4 := hb2.free 4
  obtain ⟨la, lc, rfl, hlc, hlm⟩ := hr2.len
  have hsz : w.heap.size + 1 ≤ w2.heap.size := by have := hk2.size; rw [World.size_alloc] at this; exact this
  have HK2 : Hid (Keeps E w w2) := Lib.hid (((Keeps.refl E w).alloc _).trans hk2 fun x _ hx => hx ▸ H.out.own)
  have HB2 := Lib.hid hb2
  have HM2 := Lib.hid hm2
  have HR2 := Lib.hid hr2
  have HE2 : Hid (E m ∨ w.heap.size + 1 = m) := Lib.hid (hE2.imp id fun h => by rw [World.size_alloc] at h; exact h.symm)
  have HO2 := Lib.hid ho2
  have hfew := H.out.few
  have hbw2 : b < w2.heap.size := by omega
  clear hk2 hb2 hm2 hr2 hE2 ho2
  go_wp2_with (first | (with_reducible refine wp_region_text (by kernel_rfl) (by kernel_rfl) ?_) | (with_reducible refine text_fin (by kernel_rfl) ?_) | (at_lookup; refine wpList_lookup_kv rfl _ _ 105 true rfl 9 3 (keyL_string Try.underlying9) Try.underlying105 _ (zero_int _) m rfl HM2.out s rfl ?_; rw [HG.out]; simp only [HP.out, Option.map_some, Option.map_none, Option.getD_some, Option.getD_none, Option.isSome_some, Option.isSome_none, if_true, Nat.zero_add]) | (go_at_call 35; refine (at_any _ _ _ _ _).mono ?_; rintro e w3 ⟨rfl, rfl⟩))
  have hA : IsAtoms w2 b (Wider E w w2) l := ⟨hfew, H.out.once, .inl H.out.own, fun x hx => hx.elim (fun h => Nat.lt_of_lt_of_le (H.out.lt x h) HK2.out.size) fun h => h.2,
    .inr ⟨m, _, HB2.out, HM2.out, HR2.out, HE2.out.imp id (fun h => ⟨by omega, by have := HM2.out.lt; omega⟩), fun g hg => .inl (HO2.out g hg)⟩⟩
  go_ret2
  refine ⟨_, Wider E w w2, rfl, ⟨(isErr_new w2 ⟨#[97, 116, 111, 109]⟩ s.size (.iface 53 (.int .i64 2)) [] 2 (fun _ => False) rfl).mono (fun x hx => ?_), by simp⟩, hA.keeps ((Keeps.refl (fun _ => False) w2).alloc _) fun _ _ h => h, fun x hx => hx.imp id fun h => ⟨h.1, by rw [World.size_alloc]; have := h.2; omega⟩, HK2.out.alloc _⟩
  rcases hx with rfl | hx
  · refine ⟨⟨by omega, by rw [World.size_alloc]; omega⟩, fun hx => ?_⟩
    rcases hx with h | h
    · have := H.out.lt _ h; omega
    · exact absurd h.2 (Nat.lt_irrefl _)
  · exact hx.elim

end Go.Proofs.Ytnmhodejffpblaa

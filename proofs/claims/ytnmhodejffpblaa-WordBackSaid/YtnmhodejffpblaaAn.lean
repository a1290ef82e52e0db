/-
  A table of atoms: what (*Atoms).Number does.
-/
import Derived.Test.YtnmhodejffpblaaOs
import Derived.Test.YtnmhodejffpblaaHeld
import Derived.Test.YtnmhodejffpblaaLk
namespace Go.Tx
open Go Go.RowKit
/-- behind a question for a name's number -/
def AskPost (b : Nat) (E : Nat → Prop) (r : Int × ErrO × List ByteArray) (w : World) (e : Ending) (w' : World) : Prop :=
  ∃ v, e = .returned (.tuple #[.int .i64 r.1, v]) ∧ IsErrO w' (Fresh w w') v r.2.1 ∧ IsAtoms w' b (Wider E w w') r.2.2 ∧ Keeps E w w'
/-- behind Do -/
def DoPost (b : Nat) (E : Nat → Prop) (l : List ByteArray) (w : World) (w' : World) : Prop :=
  Keeps (fun x => x = b) w w' ∧ ∃ m lv, Blk w' b 107 (atomsCells 1 (.map (some m)) lv) ∧ MapIs Value.string w' m (numbered l 0) ∧ Row w' 9 1 lv l.length (nameCells l) ∧ (E m ∨ m = w.heap.size) ∧ ∀ g, lv.ownBlock = some g → E g
end Go.Tx
namespace Go.Proofs.Ytnmhodejffpblaa
open Go.RowKit Go.Tx
theorem zero_int (w : World) : (zeroValue 3).run Try.prog w = .ok (.int .i64 0) w := by kernel_rfl
theorem info_string : (Try.prog.info? 9).map (fun i => (i.zero, i.size, i.bytes)) = some (some (.string ByteArray.empty), 1, 16) := by kernel_rfl
theorem do_any {w : World} {b : Nat} {E : Nat → Prop} {l : List ByteArray} {pl : Addr} (h : IsAtoms w b E l) (hp : w.cell? pl = some (.pointer (some ⟨b, 0, none⟩))) (hpb : ¬ b = pl.block) :
    Calls Try.prog 43 #[.pointer (some ⟨b, 0, none⟩), .func (.func 44) #[] #[.pointer (some pl)]] w fun e w' => e = .returned (.tuple #[]) ∧ DoPost b E l w w' := by
  rcases h.at_ with ⟨rfl, h2⟩ | ⟨m, lv, h1, h2, h3, h4, h5⟩
  · refine (do_first b pl hpb _ w hp h2).mono ?_
    rintro e w' ⟨rfl, h3, h4, h5⟩
    exact ⟨rfl, h3, _, _, h4, h5, World.ownsRow_nil _ _ _ _, .inr rfl, fun g hg => by simp [Value.ownBlock] at hg⟩
  · refine (do_done b _ w (h1.cell (i := 0) rfl)).mono ?_
    rintro e w' ⟨rfl, rfl⟩
    exact ⟨rfl, Keeps.refl _ _, m, lv, h1, h2, h3, .inl h4, h5⟩
set_option maxRecDepth 100000 in
set_option maxHeartbeats 1600000 in
theorem number_old {w : World} {b : Nat} {E : Nat → Prop} {l : List ByteArray} (s : ByteArray) (h : IsAtoms w b E l) (i : Nat) (hs1 : 1 ≤ s.size) (hs2 : s.size ≤ 255) (hp : placeOf s l = some i) :
    Calls Try.prog 19 #[.pointer (some ⟨b, 0, none⟩), .string s] w (AskPost b E ((i : Int), none, l) w) := by
  have H := Lib.hid h
  have hbw := h.lt b h.own
  have HG := Lib.hid (numbered_get s l 0)
  have HP := Lib.hid hp
  have g1 : decide ((s.size : Int) < 1) = false := decide_eq_false (by omega)
  have g2 : decide (255 < (s.size : Int)) = false := decide_eq_false (by omega)
  clear hp
  clear h
  go_enter Try.func19, Try.ntmps19
  go_wp2_with (go_at_call 43; refine Stop.out ?_)
  refine ⟨(do_any (E := E) (l := l) (H.out.keeps (T := fun _ => False) ((Keeps.refl _ w).alloc _) fun _ _ h => h) (one_cell w _ _) (by show ¬ b = w.heap.size; omega)).mono ?_⟩
  rintro e w2 ⟨rfl, hk2, m, lv, hb2, hm2, hr2, hE2, ho2⟩
  have hm : ¬ m = w.heap.size ∧ ¬ m = b := ⟨fun he => by rcases hE2 with h | h; (have := H.out.lt m h; omega); (rw [World.size_alloc] at h; omega), fun he => by have := hb2.ne_map hm2; omega⟩
  have hpl : w2.cell? ⟨w.heap.size, 0, none⟩ = some (.pointer (some ⟨b, 0, none⟩)) := hk2.cell (one_cell w _ _) (by show ¬ w.heap.size = b; omega)
  have c3 : w2.cell? ⟨b, 3, none⟩ = some (.map (some m)) := hb2.cell (i := 3) rfl
  have c4 : w2.cell? ⟨b, 4, none⟩ = some lv := hb2.cell (i := 4) rfl
  have f4 := hb2.free 4
  obtain ⟨la, lc, rfl, hlc, hlm⟩ := hr2.len
  have hsz : w.heap.size + 1 ≤ w2.heap.size := by have := hk2.size; rw [World.size_alloc] at this; exact this
  have HK2 : Hid (Keeps E w w2) := Lib.hid (((Keeps.refl E w).alloc _).trans hk2 fun x _ hx => hx ▸ H.out.own)
  have HB2 := Lib.hid hb2
  have HM2 := Lib.hid hm2
  have HR2 := Lib.hid hr2
  have HE2 : Hid (E m ∨ w.heap.size + 1 = m) := Lib.hid (hE2.imp id fun h => by rw [World.size_alloc] at h; exact h.symm)
  have HO2 := Lib.hid ho2
  have hfew := H.out.few
  have hbw2 : b < w2.heap.size := by omega
  clear hk2 hb2 hm2 hr2 hE2 ho2
  go_wp2_with (first | (with_reducible refine wp_region_text (by kernel_rfl) (by kernel_rfl) ?_) | (with_reducible refine text_fin (by kernel_rfl) ?_) | (at_lookup; refine wpList_lookup_kv rfl _ _ 105 true rfl 9 3 (keyL_string Try.underlying9) Try.underlying105 _ (zero_int _) m rfl HM2.out s rfl ?_; rw [HG.out]; simp only [HP.out, Option.map_some, Option.map_none, Option.getD_some, Option.getD_none, Option.isSome_some, Option.isSome_none, if_true, Nat.zero_add]) | (go_at_call 35; refine (at_any _ _ _ _ _).mono ?_; rintro e w3 ⟨rfl, rfl⟩))
  have hA : IsAtoms w2 b (Wider E w w2) l := ⟨hfew, H.out.once, .inl H.out.own, fun x hx => hx.elim (fun h => Nat.lt_of_lt_of_le (H.out.lt x h) HK2.out.size) fun h => h.2,
    .inr ⟨m, _, HB2.out, HM2.out, HR2.out, HE2.out.imp id (fun h => ⟨by omega, by have := HM2.out.lt; omega⟩), fun g hg => .inl (HO2.out g hg)⟩⟩
  go_ret2
  exact ⟨_, rfl, rfl, hA, HK2.out⟩
set_option maxRecDepth 100000 in
set_option maxHeartbeats 1600000 in
theorem number_short {w : World} {b : Nat} {E : Nat → Prop} {l : List ByteArray} (s : ByteArray) (h : IsAtoms w b E l) (hs1 : s.size < 1) :
    Calls Try.prog 19 #[.pointer (some ⟨b, 0, none⟩), .string s] w (AskPost b E (-1, some ([(⟨#[97, 116, 111, 109]⟩, (s.size : Int))], 1), l) w) := by
  have H := Lib.hid h
  have hbw := h.lt b h.own
  have HG := Lib.hid (numbered_get s l 0)
  have g1 : decide ((s.size : Int) < 1) = true := decide_eq_true (by omega)
  clear h
  go_enter Try.func19, Try.ntmps19
  go_wp2_with (go_at_call 43; refine Stop.out ?_)
  refine ⟨(do_any (E := E) (l := l) (H.out.keeps (T := fun _ => False) ((Keeps.refl _ w).alloc _) fun _ _ h => h) (one_cell w _ _) (by show ¬ b = w.heap.size; omega)).mono ?_⟩
  rintro e w2 ⟨rfl, hk2, m, lv, hb2, hm2, hr2, hE2, ho2⟩
  have hm : ¬ m = w.heap.size ∧ ¬ m = b := ⟨fun he => by rcases hE2 with h | h; (have := H.out.lt m h; omega); (rw [World.size_alloc] at h; omega), fun he => by have := hb2.ne_map hm2; omega⟩
  have hpl : w2.cell? ⟨w.heap.size, 0, none⟩ = some (.pointer (some ⟨b, 0, none⟩)) := hk2.cell (one_cell w _ _) (by show ¬ w.heap.size = b; omega)
  have c3 : w2.cell? ⟨b, 3, none⟩ = some (.map (some m)) := hb2.cell (i := 3) rfl
  have c4 : w2.cell? ⟨b, 4, none⟩ = some lv := hb2.cell (i := 4) rfl
  have f4 := hb2.free 4
  obtain ⟨la, lc, rfl, hlc, hlm⟩ := hr2.len
  have hsz : w.heap.size + 1 ≤ w2.heap.size := by have := hk2.size; rw [World.size_alloc] at this; exact this
  have HK2 : Hid (Keeps E w w2) := Lib.hid (((Keeps.refl E w).alloc _).trans hk2 fun x _ hx => hx ▸ H.out.own)
  have HB2 := Lib.hid hb2
  have HM2 := Lib.hid hm2
  have HR2 := Lib.hid hr2
  have HE2 : Hid (E m ∨ w.heap.size + 1 = m) := Lib.hid (hE2.imp id fun h => by rw [World.size_alloc] at h; exact h.symm)
  have HO2 := Lib.hid ho2
  have hfew := H.out.few
  have hbw2 : b < w2.heap.size := by omega
  clear hk2 hb2 hm2 hr2 hE2 ho2
  go_wp2_with (first | (with_reducible refine wp_region_text (by kernel_rfl) (by kernel_rfl) ?_) | (with_reducible refine text_fin (by kernel_rfl) ?_) | (at_lookup; refine wpList_lookup_kv rfl _ _ 105 true rfl 9 3 (keyL_string Try.underlying9) Try.underlying105 _ (zero_int _) m rfl HM2.out s rfl ?_; simp only [if_true]) | (go_at_call 35; refine (at_any _ _ _ _ _).mono ?_; rintro e w3 ⟨rfl, rfl⟩))
  have hA : IsAtoms w2 b (Wider E w w2) l := ⟨hfew, H.out.once, .inl H.out.own, fun x hx => hx.elim (fun h => Nat.lt_of_lt_of_le (H.out.lt x h) HK2.out.size) fun h => h.2,
    .inr ⟨m, _, HB2.out, HM2.out, HR2.out, HE2.out.imp id (fun h => ⟨by omega, by have := HM2.out.lt; omega⟩), fun g hg => .inl (HO2.out g hg)⟩⟩
  go_ret2
  refine ⟨_, rfl, ⟨(isErr_new w2 ⟨#[97, 116, 111, 109]⟩ s.size (.iface 53 (.int .i64 1)) [] 1 (fun _ => False) rfl).mono (fun x hx => ?_), by simp⟩, (hA.keeps ((Keeps.refl (fun _ => False) w2).alloc _) fun _ _ h => h).wider (fun x hx => hx.imp id fun h => ⟨h.1, by rw [World.size_alloc]; have := h.2; omega⟩) (fun x hx => ?_), HK2.out.alloc _⟩
  · rcases hx with rfl | hx
    · exact ⟨by omega, by rw [World.size_alloc]; omega⟩
    · exact hx.elim
  · rcases hx with h | h
    · have := H.out.lt x h; rw [World.size_alloc]; omega
    · exact h.2

set_option maxRecDepth 100000 in
set_option maxHeartbeats 1600000 in
theorem number_long {w : World} {b : Nat} {E : Nat → Prop} {l : List ByteArray} (s : ByteArray) (h : IsAtoms w b E l) (hs1 : 1 ≤ s.size) (hs2 : 255 < s.size) :
    Calls Try.prog 19 #[.pointer (some ⟨b, 0, none⟩), .string s] w (AskPost b E (-1, some ([(⟨#[97, 116, 111, 109]⟩, (s.size : Int))], 1), l) w) := by
  have H := Lib.hid h
  have hbw := h.lt b h.own
  have HG := Lib.hid (numbered_get s l 0)
  have g1 : decide ((s.size : Int) < 1) = false := decide_eq_false (by omega)
  have g2 : decide (255 < (s.size : Int)) = true := decide_eq_true (by omega)
  clear h
  go_enter Try.func19, Try.ntmps19
  go_wp2_with (go_at_call 43; refine Stop.out ?_)
  refine ⟨(do_any (E := E) (l := l) (H.out.keeps (T := fun _ => False) ((Keeps.refl _ w).alloc _) fun _ _ h => h) (one_cell w _ _) (by show ¬ b = w.heap.size; omega)).mono ?_⟩
  rintro e w2 ⟨rfl, hk2, m, lv, hb2, hm2, hr2, hE2, ho2⟩
  have hm : ¬ m = w.heap.size ∧ ¬ m = b := ⟨fun he => by rcases hE2 with h | h; (have := H.out.lt m h; omega); (rw [World.size_alloc] at h; omega), fun he => by have := hb2.ne_map hm2; omega⟩
  have hpl : w2.cell? ⟨w.heap.size, 0, none⟩ = some (.pointer (some ⟨b, 0, none⟩)) := hk2.cell (one_cell w _ _) (by show ¬ w.heap.size = b; omega)
  have c3 : w2.cell? ⟨b, 3, none⟩ = some (.map (some m)) := hb2.cell (i := 3) rfl
  have c4 : w2.cell? ⟨b, 4, none⟩ = some lv := hb2.cell (i := 4) rfl
  have f4 := hb2.free 4
  obtain ⟨la, lc, rfl, hlc, hlm⟩ := hr2.len
  have hsz : w.heap.size + 1 ≤ w2.heap.size := by have := hk2.size; rw [World.size_alloc] at this; exact this
  have HK2 : Hid (Keeps E w w2) := Lib.hid (((Keeps.refl E w).alloc _).trans hk2 fun x _ hx => hx ▸ H.out.own)
  have HB2 := Lib.hid hb2
  have HM2 := Lib.hid hm2
  have HR2 := Lib.hid hr2
  have HE2 : Hid (E m ∨ w.heap.size + 1 = m) := Lib.hid (hE2.imp id fun h => by rw [World.size_alloc] at h; exact h.symm)
  have HO2 := Lib.hid ho2
  have hfew := H.out.few
  have hbw2 : b < w2.heap.size := by omega
  clear hk2 hb2 hm2 hr2 hE2 ho2
  go_wp2_with (first | (with_reducible refine wp_region_text (by kernel_rfl) (by kernel_rfl) ?_) | (with_reducible refine text_fin (by kernel_rfl) ?_) | (at_lookup; refine wpList_lookup_kv rfl _ _ 105 true rfl 9 3 (keyL_string Try.underlying9) Try.underlying105 _ (zero_int _) m rfl HM2.out s rfl ?_; simp only [if_true]) | (go_at_call 35; refine (at_any _ _ _ _ _).mono ?_; rintro e w3 ⟨rfl, rfl⟩))
  have hA : IsAtoms w2 b (Wider E w w2) l := ⟨hfew, H.out.once, .inl H.out.own, fun x hx => hx.elim (fun h => Nat.lt_of_lt_of_le (H.out.lt x h) HK2.out.size) fun h => h.2,
    .inr ⟨m, _, HB2.out, HM2.out, HR2.out, HE2.out.imp id (fun h => ⟨by omega, by have := HM2.out.lt; omega⟩), fun g hg => .inl (HO2.out g hg)⟩⟩
  go_ret2
  refine ⟨_, rfl, ⟨(isErr_new w2 ⟨#[97, 116, 111, 109]⟩ s.size (.iface 53 (.int .i64 1)) [] 1 (fun _ => False) rfl).mono (fun x hx => ?_), by simp⟩, (hA.keeps ((Keeps.refl (fun _ => False) w2).alloc _) fun _ _ h => h).wider (fun x hx => hx.imp id fun h => ⟨h.1, by rw [World.size_alloc]; have := h.2; omega⟩) (fun x hx => ?_), HK2.out.alloc _⟩
  · rcases hx with rfl | hx
    · exact ⟨by omega, by rw [World.size_alloc]; omega⟩
    · exact hx.elim
  · rcases hx with h | h
    · have := H.out.lt x h; rw [World.size_alloc]; omega
    · exact h.2

set_option maxRecDepth 100000 in
set_option maxHeartbeats 1600000 in
theorem number_full {w : World} {b : Nat} {E : Nat → Prop} {l : List ByteArray} (s : ByteArray) (h : IsAtoms w b E l) (hs1 : 1 ≤ s.size) (hs2 : s.size ≤ 255) (hp : placeOf s l = none) (hf : 1024 ≤ l.length) :
    Calls Try.prog 19 #[.pointer (some ⟨b, 0, none⟩), .string s] w (AskPost b E (-1, some ([(⟨#[97, 116, 111, 109]⟩, (s.size : Int))], 2), l) w) := by
  have H := Lib.hid h
  have hbw := h.lt b h.own
  have HG := Lib.hid (numbered_get s l 0)
  have HP := Lib.hid hp
  have g1 : decide ((s.size : Int) < 1) = false := decide_eq_false (by omega)
  have g2 : decide (255 < (s.size : Int)) = false := decide_eq_false (by omega)
  have g3 : decide (1024 ≤ (l.length : Int)) = true := decide_eq_true (by omega)
  clear hp
  clear h
  go_enter Try.func19, Try.ntmps19
  go_wp2_with (go_at_call 43; refine Stop.out ?_)
  refine ⟨(do_any (E := E) (l := l) (H.out.keeps (T := fun _ => False) ((Keeps.refl _ w).alloc _) fun _ _ h => h) (one_cell w _ _) (by show ¬ b = w.heap.size; omega)).mono ?_⟩
  rintro e w2 ⟨rfl, hk2, m, lv, hb2, hm2, hr2, hE2, ho2⟩
  have hm : ¬ m = w.heap.size ∧ ¬ m = b := ⟨fun he => by rcases hE2 with h | h; (have := H.out.lt m h; omega); (rw [World.size_alloc] at h; omega), fun he => by have := hb2.ne_map hm2; omega⟩
  have hpl : w2.cell? ⟨w.heap.size, 0, none⟩ = some (.pointer (some ⟨b, 0, none⟩)) := hk2.cell (one_cell w _ _) (by show ¬ w.heap.size = b; omega)
  have c3 : w2.cell? ⟨b, 3, none⟩ = some (.map (some m)) := hb2.cell (i := 3) rfl
  have c4 : w2.cell? ⟨b, 4, none⟩ = some lv := hb2.cell (i := 4) rfl
  have f4 := hb2.free 4
  obtain ⟨la, lc, rfl, hlc, hlm⟩ := hr2.len
  have hsz : w.heap.size + 1 ≤ w2.heap.size := by have := hk2.size; rw [World.size_alloc] at this; exact this
  have HK2 : Hid (Keeps E w w2) := Lib.hid (((Keeps.refl E w).alloc _).trans hk2 fun x _ hx => hx ▸ H.out.own)
  have HB2 := Lib.hid hb2
  have HM2 := Lib.hid hm2
  have HR2 := Lib.hid hr2
  have HE2 : Hid (E m ∨ w.heap.size + 1 = m) := Lib.hid (hE2.imp id fun h => by rw [World.size_alloc] at h; exact h.symm)
  have HO2 := Lib.hid ho2
  have hfew := H.out.few
  have hbw2 : b < w2.heap.size := by omega
  clear hk2 hb2 hm2 hr2 hE2 ho2
  go_wp2_with (first | (with_reducible refine wp_region_text (by kernel_rfl) (by kernel_rfl) ?_) | (with_reducible refine text_fin (by kernel_rfl) ?_) | (at_lookup; refine wpList_lookup_kv rfl _ _ 105 true rfl 9 3 (keyL_string Try.underlying9) Try.underlying105 _ (zero_int _) m rfl HM2.out s rfl ?_; rw [HG.out]; simp only [HP.out, Option.map_some, Option.map_none, Option.getD_some, Option.getD_none, Option.isSome_some, Option.isSome_none, if_true, Nat.zero_add]) | (go_at_call 35; refine (at_any _ _ _ _ _).mono ?_; rintro e w3 ⟨rfl, rfl⟩))
  have hA : IsAtoms w2 b (Wider E w w2) l := ⟨hfew, H.out.once, .inl H.out.own, fun x hx => hx.elim (fun h => Nat.lt_of_lt_of_le (H.out.lt x h) HK2.out.size) fun h => h.2,
    .inr ⟨m, _, HB2.out, HM2.out, HR2.out, HE2.out.imp id (fun h => ⟨by omega, by have := HM2.out.lt; omega⟩), fun g hg => .inl (HO2.out g hg)⟩⟩
  go_ret2
  refine ⟨_, rfl, ⟨(isErr_new w2 ⟨#[97, 116, 111, 109]⟩ s.size (.iface 53 (.int .i64 2)) [] 2 (fun _ => False) rfl).mono (fun x hx => ?_), by simp⟩, (hA.keeps ((Keeps.refl (fun _ => False) w2).alloc _) fun _ _ h => h).wider (fun x hx => hx.imp id fun h => ⟨h.1, by rw [World.size_alloc]; have := h.2; omega⟩) (fun x hx => ?_), HK2.out.alloc _⟩
  · rcases hx with rfl | hx
    · exact ⟨by omega, by rw [World.size_alloc]; omega⟩
    · exact hx.elim
  · rcases hx with h | h
    · have := H.out.lt x h; rw [World.size_alloc]; omega
    · exact h.2

set_option maxRecDepth 100000 in
set_option maxHeartbeats 1600000 in
theorem number_new {w : World} {b : Nat} {E : Nat → Prop} {l : List ByteArray} (s : ByteArray) (h : IsAtoms w b E l) (hs1 : 1 ≤ s.size) (hs2 : s.size ≤ 255) (hp : placeOf s l = none) (hf : l.length < 1024) :
    Calls Try.prog 19 #[.pointer (some ⟨b, 0, none⟩), .string s] w (AskPost b E ((l.length : Int), none, l ++ [s]) w) := by
  have H := Lib.hid h
  have hbw := h.lt b h.own
  have HG := Lib.hid (numbered_get s l 0)
  have HP := Lib.hid hp
  have g1 : decide ((s.size : Int) < 1) = false := decide_eq_false (by omega)
  have g2 : decide (255 < (s.size : Int)) = false := decide_eq_false (by omega)
  have g3 : decide (1024 ≤ (l.length : Int)) = false := decide_eq_false (by omega)
  clear hp
  clear h
  go_enter Try.func19, Try.ntmps19
  go_wp2_with (go_at_call 43; refine Stop.out ?_)
  refine ⟨(do_any (E := E) (l := l) (H.out.keeps (T := fun _ => False) ((Keeps.refl _ w).alloc _) fun _ _ h => h) (one_cell w _ _) (by show ¬ b = w.heap.size; omega)).mono ?_⟩
  rintro e w2 ⟨rfl, hk2, m, lv, hb2, hm2, hr2, hE2, ho2⟩
  have hm : ¬ m = w.heap.size ∧ ¬ m = b := ⟨fun he => by rcases hE2 with h | h; (have := H.out.lt m h; omega); (rw [World.size_alloc] at h; omega), fun he => by have := hb2.ne_map hm2; omega⟩
  have hpl : w2.cell? ⟨w.heap.size, 0, none⟩ = some (.pointer (some ⟨b, 0, none⟩)) := hk2.cell (one_cell w _ _) (by show ¬ w.heap.size = b; omega)
  have c3 : w2.cell? ⟨b, 3, none⟩ = some (.map (some m)) := hb2.cell (i := 3) rfl
  have c4 : w2.cell? ⟨b, 4, none⟩ = some lv := hb2.cell (i := 4) rfl
  have f4 := hb2.free 4
  obtain ⟨la, lc, rfl, hlc, hlm⟩ := hr2.len
  have hsz : w.heap.size + 1 ≤ w2.heap.size := by have := hk2.size; rw [World.size_alloc] at this; exact this
  have HK2 : Hid (Keeps E w w2) := Lib.hid (((Keeps.refl E w).alloc _).trans hk2 fun x _ hx => hx ▸ H.out.own)
  have HB2 := Lib.hid hb2
  have HM2 := Lib.hid hm2
  have HR2 := Lib.hid hr2
  have HE2 : Hid (E m ∨ w.heap.size + 1 = m) := Lib.hid (hE2.imp id fun h => by rw [World.size_alloc] at h; exact h.symm)
  have HO2 := Lib.hid ho2
  have hfew := H.out.few
  have hbw2 : b < w2.heap.size := by omega
  clear hk2 hb2 hm2 hr2 hE2 ho2
  go_wp2_with (first | (with_reducible refine wp_region_text (by kernel_rfl) (by kernel_rfl) ?_) | (with_reducible refine text_fin (by kernel_rfl) ?_) | (at_lookup; refine wpList_lookup_kv rfl _ _ 105 true rfl 9 3 (keyL_string Try.underlying9) Try.underlying105 _ (zero_int _) m rfl HM2.out s rfl ?_; rw [HG.out]; simp only [HP.out, Option.map_some, Option.map_none, Option.getD_some, Option.getD_none, Option.isSome_some, Option.isSome_none, if_true, Nat.zero_add]) | (at_mapUpdate; refine Stop.out ?_))
  refine ⟨?_⟩
  refine wpList_update_kv rfl _ _ _ 105 rfl 9 3 (keyL_string Try.underlying9) Try.underlying105 m rfl (HM2.out.keeps (S := fun _ => False) (by repeat (first | with_reducible exact Keeps.refl _ _ | with_reducible apply Keeps.drew | with_reducible apply Keeps.alloc)) id) s rfl (.int .i64 l.length) rfl ?_
  intro w3 hm3 hk3 hs3
  rw [numbered_put (placeOf_none.1 HP.out)] at hm3
  have hkk : Keeps (fun x => x = m) w2 w3 := hk3.of_drew
  have hB3 := HB2.out.keeps hkk (fun h => hm.2 h.symm)
  have hR3 := HR2.out.keeps hkk fun g hg he => row_ne_map HR2.out HM2.out (he ▸ hg)
  have hpl3 : w3.cell? ⟨w.heap.size, 0, none⟩ = some (.pointer (some ⟨b, 0, none⟩)) := hkk.cell hpl (fun h => hm.1 h.symm)
  have c43 : w3.cell? ⟨b, 4, none⟩ = some (.slice la l.length lc) := hB3.cell (i := 4) rfl
  have hbw3 : b < w3.heap.size := hB3.lt
  have hKE : Keeps E w w3 := HK2.out.trans hkk fun x hx he => by
    rcases HE2.out with h | h
    · exact he ▸ h
    · omega
  have hsz3 : w.heap.size + 1 ≤ w3.heap.size := by have := hkk.size; omega
  have HPU := Lib.hid fun w0 v' w4 k0 ha => atoms_push (w := w) (w3 := w3) (w0 := w0) (w4 := w4) (v' := v') (s := s) H.out.own H.out.lt hKE hB3 hm3 hR3 (HE2.out.imp id fun h => by omega) HO2.out hf H.out.once (placeOf_none.1 HP.out) k0 ha
  have HHo : Hid (∀ W, Keeps (fun g => g ≠ w.heap.size) w3 W → W.cell? ⟨w.heap.size, 0, none⟩ = some (.pointer (some ⟨b, 0, none⟩))) := Lib.hid fun W hW => hW.cell hpl3 (fun h => h rfl)
  have HR3 := Lib.hid hR3
  have hbg : b ≠ w.heap.size := by omega
  clear hm3 hk3 hs3 hkk hB3 hR3 hKE c3 c4 f4 hpl
  go_wp2_with (first | (show Code.wp _ (Code.region 10 _ _) _ _ _; refine Stop.out ?_) | (with_reducible refine wp_region_text (by kernel_rfl) (by kernel_rfl) ?_) | (with_reducible refine text_fin (by kernel_rfl) ?_))
  refine ⟨?_⟩
  refine wp_region_held_text (fun W => W.cell? ⟨w.heap.size, 0, none⟩ = some (.pointer (some ⟨b, 0, none⟩))) [0] (by kernel_rfl) (by kernel_rfl) (HHo.out _ (by repeat (first | with_reducible exact Keeps.refl _ _ | with_reducible apply Keeps.drew | with_reducible apply Keeps.alloc))) ?_
  go_wp2_with (first | (refine wpH_load rfl _ _ rfl _ rfl rfl _ _ rfl (fun _ h => h) (HHo.out _ (by repeat (first | with_reducible exact Keeps.refl _ _ | with_reducible apply Keeps.drew | with_reducible apply Keeps.alloc))) ?_) | (refine wpH_walk rfl rfl ?_) | (refine held_fin (HHo.out _ (by repeat (first | with_reducible exact Keeps.refl _ _ | exact HK4.out | with_reducible apply Keeps.drew | with_reducible apply Keeps.alloc | (refine Keeps.setCell ?_ (fun _ => hbg) _)))) ?_) | (refine wpH_nil ?_) | (with_reducible refine text_fin (by kernel_rfl) ?_) | (at_builtin; go_must (refine wpList_append_row _ rfl _ _ 22 22 rfl 9 (.slice 9) 1 16 (.string ByteArray.empty) info_string Try.underlying22 Try.underlying22 (by intro k h; cases h) rfl (.slice la l.length lc) l.length (nameCells l) rfl (HR3.out.keeps (S := fun _ => False) (by repeat (first | with_reducible exact Keeps.refl _ _ | with_reducible apply Keeps.drew | with_reducible apply Keeps.alloc)) (fun _ _ h => h)) _ 1 [.string s] rfl rfl (lenOf_slice _ _ _) (firstCells_at _ rfl (cells_newAt rfl)) (by intro u hu; simp at hu; subst hu; rfl) (by unfold maxLen; omega) (by omega) ?_); intro v' w4 ha; obtain ⟨va, vc, rfl, _, _⟩ := ha.row.len; obtain ⟨g1', g2', g3', g4', g5'⟩ := HPU.out _ _ w4 (by repeat (first | with_reducible exact Keeps.refl _ _ | with_reducible apply Keeps.drew | with_reducible apply Keeps.alloc)) ha; have G1 := Lib.hid g1'; have G2 := Lib.hid g2'; have HK4 : Hid (Keeps (fun g => g ≠ w.heap.size) w3 w4) := Lib.hid (g5'.mono fun g _ hg he => by have := H.out.lt g (HO2.out g hg); omega); have p4 : w4.cell? ⟨w.heap.size, 0, none⟩ = some (.pointer (some ⟨b, 0, none⟩)) := HHo.out w4 HK4.out; clear g1' g2' g5' ha hpl3 c43))
  go_ret2
  refine ⟨_, rfl, rfl, G1.out, G2.out⟩

end Go.Proofs.Ytnmhodejffpblaa

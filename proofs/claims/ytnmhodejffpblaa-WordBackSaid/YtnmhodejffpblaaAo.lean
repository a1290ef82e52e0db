/-
  The document's table of atoms: what its Number does.
-/
import Derived.Test.YtnmhodejffpblaaAm
import Derived.Test.YtnmhodejffpblaaAn
import Derived.Test.YtnmhodejffpblaaWdM
namespace Go.Tx
open Go Go.RowKit
/-- behind a question for a name's number, the document's -/
def AskXPost (b : Nat) (E : Nat → Prop) (r : Int × ErrO × List ByteArray) (w : World) (e : Ending) (w' : World) : Prop :=
  ∃ v, e = .returned (.tuple #[.int .i64 r.1, v]) ∧ IsXO w' (Fresh w w') v r.2.1 ∧ IsNames w' b (Wider E w w') r.2.2 ∧ Keeps E w w'
theorem askX_err {w w1 w2 : World} {b : Nat} {E : Nat → Prop} {l : List ByteArray} {op : ByteArray} {n k : Int} {e : Ending} (h : IsNames w b E l) (hk : Keeps (fun _ => False) w w1) (hx : XErrPost (.tuple #[.int .i64 (-1), ·]) [(op, n)] k w1 e w2) : AskXPost b E (-1, some ([(op, n)], k), l) w e w2 := by
  obtain ⟨v, he, h1, h2⟩ := hx
  have hk2 := hk.trans h2 fun _ _ h => h
  refine ⟨v, he, ⟨h1.mono fun x hx => ⟨by have := hk.size; have := hx.1; omega, hx.2⟩, by simp⟩, (h.keeps hk2 fun _ _ h => h).wider (fun x hx => .inl hx) fun x hx => ?_, hk2.mono fun _ _ h => h.elim⟩
  rcases hx with h3 | h3
  · exact Nat.lt_of_lt_of_le (h.lt x h3) hk2.size
  · exact h3.2
end Go.Tx
namespace Go.Proofs.Ytnmhodejffpblaa
open Go.RowKit Go.Tx
set_option maxRecDepth 100000 in
set_option maxHeartbeats 1600000 in
theorem rnumber_empty {w : World} {b : Nat} {E : Nat → Prop} {l : List ByteArray} (s : ByteArray) (h : IsNames w b E l) (hs : s = ⟨#[]⟩) :
    Calls Try.prog 33 #[.pointer (some ⟨b, 0, none⟩), .string s] w (AskXPost b E (-1, some ([(⟨#[97, 116, 111, 109]⟩, (s.size : Int))], 1), l) w) := by
  have H := Lib.hid h
  have hbw := h.lt b h.own
  subst hs
  clear h
  go_enter Try.func33, Try.ntmps33
  go_wp2_with (first | (with_reducible refine wp_region_text (by kernel_rfl) (by kernel_rfl) ?_) | (with_reducible refine text_fin (by kernel_rfl) ?_) | (go_at_call 46; refine (K_any _ _).mono ?_; rintro e w1 ⟨rfl, rfl⟩) | (go_at_call 45; refine (f4_any _ _ _ _).mono ?_; rintro e w2 ⟨rfl, rfl⟩))
  go_ret2
  exact askX_err H.out (Keeps.refl _ _) (isX_one (f := (.tuple #[.int .i64 (-1), ·])) rfl rfl)
set_option maxRecDepth 100000 in
set_option maxHeartbeats 1600000 in
theorem rnumber_long {w : World} {b : Nat} {E : Nat → Prop} {l : List ByteArray} (s : ByteArray) (h : IsNames w b E l) (hs : 255 < s.size) :
    Calls Try.prog 33 #[.pointer (some ⟨b, 0, none⟩), .string s] w (AskXPost b E (-1, some ([(⟨#[97, 116, 111, 109]⟩, (s.size : Int))], 1), l) w) := by
  have H := Lib.hid h
  have hbw := h.lt b h.own
  have h1 : s.toList.isEmpty = false := by rw [← Bool.not_eq_true, List.isEmpty_iff]; exact fun h => by have := toList_nil.1 h; omega
  have g2 : decide (255 < (s.size : Int)) = true := decide_eq_true (by omega)
  clear h
  go_enter Try.func33, Try.ntmps33
  go_wp2_with (first | (with_reducible refine wp_region_text (by kernel_rfl) (by kernel_rfl) ?_) | (with_reducible refine text_fin (by kernel_rfl) ?_) | (go_at_call 46; refine (K_any _ _).mono ?_; rintro e w1 ⟨rfl, rfl⟩) | (go_at_call 45; refine (f4_any _ _ _ _).mono ?_; rintro e w2 ⟨rfl, rfl⟩))
  go_ret2
  exact askX_err H.out (Keeps.refl _ _) (isX_one (f := (.tuple #[.int .i64 (-1), ·])) rfl rfl)
set_option maxRecDepth 100000 in
set_option maxHeartbeats 1600000 in
theorem rnumber_any {w : World} {b : Nat} {E : Nat → Prop} {l : List ByteArray} (s : ByteArray) (h : IsNames w b E l) (hs1 : 1 ≤ s.size) (hs2 : s.size ≤ 255) :
    Calls Try.prog 33 #[.pointer (some ⟨b, 0, none⟩), .string s] w (AskXPost b E (askName l s) w) := by
  have H := Lib.hid h
  have hbw := h.lt b h.own
  have h1 : s.toList.isEmpty = false := by rw [← Bool.not_eq_true, List.isEmpty_iff]; exact fun h => by have := toList_nil.1 h; omega
  have g2 : decide (255 < (s.size : Int)) = false := decide_eq_false (by omega)
  obtain ⟨lv, hB, hR, ho⟩ := h.at_
  obtain ⟨la, lc, rfl, hlc, hlm⟩ := hR.len
  have c0 : w.cell? ⟨b, 0, none⟩ = some (.slice la l.length lc) := hB.cell (i := 0) rfl
  have HPU := Lib.hid fun (hf : l.length < 1024) w0 v' w4 k0 ha => names_push (w := w) (w0 := w0) (w4 := w4) (v' := v') (s := s) h.own h.lt hB hR ho hf k0 ha
  have HR := Lib.hid hR
  have hfew := h.few
  have HASK : Hid (askName l s = match placeOf s l with
    | some i => ((i : Int), none, l)
    | none => if 1024 ≤ l.length then (-1, some ([(⟨#[97, 116, 111, 109]⟩, (s.size : Int))], 2), l) else (l.length, none, l ++ [s])) := Lib.hid (by unfold askName; rw [if_neg (by omega)]; rfl)
  clear h hB hR ho
  go_enter Try.func33, Try.ntmps33
  go_wp2_with (first | (with_reducible refine wp_region_text (by kernel_rfl) (by kernel_rfl) ?_) | (with_reducible refine text_fin (by kernel_rfl) ?_))
  go_loopw [6] (fun v wr => NamesAt w l s v wr) (fun v _ => l.length - (intOf v).toNat)
  case atStart => exact ⟨0, rfl, Nat.zero_le _, by simp, Keeps.refl _ _⟩
  case round =>
    obtain ⟨i, rfl, hil, hni, hk⟩ := hrel
    have HK := Lib.hid hk
    have HN := Lib.hid hni
    have c0r := hk.cell c0 (fun h => h)
    by_cases hlt : i < l.length
    · obtain ⟨t, ht⟩ : ∃ t, l[i]? = some t := ⟨l[i], by simp⟩
      have ht2 : (nameCells l)[i]? = some (.string t) := by simp [nameCells, ht]
      obtain ⟨g, c2, e1, _, _⟩ := HR.out.form (by omega)
      obtain ⟨rfl, rfl⟩ : la = some ⟨g, 0, none⟩ ∧ lc = c2 := by cases e1; exact ⟨rfl, rfl⟩
      have d0 := (HR.out.keeps hk (fun _ _ h => h)).cell3 ht2
      have HT := Lib.hid ht
      clear e1 ht ht2 hk hni
      go_wp2_with (first | (with_reducible refine wp_region_text (by kernel_rfl) (by kernel_rfl) ?_) | (with_reducible refine text_fin (by kernel_rfl) ?_))
      · have hts : t = s := ba_toList.1 (by simpa using ‹(t.toList == s.toList) = true›)
        go_ret2
        rw [HASK.out, placeOf_at HN.out (hts ▸ HT.out)]
        exact ⟨_, rfl, rfl, (H.out.keeps HK.out fun _ _ h => h).wider (fun x hx => .inl hx) (fun x hx => hx.elim (fun h => Nat.lt_of_lt_of_le (H.out.lt x h) HK.out.size) fun h => h.2), HK.out.mono fun _ _ h => h.elim⟩
      · have hts : ¬ t = s := fun h => by subst h; simp_all
        refine ⟨⟨i + 1, by go_num, by omega, ?_, HK.out⟩, by simp [intOf]; omega⟩
        rw [List.take_add_one, HT.out]
        simp only [Option.toList_some, List.mem_append, List.mem_singleton, not_or]
        exact ⟨HN.out, fun h => hts h.symm⟩
    · have hpn : placeOf s l = none := placeOf_none.2 (by have := HN.out; rwa [List.take_of_length_le (by omega)] at this)
      by_cases hf : 1024 ≤ l.length
      · have HR2 : Hid (askName l s = (-1, some ([(⟨#[97, 116, 111, 109]⟩, (s.size : Int))], 2), l)) := Lib.hid (by rw [HASK.out, hpn]; exact if_pos hf)
        have g3 : decide (1024 ≤ (l.length : Int)) = true := decide_eq_true (by omega)
        clear hpn hk hni
        go_wp2_with (first | (with_reducible refine wp_region_text (by kernel_rfl) (by kernel_rfl) ?_) | (with_reducible refine text_fin (by kernel_rfl) ?_) | (go_at_call 46; refine (K_any _ _).mono ?_; rintro e w1 ⟨rfl, rfl⟩) | (go_at_call 45; refine (f4_any _ _ _ _).mono ?_; rintro e w2 ⟨rfl, rfl⟩))
        go_ret2
        rw [HR2.out]
        exact askX_err H.out HK.out (isX_one (f := (.tuple #[.int .i64 (-1), ·])) rfl rfl)
      · have HR2 : Hid (askName l s = ((l.length : Int), none, l ++ [s])) := Lib.hid (by rw [HASK.out, hpn]; exact if_neg hf)
        have g3 : decide (1024 ≤ (l.length : Int)) = false := decide_eq_false (by omega)
        clear hpn hk hni
        go_wp2_with (first | (with_reducible refine wp_region_text (by kernel_rfl) (by kernel_rfl) ?_) | (with_reducible refine text_fin (by kernel_rfl) ?_) | (at_builtin; go_must (refine wpList_append_row _ rfl _ _ 22 22 rfl 9 (.slice 9) 1 16 (.string ByteArray.empty) info_string Try.underlying22 Try.underlying22 (by intro k h; cases h) rfl (.slice la l.length lc) l.length (nameCells l) rfl (HR.out.keeps (S := fun _ => False) (by repeat (first | with_reducible exact Keeps.refl _ _ | exact HK.out | with_reducible apply Keeps.drew | with_reducible apply Keeps.alloc)) (fun _ _ h => h)) _ 1 [.string s] rfl rfl (lenOf_slice _ _ _) (firstCells_at _ rfl (cells_newAt rfl)) (by intro u hu; simp at hu; subst hu; rfl) (by unfold maxLen; omega) (by omega) ?_); intro v' w4 ha; obtain ⟨va, vc, rfl, _, _⟩ := ha.row.len; obtain ⟨g1', g2', g3', g4', g5'⟩ := HPU.out (by omega) _ _ w4 (by repeat (first | with_reducible exact Keeps.refl _ _ | exact HK.out | with_reducible apply Keeps.drew | with_reducible apply Keeps.alloc)) ha; have G1 := Lib.hid g1'; have G2 := Lib.hid g2'; clear g1' g2' ha c0 c0r))
        go_ret2
        rw [HR2.out]
        exact ⟨_, rfl, rfl, G1.out, G2.out⟩
theorem rnumber_ask {w : World} {b : Nat} {E : Nat → Prop} {l : List ByteArray} (s : ByteArray) (h : IsNames w b E l) :
    Calls Try.prog 33 #[.pointer (some ⟨b, 0, none⟩), .string s] w (AskXPost b E (askName l s) w) := by
  by_cases h1 : s.size < 1
  · have e : s = ⟨#[]⟩ := size_nil (by omega)
    have := rnumber_empty s h e
    unfold askName
    rw [if_pos (.inl h1)]
    exact this
  · by_cases h2 : 255 < s.size
    · have := rnumber_long s h h2
      unfold askName
      rw [if_pos (.inr h2)]
      exact this
    · exact rnumber_any s h (by omega) (by omega)
theorem number_ask {w : World} {b : Nat} {E : Nat → Prop} {l : List ByteArray} (s : ByteArray) (h : IsAtoms w b E l) :
    Calls Try.prog 19 #[.pointer (some ⟨b, 0, none⟩), .string s] w (AskPost b E (askName l s) w) := by
  by_cases h1 : s.size < 1
  · have := number_short s h h1
    unfold askName
    rw [if_pos (.inl h1)]
    exact this
  · by_cases h2 : 255 < s.size
    · have := number_long s h (by omega) h2
      unfold askName
      rw [if_pos (.inr h2)]
      exact this
    · unfold askName
      rw [if_neg (by omega)]
      cases hp : placeOf s l with
      | some i => exact number_old s h i (by omega) (by omega) hp
      | none =>
        by_cases hf : 1024 ≤ l.length
        · have := number_full s h (by omega) (by omega) hp hf
          simp only [if_pos hf]
          exact this
        · have := number_new s h (by omega) (by omega) hp (by omega)
          simp only [if_neg hf]
          exact this
end Go.Proofs.Ytnmhodejffpblaa

/-
  The document's errors: chains; their links; whether an error is the document's: what the Go code does.
-/
import Derived.Test.YtacedeaopgbdhaaLe
namespace Go.Tx
open Go Go.RowKit

/-- an error of the document: a chain of numbers around a kind -/
def IsX (w : World) (E : Nat → Prop) : Value → List (ByteArray × Int) → Int → Prop
  | v, [], k => ∃ b, v = .pointer (some ⟨b, 0, none⟩) ∧ Blk w b 114 [.string ⟨#[]⟩, .int .i64 0, .pointer none, .int .i64 k] ∧ E b
  | v, (op, n) :: l, k => ∃ b c, v = .pointer (some ⟨b, 0, none⟩) ∧ Blk w b 114 [.string op, .int .i64 n, .pointer (some ⟨c, 0, none⟩), .int .i64 0] ∧ E b ∧ IsX w E (.pointer (some ⟨c, 0, none⟩)) l k
theorem IsX.keeps {w w' : World} {E T : Nat → Prop} : ∀ {l : List (ByteArray × Int)} {v : Value} {k : Int}, IsX w E v l k → Keeps T w w' → (∀ g, E g → ¬ T g) → IsX w' E v l k
  | [], _, _, ⟨b, h1, h2, h3⟩, hk, hs => ⟨b, h1, h2.keeps hk (hs b h3), h3⟩
  | _ :: _, _, _, ⟨b, u, h1, h2, h3, h4⟩, hk, hs => ⟨b, u, h1, h2.keeps hk (hs b h3), h3, IsX.keeps h4 hk hs⟩
theorem IsX.mono {w : World} {E T : Nat → Prop} (ht : ∀ g, E g → T g) : ∀ {l : List (ByteArray × Int)} {v : Value} {k : Int}, IsX w E v l k → IsX w T v l k
  | [], _, _, ⟨b, h1, h2, h3⟩ => ⟨b, h1, h2, ht b h3⟩
  | _ :: _, _, _, ⟨b, u, h1, h2, h3, h4⟩ => ⟨b, u, h1, h2, ht b h3, IsX.mono ht h4⟩
theorem IsX.ptr {w : World} {E : Nat → Prop} {l : List (ByteArray × Int)} {v : Value} {k : Int} (h : IsX w E v l k) : ∃ b, v = .pointer (some ⟨b, 0, none⟩) := by
  cases l with
  | nil => obtain ⟨b, h1, _⟩ := h; exact ⟨b, h1⟩
  | cons t l => obtain ⟨b, _, h1, _⟩ := h; exact ⟨b, h1⟩
def IsXO (w : World) (E : Nat → Prop) (v : Value) : ErrO → Prop
  | none => v = .pointer none
  | some (l, k) => IsX w E v l k ∧ l.length ≤ 9000
theorem IsXO.keeps {w w' : World} {E T : Nat → Prop} {v : Value} {o : ErrO} (h : IsXO w E v o) (hk : Keeps T w w') (hs : ∀ g, E g → ¬ T g) : IsXO w' E v o := by
  cases o with
  | none => exact h
  | some t => exact ⟨h.1.keeps hk hs, h.2⟩
/-- what holds before each round: so many links were read -/
def XAt (w : World) (E : Nat → Prop) (l : List (ByteArray × Int)) (k : Int) (v lv : Value) (wr : World) : Prop :=
  ∃ l1 l2, l = l1 ++ l2 ∧ IsX w E v l2 k ∧ Row wr 93 3 lv l1.length (linkCells l1) ∧ Keeps (fun _ => False) w wr ∧ ∀ g, lv.ownBlock = some g → w.heap.size ≤ g
def XPost (w : World) (l : List (ByteArray × Int × Int)) (e : Ending) (w' : World) : Prop :=
  ∃ lv, e = .returned lv ∧ Row w' 93 3 lv l.length (lcells l) ∧ Keeps (fun _ => False) w w'
def rowLen : Value → Nat
  | .slice _ n _ => n
  | _ => 0
theorem Row.rowLen {w : World} {e : TypeId} {size n : Nat} {v : Value} {xs : List Value} (h : Row w e size v n xs) : Go.Tx.rowLen v = n := by
  obtain ⟨a, c, rfl, _⟩ := h.len; rfl
end Go.Tx
namespace Go.Proofs.Ytacedeaopgbdhaa
open Go.RowKit Go.Tx

set_option maxRecDepth 100000 in
set_option maxHeartbeats 400000 in
theorem xlinks_some {w : World} {E : Nat → Prop} {v : Value} {l : List (ByteArray × Int)} {k : Int} (h : IsX w E v l k) (hl : l.length ≤ 9000) :
    Calls Try.prog 47 #[v] w (XPost w (linksOf l k)) := by
  have HE := Lib.hid h
  clear h
  go_enter Try.func47, Try.ntmps47
  go_wp2
  go_loopw [0, 3] (fun v lv wr => XAt w E l k v lv wr) (fun _ lv _ => l.length - rowLen lv)
  case atStart => exact ⟨[], l, rfl, HE.out, World.ownsRow_nil _ _ _ _, Keeps.refl _ _, fun g hg => by simp [Value.ownBlock] at hg⟩
  case round =>
    obtain ⟨l1, l2, rfl, he, hr, hkp, hown⟩ := hrel
    have hln : l1.length + l2.length ≤ 9000 := by simpa using hl
    have HL := Lib.hid hr.rowLen
    have HR := Lib.hid hr
    have HK := Lib.hid hkp
    have HO := Lib.hid hown
    cases l2 with
    | nil =>
      obtain ⟨g, rfl, hb, _⟩ := he
      have hbr := hb.keeps hkp (fun h => h)
      have c2 : wr.cell? ⟨g, 2, none⟩ = some (.pointer none) := hbr.cell (i := 2) rfl
      have c3 : wr.cell? ⟨g, 3, none⟩ = some (.int .i64 k) := hbr.cell (i := 3) rfl
      clear hr hkp hown hl HE hb hbr
      go_wp2_with (first | (with_reducible refine wp_region_text (by kernel_rfl) (by kernel_rfl) ?_) | (with_reducible refine text_fin (by kernel_rfl) ?_) | (at_builtin; go_must (refine wpList_append_row _ rfl _ _ 71 71 rfl 93 (.slice 93) 3 32 (.agg #[.string ByteArray.empty, .int .i64 0, .int .i64 0]) info_link Try.underlying71 Try.underlying71 (by intro k h; cases h) rfl u3 l1.length (linkCells l1) rfl (HR.out.keeps (S := fun _ => False) (by repeat (first | exact Keeps.refl _ _ | apply Keeps.drew | apply Keeps.alloc)) (fun _ _ h => h)) _ 1 [.string ⟨#[]⟩, .int .i64 0, .int .i64 k] rfl rfl (lenOf_slice _ _ _) (firstCells_at _ rfl (cells_newAt rfl)) (by intro u hu; simp at hu; rcases hu with rfl | rfl | rfl <;> rfl) (by unfold maxLen; omega) (by omega) ?_); intro v' w4 ha; obtain ⟨va, vc, rfl, _, _⟩ := ha.row.len; obtain ⟨g1, g2⟩ := linksKeep HK.out HO.out (by repeat (first | exact Keeps.refl _ _ | apply Keeps.drew | apply Keeps.alloc)) ha; have G1 := Lib.hid g1; have G2 := Lib.hid g2; have G3 := Lib.hid ha.row; clear g1 g2 ha))
      go_ret
      refine ⟨_, rfl, ?_, G1.out⟩
      rw [List.append_nil, linksOf_length, ← lcells_of]
      exact G3.out
    | cons t l3 =>
      obtain ⟨op, n⟩ := t
      obtain ⟨g, u, rfl, hb, _, he3⟩ := he
      have hbr := hb.keeps hkp (fun h => h)
      have c0 : wr.cell? ⟨g, 0, none⟩ = some (.string op) := hbr.cell (i := 0) rfl
      have c1 : wr.cell? ⟨g, 1, none⟩ = some (.int .i64 n) := hbr.cell (i := 1) rfl
      have c2 : wr.cell? ⟨g, 2, none⟩ = some (.pointer (some ⟨u, 0, none⟩)) := hbr.cell (i := 2) rfl
      have HB := Lib.hid hb
      have HE3 := Lib.hid he3
      have hl3 : l1.length + (l3.length + 1) ≤ 9000 := by simpa using hln
      clear hr hkp hown hl HE hb hbr he3 hln
      go_wp2_with (first | (with_reducible refine wp_region_text (by kernel_rfl) (by kernel_rfl) ?_) | (with_reducible refine text_fin (by kernel_rfl) ?_) | (at_builtin; go_must (refine wpList_append_row _ rfl _ _ 71 71 rfl 93 (.slice 93) 3 32 (.agg #[.string ByteArray.empty, .int .i64 0, .int .i64 0]) info_link Try.underlying71 Try.underlying71 (by intro k h; cases h) rfl u3 l1.length (linkCells l1) rfl (HR.out.keeps (S := fun _ => False) (by repeat (first | exact Keeps.refl _ _ | apply Keeps.drew | apply Keeps.alloc)) (fun _ _ h => h)) _ 1 [.string op, .int .i64 n, .int .i64 0] rfl rfl (lenOf_slice _ _ _) (firstCells_at _ rfl (cells_newAt rfl)) (by intro u hu; simp at hu; rcases hu with rfl | rfl | rfl <;> rfl) (by unfold maxLen; omega) (by omega) ?_); intro v' w4 ha; obtain ⟨va, vc, rfl, _, _⟩ := ha.row.len; obtain ⟨g1, g2⟩ := linksKeep HK.out HO.out (by repeat (first | exact Keeps.refl _ _ | apply Keeps.drew | apply Keeps.alloc)) ha; have G1 := Lib.hid g1; have G2 := Lib.hid g2; have G3 := Lib.hid ha.row; clear g1 g2 ha; clear c0 c1 c2; have c2 : w4.cell? ⟨g, 2, none⟩ = some (.pointer (some ⟨u, 0, none⟩)) := (HB.out.keeps G1.out (fun h => h)).cell (i := 2) rfl))
      go_roundw
      case rel => exact ⟨l1 ++ [(op, n)], l3, by simp, HE3.out, by rw [List.length_append, linkCells_snoc]; exact G3.out, G1.out, G2.out⟩
      case measure => rw [HL.out]; simp [rowLen]; omega

set_option maxHeartbeats 400000 in
theorem xlinks_none (w : World) : Calls Try.prog 47 #[.pointer none] w fun e w' => e = .returned (.slice none 0 0) ∧ w' = w := by
  go_enter Try.func47, Try.ntmps47
  go_wp2
  refine wp_loop_rounds 1 ?_
  rw [rounds_succ]
  go_wp2
  go_ret
  exact ⟨rfl, rfl⟩
theorem xlinks_o {w : World} {E : Nat → Prop} {v : Value} {o : ErrO} (h : IsXO w E v o) : Calls Try.prog 47 #[v] w (XPost w (linksO o)) := by
  cases o with
  | none =>
    obtain rfl : v = .pointer none := h
    exact (xlinks_none w).mono fun e w' ⟨he, hw⟩ => ⟨_, he, World.ownsRow_nil _ _ _ _, hw ▸ Keeps.refl _ _⟩
  | some t => exact xlinks_some h.1 h.2

set_option maxHeartbeats 400000 in
/-- is an error the document's? -/
theorem ref_any {w : World} {E E' : Nat → Prop} {v u : Value} {o o' : ErrO} (h : IsErrO w E v o) (h' : IsXO w E' u o') :
    Calls Try.prog 32 #[v, u] w fun e w' => e = .returned (.bool (fineO o && decide (o = o'))) ∧ Keeps (fun _ => False) w w' := by
  have HV := Lib.hid (links_o h)
  have HU := Lib.hid h'
  have hd : decide (linksO o = linksO o') = decide (o = o') := by rw [decide_eq_decide]; exact linksO_inj
  have HD := Lib.hid hd
  clear h h' hd
  generalize hf : fineO o = f at *
  have HF := Lib.hid hf
  clear hf
  go_enter Try.func32, Try.ntmps32
  go_wp2_with (go_at_call 27; refine Stop.out ?_)
  refine ⟨HV.out.mono ?_⟩
  rintro e w1 ⟨lv, rfl, hr1, hk1⟩
  rw [HF.out]
  have HR1 := Lib.hid hr1
  have HK1 := Lib.hid hk1
  clear hr1 hk1
  cases f
  · go_wp2
    go_ret
    exact ⟨rfl, HK1.out⟩
  · go_wp2_with (first | (go_at_call 47; refine (xlinks_o (HU.out.keeps HK1.out (fun _ _ h => h))).mono ?_; rintro e w2 ⟨lv2, rfl, hr2, hk2⟩; have HR2 := Lib.hid hr2; have HK2 := Lib.hid hk2; clear hr2 hk2) | (go_at_call 28; refine (same_any (HR1.out.keeps HK2.out (fun _ _ h => h)) HR2.out rfl rfl).mono ?_; rintro e w3 ⟨rfl, hk3⟩; rw [HD.out]; have HK3 := Lib.hid hk3; clear hk3))
    go_ret
    exact ⟨by simp, (HK1.out.trans HK2.out fun _ _ h => h).trans HK3.out fun _ _ h => h⟩
end Go.Proofs.Ytacedeaopgbdhaa

import Derived.Test.YtacedeaopgbdhaaArRs
import Derived.Test.YtacedeaopgbdhaaDmA
import Derived.Test.YtacedeaopgbdhaaKx
section
/-
  The document's arena in memory; its small functions: what the Go code does.
-/
namespace Go.Tx
open Go Go.RowKit
/-- a block's four cells -/
def dbV (p : DB × Value) : List Value := [.int .i64 (p.1.pos : Nat), .int .i64 (p.1.cls : Nat), .int .i64 (p.1.len : Nat), p.2]
def docCells (D : DM) (tv : Value) (fb : Nat) : List Value := [.int .i64 (D.size : Nat), .int .i64 (D.quota : Nat), .int .i64 (D.top : Nat), .int .i64 (D.used : Nat), tv, .slice (some ⟨fb, 0, none⟩) 40 40]
structure DocAt (w : World) (b : Nat) (D : DM) (S : Nat → Prop) (tv : Value) (L : List (DB × Value)) (fb : Nat) (gv : Nat → Value) : Prop where
  blk : Blk w b 91 (docCells D tv fb)
  tk : Wide w 100 4 tv L.length (L.flatMap dbV)
  lst : L.map (·.1) = D.taken
  ws : ∀ p ∈ L, Row w 41 1 p.2 p.1.len (u64s p.1.ws)
  fbk : Blk w fb 40 ((List.range 40).map gv)
  fr : ∀ k, k < 40 → Wide w 3 1 (gv k) (D.free k).length (ints (D.free k))
  sb : S b
  sf : S fb
  st : ∀ g, tv.ownBlock = some g → S g
  sw : ∀ p ∈ L, ∀ g, p.2.ownBlock = some g → S g
  sg : ∀ k, k < 40 → ∀ g, (gv k).ownBlock = some g → S g
  lt : ∀ k, S k → k < w.heap.size
  apart : L.Pairwise fun p q => ∀ g, p.2.ownBlock = some g → q.2.ownBlock ≠ some g
/-- at b there is the document's arena; its blocks lie in S -/
def IsDoc (w : World) (b : Nat) (D : DM) (S : Nat → Prop) : Prop := ∃ tv L fb gv, DocAt w b D S tv L fb gv
section
variable {w w' : World} {b fb : Nat} {D : DM} {S T : Nat → Prop} {tv : Value} {L : List (DB × Value)} {gv : Nat → Value}
theorem DocAt.keeps (h : DocAt w b D S tv L fb gv) (k : Keeps T w w') (hs : ∀ g, S g → ¬ T g) : DocAt w' b D S tv L fb gv :=
  ⟨h.blk.keeps k (hs _ h.sb), h.tk.keeps k fun g hg => hs g (h.st g hg), h.lst, fun p hp => (h.ws p hp).keeps k fun g hg => hs g (h.sw p hp g hg), h.fbk.keeps k (hs _ h.sf), fun c hc => (h.fr c hc).keeps k fun g hg => hs g (h.sg c hc g hg), h.sb, h.sf, h.st, h.sw, h.sg,
    fun g hg => Nat.lt_of_lt_of_le (h.lt g hg) k.size, h.apart⟩
theorem IsDoc.keeps (h : IsDoc w b D S) (k : Keeps T w w') (hs : ∀ g, S g → ¬ T g) : IsDoc w' b D S := by
  obtain ⟨tv, L, fb, gv, h⟩ := h
  exact ⟨tv, L, fb, gv, h.keeps k hs⟩
theorem DocAt.wider (h : DocAt w b D S tv L fb gv) (hs : ∀ g, S g → T g) (ht : ∀ g, T g → g < w.heap.size) : DocAt w b D T tv L fb gv :=
  ⟨h.blk, h.tk, h.lst, h.ws, h.fbk, h.fr, hs _ h.sb, hs _ h.sf, fun g hg => hs _ (h.st g hg), fun p hp g hg => hs _ (h.sw p hp g hg), fun c hc g hg => hs _ (h.sg c hc g hg), ht, h.apart⟩
theorem DocAt.len (h : DocAt w b D S tv L fb gv) : L.length = D.taken.length := by rw [← h.lst, List.length_map]
/-- what 'find' tells: the block's place in the list, or -1 -/
def FindPost (D : DM) (p : Int) (w : World) (e : Ending) (w' : World) : Prop :=
  w = w' ∧ ((∃ (i : Nat) (b : DB), e = .returned (.int .i64 (i : Nat)) ∧ D.taken[i]? = some b ∧ ((b.pos + 1 : Nat) : Int) = p) ∨ (e = .returned (.int .i64 (-1)) ∧ ∀ b ∈ D.taken, ((b.pos + 1 : Nat) : Int) ≠ p))
def FindAt (D : DM) (p : Int) (n : Nat) (w : World) (iv : Value) (wr : World) : Prop :=
  ∃ i : Nat, iv = .int .i64 i ∧ i ≤ n ∧ (∀ j y, j < i → D.taken[j]? = some y → ((y.pos + 1 : Nat) : Int) ≠ p) ∧ w = wr
/-- a block's cells in the row -/
theorem flat_cell {i k : Nat} {p : DB × Value} (hp : L[i]? = some p) (hk : k < 4) : (L.flatMap dbV)[i * 4 + k]? = (dbV p)[k]? := by
  induction L generalizing i with
  | nil => simp at hp
  | cons x l ih =>
    have hl : (dbV x).length = 4 := rfl
    rw [List.flatMap_cons]
    cases i with
    | zero =>
      simp at hp
      subst hp
      rw [List.getElem?_append_left (by rw [hl]; omega)]
      congr 1
      omega
    | succ i =>
      rw [List.getElem?_append_right (by rw [hl]; omega), hl, show (i + 1) * 4 + k - 4 = i * 4 + k by omega]
      exact ih (by simpa using hp)
theorem DocAt.cell {g n c : Nat} (h : DocAt w b D S (.slice (some ⟨g, 0, none⟩) n c) L fb gv) (hn : n = L.length) {i k : Nat} {p : DB × Value} (hp : L[i]? = some p) (hk : k < 4) {u : Value} (hu : (dbV p)[k]? = some u) : w.cell? ⟨g, i * 4 + k, none⟩ = some u := by
  subst hn
  exact h.tk.cell ((flat_cell hp hk).trans hu)
end
end Go.Tx
namespace Go.Proofs.Ytacedeaopgbdhaa
open Go.RowKit Go.Tx
set_option maxHeartbeats 400000 in
theorem f_any (op : ByteArray) (n : Int) (c : Nat) (w : World) : Calls Try.prog 45 #[.string op, .int .i64 n, .pointer (some ⟨c, 0, none⟩)] w fun e w' => e = .returned (.pointer (some ⟨w.heap.size, 0, none⟩)) ∧ w' = w.alloc (.cells #[.string op, .int .i64 n, .pointer (some ⟨c, 0, none⟩), .int .i64 0] 114) := by
  go_enter Try.func45, Try.ntmps45
  go_wp2
  go_ret
  exact ⟨rfl, rfl⟩
theorem dclass_any (n : Nat) (hn : n ≤ 1048576) (w : World) :
    Calls Try.prog 48 #[.int .i64 n] w fun e w' => e = .returned (.int .i64 (cls n)) ∧ w = w' := by
  obtain ⟨a1, a2, a3, a4⟩ := cls_spec n hn
  go_enter Try.func48, Try.ntmps48
  go_wp2
  go_loop [3] (fun c => ∃ k : Nat, 1 ≤ k ∧ k ≤ cls n ∧ c = .int .i64 k) (fun c => 30 - (intOf c).toNat)
  case atStart => exact ⟨1, Nat.le_refl _, a1, rfl⟩
  case round =>
    obtain ⟨k, hk1, hk2, rfl⟩ := hrel
    have hp := pw_21 (c := k) (by omega)
    have hwr : wrap64 ((2 : Int) ^ k) = (pw k : Nat) := by rw [pw_int]; unfold wrap64; omega
    by_cases hlt : pw k < n + 1
    · have hlt2 : k < cls n := by
        apply Decidable.byContradiction
        intro hc
        have : cls n = k := by omega
        rw [this] at a3; omega
      go_wp2
      go_round
      case rel => exact ⟨k + 1, by omega, by omega, by go_num⟩
      case measure => simp [intOf]; omega
    · have he : k = cls n := by
        apply Decidable.byContradiction
        intro hc
        have := a4 (by omega)
        have := pw_mono (show k ≤ cls n - 1 by omega)
        omega
      subst he
      go_wp2
      go_ret
      exact ⟨rfl, rfl⟩
set_option maxRecDepth 100000 in
theorem find_any {w : World} {b : Nat} {D : DM} {S : Nat → Prop} (h : IsDoc w b D S) (hd : D.taken.length ≤ 1048576) (hp : ∀ x ∈ D.taken, x.pos ≤ 1048576) (p : Int) :
    Calls Try.prog 50 #[.pointer (some ⟨b, 0, none⟩), .int .i64 p] w (FindPost D p w) := by
  obtain ⟨tv, L, fb, gv, h⟩ := h
  obtain ⟨ta, tc, rfl, htc, htm⟩ := h.tk.len
  have c4 : w.cell? ⟨b, 4, none⟩ = some (.slice ta L.length tc) := h.blk.cell (i := 4) rfl
  have hl := h.len
  have HL := Lib.hid h.lst
  have HD := Lib.hid h
  have HP := Lib.hid hp
  have hlb : L.length ≤ 1048576 := by omega
  unfold maxLen at htm
  clear h hl hp hd
  go_enter Try.func50, Try.ntmps50
  go_wp2
  go_loopw [5] (fun iv wr => FindAt D p L.length w iv wr) (fun iv _ => L.length - (intOf iv).toNat)
  case atStart => exact ⟨0, rfl, Nat.zero_le _, fun j x hj => by omega, rfl⟩
  case round =>
    obtain ⟨i, rfl, hi, hno, rfl⟩ := hrel
    have HNO := Lib.hid hno
    clear hno
    by_cases hil : i < L.length
    · obtain ⟨⟨x, xv⟩, hx⟩ : ∃ q, L[i]? = some q := ⟨L[i]'hil, by simp⟩
      have HX : Hid (D.taken[i]? = some x) := Lib.hid (by rw [← HL.out]; simp [hx])
      obtain ⟨g, tc2, e, _, _⟩ := HD.out.tk.form (by omega)
      obtain ⟨rfl, rfl⟩ : ta = some ⟨g, 0, none⟩ ∧ tc = tc2 := by cases e; exact ⟨rfl, rfl⟩
      have hc := HD.out.cell rfl hx (k := 0) (by omega) rfl
      have hxp := HP.out x (List.mem_of_getElem? HX.out)
      simp only [Nat.add_zero] at hc
      clear hx e
      by_cases he : ((x.pos : Int) + 1) = p
      · have heq : (((x.pos : Int) + 1) == p) = true := by simpa using he
        have HFin : Hid (FindPost D p w (.returned (.int .i64 (i : Nat))) w) := Lib.hid ⟨rfl, .inl ⟨i, x, rfl, HX.out, by omega⟩⟩
        clear he
        go_wp2
        go_ret
        exact HFin.out
      · have heq : (((x.pos : Int) + 1) == p) = false := by simpa using he
        have HN2 : Hid (∀ j y, j < i + 1 → D.taken[j]? = some y → ((y.pos + 1 : Nat) : Int) ≠ p) := Lib.hid fun j y hj hy => by
          by_cases e : j = i
          · subst e
            rw [HX.out] at hy
            cases hy
            omega
          · exact HNO.out j y (by omega) hy
        clear he
        go_wp2
        go_roundw
        case rel => exact ⟨i + 1, by go_num, by omega, HN2.out, rfl⟩
        case measure => simp [intOf]; omega
    · have HFin : Hid (FindPost D p w (.returned (.int .i64 (-1))) w) := Lib.hid ⟨rfl, .inr ⟨rfl, fun x hx => by
        obtain ⟨j, hj⟩ := List.mem_iff_getElem?.1 hx
        have hjl := (List.getElem?_eq_some_iff.1 hj).1
        rw [← HL.out, List.length_map] at hjl
        exact HNO.out j x (by omega) hj⟩⟩
      go_wp2
      go_ret
      exact HFin.out
end Go.Proofs.Ytacedeaopgbdhaa
end
section
/-
  The document's arena: Len, the place of a word, Get: what the Go code does.
-/
namespace Go.Tx
open Go Go.RowKit
abbrev xKind (k : Int) : Obj := .cells #[.string ⟨#[]⟩, .int .i64 0, .pointer none, .int .i64 k] 114
abbrev xLink (op : ByteArray) (n : Int) (c : Nat) : Obj := .cells #[.string op, .int .i64 n, .pointer (some ⟨c, 0, none⟩), .int .i64 0] 114
theorem isX_kind (w : World) (k : Int) : IsX (w.alloc (xKind k)) (fun g => g = w.heap.size) (.pointer (some ⟨w.heap.size, 0, none⟩)) [] k := ⟨w.heap.size, rfl, Blk.new w [.string ⟨#[]⟩, .int .i64 0, .pointer none, .int .i64 k] 114, rfl⟩
theorem isX_link {w : World} {E : Nat → Prop} {c : Nat} {l : List (ByteArray × Int)} {k : Int} (h : IsX w E (.pointer (some ⟨c, 0, none⟩)) l k) (op : ByteArray) (n : Int) :
    IsX (w.alloc (xLink op n c)) (fun g => g = w.heap.size ∨ E g) (.pointer (some ⟨w.heap.size, 0, none⟩)) ((op, n) :: l) k := by
  refine ⟨w.heap.size, c, rfl, Blk.new w [.string op, .int .i64 n, .pointer (some ⟨c, 0, none⟩), .int .i64 0] 114, .inl rfl, ?_⟩
  exact (h.mono fun g hg => .inr hg).keeps ((Keeps.refl (fun _ => False) w).alloc _) fun _ _ h => h
/-- an error of the document's is told -/
def XTold (w w' : World) (v : Value) (l : List (ByteArray × Int)) (k : Int) : Prop := IsX w' (Fresh w w') v l k ∧ Keeps (fun _ => False) w w'
theorem told_one (w : World) (op : ByteArray) (n k : Int) : XTold w ((w.alloc (xKind k)).alloc (xLink op n w.heap.size)) (.pointer (some ⟨w.heap.size + 1, 0, none⟩)) [(op, n)] k := by
  have h := isX_link (isX_kind w k) op n
  have s1 : (w.alloc (xKind k)).heap.size = w.heap.size + 1 := World.size_alloc ..
  have s2 : ((w.alloc (xKind k)).alloc (xLink op n w.heap.size)).heap.size = w.heap.size + 1 + 1 := by rw [World.size_alloc, s1]
  rw [s1] at h
  refine ⟨h.mono fun g hg => ?_, ((Keeps.refl _ w).alloc _).alloc _⟩
  unfold Fresh
  rw [s2]
  rcases hg with rfl | rfl
  · omega
  · omega
theorem told_two (w : World) (op op2 : ByteArray) (n n2 k : Int) :
    XTold w (((w.alloc (xKind k)).alloc (xLink op2 n2 w.heap.size)).alloc (xLink op n (w.heap.size + 1))) (.pointer (some ⟨w.heap.size + 1 + 1, 0, none⟩)) [(op, n), (op2, n2)] k := by
  have h1 := isX_link (isX_kind w k) op2 n2
  have s1 : (w.alloc (xKind k)).heap.size = w.heap.size + 1 := World.size_alloc ..
  have s2 : ((w.alloc (xKind k)).alloc (xLink op2 n2 w.heap.size)).heap.size = w.heap.size + 1 + 1 := by rw [World.size_alloc, s1]
  rw [s1] at h1
  have h := isX_link h1 op n
  rw [s2] at h
  refine ⟨h.mono fun g hg => ?_, (((Keeps.refl _ w).alloc _).alloc _).alloc _⟩
  unfold Fresh
  rw [World.size_alloc, s2]
  rcases hg with rfl | rfl | rfl
  · omega
  · omega
  · omega
def DLenPost (D : DM) (p : Int) (w : World) (e : Ending) (w' : World) : Prop :=
  (∃ (i : Nat) (x : DB), e = .returned (.tuple #[.int .i64 (x.len : Nat), .pointer none]) ∧ D.taken[i]? = some x ∧ ((x.pos + 1 : Nat) : Int) = p ∧ w = w') ∨
  (∃ v, e = .returned (.tuple #[.int .i64 0, v]) ∧ (∀ x ∈ D.taken, ((x.pos + 1 : Nat) : Int) ≠ p) ∧ XTold w w' v [(⟨#[108, 101, 110]⟩, p)] 3)
/-- what is wrong with a word's place -/
def DWrong (D : DM) (op : ByteArray) (p i : Int) (l : List (ByteArray × Int)) (k : Int) : Prop :=
  ((∀ x ∈ D.taken, ((x.pos + 1 : Nat) : Int) ≠ p) ∧ l = [(op, p)] ∧ k = 3) ∨ (∃ x ∈ D.taken, ((x.pos + 1 : Nat) : Int) = p ∧ (i < 0 ∨ (x.len : Int) ≤ i) ∧ l = [(op, p), (⟨#[105, 110, 100, 101, 120]⟩, i)] ∧ k = 12)
def DWordPost (D : DM) (op : ByteArray) (p i : Int) (w : World) (e : Ending) (w' : World) : Prop :=
  (∃ (j k : Nat) (x : DB), e = .returned (.tuple #[.int .i64 (j : Nat), .pointer none]) ∧ D.taken[j]? = some x ∧ ((x.pos + 1 : Nat) : Int) = p ∧ i = (k : Nat) ∧ k < x.len ∧ w = w') ∨
  (∃ g l k, e = .returned (.tuple #[.int .i64 0, .pointer (some ⟨g, 0, none⟩)]) ∧ DWrong D op p i l k ∧ XTold w w' (.pointer (some ⟨g, 0, none⟩)) l k)
end Go.Tx
namespace Go.Proofs.Ytacedeaopgbdhaa
open Go.RowKit Go.Tx
set_option maxRecDepth 100000 in
theorem dlen_any {w : World} {b : Nat} {D : DM} {S : Nat → Prop} (h : IsDoc w b D S) (hd : D.taken.length ≤ 1048576) (hp : ∀ x ∈ D.taken, x.pos ≤ 1048576) (p : Int) :
    Calls Try.prog 38 #[.pointer (some ⟨b, 0, none⟩), .int .i64 p] w (DLenPost D p w) := by
  have HF := Lib.hid (find_any h hd hp p)
  obtain ⟨tv, L, fb, gv, h⟩ := h
  obtain ⟨ta, tc, rfl, htc, htm⟩ := h.tk.len
  have c4 : w.cell? ⟨b, 4, none⟩ = some (.slice ta L.length tc) := h.blk.cell (i := 4) rfl
  have HD := Lib.hid h
  have hl := h.len
  have hlb : L.length ≤ 1048576 := by omega
  unfold maxLen at htm
  clear h hp hd hl
  go_enter Try.func38, Try.ntmps38
  go_wp2_with (first | (go_at_call 50; refine Stop.out ?_))
  refine ⟨HF.out.mono ?_⟩
  rintro e w1 ⟨rfl, ⟨i, x, rfl, hi, hx⟩ | ⟨rfl, hno⟩⟩
  · have hil : i < L.length := by
      have := (List.getElem?_eq_some_iff.1 hi).1
      rw [← HD.out.lst, List.length_map] at this
      exact this
    obtain ⟨⟨y, yv⟩, hy⟩ : ∃ q, L[i]? = some q := ⟨L[i]'hil, by simp⟩
    obtain rfl : y = x := by
      have h1 : (L.map (·.1))[i]? = some y := by simp [hy]
      rw [HD.out.lst, hi] at h1
      exact (Option.some.inj h1).symm
    obtain ⟨g, tc2, e, _, _⟩ := HD.out.tk.form (by omega)
    obtain ⟨rfl, rfl⟩ : ta = some ⟨g, 0, none⟩ ∧ tc = tc2 := by cases e; exact ⟨rfl, rfl⟩
    have hc := HD.out.cell rfl hy (k := 2) (by omega) rfl
    have HFin : Hid (DLenPost D p w (.returned (.tuple #[.int .i64 (y.len : Nat), .pointer none])) w) := Lib.hid (.inl ⟨i, y, rfl, hi, hx, rfl⟩)
    clear hi hx hy e
    go_wp2
    go_ret2
    exact HFin.out
  · have HNO := Lib.hid hno
    clear hno
    go_wp2_with (first | (go_at_call 46; refine (K_any 3 _).mono ?_; rintro e x1 ⟨rfl, rfl⟩) | (go_at_call 45; refine (f_any _ _ _ _).mono ?_; rintro e x1 ⟨rfl, rfl⟩))
    go_ret2
    exact .inr ⟨.pointer (some ⟨w.heap.size + 1, 0, none⟩), rfl, HNO.out, told_one w _ _ _⟩
set_option maxRecDepth 100000 in
theorem dword_any {w : World} {b : Nat} {D : DM} {S : Nat → Prop} (h : IsDoc w b D S) (hd : D.taken.length ≤ 1048576) (hp : ∀ x ∈ D.taken, x.pos ≤ 1048576) (op : ByteArray) (p i : Int) :
    Calls Try.prog 51 #[.pointer (some ⟨b, 0, none⟩), .string op, .int .i64 p, .int .i64 i] w (DWordPost D op p i w) := by
  have HF := Lib.hid (find_any h hd hp p)
  obtain ⟨tv, L, fb, gv, h⟩ := h
  obtain ⟨ta, tc, rfl, htc, htm⟩ := h.tk.len
  have c4 : w.cell? ⟨b, 4, none⟩ = some (.slice ta L.length tc) := h.blk.cell (i := 4) rfl
  have HD := Lib.hid h
  have hl := h.len
  have hlb : L.length ≤ 1048576 := by omega
  unfold maxLen at htm
  clear h hp hd hl
  go_enter Try.func51, Try.ntmps51
  go_wp2_with (first | (go_at_call 50; refine Stop.out ?_))
  refine ⟨HF.out.mono ?_⟩
  rintro e w1 ⟨rfl, ⟨j, x, rfl, hj, hx⟩ | ⟨rfl, hno⟩⟩
  · have hjl : j < L.length := by
      have := (List.getElem?_eq_some_iff.1 hj).1
      rw [← HD.out.lst, List.length_map] at this
      exact this
    obtain ⟨⟨y, yv⟩, hy⟩ : ∃ q, L[j]? = some q := ⟨L[j]'hjl, by simp⟩
    obtain rfl : y = x := by
      have h1 : (L.map (·.1))[j]? = some y := by simp [hy]
      rw [HD.out.lst, hj] at h1
      exact (Option.some.inj h1).symm
    obtain ⟨g, tc2, e, _, _⟩ := HD.out.tk.form (by omega)
    obtain ⟨rfl, rfl⟩ : ta = some ⟨g, 0, none⟩ ∧ tc = tc2 := by cases e; exact ⟨rfl, rfl⟩
    have hc := HD.out.cell rfl hy (k := 2) (by omega) rfl
    have HJ := Lib.hid hj
    have HX := Lib.hid hx
    clear hj hx hy e
    by_cases hi0 : i < 0
    · go_wp2_with (first | (go_at_call 46; refine (K_any 12 _).mono ?_; rintro e x1 ⟨rfl, rfl⟩) | (go_at_call 45; refine (f_any _ _ _ _).mono ?_; rintro e x1 ⟨rfl, rfl⟩))
      go_ret2
      exact .inr ⟨_, _, _, rfl, .inr ⟨y, List.mem_of_getElem? HJ.out, HX.out, .inl hi0, rfl, rfl⟩, told_two w _ _ _ _ _⟩
    · by_cases hiu : (y.len : Int) ≤ i
      · go_wp2_with (first | (go_at_call 46; refine (K_any 12 _).mono ?_; rintro e x1 ⟨rfl, rfl⟩) | (go_at_call 45; refine (f_any _ _ _ _).mono ?_; rintro e x1 ⟨rfl, rfl⟩))
        go_ret2
        exact .inr ⟨_, _, _, rfl, .inr ⟨y, List.mem_of_getElem? HJ.out, HX.out, .inr hiu, rfl, rfl⟩, told_two w _ _ _ _ _⟩
      · have HFin : Hid (DWordPost D op p i w (.returned (.tuple #[.int .i64 (j : Nat), .pointer none])) w) := Lib.hid (.inl ⟨j, i.toNat, y, rfl, HJ.out, HX.out, by omega, by omega, rfl⟩)
        go_wp2
        go_ret2
        exact HFin.out
  · have HNO := Lib.hid hno
    clear hno
    go_wp2_with (first | (go_at_call 46; refine (K_any 3 _).mono ?_; rintro e x1 ⟨rfl, rfl⟩) | (go_at_call 45; refine (f_any _ _ _ _).mono ?_; rintro e x1 ⟨rfl, rfl⟩))
    go_ret2
    exact .inr ⟨_, _, _, rfl, .inl ⟨HNO.out, rfl, rfl⟩, told_one w _ _ _⟩
end Go.Proofs.Ytacedeaopgbdhaa
end
section
/-
  The document's arena: Get, Set: what the Go code does.
-/
namespace Go.Tx
open Go Go.RowKit
def DGetPost (D : DM) (p i : Int) (w : World) (e : Ending) (w' : World) : Prop :=
  (∃ (j k : Nat) (x : DB), e = .returned (.tuple #[.int .u64 (x.ws.getD k 0), .pointer none]) ∧ D.taken[j]? = some x ∧ ((x.pos + 1 : Nat) : Int) = p ∧ i = (k : Nat) ∧ k < x.len ∧ w = w') ∨
  (∃ g l k, e = .returned (.tuple #[.int .u64 0, .pointer (some ⟨g, 0, none⟩)]) ∧ DWrong D ⟨#[103, 101, 116]⟩ p i l k ∧ XTold w w' (.pointer (some ⟨g, 0, none⟩)) l k)
def DSetPost (D : DM) (b : Nat) (S : Nat → Prop) (p i v : Int) (w : World) (e : Ending) (w' : World) : Prop :=
  (∃ (j k : Nat) (x : DB), e = .returned (.pointer none) ∧ D.taken[j]? = some x ∧ ((x.pos + 1 : Nat) : Int) = p ∧ i = (k : Nat) ∧ k < x.len ∧ IsDoc w' b (D.setWord j x k v) S ∧ Keeps S w w') ∨
  (∃ g l k, e = .returned (.pointer (some ⟨g, 0, none⟩)) ∧ DWrong D ⟨#[115, 101, 116]⟩ p i l k ∧ XTold w w' (.pointer (some ⟨g, 0, none⟩)) l k)
section
variable {w w' : World} {b fb : Nat} {D : DM} {S T : Nat → Prop} {tv : Value} {L : List (DB × Value)} {gv : Nat → Value}
theorem Row.ne_type {e e2 : TypeId} {v : Value} {n : Nat} {xs : List Value} (h : Row w e 1 v n xs) (he : e2 ≠ e) {g : Nat} {cs : Array Value} (hg : w.heap[g]? = some (.cells cs e2 (0, 0))) : v.ownBlock ≠ some g := by
  intro ho
  rcases h.2 with ⟨rfl, _⟩ | ⟨g', cap, cur, rfl, _, hgg, _⟩
  · simp [Value.ownBlock] at ho
  · simp [Value.ownBlock] at ho
    subst ho
    rw [hgg] at hg
    simp only [Option.some.injEq, Obj.cells.injEq] at hg
    exact he hg.2.1.symm
theorem Wide.block {e : TypeId} {size : Nat} {v : Value} {n : Nat} {xs : List Value} (h : Wide w e size v n xs) {g : Nat} (hg : v.ownBlock = some g) : ∃ cs, w.heap[g]? = some (.cells cs e (0, 0)) := by
  rcases h.2 with ⟨rfl, _⟩ | ⟨g', cap, cur, rfl, hgg, _⟩
  · simp [Value.ownBlock] at hg
  · simp [Value.ownBlock] at hg
    subst hg
    exact ⟨cur, hgg⟩
theorem DocAt.set {j k : Nat} {y : DB} {g wc : Nat} (h : DocAt w b D S tv L fb gv) (hj : L[j]? = some (y, .slice (some ⟨g, 0, none⟩) y.len wc)) (hk : k < y.len) (v : Int) :
    DocAt (w.setCell ⟨g, k, none⟩ (.int .u64 v)) b (D.setWord j y k v) S tv (L.set j ({ y with ws := y.ws.set k v }, .slice (some ⟨g, 0, none⟩) y.len wc)) fb gv ∧ Keeps S w (w.setCell ⟨g, k, none⟩ (.int .u64 v)) := by
  have hm := List.mem_of_getElem? hj
  have hjl := (List.getElem?_eq_some_iff.1 hj).1
  have hr := h.ws _ hm
  have hS : S g := h.sw _ hm g rfl
  have K : Keeps (fun x => x = g) w (w.setCell ⟨g, k, none⟩ (.int .u64 v)) := Keeps.setCell (Keeps.refl (fun x => x = g) w) (p := ⟨g, k, none⟩) (fun _ => rfl) _
  have hne : ∀ {e2 : TypeId} {x : Nat} {cs : Array Value}, e2 ≠ 41 → w.heap[x]? = some (.cells cs e2 (0, 0)) → x ≠ g := fun he hx e => by
    subst e
    exact hr.ne_type he hx rfl
  have hmap : ∀ {β : Type} (f : DB × Value → β), f ({ y with ws := y.ws.set k v }, .slice (some ⟨g, 0, none⟩) y.len wc) = f (y, .slice (some ⟨g, 0, none⟩) y.len wc) → (L.set j ({ y with ws := y.ws.set k v }, .slice (some ⟨g, 0, none⟩) y.len wc)).map f = L.map f := fun f hf => by
    rw [List.map_set, hf]
    refine List.ext_getElem? fun i => ?_
    by_cases e : j = i
    · subst e
      rw [List.getElem?_set_self (by simpa using hjl)]
      simp [hj]
    · rw [List.getElem?_set_ne e]
  refine ⟨⟨h.blk.keeps K (hne (by decide) h.blk), ?_, ?_, ?_, h.fbk.keeps K (hne (by decide) h.fbk), fun c hc => (h.fr c hc).keeps K fun x hx e => ?_, h.sb, h.sf, h.st, ?_, h.sg, fun x hx => Nat.lt_of_lt_of_le (h.lt x hx) K.size, ?_⟩, K.mono fun x _ e => e ▸ hS⟩
  · have := h.tk.keeps K fun x hx e => by
      obtain ⟨cs, hcs⟩ := h.tk.block hx
      exact hne (by decide) hcs e
    rw [List.length_set, List.flatMap_def, hmap dbV rfl, ← List.flatMap_def]
    exact this
  · show _ = D.taken.set j { y with ws := y.ws.set k v }
    rw [List.map_set, h.lst]
  · intro p hp
    obtain ⟨i, hi⟩ := List.mem_iff_getElem?.1 hp
    by_cases e : j = i
    · subst e
      rw [List.getElem?_set_self hjl] at hi
      have hi := Option.some.inj hi
      subst hi
      have := Row.setCell hr k hk (.int .u64 v)
      rw [u64s_set] at this
      exact this
    · rw [List.getElem?_set_ne e] at hi
      refine (h.ws p (List.mem_of_getElem? hi)).keeps K fun x hx e2 => ?_
      subst e2
      have hil := (List.getElem?_eq_some_iff.1 hi).1
      rcases Nat.lt_trichotomy i j with hl | he | hl
      · have := List.pairwise_iff_getElem.1 h.apart i j hil hjl hl
        rw [(List.getElem?_eq_some_iff.1 hi).2, (List.getElem?_eq_some_iff.1 hj).2] at this
        exact this x hx rfl
      · exact e he.symm
      · have := List.pairwise_iff_getElem.1 h.apart j i hjl hil hl
        rw [(List.getElem?_eq_some_iff.1 hi).2, (List.getElem?_eq_some_iff.1 hj).2] at this
        exact this x rfl hx
  · obtain ⟨cs, hcs⟩ := (h.fr c hc).block hx
    exact hne (by decide) hcs e
  · intro p hp
    have : p.2 ∈ (L.set j ({ y with ws := y.ws.set k v }, .slice (some ⟨g, 0, none⟩) y.len wc)).map (·.2) := List.mem_map.2 ⟨p, hp, rfl⟩
    rw [hmap (·.2) rfl] at this
    obtain ⟨q, hq, e⟩ := List.mem_map.1 this
    rw [← e]
    exact h.sw q hq
  · have h1 := h.apart
    rw [← List.pairwise_map (f := fun p : DB × Value => p.2) (R := fun x y => ∀ g, x.ownBlock = some g → y.ownBlock ≠ some g)] at h1 ⊢
    rw [hmap (·.2) rfl]
    exact h1
end
end Go.Tx
namespace Go.Tx
open Go Go.RowKit
section
variable {w : World} {b fb : Nat} {D : DM} {S : Nat → Prop} {tv : Value} {L : List (DB × Value)} {gv : Nat → Value}
/-- a block of the document's list: its cell for the words, and where they lie -/
theorem DocAt.at {j : Nat} {x : DB} (h : DocAt w b D S tv L fb gv) (hj : D.taken[j]? = some x) (hx : 0 < x.len) : ∃ tg tc g wc, tv = .slice (some ⟨tg, 0, none⟩) L.length tc ∧ L.length ≤ tc ∧ tc ≤ maxLen ∧ j < L.length ∧ L[j]? = some (x, .slice (some ⟨g, 0, none⟩) x.len wc) ∧ x.len ≤ wc ∧ wc ≤ maxLen ∧
    w.cell? ⟨tg, j * 4 + 3, none⟩ = some (.slice (some ⟨g, 0, none⟩) x.len wc) ∧ x.ws.length = x.len ∧ ∀ k, k < x.len → w.cell? ⟨g, k, none⟩ = some (.int .u64 (x.ws.getD k 0)) ∧ w.frozen? ⟨g, k, none⟩ = false := by
  have hjl : j < L.length := by
    have := (List.getElem?_eq_some_iff.1 hj).1
    rw [← h.lst, List.length_map] at this
    exact this
  obtain ⟨⟨y, yv⟩, hy⟩ : ∃ q, L[j]? = some q := ⟨L[j]'hjl, by simp⟩
  obtain rfl : y = x := by
    have h1 : (L.map (·.1))[j]? = some y := by simp [hy]
    rw [h.lst, hj] at h1
    exact (Option.some.inj h1).symm
  have hr := h.ws _ (List.mem_of_getElem? hy)
  simp only at hr
  obtain ⟨g, wc, rfl, h1, h2⟩ := hr.form hx
  obtain ⟨tg, tc, rfl, h3, h4⟩ := h.tk.form (by omega)
  have hl : y.ws.length = y.len := by have := hr.1; simpa [u64s] using this
  exact ⟨tg, tc, g, wc, rfl, h3, h4, hjl, hy, h1, h2, h.cell rfl hy (k := 3) (by omega) rfl, hl, fun k hk => ⟨hr.cell (u64s_get y.ws k (by omega)), hr.free k⟩⟩
end
end Go.Tx
namespace Go.Proofs.Ytacedeaopgbdhaa
open Go.RowKit Go.Tx
set_option maxRecDepth 100000 in
theorem dget_any {w : World} {b : Nat} {D : DM} {S : Nat → Prop} (h : IsDoc w b D S) (hd : D.taken.length ≤ 1048576) (hp : ∀ x ∈ D.taken, x.pos ≤ 1048576) (hn : ∀ x ∈ D.taken, x.len ≤ 1048576) (p i : Int) :
    Calls Try.prog 37 #[.pointer (some ⟨b, 0, none⟩), .int .i64 p, .int .i64 i] w (DGetPost D p i w) := by
  have HF := Lib.hid (dword_any h hd hp ⟨#[103, 101, 116]⟩ p i)
  have HNL := Lib.hid hn
  obtain ⟨tv, L, fb, gv, h⟩ := h
  have c4 : w.cell? ⟨b, 4, none⟩ = some tv := h.blk.cell (i := 4) rfl
  have HD := Lib.hid h
  have hl := h.len
  have hlb : L.length ≤ 1048576 := by omega
  clear h hp hd hl hn
  go_enter Try.func37, Try.ntmps37
  go_wp2_with (first | (go_at_call 51; refine Stop.out ?_))
  refine ⟨HF.out.mono ?_⟩
  rintro e w1 (⟨j, k, x, rfl, hj, hx, rfl, hk, rfl⟩ | ⟨g, l, kd, rfl, hw, ht⟩)
  · obtain ⟨tg, tc, g, wc, rfl, ht1, ht2, hjl, hy, hw1, hw2, hc3, hwl, hws⟩ := HD.out.at hj (by omega)
    obtain ⟨hck, _⟩ := hws k hk
    have hxl := HNL.out x (List.mem_of_getElem? hj)
    have HFin : Hid (DGetPost D p k w (.returned (.tuple #[.int .u64 (x.ws.getD k 0), .pointer none])) w) := Lib.hid (.inl ⟨j, k, x, rfl, hj, hx, rfl, hk, rfl⟩)
    unfold maxLen at ht2 hw2
    clear hj hx hy hwl hws
    go_wp2
    go_ret2
    exact HFin.out
  · have HW := Lib.hid hw
    have HT := Lib.hid ht
    clear hw ht c4
    go_wp2
    go_ret2
    exact .inr ⟨g, l, kd, rfl, HW.out, HT.out⟩
set_option maxRecDepth 100000 in
theorem dset_any {w : World} {b : Nat} {D : DM} {S : Nat → Prop} (h : IsDoc w b D S) (hd : D.taken.length ≤ 1048576) (hp : ∀ x ∈ D.taken, x.pos ≤ 1048576) (hn : ∀ x ∈ D.taken, x.len ≤ 1048576) (p i v : Int) :
    Calls Try.prog 36 #[.pointer (some ⟨b, 0, none⟩), .int .i64 p, .int .i64 i, .int .u64 v] w (DSetPost D b S p i v w) := by
  have HF := Lib.hid (dword_any h hd hp ⟨#[115, 101, 116]⟩ p i)
  have HNL := Lib.hid hn
  obtain ⟨tv, L, fb, gv, h⟩ := h
  have c4 : w.cell? ⟨b, 4, none⟩ = some tv := h.blk.cell (i := 4) rfl
  have HD := Lib.hid h
  have hl := h.len
  have hlb : L.length ≤ 1048576 := by omega
  clear h hp hd hl hn
  go_enter Try.func36, Try.ntmps36
  go_wp2_with (first | (go_at_call 51; refine Stop.out ?_))
  refine ⟨HF.out.mono ?_⟩
  rintro e w1 (⟨j, k, x, rfl, hj, hx, rfl, hk, rfl⟩ | ⟨g, l, kd, rfl, hw, ht⟩)
  · obtain ⟨tg, tc, g, wc, rfl, ht1, ht2, hjl, hy, hw1, hw2, hc3, hwl, hws⟩ := HD.out.at hj (by omega)
    obtain ⟨hck, hfz⟩ := hws k hk
    have hxl := HNL.out x (List.mem_of_getElem? hj)
    obtain ⟨s1, s2⟩ := HD.out.set hy hk v
    have HFin : Hid (DSetPost D b S p k v w (.returned (.pointer none)) (w.setCell ⟨g, k, none⟩ (.int .u64 v))) := Lib.hid (.inl ⟨j, k, x, rfl, hj, hx, rfl, hk, ⟨_, _, _, _, s1⟩, s2⟩)
    unfold maxLen at ht2 hw2
    clear hj hx hy hwl hws s1 s2
    go_wp2
    go_ret
    exact HFin.out
  · have HW := Lib.hid hw
    have HT := Lib.hid ht
    clear hw ht c4
    go_wp2
    go_ret
    exact .inr ⟨g, l, kd, rfl, HW.out, HT.out⟩
end Go.Proofs.Ytacedeaopgbdhaa
end

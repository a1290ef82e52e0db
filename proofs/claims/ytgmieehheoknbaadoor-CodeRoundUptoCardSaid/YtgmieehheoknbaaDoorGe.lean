import Derived.Test.YtgmieehheoknbaaDoorGd
import Derived.Laws.BytesString
import Derived.Laws.Cells
import Derived.Test.YtgmieehheoknbaaDoorGd
section
/-
  Terms: as plain data; where they lie in memory; which may be.
-/
namespace Go.Tx
open Go Go.RowKit
theorem list_choose {α : Type} {n : Nat} {p : Nat → α → Prop} (h : ∀ i, i < n → ∃ x, p i x) : ∃ l : List α, l.length = n ∧ ∀ i x, l[i]? = some x → p i x := by
  induction n with
  | zero => exact ⟨[], rfl, fun i x h => by simp at h⟩
  | succ n ih =>
    obtain ⟨l, hl, hp⟩ := ih fun i hi => h i (by omega)
    obtain ⟨x, hx⟩ := h n (by omega)
    refine ⟨l ++ [x], by simp [hl], fun i y hy => ?_⟩
    by_cases hi : i < l.length
    · rw [List.getElem?_append_left hi] at hy; exact hp i y hy
    · rw [List.getElem?_append_right (by omega)] at hy
      by_cases h0 : i - l.length = 0
      · rw [h0] at hy; simp at hy; subst hy
        obtain rfl : i = n := by omega
        exact hx
      · rw [List.getElem?_eq_none (by simp; omega)] at hy; cases hy
theorem toList_nil {s : ByteArray} : s.toList = [] ↔ s.size = 0 := by
  rw [ByteArray.toList_eq]
  obtain ⟨d⟩ := s
  simp [ByteArray.size]
theorem size_nil {s : ByteArray} (h : s.size = 0) : s = ⟨#[]⟩ := by
  obtain ⟨d⟩ := s
  simp [ByteArray.size] at h
  rw [h]
theorem empty_size : (⟨#[]⟩ : ByteArray).size = 0 := rfl
theorem lt_cell {w : World} {a : Addr} {v : Value} (h : w.cell? a = some v) : a.block < w.heap.size := by
  unfold World.cell? at h
  rcases Nat.lt_or_ge a.block w.heap.size with h' | h'
  · exact h'
  · rw [Array.getElem?_eq_none h'] at h
    cases h
/-- a term -/
inductive Tm where
  | mk (kind n : Int) (name : ByteArray) (items rest : List Tm) (bytes : ByteArray)
def Tm.kind : Tm → Int | .mk k _ _ _ _ _ => k
def Tm.n : Tm → Int | .mk _ n _ _ _ _ => n
def Tm.name : Tm → ByteArray | .mk _ _ s _ _ _ => s
def Tm.items : Tm → List Tm | .mk _ _ _ l _ _ => l
def Tm.rest : Tm → List Tm | .mk _ _ _ _ l _ => l
def Tm.bytes : Tm → ByteArray | .mk _ _ _ _ _ b => b
/-- a term as a value, out of its slices -/
def Tm.val (t : Tm) (vi vr vb : Value) : Value := .agg #[.int .i64 t.kind, .int .i64 t.n, .string t.name, vi, vr, vb]
/-- its numbers are such -/
structure Tm.fine (t : Tm) : Prop where
  k1 : -9223372036854775808 ≤ t.kind
  k2 : t.kind ≤ 9223372036854775807
  n1 : -9223372036854775808 ≤ t.n
  n2 : t.n ≤ 9223372036854775807
def byteCells (b : ByteArray) : List Value := b.data.toList.map fun c => Value.int .u8 c.toNat
/-- a slice of terms -/
def RowD (w : World) (S : Nat → Prop) (R : Value → Tm → Prop) (v : Value) (l : List Tm) : Prop :=
  l.length ≤ 140737488355328 ∧ ∃ a cap, v = .slice a l.length cap ∧ l.length ≤ cap ∧ cap ≤ maxLen ∧ ∀ i t, l[i]? = some t → ∃ b o vi vr vb, a = some ⟨b, o, none⟩ ∧ S b ∧
    (w.cell? ⟨b, o + i * 6, none⟩ = some (.int .i64 t.kind) ∧ w.cell? ⟨b, o + i * 6 + 1, none⟩ = some (.int .i64 t.n) ∧ w.cell? ⟨b, o + i * 6 + 2, none⟩ = some (.string t.name) ∧
      w.cell? ⟨b, o + i * 6 + 3, none⟩ = some vi ∧ w.cell? ⟨b, o + i * 6 + 4, none⟩ = some vr ∧ w.cell? ⟨b, o + i * 6 + 5, none⟩ = some vb) ∧ R (t.val vi vr vb) t
/-- a slice of bytes -/
def BytesD (w : World) (S : Nat → Prop) (v : Value) (s : ByteArray) : Prop :=
  s.size ≤ 140737488355328 ∧ ∃ a cap, v = .slice a s.size cap ∧ s.size ≤ cap ∧ cap ≤ maxLen ∧ (0 < s.size → ∃ b o, a = some ⟨b, o, none⟩ ∧ S b ∧ ∀ j u, (byteCells s)[j]? = some u → w.cell? ⟨b, o + j, none⟩ = some u)
/-- a value is a term, at most so deep; what it leads to lies in S -/
def TmD (w : World) (S : Nat → Prop) : Nat → Value → Tm → Prop
  | 0 => fun _ _ => False
  | d + 1 => fun v t => ∃ vi vr vb, v = t.val vi vr vb ∧ t.fine ∧ t.name.size ≤ 140737488355328 ∧ RowD w S (TmD w S d) vi t.items ∧ RowD w S (TmD w S d) vr t.rest ∧ BytesD w S vb t.bytes

theorem RowD.mono {w w' : World} {S S' : Nat → Prop} {R R' : Value → Tm → Prop} {v : Value} {l : List Tm} (h : RowD w S R v l) (hs : ∀ b, S b → S' b) (hc : ∀ b o v, S b → w.cell? ⟨b, o, none⟩ = some v → w'.cell? ⟨b, o, none⟩ = some v) (hr : ∀ v t, R v t → R' v t) : RowD w' S' R' v l := by
  obtain ⟨h0, a, cap, h1, h2, h3, h4⟩ := h
  refine ⟨h0, a, cap, h1, h2, h3, fun i t ht => ?_⟩
  obtain ⟨b, o, vi, vr, vb, e, hb, ⟨c0, c1, c2, c3, c4, c5⟩, hR⟩ := h4 i t ht
  exact ⟨b, o, vi, vr, vb, e, hs b hb, ⟨hc _ _ _ hb c0, hc _ _ _ hb c1, hc _ _ _ hb c2, hc _ _ _ hb c3, hc _ _ _ hb c4, hc _ _ _ hb c5⟩, hr _ _ hR⟩
theorem BytesD.mono {w w' : World} {S S' : Nat → Prop} {v : Value} {s : ByteArray} (h : BytesD w S v s) (hs : ∀ b, S b → S' b) (hc : ∀ b o v, S b → w.cell? ⟨b, o, none⟩ = some v → w'.cell? ⟨b, o, none⟩ = some v) : BytesD w' S' v s := by
  obtain ⟨h0, a, cap, h1, h2, h3, h4⟩ := h
  refine ⟨h0, a, cap, h1, h2, h3, fun hp => ?_⟩
  obtain ⟨b, o, e, hb, h5⟩ := h4 hp
  exact ⟨b, o, e, hs b hb, fun j u hu => hc _ _ _ hb (h5 j u hu)⟩
theorem TmD.mono {w w' : World} {S S' : Nat → Prop} (hs : ∀ b, S b → S' b) (hc : ∀ b o v, S b → w.cell? ⟨b, o, none⟩ = some v → w'.cell? ⟨b, o, none⟩ = some v) : ∀ {d : Nat} {v : Value} {t : Tm}, TmD w S d v t → TmD w' S' d v t
  | 0, _, _, h => h
  | _ + 1, _, _, ⟨vi, vr, vb, h1, h2, h3, h4, h5, h6⟩ =>
    ⟨vi, vr, vb, h1, h2, h3, h4.mono hs hc fun _ _ h => TmD.mono hs hc h, h5.mono hs hc fun _ _ h => TmD.mono hs hc h, h6.mono hs hc⟩
theorem TmD.keeps {w w' : World} {S T : Nat → Prop} {d : Nat} {v : Value} {t : Tm} (h : TmD w S d v t) (hk : Keeps T w w') (hs : ∀ g, S g → ¬ T g) : TmD w' S d v t :=
  h.mono (fun _ h => h) fun _ _ _ hb hc => hk.cell hc (hs _ hb)
theorem RowD.keeps {w w' : World} {S T : Nat → Prop} {d : Nat} {v : Value} {l : List Tm} (h : RowD w S (TmD w S d) v l) (hk : Keeps T w w') (hs : ∀ g, S g → ¬ T g) : RowD w' S (TmD w' S d) v l :=
  h.mono (fun _ h => h) (fun _ _ _ hb hc => hk.cell hc (hs _ hb)) fun _ _ h => h.keeps hk hs
theorem BytesD.keeps {w w' : World} {S T : Nat → Prop} {v : Value} {s : ByteArray} (h : BytesD w S v s) (hk : Keeps T w w') (hs : ∀ g, S g → ¬ T g) : BytesD w' S v s :=
  h.mono (fun _ h => h) fun _ _ _ hb hc => hk.cell hc (hs _ hb)
theorem TmD.deep {w : World} {S : Nat → Prop} : ∀ {d e : Nat} {v : Value} {t : Tm}, d ≤ e → TmD w S d v t → TmD w S e v t
  | 0, _, _, _, _, h => h.elim
  | _ + 1, 0, _, _, hd, _ => by omega
  | _ + 1, _ + 1, _, _, hd, ⟨vi, vr, vb, h1, h2, h3, h4, h5, h6⟩ =>
    ⟨vi, vr, vb, h1, h2, h3, h4.mono (fun _ h => h) (fun _ _ _ _ h => h) fun _ _ h => TmD.deep (by omega) h, h5.mono (fun _ h => h) (fun _ _ _ _ h => h) fun _ _ h => TmD.deep (by omega) h, h6⟩

/-- has a term just the fields that its kind has? by numbers alone -/
def okF (k n : Int) (sl il rl bl : Nat) (rk : Int) : Bool :=
  if k = 1 then decide (sl = 0 ∧ il = 0 ∧ rl = 0 ∧ bl = 0)
  else if k = 2 then decide (n = 0 ∧ 1 ≤ sl ∧ sl ≤ 255 ∧ il = 0 ∧ rl = 0 ∧ bl = 0)
  else if k = 3 then decide (0 ≤ n ∧ n < 1152921504606846976 ∧ sl = 0 ∧ il = 0 ∧ rl = 0 ∧ bl = 0)
  else if k = 4 then decide (0 ≤ n ∧ n < 1152921504606846976 ∧ sl = 0 ∧ il = 0 ∧ rl = 0 ∧ bl = 0)
  else if k = 5 then decide (n = 0 ∧ sl = 0 ∧ rl = 0 ∧ bl = 0)
  else if k = 6 then decide (n = 0 ∧ sl = 0 ∧ il = 0 ∧ rl = 0 ∧ bl = 0)
  else if k = 7 then decide (n = 0 ∧ sl = 0 ∧ bl = 0 ∧ il ≠ 0 ∧ rl ≤ 1 ∧ (rl = 1 → rk ≠ 7 ∧ rk ≠ 6))
  else if k = 8 then decide (n = 0 ∧ sl = 0 ∧ il = 0 ∧ rl = 0)
  else false
def headKind : List Tm → Int
  | [] => 0
  | t :: _ => t.kind
def Tm.okB (t : Tm) : Bool := okF t.kind t.n t.name.size t.items.length t.rest.length t.bytes.size (headKind t.rest)
/-- bytes that count -/
def Tm.binSize (t : Tm) : Int := if t.kind = 8 then t.bytes.size else 0
mutual
/-- holding a term against what it may be: parts and bytes so far -/
def chk : Tm → Int → Int × Int → Except (Int × Int) (Int × Int)
  | .mk k n s is rs bs, dep, st =>
    let t := Tm.mk k n s is rs bs
    if st.1 + 1 + (st.2 + t.binSize) > 65536 ∨ dep > 200 then .error (st.1, 2)
    else if t.okB = false then .error (st.1, 1)
    else (chks is (dep + 1) (st.1 + 1, st.2 + t.binSize)).bind fun st => chks rs (dep + 1) st
def chks : List Tm → Int → Int × Int → Except (Int × Int) (Int × Int)
  | [], _, st => .ok st
  | t :: l, dep, st => (chk t dep st).bind fun st => chks l dep st
end
/-- as an error -/
def errTm : Except (Int × Int) (Int × Int) → ErrO
  | .ok _ => none
  | .error (n, k) => some ([("term".toUTF8, n)], k)
def rightTm (t : Tm) : ErrO := errTm (chk t 1 (0, 0))
end Go.Tx
end
section
/-
  Terms that are leaves: as values; a slice of bytes as a text; a term out of its cell.
-/
namespace Go.Tx
open Go Go.RowKit
/-- a term without parts -/
def leaf (k n : Int) (s : ByteArray) : Value := .agg #[.int .i64 k, .int .i64 n, .string s, .slice none 0 0, .slice none 0 0, .slice none 0 0]
theorem results_cellN {P : Program} {fn : Func} {c u v : Tmp} {t : TypeId} {w : World} (h : fn.results = #[.cell c t, .tmp u, .tmp v]) (tmps : Array Value) (p : Addr) (hp : tmps.getD c undef = .pointer (some p)) (x : Value) (hl : (loadVar t p).run P w = .ok x w) :
    (results fn tmps).run P w = .ok (.tuple #[x, tmps.getD u undef, tmps.getD v undef]) w := by
  have hp' : tmps[c]?.getD undef = .pointer (some p) := by rw [← Array.getD_eq_getD_getElem?]; exact hp
  simp [results, h, asAddr, hp', hl]
theorem results_cell1 {P : Program} {fn : Func} {c : Tmp} {t : TypeId} {w : World} (h : fn.results = #[.cell c t]) (tmps : Array Value) (p : Addr) (hp : tmps.getD c undef = .pointer (some p)) (x : Value) (hl : (loadVar t p).run P w = .ok x w) :
    (results fn tmps).run P w = .ok x w := by
  have hp' : tmps[c]?.getD undef = .pointer (some p) := by rw [← Array.getD_eq_getD_getElem?]; exact hp
  simp [results, h, asAddr, hp', hl]
theorem addN (g : Nat) (i : Nat) : (⟨g, 0, none⟩ : Addr).add i = ⟨g, i, none⟩ := by
  unfold Addr.add
  cases i with
  | zero => rfl
  | succ j => simp
theorem foldl_push (l : List UInt8) (r : ByteArray) : (l.map fun c => (c.toNat : Int)).foldl (fun r n => r.push (UInt8.ofNat n.toNat)) r = ⟨r.data ++ l.toArray⟩ := by
  induction l generalizing r with
  | nil => simp
  | cons c l ih =>
    rw [List.map_cons, List.foldl_cons, ih]
    simp [ByteArray.push]
/-- a slice of bytes as a text -/
theorem conv_bytes {P : Program} {w : World} {src dst e : TypeId} {a : Option Addr} {l c : Nat} (s : ByteArray) (hs : P.underlying src = some (.slice e)) (he : P.underlying e = some (.int .u8)) (hd : P.underlying dst = some .string)
    (hl : l = s.size) (hc : 0 < s.size → ∃ b o, a = some ⟨b, o, none⟩ ∧ ∀ j u, (byteCells s)[j]? = some u → w.cell? ⟨b, o + j, none⟩ = some u) : (convert src dst (.slice a l c)).run P w = .ok (.string s) w := by
  subst hl
  rw [run_convert_bytes_string w src dst e a s.size c hs he hd]
  cases a with
  | none =>
    have h0 : s.size = 0 := by
      rcases Nat.eq_zero_or_pos s.size with h | h
      · exact h
      · obtain ⟨b, o, h1, _⟩ := hc h; cases h1
    rw [size_nil h0]
    unfold Conv.bytesToString
    simp [Sem.run_pure]
    rfl
  | some ad =>
    have hb : byteCells s = (s.data.toList.map fun c => (c.toNat : Int)).map (Value.int .u8) := by
      unfold byteCells
      rw [List.map_map]
      rfl
    have hsz : (byteCells s).length = s.size := by
      unfold byteCells
      rw [List.length_map, Array.length_toList]
      rfl
    have h1 : (loadCells ad s.size).run P w = .ok ((s.data.toList.map fun c => (c.toNat : Int)).map (Value.int .u8)).toArray w := by
      rw [← hb, ← hsz]
      refine run_loadCells_list w ad (byteCells s) fun j v hv => ?_
      have hp : 0 < s.size := by
        have := (List.getElem?_eq_some_iff.1 hv).1
        omega
      obtain ⟨b, o, h1, h2⟩ := hc hp
      cases h1
      rw [Go.WideShapes.add_plain]
      exact h2 j v hv
    rw [run_bytesToString w ad s.size c _ h1, foldl_push]
    congr 2
    obtain ⟨d⟩ := s
    simp
theorem conv_none {P : Program} {w : World} {src dst e : TypeId} (a : Option Addr) (c : Nat) (hs : P.underlying src = some (.slice e)) (he : P.underlying e = some (.int .u8)) (hd : P.underlying dst = some .string) :
    (convert src dst (.slice a 0 c)).run P w = .ok (.string ⟨#[]⟩) w := conv_bytes ⟨#[]⟩ hs he hd rfl fun h => absurd h (by decide)
end Go.Tx
namespace Go.Proofs.YtgmieehheoknbaaDoor
open Go.RowKit Go.Tx
theorem sizeTerm : (Tryd.prog.info? 46).map (·.size) = some 6 := by kernel_rfl
theorem load_at {w : World} {g : Nat} {x0 x1 x2 x3 x4 x5 : Value} (hb : Blk w g 46 [x0, x1, x2, x3, x4, x5]) : (loadVar 46 ⟨g, 0, none⟩).run Tryd.prog w = .ok (.agg #[x0, x1, x2, x3, x4, x5]) w := by
  cases hi : Tryd.prog.info? 46 with
  | none => have := sizeTerm; rw [hi] at this; cases this
  | some i =>
    have hs : i.size = 6 := by have := sizeTerm; rw [hi] at this; simpa using this
    unfold loadVar loadCells
    simp [loadCellsFrom, isAgg, sizeOf, typeInfo, Tryd.underlying46, hi, hs, addN, hb.cell (i := 0) rfl, hb.cell (i := 1) rfl, hb.cell (i := 2) rfl, hb.cell (i := 3) rfl, hb.cell (i := 4) rfl, hb.cell (i := 5) rfl]
end Go.Proofs.YtgmieehheoknbaaDoor
end
section
/-
  Copies of bytes: what troupelaw00.CopyBytes does.
-/
namespace Go.Tx
open Go Go.RowKit
theorem byteCells_length (s : ByteArray) : (byteCells s).length = s.size := by
  unfold byteCells
  rw [List.length_map, Array.length_toList]
  rfl
/-- a row of bytes, as bytes -/
theorem bytes_row {w : World} {S : Nat → Prop} {v : Value} {s : ByteArray} (h : Row w 5 1 v s.size (byteCells s)) (hb : s.size ≤ 140737488355328) (ho : ∀ g, v.ownBlock = some g → S g) : BytesD w S v s := by
  obtain ⟨a, cap, rfl, h1, h2⟩ := h.len
  refine ⟨hb, a, cap, rfl, h1, h2, fun hp => ?_⟩
  obtain ⟨g, c2, e, _, _⟩ := h.form hp
  simp only [Value.slice.injEq] at e
  obtain ⟨rfl, _, rfl⟩ := e
  exact ⟨g, 0, rfl, ho g rfl, fun j u hu => by rw [Nat.zero_add]; exact h.cell hu⟩
end Go.Tx
namespace Go.Proofs.YtgmieehheoknbaaDoor
open Go.RowKit Go.Tx
theorem info_u8 : (Tryd.prog.info? 5).map (fun i => (i.zero, i.size, i.bytes)) = some (some (.int .u8 0), 1, 1) := by kernel_rfl
theorem first_bytes {w W : World} {S : Nat → Prop} {a : Option Addr} {cap : Nat} {s : ByteArray} (h : BytesD w S (.slice a s.size cap) s) (hW : W.heap = w.heap) : (Builtin.firstCells 1 s.size (.slice a s.size cap)).run Tryd.prog W = .ok (byteCells s).toArray W := by
  obtain ⟨_, a', cap', e, _, _, hc⟩ := h
  cases e
  by_cases h0 : 0 < s.size
  · obtain ⟨b, o, rfl, _, hcell⟩ := hc h0
    refine firstCells_at (w := w) (by rw [byteCells_length, Nat.mul_one]) (fun j u hu => ?_) W hW
    rw [Go.WideShapes.add_plain]
    exact hcell j u hu
  · have e0 : s.size = 0 := by omega
    have e1 : byteCells s = [] := List.length_eq_zero_iff.1 (by rw [byteCells_length, e0])
    rw [e1, e0]
    cases a with
    | none => exact firstCells_nil ..
    | some ad => exact firstCells_at (w := w) (news := []) rfl (fun j u hu => by simp at hu) W hW
set_option maxRecDepth 100000 in
set_option maxHeartbeats 400000 in
theorem copyBytes_any {w : World} {S : Nat → Prop} {v : Value} {s : ByteArray} (h : BytesD w S v s) :
    Calls Tryd.prog 12 #[v] w fun e w' => ∃ v', e = .returned v' ∧ BytesD w' (Fresh w w') v' s ∧ Keeps (fun _ => False) w w' := by
  have H := Lib.hid h
  obtain ⟨hb, a, cap, rfl, _⟩ := h
  go_enter Tryd.func12, Tryd.ntmps12
  go_wp2_with (first | (at_builtin; go_must (refine wpList_append_row _ rfl _ _ 26 26 rfl 5 (.slice 5) 1 1 (.int .u8 0) info_u8 Tryd.underlying26 Tryd.underlying26 (by intro k h; cases h) rfl (.slice none 0 0) 0 [] rfl (World.ownsRow_nil _ _ _ _) _ s.size (byteCells s) rfl (by rw [byteCells_length, Nat.mul_one]) (lenOf_slice _ _ _) (fun W hW => first_bytes H.out hW) (by intro u hu; simp only [byteCells, List.mem_map] at hu; obtain ⟨_, _, rfl⟩ := hu; rfl) (by unfold maxLen; omega) (by omega) ?_); intro v' w4 ha; obtain ⟨va, vc, rfl, _, _⟩ := ha.row.len; have HA := Lib.hid ha; clear ha))
  go_ret
  have ha := HA.out
  rw [Nat.zero_add, List.nil_append] at ha
  have hk : Keeps (fun _ => False) w _ := ha.keeps.mono fun g _ hg => by simp [Own, Value.ownBlock] at hg
  refine ⟨.slice va s.size vc, rfl, bytes_row ha.row hb (fun g hg => ?_), hk⟩
  rcases ha.own with e | ⟨e, hs⟩
  · rw [e] at hg; simp [Value.ownBlock] at hg
  · rw [e] at hg; cases hg; exact ⟨Nat.le_refl _, by omega⟩
end Go.Proofs.YtgmieehheoknbaaDoor
end

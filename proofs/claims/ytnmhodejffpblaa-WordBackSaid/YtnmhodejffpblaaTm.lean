/-
  Terms: as plain data; where they lie in memory; which may be.
-/
import Derived.Test.YtnmhodejffpblaaRf
namespace Go.Tx
open Go Go.RowKit
theorem list_choose {α : Type} {n : Nat} {p : Nat → α → Prop} (h : ∀ i, i < n → ∃ x, p i x) : ∃ l : List α, l.length = n ∧ ∀ i x, l[i]? = some x → p i x := by
  induction n with
  | zero => exact ⟨[], rfl, fun i x h => by simp at h⟩
  | succ n ih =>
    obtain ⟨l, hl, hp⟩ := ih fun i hi => h i (by omega)
    obtain ⟨x, hx⟩ := h n (by omega)
    refine ⟨l ++ [x], by simp [hl], fun i y hy => ?_⟩
    by_cases hi : i < l.length
    · rw [List.getElem?_append_left hi] at hy; exact hp i y hy
    · rw [List.getElem?_append_right (by omega)] at hy
      by_cases h0 : i - l.length = 0
      · rw [h0] at hy; simp at hy; subst hy
        obtain rfl : i = n := by omega
        exact hx
      · rw [List.getElem?_eq_none (by simp; omega)] at hy; cases hy
theorem toList_nil {s : ByteArray} : s.toList = [] ↔ s.size = 0 := by
  rw [ByteArray.toList_eq]
  obtain ⟨d⟩ := s
  simp [ByteArray.size]
theorem size_nil {s : ByteArray} (h : s.size = 0) : s = ⟨#[]⟩ := by
  obtain ⟨d⟩ := s
  simp [ByteArray.size] at h
  rw [h]
theorem empty_size : (⟨#[]⟩ : ByteArray).size = 0 := rfl
theorem lt_cell {w : World} {a : Addr} {v : Value} (h : w.cell? a = some v) : a.block < w.heap.size := by
  unfold World.cell? at h
  rcases Nat.lt_or_ge a.block w.heap.size with h' | h'
  · exact h'
  · rw [Array.getElem?_eq_none h'] at h
    cases h
/-- a term -/
inductive Tm where
  | mk (kind n : Int) (name : ByteArray) (items rest : List Tm) (bytes : ByteArray)
def Tm.kind : Tm → Int | .mk k _ _ _ _ _ => k
def Tm.n : Tm → Int | .mk _ n _ _ _ _ => n
def Tm.name : Tm → ByteArray | .mk _ _ s _ _ _ => s
def Tm.items : Tm → List Tm | .mk _ _ _ l _ _ => l
def Tm.rest : Tm → List Tm | .mk _ _ _ _ l _ => l
def Tm.bytes : Tm → ByteArray | .mk _ _ _ _ _ b => b
/-- a term as a value, out of its slices -/
def Tm.val (t : Tm) (vi vr vb : Value) : Value := .agg #[.int .i64 t.kind, .int .i64 t.n, .string t.name, vi, vr, vb]
/-- its numbers are such -/
structure Tm.fine (t : Tm) : Prop where
  k1 : -9223372036854775808 ≤ t.kind
  k2 : t.kind ≤ 9223372036854775807
  n1 : -9223372036854775808 ≤ t.n
  n2 : t.n ≤ 9223372036854775807
def byteCells (b : ByteArray) : List Value := b.data.toList.map fun c => Value.int .u8 c.toNat
/-- a slice of terms -/
def RowD (w : World) (S : Nat → Prop) (R : Value → Tm → Prop) (v : Value) (l : List Tm) : Prop :=
  l.length ≤ 140737488355328 ∧ ∃ a cap, v = .slice a l.length cap ∧ l.length ≤ cap ∧ cap ≤ maxLen ∧ ∀ i t, l[i]? = some t → ∃ b o vi vr vb, a = some ⟨b, o, none⟩ ∧ S b ∧
    (w.cell? ⟨b, o + i * 6, none⟩ = some (.int .i64 t.kind) ∧ w.cell? ⟨b, o + i * 6 + 1, none⟩ = some (.int .i64 t.n) ∧ w.cell? ⟨b, o + i * 6 + 2, none⟩ = some (.string t.name) ∧
      w.cell? ⟨b, o + i * 6 + 3, none⟩ = some vi ∧ w.cell? ⟨b, o + i * 6 + 4, none⟩ = some vr ∧ w.cell? ⟨b, o + i * 6 + 5, none⟩ = some vb) ∧ R (t.val vi vr vb) t
/-- a slice of bytes -/
def BytesD (w : World) (S : Nat → Prop) (v : Value) (s : ByteArray) : Prop :=
  s.size ≤ 140737488355328 ∧ ∃ a cap, v = .slice a s.size cap ∧ s.size ≤ cap ∧ cap ≤ maxLen ∧ (0 < s.size → ∃ b o, a = some ⟨b, o, none⟩ ∧ S b ∧ ∀ j u, (byteCells s)[j]? = some u → w.cell? ⟨b, o + j, none⟩ = some u)
/-- a value is a term, at most so deep; what it leads to lies in S -/
def TmD (w : World) (S : Nat → Prop) : Nat → Value → Tm → Prop
  | 0 => fun _ _ => False
  | d + 1 => fun v t => ∃ vi vr vb, v = t.val vi vr vb ∧ t.fine ∧ t.name.size ≤ 140737488355328 ∧ RowD w S (TmD w S d) vi t.items ∧ RowD w S (TmD w S d) vr t.rest ∧ BytesD w S vb t.bytes

theorem RowD.mono {w w' : World} {S S' : Nat → Prop} {R R' : Value → Tm → Prop} {v : Value} {l : List Tm} (h : RowD w S R v l) (hs : ∀ b, S b → S' b) (hc : ∀ b o v, S b → w.cell? ⟨b, o, none⟩ = some v → w'.cell? ⟨b, o, none⟩ = some v) (hr : ∀ v t, R v t → R' v t) : RowD w' S' R' v l := by
  obtain ⟨h0, a, cap, h1, h2, h3, h4⟩ := h
  refine ⟨h0, a, cap, h1, h2, h3, fun i t ht => ?_⟩
  obtain ⟨b, o, vi, vr, vb, e, hb, ⟨c0, c1, c2, c3, c4, c5⟩, hR⟩ := h4 i t ht
  exact ⟨b, o, vi, vr, vb, e, hs b hb, ⟨hc _ _ _ hb c0, hc _ _ _ hb c1, hc _ _ _ hb c2, hc _ _ _ hb c3, hc _ _ _ hb c4, hc _ _ _ hb c5⟩, hr _ _ hR⟩
theorem BytesD.mono {w w' : World} {S S' : Nat → Prop} {v : Value} {s : ByteArray} (h : BytesD w S v s) (hs : ∀ b, S b → S' b) (hc : ∀ b o v, S b → w.cell? ⟨b, o, none⟩ = some v → w'.cell? ⟨b, o, none⟩ = some v) : BytesD w' S' v s := by
  obtain ⟨h0, a, cap, h1, h2, h3, h4⟩ := h
  refine ⟨h0, a, cap, h1, h2, h3, fun hp => ?_⟩
  obtain ⟨b, o, e, hb, h5⟩ := h4 hp
  exact ⟨b, o, e, hs b hb, fun j u hu => hc _ _ _ hb (h5 j u hu)⟩
theorem TmD.mono {w w' : World} {S S' : Nat → Prop} (hs : ∀ b, S b → S' b) (hc : ∀ b o v, S b → w.cell? ⟨b, o, none⟩ = some v → w'.cell? ⟨b, o, none⟩ = some v) : ∀ {d : Nat} {v : Value} {t : Tm}, TmD w S d v t → TmD w' S' d v t
  | 0, _, _, h => h
  | _ + 1, _, _, ⟨vi, vr, vb, h1, h2, h3, h4, h5, h6⟩ =>
    ⟨vi, vr, vb, h1, h2, h3, h4.mono hs hc fun _ _ h => TmD.mono hs hc h, h5.mono hs hc fun _ _ h => TmD.mono hs hc h, h6.mono hs hc⟩
theorem TmD.keeps {w w' : World} {S T : Nat → Prop} {d : Nat} {v : Value} {t : Tm} (h : TmD w S d v t) (hk : Keeps T w w') (hs : ∀ g, S g → ¬ T g) : TmD w' S d v t :=
  h.mono (fun _ h => h) fun _ _ _ hb hc => hk.cell hc (hs _ hb)
theorem RowD.keeps {w w' : World} {S T : Nat → Prop} {d : Nat} {v : Value} {l : List Tm} (h : RowD w S (TmD w S d) v l) (hk : Keeps T w w') (hs : ∀ g, S g → ¬ T g) : RowD w' S (TmD w' S d) v l :=
  h.mono (fun _ h => h) (fun _ _ _ hb hc => hk.cell hc (hs _ hb)) fun _ _ h => h.keeps hk hs
theorem BytesD.keeps {w w' : World} {S T : Nat → Prop} {v : Value} {s : ByteArray} (h : BytesD w S v s) (hk : Keeps T w w') (hs : ∀ g, S g → ¬ T g) : BytesD w' S v s :=
  h.mono (fun _ h => h) fun _ _ _ hb hc => hk.cell hc (hs _ hb)
theorem TmD.deep {w : World} {S : Nat → Prop} : ∀ {d e : Nat} {v : Value} {t : Tm}, d ≤ e → TmD w S d v t → TmD w S e v t
  | 0, _, _, _, _, h => h.elim
  | _ + 1, 0, _, _, hd, _ => by omega
  | _ + 1, _ + 1, _, _, hd, ⟨vi, vr, vb, h1, h2, h3, h4, h5, h6⟩ =>
    ⟨vi, vr, vb, h1, h2, h3, h4.mono (fun _ h => h) (fun _ _ _ _ h => h) fun _ _ h => TmD.deep (by omega) h, h5.mono (fun _ h => h) (fun _ _ _ _ h => h) fun _ _ h => TmD.deep (by omega) h, h6⟩

/-- has a term just the fields that its kind has? by numbers alone -/
def okF (k n : Int) (sl il rl bl : Nat) (rk : Int) : Bool :=
  if k = 1 then decide (sl = 0 ∧ il = 0 ∧ rl = 0 ∧ bl = 0)
  else if k = 2 then decide (n = 0 ∧ 1 ≤ sl ∧ sl ≤ 255 ∧ il = 0 ∧ rl = 0 ∧ bl = 0)
  else if k = 3 then decide (0 ≤ n ∧ n < 1152921504606846976 ∧ sl = 0 ∧ il = 0 ∧ rl = 0 ∧ bl = 0)
  else if k = 4 then decide (0 ≤ n ∧ n < 1152921504606846976 ∧ sl = 0 ∧ il = 0 ∧ rl = 0 ∧ bl = 0)
  else if k = 5 then decide (n = 0 ∧ sl = 0 ∧ rl = 0 ∧ bl = 0)
  else if k = 6 then decide (n = 0 ∧ sl = 0 ∧ il = 0 ∧ rl = 0 ∧ bl = 0)
  else if k = 7 then decide (n = 0 ∧ sl = 0 ∧ bl = 0 ∧ il ≠ 0 ∧ rl ≤ 1 ∧ (rl = 1 → rk ≠ 7 ∧ rk ≠ 6))
  else if k = 8 then decide (n = 0 ∧ sl = 0 ∧ il = 0 ∧ rl = 0)
  else false
def headKind : List Tm → Int
  | [] => 0
  | t :: _ => t.kind
def Tm.okB (t : Tm) : Bool := okF t.kind t.n t.name.size t.items.length t.rest.length t.bytes.size (headKind t.rest)
/-- bytes that count -/
def Tm.binSize (t : Tm) : Int := if t.kind = 8 then t.bytes.size else 0
mutual
/-- holding a term against what it may be: parts and bytes so far -/
def chk : Tm → Int → Int × Int → Except (Int × Int) (Int × Int)
  | .mk k n s is rs bs, dep, st =>
    let t := Tm.mk k n s is rs bs
    if st.1 + 1 + (st.2 + t.binSize) > 65536 ∨ dep > 200 then .error (st.1, 2)
    else if t.okB = false then .error (st.1, 1)
    else (chks is (dep + 1) (st.1 + 1, st.2 + t.binSize)).bind fun st => chks rs (dep + 1) st
def chks : List Tm → Int → Int × Int → Except (Int × Int) (Int × Int)
  | [], _, st => .ok st
  | t :: l, dep, st => (chk t dep st).bind fun st => chks l dep st
end
/-- as an error -/
def errTm : Except (Int × Int) (Int × Int) → ErrO
  | .ok _ => none
  | .error (n, k) => some ([("term".toUTF8, n)], k)
def rightTm (t : Tm) : ErrO := errTm (chk t 1 (0, 0))
end Go.Tx

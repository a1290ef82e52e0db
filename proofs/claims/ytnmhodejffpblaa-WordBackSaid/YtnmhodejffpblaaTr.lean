/-
  Whether a term is one that may be: what the Go code of tree.Right does.
-/
import Derived.Test.YtnmhodejffpblaaTg
import Derived.Deep.DeepCutAuto
namespace Go.Tx
open Go Go.RowKit
/-- behind a look at a term -/
def ChkPost (g : Nat) (r : Except (Int × Int) (Int × Int)) (w : World) (e : Ending) (w' : World) : Prop :=
  Keeps (fun x => x = g) w w' ∧ match r with
  | .ok st => e = .returned .nilIface ∧ Blk w' g 118 [.int .i64 st.1, .int .i64 st.2] ∧ 0 ≤ st.1 ∧ 0 ≤ st.2 ∧ st.1 + st.2 ≤ 65536
  | .error x => ∃ E, e = .returned E ∧ IsErr w' (Fresh w w') E [(⟨#[116, 101, 114, 109]⟩, x.1)] x.2
/-- before each part -/
def PartsAt (w : World) (g : Nat) (l : List Tm) (dep : Int) (r : Except (Int × Int) (Int × Int)) (v : Value) (wr : World) : Prop :=
  ∃ (i : Nat) (p b : Int), v = .int .i64 i ∧ i ≤ l.length ∧ chks (l.drop i) dep (p, b) = r ∧ 0 ≤ p ∧ 0 ≤ b ∧ p + b ≤ 65536 ∧ Blk wr g 118 [.int .i64 p, .int .i64 b] ∧ Keeps (fun x => x = g) w wr
theorem Fresh.mono {w w1 w2 w' : World} {x : Nat} (h1 : w.heap.size ≤ w1.heap.size) (h2 : w2.heap.size ≤ w'.heap.size) (h : Fresh w1 w2 x) : Fresh w w' x := ⟨by have := h.1; omega, by have := h.2; omega⟩
theorem chkPost_drew {w w2 : World} {g : Nat} {r : Except (Int × Int) (Int × Int)} {e : Ending} (h : ChkPost g r w e w2) : ChkPost g r w e w2.drew := by
  obtain ⟨h1, h2⟩ := h
  refine ⟨h1.drew, ?_⟩
  cases r with
  | ok st => exact ⟨h2.1, h2.2.1.drew, h2.2.2⟩
  | error x =>
    obtain ⟨E, he, hE⟩ := h2
    exact ⟨E, he, (hE.keeps ((Keeps.refl (fun _ => False) _).drew) fun _ _ h => h).mono fun x hx => hx⟩
theorem chkPost_err {w w1 w2 : World} {g : Nat} {r : Except (Int × Int) (Int × Int)} {n k : Int} {E : Value} (hr : r = .error (n, k)) (hk : Keeps (fun x => x = g) w w2)
    (hE : IsErr w2 (Fresh w1 w2) E [(⟨#[116, 101, 114, 109]⟩, n)] k) (hs : w.heap.size ≤ w1.heap.size) : ChkPost g r w (.returned E) w2 := by
  subst hr
  exact ⟨hk, E, rfl, hE.mono fun x hx => ⟨by have := hx.1; omega, hx.2⟩⟩
theorem chk_new {w W : World} {g x : Nat} {r : Except (Int × Int) (Int × Int)} {n k : Int} (hr : r = .error (n, k)) (hk : Keeps (fun x => x = g) w W) (hx : x = W.heap.size) :
    ChkPost g r w (.returned (.iface 52 (.pointer (some ⟨x, 0, none⟩)))) (W.alloc (.cells #[.string ⟨#[116, 101, 114, 109]⟩, .int .i64 n, .iface 53 (.int .i64 k)] 55)).drew := by
  subst hr hx
  have h1 := isErr_new W ⟨#[116, 101, 114, 109]⟩ n (.iface 53 (.int .i64 k)) [] k (fun _ => False) rfl
  refine ⟨(hk.alloc _).drew, _, rfl, (h1.keeps ((Keeps.refl (fun _ => False) _).drew) fun _ _ h => h).mono fun x hx => ?_⟩
  rcases hx with rfl | hx
  · exact ⟨hk.size, by show _ < (W.alloc _).heap.size; rw [World.size_alloc]; omega⟩
  · exact hx.elim
theorem chk_new' {w W : World} {g x : Nat} {r : Except (Int × Int) (Int × Int)} {n k : Int} (hr : r = .error (n, k)) (hk : Keeps (fun x => x = g) w W) (hx : x = W.heap.size) :
    ChkPost g r w (.returned (.iface 52 (.pointer (some ⟨x, 0, none⟩)))) (W.alloc (.cells #[.string ⟨#[116, 101, 114, 109]⟩, .int .i64 n, .iface 53 (.int .i64 k)] 55)) := by
  subst hr hx
  have h1 := isErr_new W ⟨#[116, 101, 114, 109]⟩ n (.iface 53 (.int .i64 k)) [] k (fun _ => False) rfl
  refine ⟨hk.alloc _, _, rfl, h1.mono fun x hx => ?_⟩
  rcases hx with rfl | hx
  · exact ⟨hk.size, by rw [World.size_alloc]; omega⟩
  · exact hx.elim
theorem chk_new2 {w W : World} {g x : Nat} {r : Except (Int × Int) (Int × Int)} {n k : Int} (hr : r = .error (n, k)) (hk : Keeps (fun x => x = g) w W) (hx : x = W.heap.size) :
    ChkPost g r w (.returned (.iface 52 (.pointer (some ⟨x, 0, none⟩)))) (W.alloc (.cells #[.string ⟨#[116, 101, 114, 109]⟩, .int .i64 n, .iface 53 (.int .i64 k)] 55)).drew.drew := chkPost_drew (chk_new hr hk hx)
theorem chkPost_ok {w w2 : World} {g : Nat} {r : Except (Int × Int) (Int × Int)} {p b : Int} (hr : r = .ok (p, b)) (hk : Keeps (fun x => x = g) w w2)
    (hb : Blk w2 g 118 [.int .i64 p, .int .i64 b]) (h1 : 0 ≤ p) (h2 : 0 ≤ b) (h3 : p + b ≤ 65536) : ChkPost g r w (.returned .nilIface) w2 := by
  subst hr
  exact ⟨hk, rfl, hb, h1, h2, h3⟩
theorem TmD.forms {w : World} {S : Nat → Prop} {d : Nat} {t : Tm} {vi vr vb : Value} (h : TmD w S d (t.val vi vr vb) t) :
    ∃ a3 k3 a4 k4 a5 k5, vi = .slice a3 t.items.length k3 ∧ vr = .slice a4 t.rest.length k4 ∧ vb = .slice a5 t.bytes.size k5 := by
  cases d with
  | zero => exact h.elim
  | succ d =>
    obtain ⟨vi', vr', vb', he, hf, hs, ⟨hil, ai, ci, rfl, _⟩, ⟨hrl, ar, cr, rfl, _, _, hr⟩, ⟨hbl, ab, cb, rfl, _⟩⟩ := h
    simp [Tm.val] at he
    exact ⟨ai, ci, ar, cr, ab, cb, he.1, he.2.1, he.2.2⟩
theorem RowD.at {w : World} {S : Nat → Prop} {R : Value → Tm → Prop} {a : Option Addr} {len cap i : Nat} {l : List Tm} {t : Tm} (h : RowD w S R (.slice a len cap) l) (ht : l[i]? = some t) :
    ∃ b o vi vr vb, a = some ⟨b, o, none⟩ ∧ S b ∧
    (w.cell? ⟨b, o + i * 6, none⟩ = some (.int .i64 t.kind) ∧ w.cell? ⟨b, o + i * 6 + 1, none⟩ = some (.int .i64 t.n) ∧ w.cell? ⟨b, o + i * 6 + 2, none⟩ = some (.string t.name) ∧
      w.cell? ⟨b, o + i * 6 + 3, none⟩ = some vi ∧ w.cell? ⟨b, o + i * 6 + 4, none⟩ = some vr ∧ w.cell? ⟨b, o + i * 6 + 5, none⟩ = some vb) ∧ R (t.val vi vr vb) t := by
  obtain ⟨_, a9, c9, he, _, _, hrow⟩ := h
  cases he
  exact hrow i t ht
theorem exc_ok {ε α β : Type} (a : α) (f : α → Except ε β) : (Except.ok a : Except ε α).bind f = f a := rfl
theorem exc_err {ε α β : Type} (e : ε) (f : α → Except ε β) : (Except.error e : Except ε α).bind f = .error e := rfl
theorem drop_cons {α : Type} {l : List α} {i : Nat} {t : α} (h : l[i]? = some t) : l.drop i = t :: l.drop (i + 1) := by
  obtain ⟨hi, he⟩ := List.getElem?_eq_some_iff.1 h
  rw [← he]
  exact List.drop_eq_getElem_cons hi
end Go.Tx
namespace Go.Proofs.Ytnmhodejffpblaa
open Go.RowKit Go.Tx
/-- what a look at a term at most d deep does -/
def TermSpec (d : Nat) : Prop := ∀ (w : World) (S : Nat → Prop) (v : Value) (t : Tm) (g : Nat) (p b dep : Int), TmD w S d v t → (∀ x, S x → ¬ x = g) → Blk w g 118 [.int .i64 p, .int .i64 b] → 0 ≤ p → 0 ≤ b → p + b ≤ 65536 → 1 ≤ dep → dep ≤ 201 →
    Calls Try.prog 52 #[.pointer (some ⟨g, 0, none⟩), v, .int .i64 dep] w (ChkPost g (chk t dep (p, b)) w)
end Go.Proofs.Ytnmhodejffpblaa

/-
  The document's look at a term: what (*L).look does: its state, failing.
-/
import Derived.Test.YtgmieehheoknbaaTm
import Derived.Test.YtgmieehheoknbaaTr
import Derived.Test.YtgmieehheoknbaaKx
import Derived.Deep.CutBlock
import Derived.Deep.DeepCutAuto
import Derived.BigGuardPart
import Derived.Deep.Light
namespace Go.Tx
open Go Go.RowKit
/-- the state of a look: its block -/
def LookIs (w : World) (E : Nat → Prop) (g : Nat) : Except (Int × Int) (Int × Int) → Prop
  | .ok st => Blk w g 76 [.int .i64 (65536 - (st.1 + st.2)), .int .i64 st.1, .pointer none] ∧ 0 ≤ st.1 ∧ 0 ≤ st.2 ∧ st.1 + st.2 ≤ 65536
  | .error x => ∃ a b c, Blk w g 76 [.int .i64 a, .int .i64 b, .pointer (some ⟨c, 0, none⟩)] ∧ IsX w E (.pointer (some ⟨c, 0, none⟩)) [(⟨#[116, 101, 114, 109]⟩, x.1)] x.2
theorem bool_not {x : Bool} {P : Prop} [Decidable P] (h : x = true ↔ ¬ P) : x = !decide P := by
  by_cases hp : P
  · rw [decide_eq_true hp]; cases x with
    | false => rfl
    | true => exact absurd hp (h.1 rfl)
  · rw [decide_eq_false hp]; exact h.2 hp
theorem empty_t {s : ByteArray} : s.toList.isEmpty = true ↔ s.size = 0 := by rw [List.isEmpty_iff, toList_nil]
theorem empty_f {s : ByteArray} : s.toList.isEmpty = false ↔ ¬ s.size = 0 := by rw [← toList_nil, ← List.isEmpty_iff, Bool.not_eq_true]
theorem okF_other {k n : Int} {sl il rl bl : Nat} {rk : Int} (hk : k ≠ 1 ∧ k ≠ 2 ∧ k ≠ 3 ∧ k ≠ 4 ∧ k ≠ 5 ∧ k ≠ 6 ∧ k ≠ 7 ∧ k ≠ 8) : okF k n sl il rl bl rk = false := by
  obtain ⟨k1, k2, k3, k4, k5, k6, k7, k8⟩ := hk
  simp only [okF, k1, k2, k3, k4, k5, k6, k7, k8, if_false]
theorem LookIs.keeps {w w' : World} {E T : Nat → Prop} {g : Nat} {r : Except (Int × Int) (Int × Int)} (h : LookIs w E g r) (hk : Keeps T w w') (hg : ¬ T g) (hE : ∀ x, E x → ¬ T x) : LookIs w' E g r := by
  cases r with
  | ok st => exact ⟨h.1.keeps hk hg, h.2⟩
  | error x =>
    obtain ⟨a, b, c, h1, h2⟩ := h
    exact ⟨a, b, c, h1.keeps hk hg, h2.keeps hk hE⟩
/-- behind a look -/
def LookPost (E : Nat → Prop) (g : Nat) (r : Except (Int × Int) (Int × Int)) (w : World) (e : Ending) (w' : World) : Prop :=
  e = .returned (.tuple #[]) ∧ Keeps (fun x => x = g) w w' ∧ LookIs w' E g r
/-- before each part -/
def LookAt (w : World) (E : Nat → Prop) (g : Nat) (l : List Tm) (dep : Int) (r : Except (Int × Int) (Int × Int)) (v : Value) (wr : World) : Prop :=
  ∃ (i : Nat) (q : Except (Int × Int) (Int × Int)), v = .int .i64 i ∧ i ≤ l.length ∧ (q.bind fun st => chks (l.drop i) dep st) = r ∧ LookIs wr E g q ∧ Keeps (fun x => x = g) w wr
end Go.Tx
namespace Go.Proofs.Ytgmieehheoknbaa
open Go.RowKit Go.Tx
set_option maxRecDepth 100000 in
set_option maxHeartbeats 400000 in
theorem lfail_any (w : World) (g : Nat) (a b n k : Int) (hb : Blk w g 76 [.int .i64 a, .int .i64 b, .pointer none]) :
    Calls Try.prog 36 #[.pointer (some ⟨g, 0, none⟩), .int .i64 n, .int .i64 k] w fun e w' => e = .returned (.tuple #[]) ∧ Keeps (fun x => x = g) w w' ∧ ∃ c, Blk w' g 76 [.int .i64 a, .int .i64 b, .pointer (some ⟨c, 0, none⟩)] ∧ IsX w' (fun x => w.heap.size ≤ x) (.pointer (some ⟨c, 0, none⟩)) [(⟨#[116, 101, 114, 109]⟩, n)] k := by
  have c2 : w.cell? ⟨g, 2, none⟩ = some (.pointer none) := hb.cell (i := 2) rfl
  have f2 := hb.free 2
  have hg := hb.lt
  have HB := Lib.hid hb
  clear hb
  go_enter Try.func36, Try.ntmps36
  go_wp2_with (first | (go_at_call 20; refine (K_any _ _).mono ?_; rintro e w1 ⟨rfl, rfl⟩))
  first | go_end0 | (simp only [Exit.inBlock, Exit.then]; refine bodyPost_ret (results_none rfl _ _ _) rfl ?_) | refine bodyPost_ret (results_none rfl _ _ _) rfl ?_
  refine ⟨rfl, (by repeat (first | with_reducible exact Keeps.refl _ _ | with_reducible apply Keeps.drew | with_reducible apply Keeps.alloc | refine Keeps.setCell (S := fun x => x = g) (p := ⟨g, _, none⟩) ?_ (fun _ => rfl) _)), w.heap.size + 1, ?_, w.heap.size + 1, w.heap.size, rfl, ?_, by simp, w.heap.size, rfl, ?_, by simp⟩
  · exact ((HB.out.set 2 _).alloc _).alloc _
  · have := Blk.new ((w.setCell ⟨g, 2, none⟩ (.pointer (some ⟨w.heap.size + 1, 0, none⟩))).alloc (.cells #[.string ⟨#[]⟩, .int .i64 0, .pointer none, .int .i64 k] 79)) [.string ⟨#[116, 101, 114, 109]⟩, .int .i64 n, .pointer (some ⟨w.heap.size, 0, none⟩), .int .i64 0] 79
    rw [World.size_alloc, World.size_setCell] at this
    exact this
  · have := Blk.new (w.setCell ⟨g, 2, none⟩ (.pointer (some ⟨w.heap.size + 1, 0, none⟩))) [.string ⟨#[]⟩, .int .i64 0, .pointer none, .int .i64 k] 79
    rw [World.size_setCell] at this
    exact this.alloc _
/-- what a look at a term at most d deep does -/
def LookSpec (d : Nat) : Prop := ∀ (w : World) (S E : Nat → Prop) (v : Value) (t : Tm) (g : Nat) (r : Except (Int × Int) (Int × Int)) (dep : Int), TmD w S d v t → (∀ x, S x → ¬ x = g) → LookIs w E g r → (∀ x, E x → ¬ x = g) → (∀ x, w.heap.size ≤ x → E x) → 1 ≤ dep → dep ≤ 201 →
    Calls Try.prog 31 #[.pointer (some ⟨g, 0, none⟩), v, .int .i64 dep] w (LookPost E g (r.bind fun st => chk t dep st) w)
theorem look_fail {w w1 w2 : World} {E : Nat → Prop} {g : Nat} {r : Except (Int × Int) (Int × Int)} {n k a b : Int} {q : Nat} (hr : r = .error (n, k)) (hk : Keeps (fun x => x = g) w w2) (hw : w.heap.size ≤ w1.heap.size) (hE : ∀ x, w.heap.size ≤ x → E x)
    (hb : Blk w2 g 76 [.int .i64 a, .int .i64 b, .pointer (some ⟨q, 0, none⟩)]) (hx : IsX w2 (fun x => w1.heap.size ≤ x) (.pointer (some ⟨q, 0, none⟩)) [(⟨#[116, 101, 114, 109]⟩, n)] k) : LookPost E g r w (.returned (.tuple #[])) w2 := by
  subst hr
  exact ⟨rfl, hk, a, b, q, hb, hx.mono fun x hx => hE x (by omega)⟩
end Go.Proofs.Ytgmieehheoknbaa

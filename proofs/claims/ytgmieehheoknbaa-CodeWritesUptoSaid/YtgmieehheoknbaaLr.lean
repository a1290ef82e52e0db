/-
  The document's look at a term, whole; whether a term is one that may be, by the document: what trouperef02.Right does.
-/
import Derived.Test.YtgmieehheoknbaaLoe
import Derived.Test.YtgmieehheoknbaaLof
import Derived.Test.YtgmieehheoknbaaLon
import Derived.Test.YtgmieehheoknbaaLop
import Derived.Test.YtgmieehheoknbaaLob
namespace Go.Tx
open Go Go.RowKit
theorem IsX.within {w : World} {E : Nat → Prop} : ∀ {l : List (ByteArray × Int)} {v : Value} {k : Int}, IsX w E v l k → IsX w (fun x => E x ∧ x < w.heap.size) v l k
  | [], _, _, ⟨b, h1, h2, h3⟩ => ⟨b, h1, h2, h3, h2.lt⟩
  | _ :: _, _, _, ⟨b, u, h1, h2, h3, h4⟩ => ⟨b, u, h1, h2, ⟨h3, h2.lt⟩, IsX.within h4⟩
/-- an answer of the document: an error, or none; nothing that was there has turned -/
def XOPost (f : Value → Value) (o : ErrO) (w : World) (e : Ending) (w' : World) : Prop := ∃ E, e = .returned (f E) ∧ IsXO w' (Fresh w w') E o ∧ Keeps (fun _ => False) w w'
end Go.Tx
namespace Go.Proofs.Ytgmieehheoknbaa
open Go.RowKit Go.Tx
theorem look_step (d : Nat) (IH : LookSpec d) : LookSpec (d + 1) := by
  intro w S E v t g r dep h hgS hl hE hE2 hd hd2
  obtain ⟨k, n, s, is, rs, bs⟩ := t
  cases r with
  | error x => exact look_err d IH w S E v k n s is rs bs g dep h hgS hE hE2 hd hd2 x hl
  | ok st =>
    obtain ⟨p, b⟩ := st
    show Calls _ _ _ w (LookPost E g (chk (.mk k n s is rs bs) dep (p, b)) w)
    by_cases hk8 : k = 8
    · by_cases hfl : p + 1 + (b + (Tm.mk k n s is rs bs).binSize) > 65536 ∨ dep > 200
      · exact look_b_full d IH w S E v k n s is rs bs g dep h hgS hE hE2 hd hd2 p b hl hk8 hfl
      · exact look_b_parts d IH w S E v k n s is rs bs g dep h hgS hE hE2 hd hd2 p b hl hk8 (by omega)
    · by_cases hfl : p + 1 + (b + (Tm.mk k n s is rs bs).binSize) > 65536 ∨ dep > 200
      · exact look_n_full d IH w S E v k n s is rs bs g dep h hgS hE hE2 hd hd2 p b hl hk8 hfl
      · by_cases hkk : k = 1 ∨ k = 2 ∨ k = 3 ∨ k = 4
        · exact look_n_parts_a d IH w S E v k n s is rs bs g dep h hgS hE hE2 hd hd2 p b hl hk8 (by omega) hkk
        · exact look_n_parts_b d IH w S E v k n s is rs bs g dep h hgS hE hE2 hd hd2 p b hl hk8 (by omega) (by omega)
theorem look_any : ∀ d, LookSpec d
  | 0 => fun _ _ _ _ _ _ _ _ h => h.elim
  | d + 1 => look_step d (look_any d)
set_option maxRecDepth 100000 in
set_option maxHeartbeats 400000 in
/-- trouperef02.Right, at any term -/
theorem rright_any {w : World} {S : Nat → Prop} {d : Nat} {v : Value} {t : Tm} (h : TmD w S d v t) (hS : ∀ x, S x → x < w.heap.size) : Calls Try.prog 17 #[v] w (XOPost id (rightTm t) w) := by
  have HT := Lib.hid h
  have HS := Lib.hid hS
  obtain ⟨k, n, s, ai, ar, ab, il, ci, rl, cr, bl, cb, rfl⟩ : ∃ k n s ai ar ab il ci rl cr bl cb, v = .agg #[.int .i64 k, .int .i64 n, .string s, .slice ai il ci, .slice ar rl cr, .slice ab bl cb] := by
    cases d with
    | zero => exact h.elim
    | succ d =>
      obtain ⟨vi, vr, vb, he, _⟩ := h
      subst he
      obtain ⟨a3, k3, a4, k4, a5, k5, rfl, rfl, rfl⟩ := HT.out.forms
      exact ⟨_, _, _, _, _, _, _, _, _, _, _, _, rfl⟩
  clear h hS
  go_enter Try.func17, Try.ntmps17
  go_wp2_with (go_at_call 31; refine Stop.out ?_)
  refine ⟨(look_any d _ S (fun x => w.heap.size ≤ x ∧ ¬ x = w.heap.size + 1) _ t (w.heap.size + 1) (.ok (0, 0)) 1 (HT.out.keeps (T := fun _ => False) (by repeat (first | with_reducible exact Keeps.refl _ _ | with_reducible apply Keeps.drew | with_reducible apply Keeps.alloc)) (fun _ _ h => h)) (fun x hx => by have := HS.out x hx; omega)
    ⟨by have := Blk.new (w.alloc (.cells #[.int .i64 k, .int .i64 n, .string s, .slice ai il ci, .slice ar rl cr, .slice ab bl cb] 42)) [.int .i64 65536, .int .i64 0, .pointer none] 76; rwa [World.size_alloc] at this, by decide, by decide, by decide⟩
    (fun x hx => hx.2) (fun x hx => by simp at hx; omega) (by decide) (by decide)).mono ?_⟩
  rintro e w2 ⟨rfl, hk2, hl2⟩
  have HK2 : Hid (Keeps (fun _ => False) w w2) := Lib.hid (Keeps.trans (T := fun x => x = w.heap.size + 1) (by repeat (first | with_reducible exact Keeps.refl _ _ | with_reducible apply Keeps.drew | with_reducible apply Keeps.alloc)) hk2 fun b hb hx => by omega)
  clear hk2
  obtain ⟨r, hr⟩ : ∃ r, r = chk t 1 (0, 0) := ⟨_, rfl⟩
  have hR : rightTm t = errTm r := by rw [hr]; rfl
  have HR := Lib.hid hR
  replace hl2 : LookIs w2 (fun x => w.heap.size ≤ x ∧ ¬ x = w.heap.size + 1) (w.heap.size + 1) r := by rw [hr]; exact hl2
  clear hR hr
  cases r with
  | ok st =>
    have c2 : w2.cell? ⟨w.heap.size + 1, 2, none⟩ = some (.pointer none) := hl2.1.cell (i := 2) rfl
    clear hl2
    go_wp2
    go_ret
    exact ⟨_, rfl, by rw [HR.out]; rfl, HK2.out⟩
  | error x =>
    obtain ⟨a, b, c, hb, hx⟩ := hl2
    have c2 : w2.cell? ⟨w.heap.size + 1, 2, none⟩ = some (.pointer (some ⟨c, 0, none⟩)) := hb.cell (i := 2) rfl
    have HX := Lib.hid hx
    clear hb hx
    go_wp2
    go_ret
    refine ⟨_, rfl, ?_, HK2.out⟩
    rw [HR.out]
    exact ⟨HX.out.within.mono fun x hx => ⟨hx.1.1, hx.2⟩, by simp⟩
end Go.Proofs.Ytgmieehheoknbaa

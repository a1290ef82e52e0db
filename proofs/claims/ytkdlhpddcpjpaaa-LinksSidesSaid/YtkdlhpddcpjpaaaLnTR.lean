/-
  Proved here: the law LinksSides answers true for every input, and leaves its arguments as they were; no condition.
-/
import Derived.SizedLaws
import Derived.OpenShut
import Derived.Test.YtkdlhpddcpjpaaaRowB
import Derived.Test.YtkdlhpddcpjpaaaLnT
namespace Go.Tx
open Go Go.RowKit Go.ChangeShapes Go.WideShapes Go.ChangeAt
/-- what is weighed: each of the arguments -/
theorem weights_of {H : Type} {P : Program} {ts : List TypeId} {ds : List (DataW H)} (h : (DataW.weightsEach P ts ds).all (· ≤ reachBytes) = true) {j : Nat} {t : TypeId} {d : DataW H} (ht : ts[j]? = some t) (hd : ds[j]? = some d) : (d.weights P t).all (· ≤ reachBytes) = true :=
  List.all_eq_true.2 fun n hn => List.all_eq_true.1 h n (DataW.weights_mem_each ht hd n hn)
theorem one_of_two {α : Type} {l : List α} (h : l.length = 2) : ∃ a b, l = [a, b] := by
  match l, h with
  | [a, b], _ => exact ⟨a, b, rfl⟩
theorem int_arg {H : Type} {enc : TypeId × Value → H} {P : Program} {W : World} {t : TypeId} {n : Int} {d : DataW H} {p : List MemPlace} (ht : P.underlying t = some (.int .i64))
    (h : DataW.Trod enc P W 0 (fun _ => true) true t (.int .i64 n) d p) : -9223372036854775808 ≤ n ∧ n ≤ 9223372036854775807 := by
  obtain ⟨fuel, hf⟩ := h
  obtain ⟨m, h1, _, h2⟩ := DataW.trod_int ht hf
  simp [Value.cells] at h1
  subst h1
  exact wf_i64 h2
end Go.Tx
namespace Go.Proofs.Ytkdlhpddcpjpaaa
open Go.ChangeShapes Go.WideShapes Go.ChangeAt Go.RowKit Go.Tx
/-- a slice of pairs of integers as its cells -/
theorem pairs_cells {H : Type} {enc : TypeId × Value → H} {P : Program} {W : World} {t e g : TypeId} {a0 : Option Addr} {len cap : Nat} {d : DataW H} {p : List MemPlace} (ht : P.underlying t = some (.slice e)) (he : P.underlying e = some (.array 2 g)) (hg : P.underlying g = some (.int .i64))
    (hc : P.cellsOf e = 2) (hcg : P.cellsOf g = 1) (hb : P.bytesOf e = 16)
    (h : DataW.Trod enc P W 0 (fun _ => true) true t (.slice a0 len cap) d p) (hw : (d.weights P t).all (· ≤ reachBytes) = true) :
    ∃ zs : Nat → Int × Int, len ≤ 8796093022208 ∧ ∀ i, i < len → PairAt W a0 i (zs i) := by
  obtain ⟨fuel, hf⟩ := h
  rcases DataW.trod_slice ht hf with ⟨hcs, _⟩ | ⟨a, len', cap', elems, rest, n, _, hcs, hx, _, _, _, hel, hin, _⟩
  · simp [Value.cells] at hcs
    obtain ⟨rfl, rfl, rfl⟩ := hcs
    exact ⟨fun _ => (0, 0), Nat.zero_le _, fun i hi => by omega⟩
  · simp [Value.cells] at hcs
    obtain ⟨rfl, rfl, rfl⟩ := hcs
    have hlen : len ≤ 8796093022208 := by
      simp only [Prod.mk.injEq] at hx
      rw [hx.1] at hw
      unfold DataW.weights at hw
      rw [ht] at hw
      simp only [List.all_cons, Bool.and_eq_true, decide_eq_true_eq, List.length_map, hb, hel] at hw
      have := hw.1
      unfold reachBytes at this
      omega
    have hsp : ∀ i, i < len → a.spot = none := fun i hi => by
      have h1 := hin 0 (by omega)
      rw [List.getElem?_eq_getElem (by omega), Option.bind_eq_some_iff] at h1
      obtain ⟨cs, h2, _⟩ := h1
      obtain ⟨_, h4, h5⟩ := World.cells?_some h2
      obtain ⟨c0, c1, rfl⟩ := one_of_two (h4.trans hc)
      have k0 := h5 0 (by omega)
      simpa [Addr.add] using World.cell?_spot k0
    have hcell : ∀ i, ∃ z : Int × Int, i < len → PairAt W (some a) i z := fun i => by
      by_cases hi : i < len
      · have h1 := hin i hi
        rw [List.getElem?_eq_getElem (by omega), Option.bind_eq_some_iff] at h1
        obtain ⟨cs, h2, h3⟩ := h1
        obtain ⟨_, h4, h5⟩ := World.cells?_some h2
        obtain ⟨c0, c1, rfl⟩ := one_of_two (h4.trans hc)
        obtain ⟨xs, m, _, _, _, hxl, hxs⟩ := DataW.trod_array he h3
        have q0 := hxs 0 (by omega)
        have q1 := hxs 1 (by omega)
        rw [hcg, List.getElem?_eq_getElem (by omega)] at q0 q1
        obtain ⟨n0, e0, _, w0⟩ := DataW.trod_int hg q0
        obtain ⟨n1, e1, _, w1⟩ := DataW.trod_int hg q1
        simp at e0 e1
        subst e0
        subst e1
        have k0 := h5 0 (by omega)
        have k1 := h5 1 (by omega)
        have hs := hsp i hi
        obtain ⟨b, o, sp⟩ := a
        have hs2 : sp = none := hs
        subst hs2
        rw [hc, add_plain, add_plain] at k0 k1
        exact ⟨(n0, n1), fun _ => ⟨b, o, rfl, k0, k1, (wf_i64 w0).1, (wf_i64 w0).2, (wf_i64 w1).1, (wf_i64 w1).2⟩⟩
      · exact ⟨(0, 0), fun h => absurd h hi⟩
    exact ⟨fun i => Classical.choose (hcell i), hlen, fun i hi => Classical.choose_spec (hcell i) hi⟩
theorem cellsPair : Try.prog.cellsOf 30 = 2 := by kernel_rfl
theorem bytesPair : Try.prog.bytesOf 30 = 16 := by kernel_rfl
set_option maxRecDepth 100000 in
theorem sides_lifted (os : Os) (started : os.Started) (H : Type) (enc : TypeId × Value → H) :
    ReturnsInHanded {} Try.checked os 3 .any (Rows.linksSidesSpec.pre6 enc Try.prog Try.f3 Rows.linksSidesRow.domain false) (Rows.linksSidesSpec.post enc Try.prog Try.f3 false true false false) := by
  refine returnsInHanded_of_change_sized (C := Try.checked) Try.own started (by kernel_rfl) Try.func3
    (ChangeSpec.witness6 (enc := enc) (C := Try.checked) false ⟨#[], #[.slice none 0 0, .slice none 0 0, .int .i64 0], []⟩ 8 (by kernel_rfl) (by kernel_rfl) (by kernel_rfl) (by kernel_rfl)) ?_
  intro W base args ds gs before hval0 hW hcnd hsz _
  have hval : ∀ (j : Nat) t v, Try.f3.params[j]? = some t → args[j]? = some v → Value.okWide Try.prog W .any base t v := hval0
  have hW' := hW
  obtain ⟨p, q, hA0, hV, rfl, hfz, hnd⟩ := hW
  have hA : DataW.TrodAll enc Try.prog W 0 (fun _ => true) true Try.f3.params.toList args.toList ds p := hA0
  rw [Try.params3] at hA hval
  obtain ⟨v0, v1, v2, d0, d1, d2, p0, p1, p2, rfl, rfl, rfl, h0, h1, h2⟩ := trodAll_three hA
  obtain ⟨rfl, rfl⟩ := trodVars_none hV
  obtain ⟨a0, len0, cap0, rfl⟩ := okWide_slice Try.underlying22 (hval 0 22 v0 rfl rfl)
  obtain ⟨a1, len1, cap1, rfl⟩ := okWide_slice Try.underlying22 (hval 1 22 v1 rfl rfl)
  obtain ⟨z, rfl⟩ := okWide_int Try.underlying3 (hval 2 3 v2 rfl rfl)
  obtain ⟨zs, hm0, hc0⟩ := pairs_cells Try.underlying22 Try.underlying30 Try.underlying3 cellsPair Try.cellsInt bytesPair h0 (weights_of (j := 0) (t := 22) (d := d0) hsz rfl rfl)
  obtain ⟨ys, hm1, hc1⟩ := pairs_cells Try.underlying22 Try.underlying30 Try.underlying3 cellsPair Try.cellsInt bytesPair h1 (weights_of (j := 1) (t := 22) (d := d1) hsz rfl rfl)
  obtain ⟨hz1, hz2⟩ := int_arg Try.underlying3 h2
  refine (sides_any W a0 len0 cap0 zs hm0 hc0 a1 len1 cap1 ys hm1 hc1 z hz1 hz2).mono fun e W' ⟨he, hk⟩ => ?_
  exact ⟨_, he, law_post (tb := 4) Try.laidOut (by kernel_rfl) rfl (by kernel_rfl) Try.underlying4 hW' hk fun _ => ⟨rfl, rfl, rfl⟩⟩

theorem linksSides_holds : Rows.LinksSidesSaid :=
  OpenClaim.holds_of_wide 3 Try.f3 rfl rfl rfl rfl rfl rfl rfl ⟨rfl, rfl, rfl, rfl, rfl⟩ rfl rfl rfl rfl rfl (by kernel_rfl) Try.func3 (by kernel_rfl)
    (of_decide_eq_true (by kernel_rfl)) (by unfold Func.isWrapper; first | (rw [if_pos (by decide +kernel)]; kernel_rfl) | (rw [if_neg (by decide +kernel)]; exact ⟨rfl, rfl⟩))
    (fun os started H enc _ => sides_lifted os started H enc)
end Go.Proofs.Ytkdlhpddcpjpaaa

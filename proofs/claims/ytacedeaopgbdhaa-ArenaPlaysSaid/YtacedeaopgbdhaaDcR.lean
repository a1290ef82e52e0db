import Derived.SizedLaws
import Derived.OpenShut
import Derived.Test.YtacedeaopgbdhaaArRow
import Derived.Test.YtacedeaopgbdhaaDcG
/-
  Proved here: the law ArenaPlays answers true for every input, and leaves its arguments as they were; no condition.
-/
namespace Go.Tx
open Go Go.RowKit Go.ChangeShapes Go.WideShapes Go.ChangeAt
/-- what is weighed: each of the arguments -/
theorem weights_of {H : Type} {P : Program} {ts : List TypeId} {ds : List (DataW H)} (h : (DataW.weightsEach P ts ds).all (· ≤ reachBytes) = true) {j : Nat} {t : TypeId} {d : DataW H} (ht : ts[j]? = some t) (hd : ds[j]? = some d) : (d.weights P t).all (· ≤ reachBytes) = true :=
  List.all_eq_true.2 fun n hn => List.all_eq_true.1 h n (DataW.weights_mem_each ht hd n hn)
theorem add_flat (b o j : Nat) : (⟨b, o, none⟩ : Addr).add j = ⟨b, o + j, none⟩ := by unfold Addr.add; split <;> simp_all
end Go.Tx
namespace Go.Proofs.Ytacedeaopgbdhaa
open Go.ChangeShapes Go.WideShapes Go.ChangeAt Go.RowKit Go.Tx
theorem cellsOp : Try.prog.cellsOf 60 = 5 := by kernel_rfl
theorem bytesOp : Try.prog.bytesOf 60 = 40 := by kernel_rfl
theorem cellsU64 : Try.prog.cellsOf 41 = 1 := by kernel_rfl
theorem cellsBool : Try.prog.cellsOf 4 = 1 := by kernel_rfl
set_option maxRecDepth 100000 in
/-- a script as its cells -/
theorem ops_cells {H : Type} {enc : TypeId × Value → H} {W : World} {a0 : Option Addr} {len cap : Nat} {d : DataW H} {p : List MemPlace}
    (h : DataW.Trod enc Try.prog W 0 (fun _ => true) true 51 (.slice a0 len cap) d p) (hw : (d.weights Try.prog 51).all (· ≤ reachBytes) = true) :
    ∃ xs : Nat → OpV, len ≤ 8796093022200 ∧ ∀ i, i < len → OpAt W a0 i (xs i) := by
  obtain ⟨fuel, hf⟩ := h
  rcases DataW.trod_slice Try.underlying51 hf with ⟨hcs, _⟩ | ⟨a, len', cap', elems, rest, n, _, hcs, hx, _, _, _, hel, hin, _⟩
  · simp [Value.cells] at hcs
    obtain ⟨rfl, rfl, rfl⟩ := hcs
    exact ⟨fun _ => ⟨0, 0, 0, 0, false⟩, Nat.zero_le _, fun i hi => by omega⟩
  · simp [Value.cells] at hcs
    obtain ⟨rfl, rfl, rfl⟩ := hcs
    have hlen : len ≤ 8796093022200 := by
      simp only [Prod.mk.injEq] at hx
      rw [hx.1] at hw
      unfold DataW.weights at hw
      rw [Try.underlying51] at hw
      simp only [List.all_cons, Bool.and_eq_true, decide_eq_true_eq, List.length_map, bytesOp, hel] at hw
      have := hw.1
      unfold reachBytes at this
      omega
    have hcell : ∀ i, ∃ z : OpV, i < len → z.In ∧ ∀ j, j < 5 → W.cell? ((a.add (i * 5)).add j) = (opCells z)[j]? := fun i => by
      by_cases hi : i < len
      · have h1 := hin i hi
        rw [List.getElem?_eq_getElem (by omega), Option.bind_eq_some_iff] at h1
        obtain ⟨cs, h2, h3⟩ := h1
        obtain ⟨_, h4, h5⟩ := World.cells?_some h2
        obtain ⟨xs, m, _, _, hcl, hxl, hfx⟩ := DataW.trod_struct Try.underlying60 h3
        rw [cellsOp] at hcl
        match cs, hcl with
        | [c0, c1, c2, c3, c4], _ =>
          match xs, hxl with
          | [y0, y1, y2, y3, y4], _ =>
            have f0 := hfx 0 _ rfl
            have f1 := hfx 1 _ rfl
            have f2 := hfx 2 _ rfl
            have f3 := hfx 3 _ rfl
            have f4 := hfx 4 _ rfl
            simp only [Try.cellsInt, cellsU64, cellsBool, List.drop_succ_cons, List.drop_zero, List.take_succ_cons, List.take_zero, List.getElem?_cons_zero, List.getElem?_cons_succ] at f0 f1 f2 f3 f4
            obtain ⟨z0, e0, _, q0⟩ := DataW.trod_int Try.underlying3 f0
            obtain ⟨z1, e1, _, q1⟩ := DataW.trod_int Try.underlying3 f1
            obtain ⟨z2, e2, _, q2⟩ := DataW.trod_int Try.underlying3 f2
            obtain ⟨z3, e3, _, q3⟩ := DataW.trod_int Try.underlying41 f3
            obtain ⟨z4, e4, _⟩ := DataW.trod_bool Try.underlying4 f4
            cases e0; cases e1; cases e2; cases e3; cases e4
            refine ⟨⟨z0, z1, z2, z3, z4⟩, fun _ => ⟨⟨(wf_i64 q0).1, (wf_i64 q0).2, (wf_i64 q1).1, (wf_i64 q1).2⟩, fun j hj => ?_⟩⟩
            have := h5 j (by rw [cellsOp]; exact hj)
            rw [cellsOp] at this
            exact this
      · exact ⟨⟨0, 0, 0, 0, false⟩, fun h => absurd h hi⟩
    have hspot : 0 < len → a.spot = none := fun h0 => by
      obtain ⟨z, hz⟩ := hcell 0
      have := (hz h0).2 0 (by omega)
      simpa [Addr.add] using World.cell?_spot this
    refine ⟨fun i => Classical.choose (hcell i), hlen, fun i hi => ?_⟩
    have hh := Classical.choose_spec (hcell i) hi
    show OpAt W (some a) i (Classical.choose (hcell i))
    generalize Classical.choose (hcell i) = z at hh ⊢
    obtain ⟨hzin, hk⟩ := hh
    clear hcell hf
    obtain ⟨b, o, sp⟩ := a
    obtain rfl : sp = none := hspot (by omega)
    have kk : ∀ j, j < 5 → W.cell? ⟨b, o + i * 5 + j, none⟩ = (opCells z)[j]? := fun j hj => by
      have := hk j hj
      rwa [add_flat, add_flat] at this
    exact ⟨b, o, rfl, kk 0 (by omega), kk 1 (by omega), kk 2 (by omega), kk 3 (by omega), kk 4 (by omega), hzin⟩
set_option maxRecDepth 100000 in
theorem plays_lifted (os : Os) (started : os.Started) (H : Type) (enc : TypeId × Value → H) :
    ReturnsInHanded {} Try.checked os 8 .any (Rows.arenaPlaysSpec.pre6 enc Try.prog Try.f8 Rows.arenaPlaysRow.domain false) (Rows.arenaPlaysSpec.post enc Try.prog Try.f8 false true false false) := by
  refine returnsInHanded_of_change_sized (C := Try.checked) Try.own started (by kernel_rfl) Try.func8
    (ChangeSpec.witness6 (enc := enc) (C := Try.checked) false ⟨#[], #[.int .i64 0, .int .i64 0, .slice none 0 0], []⟩ 8 (by kernel_rfl) (by kernel_rfl) (by kernel_rfl) (by kernel_rfl)) ?_
  intro W base args ds gs before hval0 hW hcnd hsz _
  have hval : ∀ (j : Nat) t v, Try.f8.params[j]? = some t → args[j]? = some v → Value.okWide Try.prog W .any base t v := hval0
  have hW' := hW
  obtain ⟨p, q, hA0, hV, rfl, hfz, hnd⟩ := hW
  have hA : DataW.TrodAll enc Try.prog W 0 (fun _ => true) true Try.f8.params.toList args.toList ds p := hA0
  rw [Try.params8] at hA hval
  obtain ⟨v0, v1, v2, d0, d1, d2, p0, p1, p2, rfl, rfl, rfl, h0, h1, h2⟩ := trodAll_three hA
  obtain ⟨rfl, rfl⟩ := trodVars_none hV
  obtain ⟨z0, rfl⟩ := okWide_int Try.underlying3 (hval 0 3 v0 rfl rfl)
  obtain ⟨z1, rfl⟩ := okWide_int Try.underlying3 (hval 1 3 v1 rfl rfl)
  obtain ⟨a2, len2, cap2, rfl⟩ := okWide_slice Try.underlying51 (hval 2 51 v2 rfl rfl)
  obtain ⟨xs, hm, hc⟩ := ops_cells h2 (weights_of (j := 2) (t := 51) (d := d2) hsz rfl rfl)
  refine (plays_any W z0 z1 a2 len2 cap2 xs hm hc).mono fun e W' ⟨he, hk⟩ => ?_
  exact ⟨_, he, law_post (tb := 4) Try.laidOut (by kernel_rfl) rfl (by kernel_rfl) Try.underlying4 hW' hk fun _ => ⟨rfl, rfl, rfl⟩⟩

theorem arenaPlays_holds : Rows.ArenaPlaysSaid :=
  OpenClaim.holds_of_wide 8 Try.f8 rfl rfl rfl rfl rfl rfl rfl ⟨rfl, rfl, rfl, rfl, rfl⟩ rfl rfl rfl rfl rfl (by kernel_rfl) Try.func8 (by kernel_rfl)
    (of_decide_eq_true (by kernel_rfl)) (by unfold Func.isWrapper; first | (rw [if_pos (by decide +kernel)]; kernel_rfl) | (rw [if_neg (by decide +kernel)]; exact ⟨rfl, rfl⟩))
    (fun os started H enc _ => plays_lifted os started H enc)
end Go.Proofs.Ytacedeaopgbdhaa

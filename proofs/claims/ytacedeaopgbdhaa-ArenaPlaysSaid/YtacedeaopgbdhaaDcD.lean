import Derived.Test.YtacedeaopgbdhaaDmE
/-
  The law's On: a call at both arenas (do): what the Go code does.
-/
namespace Go.Tx
open Go Go.RowKit
def DoPost (w : World) (o n : Nat) (e : Ending) (w' : World) : Prop := e = .returned (.bool true) ∧ Plays w o n w'
theorem fine_same {L : ErrO} (h : fineO L = true) : (fineO L && decide (L = L)) = true := by simp [h]
end Go.Tx
namespace Go.Proofs.Ytacedeaopgbdhaa
open Go.RowKit Go.Tx
set_option maxRecDepth 100000 in
set_option maxHeartbeats 1600000 in
theorem do_free {w wr : World} {o n : Nat} (h : Plays w o n wr) (hn : n ≤ 8796093022200) (x : OpV) (hx : x.In) (hk : x.kind % 6 = 1) :
    Calls Try.prog 22 #[.pointer (some ⟨o, 0, none⟩), opVal x] wr (DoPost w o (n + 1)) := by
  obtain ⟨b, d, rv, ns, A, D, S, T, hP, hL, hA, hl⟩ := h
  have HPK : Hid (∀ V, Keeps (fun _ => False) wr V → Calls Try.prog 33 #[.pointer (some ⟨o, 0, none⟩), .agg #[.int .i64 x.kind, .int .i64 x.a, .int .i64 x.b, .int .u64 x.w, .bool x.raw]] V (PickPost V)) := Lib.hid fun V hv => pick_any (hP.on.keeps hv id) (hP.row.keeps hv fun _ _ h => h) (by omega) x hx
  have HPL : Hid (∀ W, Calls Try.prog 9 #[.int .i64 x.kind, .int .i64 6] W fun e w' => e = .returned (.int .i64 1) ∧ W = w') := Lib.hid fun W => (place_any x.kind 6 (by omega) (by omega) hx.k1 hx.k2 W).mono fun e w' ⟨h1, h2⟩ => ⟨by rw [h1, hk], h2⟩
  have HP0 := Lib.hid hP
  have HL0 := Lib.hid hL
  have HA0 := Lib.hid hA
  obtain ⟨kind, xa, xb, xw, raw⟩ := x
  simp only at HPK HPL
  unfold opVal
  simp only
  clear hP hL hA hx hk
  go_enter Try.func22, Try.ntmps22
  go_wp2_with (first | (with_reducible refine wp_region_text (by kernel_rfl) (by kernel_rfl) ?_) | (with_reducible refine text_fin (by kernel_rfl) ?_) | (go_at_call 33; refine Stop.out ?_))
  refine ⟨(HPK.out _ (by repeat (first | with_reducible exact Keeps.refl _ _ | with_reducible apply Keeps.drew | with_reducible apply Keeps.alloc))).mono ?_⟩
  rintro e w1 ⟨p, rfl, hk1⟩
  have hk01 : Keeps (fun _ => False) wr w1 := ((Keeps.refl (fun _ => False) wr).alloc _).trans hk1 fun _ _ h => h
  have hbx : Blk w1 wr.heap.size 60 [.int .i64 kind, .int .i64 xa, .int .i64 xb, .int .u64 xw, .bool raw] := (Blk.new wr [.int .i64 kind, .int .i64 xa, .int .i64 xb, .int .u64 xw, .bool raw] 60).keeps hk1 id
  have x0 := hbx.cell (i := 0) rfl
  have x1 := hbx.cell (i := 1) rfl
  have x2 := hbx.cell (i := 2) rfl
  have x3 := hbx.cell (i := 3) rfl
  have hP1 := HP0.out.read hk01
  have o0 : w1.cell? ⟨o, 0, none⟩ = some (.pointer (some ⟨b, 0, none⟩)) := hP1.on.cell (i := 0) rfl
  have o1 : w1.cell? ⟨o, 1, none⟩ = some (.pointer (some ⟨d, 0, none⟩)) := hP1.on.cell (i := 1) rfl
  have hbS : ∀ g, S g → g ≠ wr.heap.size := fun g hg e => by have := HP0.out.ar.lt g hg; omega
  have HBS := Lib.hid hbS
  have HBX := Lib.hid hbx
  have HP1 := Lib.hid hP1
  clear hk01 hbx hP1 hk1 hbS
  obtain ⟨A', D', L, ⟨hL', hA', hf⟩, hca, hcd⟩ := free_both HL0.out HA0.out p
  have HCA := Lib.hid hca
  have HCD := Lib.hid hcd
  have HF := Lib.hid hf
  have HL1 := Lib.hid hL'
  have HA1 := Lib.hid hA'
  clear hca hcd hf hL' hA'
  have HHo : Hid (∀ V, Keeps (fun _ => False) w1 V → V.cell? ⟨o, 1, none⟩ = some (.pointer (some ⟨d, 0, none⟩))) := Lib.hid fun V hk => hk.cell o1 id
  go_wp2_with (first | (go_at_call 9; refine (HPL.out _).mono ?_; rintro e x1 ⟨rfl, rfl⟩) | (show Code.wp _ (Code.region 11 _ _) _ _ _; refine Stop.out ?_) | (with_reducible refine wp_region_text (by kernel_rfl) (by kernel_rfl) ?_) | (with_reducible refine text_fin (by kernel_rfl) ?_))
  refine ⟨?_⟩
  refine Tc.wp_region_held_text (fun V => V.cell? ⟨o, 1, none⟩ = some (.pointer (some ⟨d, 0, none⟩))) [9] (by kernel_rfl) (by kernel_rfl) (HHo.out _ (by repeat (first | with_reducible exact Keeps.refl _ _ | with_reducible apply Keeps.drew | with_reducible apply Keeps.alloc))) ?_
  go_wp2_with (first | (go_at_call 12; refine Stop.out ?_) | (refine Tc.wpH_load rfl _ _ rfl _ rfl rfl _ _ rfl (fun _ h => h) (HHo.out _ (by repeat (first | with_reducible exact Keeps.refl _ _ | with_reducible apply Keeps.drew | with_reducible apply Keeps.alloc))) ?_) | (refine Tc.wpH_walk rfl rfl ?_) | (refine Tc.wpH_nil ?_) | (with_reducible refine Tc.text_fin (by kernel_rfl) ?_) | (refine Tc.held_fin (HHo.out _ (by repeat (first | with_reducible exact Keeps.refl _ _ | with_reducible apply Keeps.drew | with_reducible apply Keeps.alloc))) ?_))
  refine ⟨(HCA.out _ _ _ (HP1.out.read (w' := w1.drew) (by repeat (first | with_reducible exact Keeps.refl _ _ | with_reducible apply Keeps.drew | with_reducible apply Keeps.alloc))).ar).mono ?_⟩
  rintro e w2 ⟨v, rfl, he, ha, hk2⟩
  have hP2 := Play.arena (HP1.out.read (w' := w1.drew) (by repeat (first | with_reducible exact Keeps.refl _ _ | with_reducible apply Keeps.drew | with_reducible apply Keeps.alloc))) ha hk2
  have o1b : w2.cell? ⟨o, 1, none⟩ = some (.pointer (some ⟨d, 0, none⟩)) := hP2.on.cell (i := 1) rfl
  have hbx2 := HBX.out.keeps (S := S) (w' := w2) (Keeps.trans (T := S) (w' := w1.drew) (by repeat (first | with_reducible exact Keeps.refl _ _ | with_reducible apply Keeps.drew | with_reducible apply Keeps.alloc)) hk2 fun _ _ h => h) fun hs => HBS.out _ hs rfl
  have y1 := hbx2.cell (i := 1) rfl
  have y2 := hbx2.cell (i := 2) rfl
  have y3 := hbx2.cell (i := 3) rfl
  have HP2 := Lib.hid hP2
  have HE := Lib.hid he
  clear hP2 he ha hk2 hbx2 o1 x0 x1 x2 x3 o0
  have HHo2 : Hid (∀ V, Keeps (fun _ => False) w2 V → V.cell? ⟨o, 1, none⟩ = some (.pointer (some ⟨d, 0, none⟩))) := Lib.hid fun V hk => hk.cell o1b id
  go_wp2_with (first | (go_at_call 35; refine Stop.out ?_) | (refine Tc.wpH_load rfl _ _ rfl _ rfl rfl _ _ rfl (fun _ h => h) (HHo2.out _ (by repeat (first | with_reducible exact Keeps.refl _ _ | with_reducible apply Keeps.drew | with_reducible apply Keeps.alloc))) ?_) | (refine Tc.wpH_walk rfl rfl ?_) | (refine Tc.wpH_nil ?_) | (with_reducible refine Tc.text_fin (by kernel_rfl) ?_) | (refine Tc.held_fin (HHo2.out _ (by repeat (first | with_reducible exact Keeps.refl _ _ | with_reducible apply Keeps.drew | with_reducible apply Keeps.alloc))) ?_))
  refine ⟨(HCD.out _ _ _ HP2.out.doc).mono ?_⟩
  rintro e w3 ⟨v2, rfl, hx3, hd3, hk3⟩
  have hP3 := Play.docs (HP2.out.read (w' := w2) (by repeat (first | with_reducible exact Keeps.refl _ _ | with_reducible apply Keeps.drew | with_reducible apply Keeps.alloc))) hd3 hk3
  have he3 := IsErrO.keeps HE.out (Keeps.trans (S := T) (T := T) (w' := w2) (by repeat (first | with_reducible exact Keeps.refl _ _ | with_reducible apply Keeps.drew | with_reducible apply Keeps.alloc)) hk3 fun _ _ h => h) fun g hg ht => Nat.lt_irrefl _ (Nat.lt_of_lt_of_le (HP1.out.doc.lt g ht) hg.1)
  have o1c : w3.cell? ⟨o, 1, none⟩ = some (.pointer (some ⟨d, 0, none⟩)) := hP3.on.cell (i := 1) rfl
  have HP3 := Lib.hid hP3
  have HE3 := Lib.hid he3
  have HX3 := Lib.hid hx3
  clear hP3 he3 hx3 hd3 hk3 o1b y1 y2 y3
  have HHo3 : Hid (∀ V, Keeps (fun _ => False) w3 V → V.cell? ⟨o, 1, none⟩ = some (.pointer (some ⟨d, 0, none⟩))) := Lib.hid fun V hk => hk.cell o1c id
  go_wp2_with (first | (go_at_call 32; refine Stop.out ?_) | (refine Tc.wpH_load rfl _ _ rfl _ rfl rfl _ _ rfl (fun _ h => h) (HHo3.out _ (by repeat (first | with_reducible exact Keeps.refl _ _ | with_reducible apply Keeps.drew | with_reducible apply Keeps.alloc))) ?_) | (refine Tc.wpH_walk rfl rfl ?_) | (refine Tc.wpH_nil ?_) | (with_reducible refine Tc.text_fin (by kernel_rfl) ?_) | (refine Tc.held_fin (HHo3.out _ (by repeat (first | with_reducible exact Keeps.refl _ _ | with_reducible apply Keeps.drew | with_reducible apply Keeps.alloc))) ?_))
  refine ⟨(ref_any HE3.out HX3.out).mono ?_⟩
  rintro e w4 ⟨rfl, hk4⟩
  rw [fine_same HF.out]
  have HK4 := Lib.hid hk4
  clear hk4
  go_wp2_with (first | (refine Tc.wpH_walk rfl rfl ?_) | (refine Tc.wpH_nil ?_) | (with_reducible refine Tc.text_fin (by kernel_rfl) ?_) | (refine Tc.held_last rfl ?_) | (refine Tc.held_fin (HHo3.out _ HK4.out) ?_))
  go_ret
  exact ⟨rfl, b, d, rv, ns, A', D', _, _, HP3.out.read HK4.out, HL1.out, HA1.out, by omega⟩
set_option maxRecDepth 100000 in
set_option maxHeartbeats 1600000 in
theorem do_set {w wr : World} {o n : Nat} (h : Plays w o n wr) (hn : n ≤ 8796093022200) (x : OpV) (hx : x.In) (hk : x.kind % 6 = 2) :
    Calls Try.prog 22 #[.pointer (some ⟨o, 0, none⟩), opVal x] wr (DoPost w o (n + 1)) := by
  obtain ⟨b, d, rv, ns, A, D, S, T, hP, hL, hA, hl⟩ := h
  have HPK : Hid (∀ V, Keeps (fun _ => False) wr V → Calls Try.prog 33 #[.pointer (some ⟨o, 0, none⟩), .agg #[.int .i64 x.kind, .int .i64 x.a, .int .i64 x.b, .int .u64 x.w, .bool x.raw]] V (PickPost V)) := Lib.hid fun V hv => pick_any (hP.on.keeps hv id) (hP.row.keeps hv fun _ _ h => h) (by omega) x hx
  have HPL : Hid (∀ W, Calls Try.prog 9 #[.int .i64 x.kind, .int .i64 6] W fun e w' => e = .returned (.int .i64 2) ∧ W = w') := Lib.hid fun W => (place_any x.kind 6 (by omega) (by omega) hx.k1 hx.k2 W).mono fun e w' ⟨h1, h2⟩ => ⟨by rw [h1, hk], h2⟩
  have HP0 := Lib.hid hP
  have HL0 := Lib.hid hL
  have HA0 := Lib.hid hA
  obtain ⟨kind, xa, xb, xw, raw⟩ := x
  simp only at HPK HPL
  unfold opVal
  simp only
  clear hP hL hA hx hk
  go_enter Try.func22, Try.ntmps22
  go_wp2_with (first | (with_reducible refine wp_region_text (by kernel_rfl) (by kernel_rfl) ?_) | (with_reducible refine text_fin (by kernel_rfl) ?_) | (go_at_call 33; refine Stop.out ?_))
  refine ⟨(HPK.out _ (by repeat (first | with_reducible exact Keeps.refl _ _ | with_reducible apply Keeps.drew | with_reducible apply Keeps.alloc))).mono ?_⟩
  rintro e w1 ⟨p, rfl, hk1⟩
  have hk01 : Keeps (fun _ => False) wr w1 := ((Keeps.refl (fun _ => False) wr).alloc _).trans hk1 fun _ _ h => h
  have hbx : Blk w1 wr.heap.size 60 [.int .i64 kind, .int .i64 xa, .int .i64 xb, .int .u64 xw, .bool raw] := (Blk.new wr [.int .i64 kind, .int .i64 xa, .int .i64 xb, .int .u64 xw, .bool raw] 60).keeps hk1 id
  have x0 := hbx.cell (i := 0) rfl
  have x1 := hbx.cell (i := 1) rfl
  have x2 := hbx.cell (i := 2) rfl
  have x3 := hbx.cell (i := 3) rfl
  have hP1 := HP0.out.read hk01
  have o0 : w1.cell? ⟨o, 0, none⟩ = some (.pointer (some ⟨b, 0, none⟩)) := hP1.on.cell (i := 0) rfl
  have o1 : w1.cell? ⟨o, 1, none⟩ = some (.pointer (some ⟨d, 0, none⟩)) := hP1.on.cell (i := 1) rfl
  have hbS : ∀ g, S g → g ≠ wr.heap.size := fun g hg e => by have := HP0.out.ar.lt g hg; omega
  have HBS := Lib.hid hbS
  have HBX := Lib.hid hbx
  have HP1 := Lib.hid hP1
  clear hk01 hbx hP1 hk1 hbS
  obtain ⟨A', D', L, ⟨hL', hA', hf⟩, hca, hcd⟩ := set_both HL0.out HA0.out p xb xw
  have HCA := Lib.hid hca
  have HCD := Lib.hid hcd
  have HF := Lib.hid hf
  have HL1 := Lib.hid hL'
  have HA1 := Lib.hid hA'
  clear hca hcd hf hL' hA'
  have HHo : Hid (∀ V, Keeps (fun _ => False) w1 V → V.cell? ⟨o, 1, none⟩ = some (.pointer (some ⟨d, 0, none⟩)) ∧ V.cell? ⟨wr.heap.size, 2, none⟩ = some (.int .i64 xb) ∧ V.cell? ⟨wr.heap.size, 3, none⟩ = some (.int .u64 xw)) := Lib.hid fun V hk => ⟨hk.cell o1 id, hk.cell x2 id, hk.cell x3 id⟩
  go_wp2_with (first | (go_at_call 9; refine (HPL.out _).mono ?_; rintro e x1 ⟨rfl, rfl⟩) | (show Code.wp _ (Code.region 13 _ _) _ _ _; refine Stop.out ?_) | (with_reducible refine wp_region_text (by kernel_rfl) (by kernel_rfl) ?_) | (with_reducible refine text_fin (by kernel_rfl) ?_))
  refine ⟨?_⟩
  refine Tc.wp_region_held_text (fun V => V.cell? ⟨o, 1, none⟩ = some (.pointer (some ⟨d, 0, none⟩)) ∧ V.cell? ⟨wr.heap.size, 2, none⟩ = some (.int .i64 xb) ∧ V.cell? ⟨wr.heap.size, 3, none⟩ = some (.int .u64 xw)) [13, 16, 18] (by kernel_rfl) (by kernel_rfl) (HHo.out _ (by repeat (first | with_reducible exact Keeps.refl _ _ | with_reducible apply Keeps.drew | with_reducible apply Keeps.alloc))) ?_
  go_wp2_with (first | (go_at_call 18; refine Stop.out ?_) | (refine Tc.wpH_load rfl _ _ rfl _ rfl rfl _ _ rfl (fun _ h => h.1) (HHo.out _ (by repeat (first | with_reducible exact Keeps.refl _ _ | with_reducible apply Keeps.drew | with_reducible apply Keeps.alloc))) ?_) | (refine Tc.wpH_load rfl _ _ rfl _ rfl rfl _ _ rfl (fun _ h => h.2.1) (HHo.out _ (by repeat (first | with_reducible exact Keeps.refl _ _ | with_reducible apply Keeps.drew | with_reducible apply Keeps.alloc))) ?_) | (refine Tc.wpH_load rfl _ _ rfl _ rfl rfl _ _ rfl (fun _ h => h.2.2) (HHo.out _ (by repeat (first | with_reducible exact Keeps.refl _ _ | with_reducible apply Keeps.drew | with_reducible apply Keeps.alloc))) ?_) | (refine Tc.wpH_walk rfl rfl ?_) | (refine Tc.wpH_nil ?_) | (with_reducible refine Tc.text_fin (by kernel_rfl) ?_) | (refine Tc.held_fin (HHo.out _ (by repeat (first | with_reducible exact Keeps.refl _ _ | with_reducible apply Keeps.drew | with_reducible apply Keeps.alloc))) ?_))
  refine ⟨(HCA.out _ _ _ (HP1.out.read (w' := w1.drew) (by repeat (first | with_reducible exact Keeps.refl _ _ | with_reducible apply Keeps.drew | with_reducible apply Keeps.alloc))).ar).mono ?_⟩
  rintro e w2 ⟨v, rfl, he, ha, hk2⟩
  have hP2 := Play.arena (HP1.out.read (w' := w1.drew) (by repeat (first | with_reducible exact Keeps.refl _ _ | with_reducible apply Keeps.drew | with_reducible apply Keeps.alloc))) ha hk2
  have o1b : w2.cell? ⟨o, 1, none⟩ = some (.pointer (some ⟨d, 0, none⟩)) := hP2.on.cell (i := 1) rfl
  have hbx2 := HBX.out.keeps (S := S) (w' := w2) (Keeps.trans (T := S) (w' := w1.drew) (by repeat (first | with_reducible exact Keeps.refl _ _ | with_reducible apply Keeps.drew | with_reducible apply Keeps.alloc)) hk2 fun _ _ h => h) fun hs => HBS.out _ hs rfl
  have y1 := hbx2.cell (i := 1) rfl
  have y2 := hbx2.cell (i := 2) rfl
  have y3 := hbx2.cell (i := 3) rfl
  have HP2 := Lib.hid hP2
  have HE := Lib.hid he
  clear hP2 he ha hk2 hbx2 o1 x0 x1 x2 x3 o0
  have HHo2 : Hid (∀ V, Keeps (fun _ => False) w2 V → V.cell? ⟨o, 1, none⟩ = some (.pointer (some ⟨d, 0, none⟩)) ∧ V.cell? ⟨wr.heap.size, 2, none⟩ = some (.int .i64 xb) ∧ V.cell? ⟨wr.heap.size, 3, none⟩ = some (.int .u64 xw)) := Lib.hid fun V hk => ⟨hk.cell o1b id, hk.cell y2 id, hk.cell y3 id⟩
  go_wp2_with (first | (go_at_call 36; refine Stop.out ?_) | (refine Tc.wpH_load rfl _ _ rfl _ rfl rfl _ _ rfl (fun _ h => h.1) (HHo2.out _ (by repeat (first | with_reducible exact Keeps.refl _ _ | with_reducible apply Keeps.drew | with_reducible apply Keeps.alloc))) ?_) | (refine Tc.wpH_load rfl _ _ rfl _ rfl rfl _ _ rfl (fun _ h => h.2.1) (HHo2.out _ (by repeat (first | with_reducible exact Keeps.refl _ _ | with_reducible apply Keeps.drew | with_reducible apply Keeps.alloc))) ?_) | (refine Tc.wpH_load rfl _ _ rfl _ rfl rfl _ _ rfl (fun _ h => h.2.2) (HHo2.out _ (by repeat (first | with_reducible exact Keeps.refl _ _ | with_reducible apply Keeps.drew | with_reducible apply Keeps.alloc))) ?_) | (refine Tc.wpH_walk rfl rfl ?_) | (refine Tc.wpH_nil ?_) | (with_reducible refine Tc.text_fin (by kernel_rfl) ?_) | (refine Tc.held_fin (HHo2.out _ (by repeat (first | with_reducible exact Keeps.refl _ _ | with_reducible apply Keeps.drew | with_reducible apply Keeps.alloc))) ?_))
  refine ⟨(HCD.out _ _ _ HP2.out.doc).mono ?_⟩
  rintro e w3 ⟨v2, rfl, hx3, hd3, hk3⟩
  have hP3 := Play.docs (HP2.out.read (w' := w2) (by repeat (first | with_reducible exact Keeps.refl _ _ | with_reducible apply Keeps.drew | with_reducible apply Keeps.alloc))) hd3 hk3
  have he3 := IsErrO.keeps HE.out (Keeps.trans (S := T) (T := T) (w' := w2) (by repeat (first | with_reducible exact Keeps.refl _ _ | with_reducible apply Keeps.drew | with_reducible apply Keeps.alloc)) hk3 fun _ _ h => h) fun g hg ht => Nat.lt_irrefl _ (Nat.lt_of_lt_of_le (HP1.out.doc.lt g ht) hg.1)
  have hbx3 : ¬ T wr.heap.size := fun ht => Nat.lt_irrefl _ (HP0.out.doc.lt _ ht)
  have z2 := Keeps.cell (S := T) hk3 y2 hbx3
  have z3 := Keeps.cell (S := T) hk3 y3 hbx3
  have o1c : w3.cell? ⟨o, 1, none⟩ = some (.pointer (some ⟨d, 0, none⟩)) := hP3.on.cell (i := 1) rfl
  have HP3 := Lib.hid hP3
  have HE3 := Lib.hid he3
  have HX3 := Lib.hid hx3
  clear hP3 he3 hx3 hd3 hk3 o1b y1 y2 y3
  have HHo3 : Hid (∀ V, Keeps (fun _ => False) w3 V → V.cell? ⟨o, 1, none⟩ = some (.pointer (some ⟨d, 0, none⟩)) ∧ V.cell? ⟨wr.heap.size, 2, none⟩ = some (.int .i64 xb) ∧ V.cell? ⟨wr.heap.size, 3, none⟩ = some (.int .u64 xw)) := Lib.hid fun V hk => ⟨hk.cell o1c id, hk.cell z2 id, hk.cell z3 id⟩
  go_wp2_with (first | (go_at_call 32; refine Stop.out ?_) | (refine Tc.wpH_load rfl _ _ rfl _ rfl rfl _ _ rfl (fun _ h => h.1) (HHo3.out _ (by repeat (first | with_reducible exact Keeps.refl _ _ | with_reducible apply Keeps.drew | with_reducible apply Keeps.alloc))) ?_) | (refine Tc.wpH_load rfl _ _ rfl _ rfl rfl _ _ rfl (fun _ h => h.2.1) (HHo3.out _ (by repeat (first | with_reducible exact Keeps.refl _ _ | with_reducible apply Keeps.drew | with_reducible apply Keeps.alloc))) ?_) | (refine Tc.wpH_load rfl _ _ rfl _ rfl rfl _ _ rfl (fun _ h => h.2.2) (HHo3.out _ (by repeat (first | with_reducible exact Keeps.refl _ _ | with_reducible apply Keeps.drew | with_reducible apply Keeps.alloc))) ?_) | (refine Tc.wpH_walk rfl rfl ?_) | (refine Tc.wpH_nil ?_) | (with_reducible refine Tc.text_fin (by kernel_rfl) ?_) | (refine Tc.held_fin (HHo3.out _ (by repeat (first | with_reducible exact Keeps.refl _ _ | with_reducible apply Keeps.drew | with_reducible apply Keeps.alloc))) ?_))
  refine ⟨(ref_any HE3.out HX3.out).mono ?_⟩
  rintro e w4 ⟨rfl, hk4⟩
  rw [fine_same HF.out]
  have HK4 := Lib.hid hk4
  clear hk4
  go_wp2_with (first | (refine Tc.wpH_walk rfl rfl ?_) | (refine Tc.wpH_nil ?_) | (with_reducible refine Tc.text_fin (by kernel_rfl) ?_) | (refine Tc.held_last rfl ?_) | (refine Tc.held_fin (HHo3.out _ HK4.out) ?_))
  go_ret
  exact ⟨rfl, b, d, rv, ns, A', D', _, _, HP3.out.read HK4.out, HL1.out, HA1.out, by omega⟩
set_option maxRecDepth 100000 in
set_option maxHeartbeats 1600000 in
theorem do_get {w wr : World} {o n : Nat} (h : Plays w o n wr) (hn : n ≤ 8796093022200) (x : OpV) (hx : x.In) (hk : x.kind % 6 = 3) :
    Calls Try.prog 22 #[.pointer (some ⟨o, 0, none⟩), opVal x] wr (DoPost w o (n + 1)) := by
  obtain ⟨b, d, rv, ns, A, D, S, T, hP, hL, hA, hl⟩ := h
  have HPK : Hid (∀ V, Keeps (fun _ => False) wr V → Calls Try.prog 33 #[.pointer (some ⟨o, 0, none⟩), .agg #[.int .i64 x.kind, .int .i64 x.a, .int .i64 x.b, .int .u64 x.w, .bool x.raw]] V (PickPost V)) := Lib.hid fun V hv => pick_any (hP.on.keeps hv id) (hP.row.keeps hv fun _ _ h => h) (by omega) x hx
  have HPL : Hid (∀ W, Calls Try.prog 9 #[.int .i64 x.kind, .int .i64 6] W fun e w' => e = .returned (.int .i64 3) ∧ W = w') := Lib.hid fun W => (place_any x.kind 6 (by omega) (by omega) hx.k1 hx.k2 W).mono fun e w' ⟨h1, h2⟩ => ⟨by rw [h1, hk], h2⟩
  have HP0 := Lib.hid hP
  have HL0 := Lib.hid hL
  have HA0 := Lib.hid hA
  obtain ⟨kind, xa, xb, xw, raw⟩ := x
  simp only at HPK HPL
  unfold opVal
  simp only
  clear hP hL hA hx hk
  go_enter Try.func22, Try.ntmps22
  go_wp2_with (first | (with_reducible refine wp_region_text (by kernel_rfl) (by kernel_rfl) ?_) | (with_reducible refine text_fin (by kernel_rfl) ?_) | (go_at_call 33; refine Stop.out ?_))
  refine ⟨(HPK.out _ (by repeat (first | with_reducible exact Keeps.refl _ _ | with_reducible apply Keeps.drew | with_reducible apply Keeps.alloc))).mono ?_⟩
  rintro e w1 ⟨p, rfl, hk1⟩
  have hk01 : Keeps (fun _ => False) wr w1 := ((Keeps.refl (fun _ => False) wr).alloc _).trans hk1 fun _ _ h => h
  have hbx : Blk w1 wr.heap.size 60 [.int .i64 kind, .int .i64 xa, .int .i64 xb, .int .u64 xw, .bool raw] := (Blk.new wr [.int .i64 kind, .int .i64 xa, .int .i64 xb, .int .u64 xw, .bool raw] 60).keeps hk1 id
  have x0 := hbx.cell (i := 0) rfl
  have x1 := hbx.cell (i := 1) rfl
  have x2 := hbx.cell (i := 2) rfl
  have x3 := hbx.cell (i := 3) rfl
  have hP1 := HP0.out.read hk01
  have o0 : w1.cell? ⟨o, 0, none⟩ = some (.pointer (some ⟨b, 0, none⟩)) := hP1.on.cell (i := 0) rfl
  have o1 : w1.cell? ⟨o, 1, none⟩ = some (.pointer (some ⟨d, 0, none⟩)) := hP1.on.cell (i := 1) rfl
  have hbS : ∀ g, S g → g ≠ wr.heap.size := fun g hg e => by have := HP0.out.ar.lt g hg; omega
  have HBS := Lib.hid hbS
  have HBX := Lib.hid hbx
  have HP1 := Lib.hid hP1
  clear hk01 hbx hP1 hk1 hbS
  obtain ⟨xv, L, ⟨hL', hA', hf⟩, hca, hcd⟩ := get_both HL0.out HA0.out p xb
  have HCA := Lib.hid hca
  have HCD := Lib.hid hcd
  have HF := Lib.hid hf
  have HL1 := Lib.hid hL'
  have HA1 := Lib.hid hA'
  clear hca hcd hf hL' hA'
  go_wp2_with (first | (go_at_call 9; refine (HPL.out _).mono ?_; rintro e x1 ⟨rfl, rfl⟩) | (go_at_call 17; refine Stop.out ?_) | (with_reducible refine wp_region_text (by kernel_rfl) (by kernel_rfl) ?_) | (with_reducible refine text_fin (by kernel_rfl) ?_))
  refine ⟨(HCA.out _ _ _ (HP1.out.read (w' := w1.drew) (by repeat (first | with_reducible exact Keeps.refl _ _ | with_reducible apply Keeps.drew | with_reducible apply Keeps.alloc))).ar).mono ?_⟩
  rintro e w2 ⟨v, rfl, he, ha, hk2⟩
  have hP2 := Play.arena (HP1.out.read (w' := w1.drew) (by repeat (first | with_reducible exact Keeps.refl _ _ | with_reducible apply Keeps.drew | with_reducible apply Keeps.alloc))) ha hk2
  have o1b : w2.cell? ⟨o, 1, none⟩ = some (.pointer (some ⟨d, 0, none⟩)) := hP2.on.cell (i := 1) rfl
  have hbx2 := HBX.out.keeps (S := S) (w' := w2) (Keeps.trans (T := S) (w' := w1.drew) (by repeat (first | with_reducible exact Keeps.refl _ _ | with_reducible apply Keeps.drew | with_reducible apply Keeps.alloc)) hk2 fun _ _ h => h) fun hs => HBS.out _ hs rfl
  have y1 := hbx2.cell (i := 1) rfl
  have y2 := hbx2.cell (i := 2) rfl
  have y3 := hbx2.cell (i := 3) rfl
  have HP2 := Lib.hid hP2
  have HE := Lib.hid he
  clear hP2 he ha hk2 hbx2 o1 x0 x1 x2 x3 o0
  go_wp2_with (first | (go_at_call 37; refine Stop.out ?_) | (with_reducible refine wp_region_text (by kernel_rfl) (by kernel_rfl) ?_) | (with_reducible refine text_fin (by kernel_rfl) ?_))
  refine ⟨(HCD.out _ _ _ (HP2.out.read (w' := w2.drew) (by repeat (first | with_reducible exact Keeps.refl _ _ | with_reducible apply Keeps.drew | with_reducible apply Keeps.alloc))).doc).mono ?_⟩
  rintro e w3 ⟨v2, rfl, hx3, hd3, hk3⟩
  have hP3 := Play.docs (HP2.out.read (w' := w2.drew) (by repeat (first | with_reducible exact Keeps.refl _ _ | with_reducible apply Keeps.drew | with_reducible apply Keeps.alloc))) hd3 hk3
  have he3 := IsErrO.keeps HE.out (Keeps.trans (S := T) (T := T) (w' := w2.drew) (by repeat (first | with_reducible exact Keeps.refl _ _ | with_reducible apply Keeps.drew | with_reducible apply Keeps.alloc)) hk3 fun _ _ h => h) fun g hg ht => Nat.lt_irrefl _ (Nat.lt_of_lt_of_le (HP1.out.doc.lt g ht) hg.1)
  have o1c : w3.cell? ⟨o, 1, none⟩ = some (.pointer (some ⟨d, 0, none⟩)) := hP3.on.cell (i := 1) rfl
  have HP3 := Lib.hid hP3
  have HE3 := Lib.hid he3
  have HX3 := Lib.hid hx3
  clear hP3 he3 hx3 hd3 hk3 o1b y1 y2 y3
  go_wp2_with (first | (go_at_call 32; refine Stop.out ?_) | (with_reducible refine wp_region_text (by kernel_rfl) (by kernel_rfl) ?_) | (with_reducible refine text_fin (by kernel_rfl) ?_))
  refine ⟨(ref_any HE3.out HX3.out).mono ?_⟩
  rintro e w4 ⟨rfl, hk4⟩
  rw [fine_same HF.out]
  have HK4 := Lib.hid hk4
  clear hk4
  go_wp2_with (first | (with_reducible refine wp_region_text (by kernel_rfl) (by kernel_rfl) ?_) | (with_reducible refine text_fin (by kernel_rfl) ?_))
  go_ret
  exact ⟨rfl, b, d, rv, ns, A, D, _, _, HP3.out.read HK4.out, HL1.out, HA1.out, by omega⟩
set_option maxRecDepth 100000 in
set_option maxHeartbeats 1600000 in
theorem do_len {w wr : World} {o n : Nat} (h : Plays w o n wr) (hn : n ≤ 8796093022200) (x : OpV) (hx : x.In) (hk : x.kind % 6 = 4) :
    Calls Try.prog 22 #[.pointer (some ⟨o, 0, none⟩), opVal x] wr (DoPost w o (n + 1)) := by
  obtain ⟨b, d, rv, ns, A, D, S, T, hP, hL, hA, hl⟩ := h
  have HPK : Hid (∀ V, Keeps (fun _ => False) wr V → Calls Try.prog 33 #[.pointer (some ⟨o, 0, none⟩), .agg #[.int .i64 x.kind, .int .i64 x.a, .int .i64 x.b, .int .u64 x.w, .bool x.raw]] V (PickPost V)) := Lib.hid fun V hv => pick_any (hP.on.keeps hv id) (hP.row.keeps hv fun _ _ h => h) (by omega) x hx
  have HPL : Hid (∀ W, Calls Try.prog 9 #[.int .i64 x.kind, .int .i64 6] W fun e w' => e = .returned (.int .i64 4) ∧ W = w') := Lib.hid fun W => (place_any x.kind 6 (by omega) (by omega) hx.k1 hx.k2 W).mono fun e w' ⟨h1, h2⟩ => ⟨by rw [h1, hk], h2⟩
  have HP0 := Lib.hid hP
  have HL0 := Lib.hid hL
  have HA0 := Lib.hid hA
  obtain ⟨kind, xa, xb, xw, raw⟩ := x
  simp only at HPK HPL
  unfold opVal
  simp only
  clear hP hL hA hx hk
  go_enter Try.func22, Try.ntmps22
  go_wp2_with (first | (with_reducible refine wp_region_text (by kernel_rfl) (by kernel_rfl) ?_) | (with_reducible refine text_fin (by kernel_rfl) ?_) | (go_at_call 33; refine Stop.out ?_))
  refine ⟨(HPK.out _ (by repeat (first | with_reducible exact Keeps.refl _ _ | with_reducible apply Keeps.drew | with_reducible apply Keeps.alloc))).mono ?_⟩
  rintro e w1 ⟨p, rfl, hk1⟩
  have hk01 : Keeps (fun _ => False) wr w1 := ((Keeps.refl (fun _ => False) wr).alloc _).trans hk1 fun _ _ h => h
  have hbx : Blk w1 wr.heap.size 60 [.int .i64 kind, .int .i64 xa, .int .i64 xb, .int .u64 xw, .bool raw] := (Blk.new wr [.int .i64 kind, .int .i64 xa, .int .i64 xb, .int .u64 xw, .bool raw] 60).keeps hk1 id
  have x0 := hbx.cell (i := 0) rfl
  have x1 := hbx.cell (i := 1) rfl
  have x2 := hbx.cell (i := 2) rfl
  have x3 := hbx.cell (i := 3) rfl
  have hP1 := HP0.out.read hk01
  have o0 : w1.cell? ⟨o, 0, none⟩ = some (.pointer (some ⟨b, 0, none⟩)) := hP1.on.cell (i := 0) rfl
  have o1 : w1.cell? ⟨o, 1, none⟩ = some (.pointer (some ⟨d, 0, none⟩)) := hP1.on.cell (i := 1) rfl
  have hbS : ∀ g, S g → g ≠ wr.heap.size := fun g hg e => by have := HP0.out.ar.lt g hg; omega
  have HBS := Lib.hid hbS
  have HBX := Lib.hid hbx
  have HP1 := Lib.hid hP1
  clear hk01 hbx hP1 hk1 hbS
  obtain ⟨xv, L, ⟨hL', hA', hf⟩, hca, hcd⟩ := len_both HL0.out HA0.out p
  have HCA := Lib.hid hca
  have HCD := Lib.hid hcd
  have HF := Lib.hid hf
  have HL1 := Lib.hid hL'
  have HA1 := Lib.hid hA'
  clear hca hcd hf hL' hA'
  go_wp2_with (first | (go_at_call 9; refine (HPL.out _).mono ?_; rintro e x1 ⟨rfl, rfl⟩) | (go_at_call 20; refine Stop.out ?_) | (with_reducible refine wp_region_text (by kernel_rfl) (by kernel_rfl) ?_) | (with_reducible refine text_fin (by kernel_rfl) ?_))
  refine ⟨(HCA.out _ _ _ (HP1.out.read (w' := w1) (by repeat (first | with_reducible exact Keeps.refl _ _ | with_reducible apply Keeps.drew | with_reducible apply Keeps.alloc))).ar).mono ?_⟩
  rintro e w2 ⟨v, rfl, he, ha, hk2⟩
  have hP2 := Play.arena (HP1.out.read (w' := w1) (by repeat (first | with_reducible exact Keeps.refl _ _ | with_reducible apply Keeps.drew | with_reducible apply Keeps.alloc))) ha hk2
  have o1b : w2.cell? ⟨o, 1, none⟩ = some (.pointer (some ⟨d, 0, none⟩)) := hP2.on.cell (i := 1) rfl
  have hbx2 := HBX.out.keeps (S := S) (w' := w2) (Keeps.trans (T := S) (w' := w1) (by repeat (first | with_reducible exact Keeps.refl _ _ | with_reducible apply Keeps.drew | with_reducible apply Keeps.alloc)) hk2 fun _ _ h => h) fun hs => HBS.out _ hs rfl
  have y1 := hbx2.cell (i := 1) rfl
  have y2 := hbx2.cell (i := 2) rfl
  have y3 := hbx2.cell (i := 3) rfl
  have HP2 := Lib.hid hP2
  have HE := Lib.hid he
  clear hP2 he ha hk2 hbx2 o1 x0 x1 x2 x3 o0
  go_wp2_with (first | (go_at_call 38; refine Stop.out ?_) | (with_reducible refine wp_region_text (by kernel_rfl) (by kernel_rfl) ?_) | (with_reducible refine text_fin (by kernel_rfl) ?_))
  refine ⟨(HCD.out _ _ _ (HP2.out.read (w' := w2) (by repeat (first | with_reducible exact Keeps.refl _ _ | with_reducible apply Keeps.drew | with_reducible apply Keeps.alloc))).doc).mono ?_⟩
  rintro e w3 ⟨v2, rfl, hx3, hd3, hk3⟩
  have hP3 := Play.docs (HP2.out.read (w' := w2) (by repeat (first | with_reducible exact Keeps.refl _ _ | with_reducible apply Keeps.drew | with_reducible apply Keeps.alloc))) hd3 hk3
  have he3 := IsErrO.keeps HE.out (Keeps.trans (S := T) (T := T) (w' := w2) (by repeat (first | with_reducible exact Keeps.refl _ _ | with_reducible apply Keeps.drew | with_reducible apply Keeps.alloc)) hk3 fun _ _ h => h) fun g hg ht => Nat.lt_irrefl _ (Nat.lt_of_lt_of_le (HP1.out.doc.lt g ht) hg.1)
  have o1c : w3.cell? ⟨o, 1, none⟩ = some (.pointer (some ⟨d, 0, none⟩)) := hP3.on.cell (i := 1) rfl
  have HP3 := Lib.hid hP3
  have HE3 := Lib.hid he3
  have HX3 := Lib.hid hx3
  clear hP3 he3 hx3 hd3 hk3 o1b y1 y2 y3
  go_wp2_with (first | (go_at_call 32; refine Stop.out ?_) | (with_reducible refine wp_region_text (by kernel_rfl) (by kernel_rfl) ?_) | (with_reducible refine text_fin (by kernel_rfl) ?_))
  refine ⟨(ref_any HE3.out HX3.out).mono ?_⟩
  rintro e w4 ⟨rfl, hk4⟩
  rw [fine_same HF.out]
  have HK4 := Lib.hid hk4
  clear hk4
  go_wp2_with (first | (with_reducible refine wp_region_text (by kernel_rfl) (by kernel_rfl) ?_) | (with_reducible refine text_fin (by kernel_rfl) ?_))
  go_ret
  exact ⟨rfl, b, d, rv, ns, A, D, _, _, HP3.out.read HK4.out, HL1.out, HA1.out, by omega⟩
end Go.Proofs.Ytacedeaopgbdhaa

import Derived.Test.YtacedeaopgbdhaaDcD
/-
  The law's On: a call at both arenas (do): Alloc, Clear; any call: what the Go code does.
-/
namespace Go.Tx
open Go Go.RowKit
theorem names_put {w wr w0 w5 : World} {o b d q : Nat} {rv v' : Value} {ns : List Nat} {A : AM} {D : DM} {S T : Nat → Prop} (h : Play w o b d rv ns A D S T wr) (ha : Appended w0 w5 3 1 rv v' (ns.length + 1) (ints ns ++ [.int .i64 (q : Nat)])) (k0 : Keeps (fun _ => False) wr w0) :
    Play w o b d v' (ns ++ [q]) A D S T (w5.setCell ⟨o, 2, none⟩ v') ∧ w5.cell? ⟨o, 2, none⟩ = some rv ∧ w5.frozen? ⟨o, 2, none⟩ = false := by
  refine h.names ((k0.mono (T := Own rv) fun _ _ h => h.elim).trans ha.keeps fun g _ hg => hg) ?_ fun g hg => ?_
  · have := ha.row
    rw [List.length_append]
    simpa [ints] using this
  · rcases ha.own with ho | ⟨ho, _⟩
    · rw [ho] at hg; exact .inl hg
    · rw [ho] at hg; simp at hg; subst hg; exact .inr k0.size
end Go.Tx
namespace Go.Proofs.Ytacedeaopgbdhaa
open Go.RowKit Go.Tx
set_option maxRecDepth 100000 in
set_option maxHeartbeats 1600000 in
theorem do_alloc {w wr : World} {o n : Nat} (h : Plays w o n wr) (hn : n ≤ 8796093022200) (x : OpV) (hx : x.In) (hk : x.kind % 6 = 0) :
    Calls Try.prog 22 #[.pointer (some ⟨o, 0, none⟩), opVal x] wr (DoPost w o (n + 1)) := by
  obtain ⟨b, d, rv, ns, A, D, S, T, hP, hL, hA, hl⟩ := h
  have HPK : Hid (∀ V, Keeps (fun _ => False) wr V → Calls Try.prog 33 #[.pointer (some ⟨o, 0, none⟩), .agg #[.int .i64 x.kind, .int .i64 x.a, .int .i64 x.b, .int .u64 x.w, .bool x.raw]] V (PickPost V)) := Lib.hid fun V hv => pick_any (hP.on.keeps hv id) (hP.row.keeps hv fun _ _ h => h) (by omega) x hx
  have HPL : Hid (∀ W, Calls Try.prog 9 #[.int .i64 x.kind, .int .i64 6] W fun e w' => e = .returned (.int .i64 0) ∧ W = w') := Lib.hid fun W => (place_any x.kind 6 (by omega) (by omega) hx.k1 hx.k2 W).mono fun e w' ⟨h1, h2⟩ => ⟨by rw [h1, hk], h2⟩
  have HP0 := Lib.hid hP
  have HL0 := Lib.hid hL
  have HA0 := Lib.hid hA
  obtain ⟨kind, xa, xb, xw, raw⟩ := x
  simp only at HPK HPL
  unfold opVal
  simp only
  clear hP hL hA hx hk
  go_enter Try.func22, Try.ntmps22
  go_wp2_with (first | (with_reducible refine wp_region_text (by kernel_rfl) (by kernel_rfl) ?_) | (with_reducible refine text_fin (by kernel_rfl) ?_) | (go_at_call 33; refine Stop.out ?_))
  refine ⟨(HPK.out _ (by repeat (first | with_reducible exact Keeps.refl _ _ | with_reducible apply Keeps.drew | with_reducible apply Keeps.alloc))).mono ?_⟩
  rintro e w1 ⟨p, rfl, hk1⟩
  have hk01 : Keeps (fun _ => False) wr w1 := ((Keeps.refl (fun _ => False) wr).alloc _).trans hk1 fun _ _ h => h
  have hbx : Blk w1 wr.heap.size 60 [.int .i64 kind, .int .i64 xa, .int .i64 xb, .int .u64 xw, .bool raw] := (Blk.new wr [.int .i64 kind, .int .i64 xa, .int .i64 xb, .int .u64 xw, .bool raw] 60).keeps hk1 id
  have x0 := hbx.cell (i := 0) rfl
  have x1 := hbx.cell (i := 1) rfl
  have x2 := hbx.cell (i := 2) rfl
  have x3 := hbx.cell (i := 3) rfl
  have hP1 := HP0.out.read hk01
  have o0 : w1.cell? ⟨o, 0, none⟩ = some (.pointer (some ⟨b, 0, none⟩)) := hP1.on.cell (i := 0) rfl
  have o1 : w1.cell? ⟨o, 1, none⟩ = some (.pointer (some ⟨d, 0, none⟩)) := hP1.on.cell (i := 1) rfl
  have hbS : ∀ g, S g → g ≠ wr.heap.size := fun g hg e => by have := HP0.out.ar.lt g hg; omega
  have HBS := Lib.hid hbS
  have HBX := Lib.hid hbx
  have HP1 := Lib.hid hP1
  clear hk01 hbx hP1 hk1 hbS
  obtain ⟨q, A', D', L, ⟨hL', hA', hf⟩, hne, hca, hcd⟩ := alloc_both HL0.out HA0.out xa
  have HCA := Lib.hid hca
  have HCD := Lib.hid hcd
  have HF := Lib.hid hf
  have HL1 := Lib.hid hL'
  have HA1 := Lib.hid hA'
  have HNE := Lib.hid hne
  clear hne hca hcd hf hL' hA'
  go_wp2_with (first | (go_at_call 9; refine (HPL.out _).mono ?_; rintro e x1 ⟨rfl, rfl⟩) | (go_at_call 11; refine Stop.out ?_) | (with_reducible refine wp_region_text (by kernel_rfl) (by kernel_rfl) ?_) | (with_reducible refine text_fin (by kernel_rfl) ?_))
  refine ⟨(HCA.out _ _ _ (HP1.out.read (w' := w1.drew) (by repeat (first | with_reducible exact Keeps.refl _ _ | with_reducible apply Keeps.drew | with_reducible apply Keeps.alloc))).ar).mono ?_⟩
  rintro e w2 ⟨v, rfl, he, ha, hk2⟩
  have hP2 := Play.arena (HP1.out.read (w' := w1.drew) (by repeat (first | with_reducible exact Keeps.refl _ _ | with_reducible apply Keeps.drew | with_reducible apply Keeps.alloc))) ha hk2
  have o1b : w2.cell? ⟨o, 1, none⟩ = some (.pointer (some ⟨d, 0, none⟩)) := hP2.on.cell (i := 1) rfl
  have hbx2 := HBX.out.keeps (S := S) (w' := w2) (Keeps.trans (T := S) (w' := w1.drew) (by repeat (first | with_reducible exact Keeps.refl _ _ | with_reducible apply Keeps.drew | with_reducible apply Keeps.alloc)) hk2 fun _ _ h => h) fun hs => HBS.out _ hs rfl
  have y1 := hbx2.cell (i := 1) rfl
  have y2 := hbx2.cell (i := 2) rfl
  have y3 := hbx2.cell (i := 3) rfl
  have HP2 := Lib.hid hP2
  have HE := Lib.hid he
  clear hP2 he ha hk2 hbx2 o1 x0 x1 x2 x3 o0
  go_wp2_with (first | (go_at_call 34; refine Stop.out ?_) | (with_reducible refine wp_region_text (by kernel_rfl) (by kernel_rfl) ?_) | (with_reducible refine text_fin (by kernel_rfl) ?_))
  refine ⟨(HCD.out _ _ _ (HP2.out.read (w' := w2.drew) (by repeat (first | with_reducible exact Keeps.refl _ _ | with_reducible apply Keeps.drew | with_reducible apply Keeps.alloc))).doc).mono ?_⟩
  rintro e w3 ⟨v2, rfl, hx3, hd3, hk3⟩
  have hP3 := Play.docs (HP2.out.read (w' := w2.drew) (by repeat (first | with_reducible exact Keeps.refl _ _ | with_reducible apply Keeps.drew | with_reducible apply Keeps.alloc))) hd3 hk3
  have he3 := IsErrO.keeps HE.out (Keeps.trans (S := T) (T := T) (w' := w2.drew) (by repeat (first | with_reducible exact Keeps.refl _ _ | with_reducible apply Keeps.drew | with_reducible apply Keeps.alloc)) hk3 fun _ _ h => h) fun g hg ht => Nat.lt_irrefl _ (Nat.lt_of_lt_of_le (HP1.out.doc.lt g ht) hg.1)
  have o1c : w3.cell? ⟨o, 1, none⟩ = some (.pointer (some ⟨d, 0, none⟩)) := hP3.on.cell (i := 1) rfl
  have HP3 := Lib.hid hP3
  have HE3 := Lib.hid he3
  have HX3 := Lib.hid hx3
  clear hP3 he3 hx3 hd3 hk3 o1b y1 y2 y3
  go_wp2_with (first | (go_at_call 32; refine Stop.out ?_) | (with_reducible refine wp_region_text (by kernel_rfl) (by kernel_rfl) ?_) | (with_reducible refine text_fin (by kernel_rfl) ?_))
  refine ⟨(ref_any HE3.out HX3.out).mono ?_⟩
  rintro e w4 ⟨rfl, hk4⟩
  rw [fine_same HF.out]
  have HK4 := Lib.hid hk4
  clear hk4
  have hP4 := HP3.out.read HK4.out
  have o2 : w4.cell? ⟨o, 2, none⟩ = some rv := hP4.on.cell (i := 2) rfl
  have HP4 := Lib.hid hP4
  have hv : v = .nilIface ∨ ∃ t u, v = .iface t u := by
    have h1 := HE3.out
    have h2 := HNE.out
    cases L with
    | none => exact .inl h1
    | some lk =>
      obtain ⟨l, k⟩ := lk
      cases l with
      | nil => exact absurd rfl (h2 _ _ rfl)
      | cons a l =>
        obtain ⟨b, u, e, _⟩ := h1.1
        exact .inr ⟨_, _, e⟩
  clear hP4 o1c
  rcases hv with rfl | ⟨t, u, rfl⟩
  · go_wp2_with (first | (with_reducible refine wp_region_text (by kernel_rfl) (by kernel_rfl) ?_) | (with_reducible refine text_fin (by kernel_rfl) ?_) | (at_builtin; go_must (refine wpList_append_row _ rfl _ _ 40 40 rfl 3 (.slice 3) 1 8 (.int .i64 0) info_int Try.underlying40 Try.underlying40 (by intro k h; cases h) rfl rv ns.length (ints ns) rfl (HP4.out.row.keeps (S := fun _ => False) (by repeat (first | with_reducible exact Keeps.refl _ _ | with_reducible apply Keeps.drew | with_reducible apply Keeps.alloc)) (fun _ _ h => h)) _ 1 [.int .i64 (q : Nat)] rfl rfl (lenOf_slice _ _ _) (firstCells_at _ rfl (one_newAt rfl)) (by intro u hu; simp at hu; subst hu; rfl) (by unfold maxLen; omega) (by omega) ?_); intro v' w5 ha; have hq := names_put HP4.out ha (by repeat (first | with_reducible exact Keeps.refl _ _ | with_reducible apply Keeps.drew | with_reducible apply Keeps.alloc)); obtain ⟨va, vc, rfl, _, _⟩ := ha.row.len; obtain ⟨g1, g2, g3⟩ := hq; have G1 := Lib.hid g1; clear g1 ha))
    go_ret
    exact ⟨rfl, b, d, _, ns ++ [q], A', D', _, _, G1.out, HL1.out, HA1.out, by rw [List.length_append]; simp; omega⟩
  · go_wp2_with (first | (with_reducible refine wp_region_text (by kernel_rfl) (by kernel_rfl) ?_) | (with_reducible refine text_fin (by kernel_rfl) ?_))
    go_ret
    exact ⟨rfl, b, d, rv, ns, A', D', _, _, HP4.out, HL1.out, HA1.out, by omega⟩
set_option maxRecDepth 100000 in
set_option maxHeartbeats 1600000 in
theorem do_clear {w wr : World} {o n : Nat} (h : Plays w o n wr) (hn : n ≤ 8796093022200) (x : OpV) (hx : x.In) (hk : x.kind % 6 = 5) :
    Calls Try.prog 22 #[.pointer (some ⟨o, 0, none⟩), opVal x] wr (DoPost w o (n + 1)) := by
  obtain ⟨b, d, rv, ns, A, D, S, T, hP, hL, hA, hl⟩ := h
  have HPK : Hid (∀ V, Keeps (fun _ => False) wr V → Calls Try.prog 33 #[.pointer (some ⟨o, 0, none⟩), .agg #[.int .i64 x.kind, .int .i64 x.a, .int .i64 x.b, .int .u64 x.w, .bool x.raw]] V (PickPost V)) := Lib.hid fun V hv => pick_any (hP.on.keeps hv id) (hP.row.keeps hv fun _ _ h => h) (by omega) x hx
  have HPL : Hid (∀ W, Calls Try.prog 9 #[.int .i64 x.kind, .int .i64 6] W fun e w' => e = .returned (.int .i64 5) ∧ W = w') := Lib.hid fun W => (place_any x.kind 6 (by omega) (by omega) hx.k1 hx.k2 W).mono fun e w' ⟨h1, h2⟩ => ⟨by rw [h1, hk], h2⟩
  have HP0 := Lib.hid hP
  have HL0 := Lib.hid hL
  have HA0 := Lib.hid hA
  obtain ⟨kind, xa, xb, xw, raw⟩ := x
  simp only at HPK HPL
  unfold opVal
  simp only
  clear hP hL hA hx hk
  go_enter Try.func22, Try.ntmps22
  go_wp2_with (first | (with_reducible refine wp_region_text (by kernel_rfl) (by kernel_rfl) ?_) | (with_reducible refine text_fin (by kernel_rfl) ?_) | (go_at_call 33; refine Stop.out ?_))
  refine ⟨(HPK.out _ (by repeat (first | with_reducible exact Keeps.refl _ _ | with_reducible apply Keeps.drew | with_reducible apply Keeps.alloc))).mono ?_⟩
  rintro e w1 ⟨p, rfl, hk1⟩
  have hk01 : Keeps (fun _ => False) wr w1 := ((Keeps.refl (fun _ => False) wr).alloc _).trans hk1 fun _ _ h => h
  have hbx : Blk w1 wr.heap.size 60 [.int .i64 kind, .int .i64 xa, .int .i64 xb, .int .u64 xw, .bool raw] := (Blk.new wr [.int .i64 kind, .int .i64 xa, .int .i64 xb, .int .u64 xw, .bool raw] 60).keeps hk1 id
  have x0 := hbx.cell (i := 0) rfl
  have x1 := hbx.cell (i := 1) rfl
  have x2 := hbx.cell (i := 2) rfl
  have x3 := hbx.cell (i := 3) rfl
  have hP1 := HP0.out.read hk01
  have o0 : w1.cell? ⟨o, 0, none⟩ = some (.pointer (some ⟨b, 0, none⟩)) := hP1.on.cell (i := 0) rfl
  have o1 : w1.cell? ⟨o, 1, none⟩ = some (.pointer (some ⟨d, 0, none⟩)) := hP1.on.cell (i := 1) rfl
  have hbS : ∀ g, S g → g ≠ wr.heap.size := fun g hg e => by have := HP0.out.ar.lt g hg; omega
  have HBS := Lib.hid hbS
  have HBX := Lib.hid hbx
  have HP1 := Lib.hid hP1
  clear hk01 hbx hP1 hk1 hbS
  go_wp2_with (first | (go_at_call 9; refine (HPL.out _).mono ?_; rintro e x1 ⟨rfl, rfl⟩) | (go_at_call 39; refine Stop.out ?_) | (with_reducible refine wp_region_text (by kernel_rfl) (by kernel_rfl) ?_) | (with_reducible refine text_fin (by kernel_rfl) ?_))
  refine ⟨(clear_any HP1.out.ar).mono ?_⟩
  rintro e w2 ⟨rfl, ha, hk2⟩
  have hP2 := Play.arena HP1.out ha hk2
  have o1b : w2.cell? ⟨o, 1, none⟩ = some (.pointer (some ⟨d, 0, none⟩)) := hP2.on.cell (i := 1) rfl
  have HP2 := Lib.hid hP2
  clear hP2 ha hk2 o1 x0 x1 x2 x3 o0
  go_wp2_with (first | (go_at_call 40; refine Stop.out ?_) | (with_reducible refine wp_region_text (by kernel_rfl) (by kernel_rfl) ?_) | (with_reducible refine text_fin (by kernel_rfl) ?_))
  refine ⟨(dclear_any HP2.out.doc).mono ?_⟩
  rintro e w3 ⟨rfl, hd3, hk3⟩
  have hP3 := Play.docs HP2.out hd3 hk3
  obtain ⟨q1, q2, q3⟩ := Play.names (v := .slice none 0 0) (ms := []) hP3 (Keeps.refl _ _) (World.ownsRow_nil _ _ _ _) (fun g hg => by simp [Value.ownBlock] at hg)
  have HQ := Lib.hid q1
  clear hP3 hd3 hk3 q1 o1b
  go_wp2_with (first | (with_reducible refine wp_region_text (by kernel_rfl) (by kernel_rfl) ?_) | (with_reducible refine text_fin (by kernel_rfl) ?_))
  go_ret
  exact ⟨rfl, b, d, _, [], _, _, _, _, HQ.out, like_clear HL0.out, AM.new_ok HA0.out.size HA0.out.quota, by simp⟩
theorem do_any {w wr : World} {o n : Nat} (h : Plays w o n wr) (hn : n ≤ 8796093022200) (x : OpV) (hx : x.In) :
    Calls Try.prog 22 #[.pointer (some ⟨o, 0, none⟩), opVal x] wr (DoPost w o (n + 1)) := by
  have h1 := Int.emod_nonneg x.kind (b := 6) (by omega)
  have h2 := Int.emod_lt_of_pos x.kind (b := 6) (by omega)
  have h3 : x.kind % 6 = 0 ∨ x.kind % 6 = 1 ∨ x.kind % 6 = 2 ∨ x.kind % 6 = 3 ∨ x.kind % 6 = 4 ∨ x.kind % 6 = 5 := by omega
  rcases h3 with h3 | h3 | h3 | h3 | h3 | h3
  · exact do_alloc h hn x hx h3
  · exact do_free h hn x hx h3
  · exact do_set h hn x hx h3
  · exact do_get h hn x hx h3
  · exact do_len h hn x hx h3
  · exact do_clear h hn x hx h3
end Go.Proofs.Ytacedeaopgbdhaa

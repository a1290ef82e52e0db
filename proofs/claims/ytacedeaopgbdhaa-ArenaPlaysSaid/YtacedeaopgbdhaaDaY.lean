import Derived.Test.YtacedeaopgbdhaaDmD
/-
  The document's arena: Alloc where there is room: what the Go code does.
-/
namespace Go.Tx
open Go Go.RowKit
/-- a block put in at its place -/
theorem put_at {L : List (DB × Value)} {l : List DB} {x : DB} {xv : Value} {k : Nat} (h : L.map (·.1) = l) (hk : k ≤ L.length) (h1 : ∀ j y, j < k → l[j]? = some y → y.pos < x.pos) (h2 : ∀ y, l[k]? = some y → ¬ y.pos < x.pos) :
    (L.take k ++ (x, xv) :: L.drop k).map (·.1) = DM.put l x := by
  have hl : l.length = L.length := by rw [← h, List.length_map]
  obtain ⟨e1, e2⟩ := while_cut (p := fun y : DB => decide (y.pos < x.pos)) (l := l) (k := k) (fun j y hj hy => by simpa using h1 j y hj hy) (fun y hy => by simpa using h2 y hy) (by omega)
  unfold DM.put
  rw [e1, e2, List.map_append, List.map_cons, List.map_take, List.map_drop, h]
theorem Row.one {w : World} {e : TypeId} {size n : Nat} {v : Value} {xs : List Value} (h : Row w e size v n xs) : v.oneCell' = true := by
  obtain ⟨a, c, rfl, _⟩ := h.len
  rfl
theorem Wide.all {P : Program} {w : World} {e : TypeId} {size n tc : Nat} {ta : Option Addr} {xs : List Value} (h : Wide w e size (.slice ta n tc) n xs) (W : World) (hW : W.heap = w.heap) : (Builtin.firstCells size n (.slice ta n tc)).run P W = .ok xs.toArray W := by
  rcases h.form_any with ⟨rfl, rfl, rfl, rfl⟩ | ⟨g, rfl⟩
  · exact firstCells_nil _ _ _ _ _
  · exact firstCells_at w h.1 (h.cells rfl) W hW
theorem Wide.oneCells {w : World} {e : TypeId} {size n : Nat} {v : Value} {xs : List Value} (_ : Wide w e size v n xs) (h : ∀ u ∈ xs, u.oneCell' = true) : ∀ u ∈ xs, u.oneCell' = true := h
theorem own_slice (ta : Option Addr) (n c m d : Nat) : (Value.slice ta n c).ownBlock = (Value.slice ta m d).ownBlock := by cases ta <;> rfl
/-- a block is put in -/
theorem DocAt.putIn {w w5 w6 : World} {b fb : Nat} {D D' : DM} {S : Nat → Prop} {ta : Option Addr} {tc k : Nat} {L : List (DB × Value)} {gv : Nat → Value} {x : DB} {xv v6 : Value}
    (h : DocAt w b D S (.slice ta L.length tc) L fb gv) (hk : k ≤ L.length) (k5 : Keeps (fun _ => False) w w5) (hx : Row w 41 1 xv x.len (u64s x.ws)) (hxS : ∀ g, xv.ownBlock = some g → S g) (hxa : ∀ q ∈ L, ∀ g, xv.ownBlock = some g → q.2.ownBlock ≠ some g)
    (ha : AppendedW w5 w6 100 4 (.slice ta k k) v6 (k + (1 + (L.length - k))) ((L.take k).flatMap dbV ++ (dbV (x, xv) ++ (L.drop k).flatMap dbV)))
    (hD : (L.take k ++ (x, xv) :: L.drop k).map (·.1) = D'.taken) (hc : (docCells D (.slice ta L.length tc) fb).set 4 v6 = docCells D' v6 fb) (hf : D'.free = D.free) :
    IsDoc (w6.setCell ⟨b, 4, none⟩ v6) b D' (Ext S w (w6.setCell ⟨b, 4, none⟩ v6)) ∧ Keeps S w (w6.setCell ⟨b, 4, none⟩ v6) ∧ w6.cell? ⟨b, 4, none⟩ = some (.slice ta L.length tc) ∧ w6.frozen? ⟨b, 4, none⟩ = false := by
  have k6 : Keeps (fun g => (Value.slice ta L.length tc).ownBlock = some g) w w6 := (k5.mono (T := fun g => (Value.slice ta L.length tc).ownBlock = some g) fun _ _ h => h.elim).trans ha.keeps fun g _ hg => by
    have hg : (Value.slice ta k k).ownBlock = some g := hg
    rw [own_slice ta k k L.length tc] at hg
    exact hg
  have hp : (L.take k ++ (x, xv) :: L.drop k).Perm ((x, xv) :: L) := by
    have := List.perm_middle (a := (x, xv)) (l₁ := L.take k) (l₂ := L.drop k)
    rwa [List.take_append_drop] at this
  have hmem : ∀ q, q ∈ L.take k ++ (x, xv) :: L.drop k → q = (x, xv) ∨ q ∈ L := fun q hq => List.mem_cons.1 (hp.mem_iff.1 hq)
  have hlen : (L.take k ++ (x, xv) :: L.drop k).length = k + (1 + (L.length - k)) := by
    rw [List.length_append, List.length_cons, List.length_take, List.length_drop, Nat.min_eq_left hk]; omega
  have hty : ∀ {v : Value} {n : Nat} {xs : List Value}, Row w 41 1 v n xs → ∀ g, v.ownBlock = some g → ¬ (Value.slice ta L.length tc).ownBlock = some g := fun hr g hg ht => by
    obtain ⟨cs, hcs⟩ := h.tk.block ht
    exact hr.ne_type (by decide) hcs hg
  refine h.setTaken k6 (M := L.take k ++ (x, xv) :: L.drop k) ?_ (fun g hg => ?_) hD (fun q hq => ?_) (fun q hq g hg => ?_) ?_ hc hf
  · rw [hlen, List.flatMap_append, List.flatMap_cons]
    exact ha.row
  · rcases ha.own with ho | ⟨ho, _⟩
    · rw [ho, own_slice ta k k L.length tc] at hg
      exact .inl (h.st g hg)
    · rw [ho] at hg; simp at hg; subst hg; exact .inr k5.size
  · rcases hmem q hq with rfl | hq
    · exact hx.keeps k6 (hty hx)
    · exact (h.ws q hq).keeps k6 (hty (h.ws q hq))
  · rcases hmem q hq with rfl | hq
    · exact .inl (hxS g hg)
    · exact .inl (h.sw q hq g hg)
  · refine (hp.pairwise_iff fun {a b} hab g h1 h2 => hab g h2 h1).2 ?_
    exact List.Pairwise.cons (fun q hq g hg => hxa q hq g hg) h.apart
end Go.Tx
namespace Go.Proofs.Ytacedeaopgbdhaa
open Go.RowKit Go.Tx
set_option maxRecDepth 100000 in
set_option maxHeartbeats 4000000 in
theorem dalloc_ok {w : World} {b : Nat} {D E : DM} {S : Nat → Prop} (h : IsDoc w b D S) {n : Nat} (hn : n ≤ 1048576) {p : Nat} (hq : ¬ D.used + pw (cls n) > D.quota) (hqm : D.quota ≤ 1048576) (hE : D.take (cls n) = (some p, E)) (htk : ∀ W, IsDoc W b D S → Calls Try.prog 49 #[.pointer (some ⟨b, 0, none⟩), .int .i64 (cls n)] W (DTakePost D b S (cls n) W))
    (hd : D.taken.length ≤ 1048576) (hp : ∀ x ∈ D.taken, x.pos ≤ 1048576) (hp1 : p ≤ 1048576) :
    Calls Try.prog 34 #[.pointer (some ⟨b, 0, none⟩), .int .i64 n] w fun e w' => e = .returned (.tuple #[.int .i64 ((p + 1 : Nat) : Int), .pointer none]) ∧ IsDoc w' b { E with used := E.used + pw (cls n), taken := DM.put E.taken ⟨p, cls n, n, List.replicate n 0⟩ } (Ext S w w') ∧ Keeps S w w' := by
  obtain ⟨d1, d2, d3, d4⟩ := cls_spec n hn
  have HTK := Lib.hid htk
  obtain ⟨tv, L, fb, gv, h⟩ := h
  have c3 : w.cell? ⟨b, 3, none⟩ = some (.int .i64 (D.used : Nat)) := h.blk.cell (i := 3) rfl
  have c1 : w.cell? ⟨b, 1, none⟩ = some (.int .i64 (D.quota : Nat)) := h.blk.cell (i := 1) rfl
  generalize hcn : cls n = c at *
  have hcw := pw_21 (c := c) (by omega)
  have hwr : wrap64 ((2 : Int) ^ c) = (pw c : Nat) := by rw [pw_int]; unfold wrap64; omega
  have HCL := Lib.hid (dclass_any n hn)
  have hmk := make_words n hn
  have H := Lib.hid h
  have HE := Lib.hid hE
  have HP := Lib.hid hp
  clear h htk hE hp d3 d4
  go_enter Try.func34, Try.ntmps34
  go_wp2_with (first | (with_reducible refine wp_region_text (by kernel_rfl) (by kernel_rfl) ?_) | (with_reducible refine text_fin (by kernel_rfl) ?_) | (go_at_call 48; refine (HCL.out _).mono ?_; rintro e x1 ⟨rfl, rfl⟩; rw [hcn]) | (go_at_call 49; refine Stop.out ?_))
  refine ⟨(HTK.out _ ⟨tv, L, fb, gv, H.out.keeps (by repeat (first | with_reducible exact Keeps.refl _ _ | with_reducible apply Keeps.drew | with_reducible apply Keeps.alloc)) (fun _ _ h => h)⟩).mono ?_⟩
  rintro e w2 ⟨r, E', he, rfl, ⟨tv2, L2, fb2, gv2, h2⟩, hk⟩
  rw [HE.out] at he
  obtain ⟨rfl, rfl⟩ : r = some p ∧ E' = E := by cases he; exact ⟨rfl, rfl⟩
  have hsame := DM.take_same D c
  rw [HE.out] at hsame
  obtain ⟨s1, s2, s3, s4⟩ := hsame
  simp only at s1 s2 s3 s4
  have e3 : w2.cell? ⟨b, 3, none⟩ = some (.int .i64 (D.used : Nat)) := by rw [← s1]; exact h2.blk.cell (i := 3) rfl
  have f3 := h2.blk.free 3
  obtain ⟨h3, k3⟩ := h2.head (D' := { E' with used := D.used + pw c }) 3 (.int .i64 ((D.used : Int) + (pw c : Nat))) (by simp [docCells]) rfl rfl
  have hs3 : (w2.setCell ⟨b, 3, none⟩ (.int .i64 ((D.used : Int) + (pw c : Nat)))).heap.size = w2.heap.size := World.size_setCell ..
  have hkw : Keeps S w (w2.setCell ⟨b, 3, none⟩ (.int .i64 ((D.used : Int) + (pw c : Nat)))) := (((Keeps.refl S w).drew).trans hk fun _ _ h => h).setCell (fun _ => H.out.sb) _
  have HX : Hid (∀ W, ((w2.setCell ⟨b, 3, none⟩ (.int .i64 ((D.used : Int) + (pw c : Nat)))).alloc (.cells (u64s (List.replicate n 0)).toArray 41)).alloc (.cells #[.int .i64 p, .int .i64 c, .int .i64 n, .slice (some ⟨w2.heap.size, 0, none⟩) n n] 100) = W →
      DocAt W b { E' with used := D.used + pw c } (Ext S w W) tv2 L2 fb2 gv2 ∧ (∀ q ∈ L2, ∀ g, (Value.slice (some ⟨w2.heap.size, 0, none⟩) n n).ownBlock = some g → q.2.ownBlock ≠ some g) ∧ Ext S w W w2.heap.size ∧ Keeps S w W ∧ Row W 41 1 (.slice (some ⟨w2.heap.size, 0, none⟩) n n) n (u64s (List.replicate n 0)) ∧ Blk W (w2.heap.size + 1) 100 (dbV (⟨p, c, n, List.replicate n 0⟩, .slice (some ⟨w2.heap.size, 0, none⟩) n n))) := Lib.hid fun W hW => by
    subst hW
    have hsz := hk.size
    have hww : ∀ q ∈ L2, ∀ g, (Value.slice (some ⟨w2.heap.size, 0, none⟩) n n).ownBlock = some g → q.2.ownBlock ≠ some g := fun q hq g hg e => by
      simp [Value.ownBlock] at hg
      subst hg
      exact Nat.lt_irrefl _ (h2.lt _ (h2.sw q hq _ e))
    generalize w2.setCell ⟨b, 3, none⟩ (.int .i64 ((D.used : Int) + (pw c : Nat))) = w3 at *
    have hsW : ((w3.alloc (.cells (u64s (List.replicate n 0)).toArray 41)).alloc (.cells #[.int .i64 p, .int .i64 c, .int .i64 n, .slice (some ⟨w2.heap.size, 0, none⟩) n n] 100)).heap.size = w2.heap.size + 2 := by
      rw [World.size_alloc, World.size_alloc, hs3]
    have hsz' : w.heap.size ≤ w2.heap.size := hsz
    refine ⟨(h3.keeps (((Keeps.refl (fun _ => False) w3).alloc _).alloc _) fun _ _ h => h).wider (fun g hg => ?_) (fun g hg => ?_), hww, .inr ⟨hsz', by omega⟩, (hkw.alloc _).alloc _, ?_, ?_⟩
    · rcases hg with hg | hg
      · exact .inl hg
      · exact .inr ⟨hg.1, by have := hg.2; omega⟩
    · rcases hg with hg | hg
      · have := H.out.lt g hg; omega
      · exact hg.2
    · rw [← hs3]
      exact (words_row w3 n hn).keeps ((Keeps.refl (fun _ => False) _).alloc _) fun _ _ h => h
    · have := Blk.new (w3.alloc (.cells (u64s (List.replicate n 0)).toArray 41)) (dbV (⟨p, c, n, List.replicate n 0⟩, .slice (some ⟨w2.heap.size, 0, none⟩) n n)) 100
      rw [World.size_alloc, hs3] at this
      exact this
  have HLT : Hid (∀ g, Ext S w.drew w2 g → g < w2.heap.size) := Lib.hid h2.lt
  have HS2 := Lib.hid s2
  have HS1 := Lib.hid s1
  have e4 : (w2.setCell ⟨b, 3, none⟩ (.int .i64 ((D.used : Int) + (pw c : Nat)))).heap.size = w2.heap.size := hs3
  clear h2 hk he h3 k3 hkw hs3 s3 s4 s2 s1
  go_wp2
  generalize hW : ((w2.setCell ⟨b, 3, none⟩ (.int .i64 ((D.used : Int) + (pw c : Nat)))).alloc (.cells (u64s (List.replicate n 0)).toArray 41)).alloc (.cells #[.int .i64 p, .int .i64 c, .int .i64 n, .slice (some ⟨w2.heap.size, 0, none⟩) n n] 100) = W
  obtain ⟨hD, hww, hwe, hkW, hwr2, hB⟩ := HX.out W hW
  clear hW HX hmk e3 f3 e4 c3 c1
  obtain ⟨ta, tc, rfl, htc, htm⟩ := hD.tk.len
  have c4 : W.cell? ⟨b, 4, none⟩ = some (.slice ta L2.length tc) := hD.blk.cell (i := 4) rfl
  have b0 := hB.cell (i := 0) rfl
  have b1 := hB.cell (i := 1) rfl
  have b2 := hB.cell (i := 2) rfl
  have b3 := hB.cell (i := 3) rfl
  have hlen : L2.length ≤ 1048576 := by have := hD.len; have h2 := HS2.out; rw [show ({ E' with used := D.used + pw c } : DM).taken = E'.taken from rfl, h2] at this; omega
  have HD := Lib.hid hD
  have HKW := Lib.hid hkW
  have HWW := Lib.hid hww
  have HWE := Lib.hid hwe
  have HOC : Hid (∀ q ∈ L2, q.2.oneCell' = true) := Lib.hid fun q hq => (hD.ws q hq).one
  have HHo : Hid (∀ V, Keeps (fun _ => False) W V → V.cell? ⟨b, 4, none⟩ = some (.slice ta L2.length tc)) := Lib.hid fun V hk => hk.cell c4 id
  have HWR := Lib.hid hwr2
  have HB := Lib.hid hB
  unfold maxLen at htm
  clear hD hkW hwr2 hB hww hwe
  go_loop [9] (fun kv => ∃ k : Nat, k ≤ L2.length ∧ kv = .int .i64 (k : Nat) ∧ Hid (∀ j x, j < k → E'.taken[j]? = some x → x.pos < p)) (fun kv => L2.length - (intOf kv).toNat)
  case atStart => exact ⟨0, Nat.zero_le _, rfl, Lib.hid fun j x h1 h2 => by omega⟩
  case round =>
    obtain ⟨k, hk, rfl, HN⟩ := hrel
    have HS1S : Hid (∀ V, (Instr.sliceAt 88 (.slice ta L2.length tc) none (some (.int .i64 (k : Nat))) (some (.int .i64 (k : Nat)))).run Try.prog V = .ok (.slice ta k k) V) := Lib.hid (slice_head _ elem_b size_b HD.out.tk hk)
    obtain ⟨ad, HAD⟩ : ∃ ad, Hid (ad = if tc = k then ta else ta.map (·.add (k * 4))) := ⟨_, Lib.hid rfl⟩
    have HS2S : Hid (∀ V, (Instr.sliceAt 88 (.slice ta L2.length tc) (some (.int .i64 (k : Nat))) none none).run Try.prog V = .ok (.slice ad (L2.length - k) (tc - k)) V) := Lib.hid (by rw [HAD.out]; exact slice_tail _ elem_b size_b hk)
    have HTL : Hid (∀ V, Keeps (fun _ => False) W V → ∀ V2 : World, V2.heap = V.heap → (Builtin.firstCells 4 (L2.length - k) (.slice ad (L2.length - k) (tc - k))).run Try.prog V2 = .ok ((L2.drop k).flatMap dbV).toArray V2) := Lib.hid fun V hV V2 h2 => by
      rw [← flat_drop, HAD.out]
      exact tail_any (HD.out.tk.keeps hV fun _ _ h => h) hk V2 h2
    by_cases hkl : k < L2.length
    · obtain ⟨⟨x, xv⟩, hx⟩ : ∃ q, L2[k]? = some q := ⟨L2[k]'hkl, by simp⟩
      have HX1 : Hid (E'.taken[k]? = some x) := Lib.hid (by
        have := HD.out.lst
        rw [show ({ E' with used := D.used + pw c } : DM).taken = E'.taken from rfl] at this
        rw [← this]
        simp [hx])
      obtain ⟨g, tc2, e, _, _⟩ := HD.out.tk.form (by omega)
      obtain ⟨rfl, rfl⟩ : ta = some ⟨g, 0, none⟩ ∧ tc = tc2 := by cases e; exact ⟨rfl, rfl⟩
      have hc := HD.out.cell rfl hx (k := 0) (by omega) rfl
      simp only [Nat.add_zero] at hc
      clear hx e
      by_cases hlt : x.pos < p
      · have hltd : decide ((x.pos : Int) < (p : Int)) = true := by simpa using hlt
        have HN2 : Hid (∀ j y, j < k + 1 → E'.taken[j]? = some y → y.pos < p) := Lib.hid fun j y hj hy => by
          by_cases e : j = k
          · subst e
            rw [HX1.out] at hy
            cases hy
            exact hlt
          · exact HN.out j y (by omega) hy
        have hlti : (x.pos : Int) < (p : Int) := by omega
        go_wp2
        go_round
        case rel => exact ⟨k + 1, by omega, by go_num, HN2⟩
        case measure => simp [intOf]; omega
      · have hltd : decide ((x.pos : Int) < (p : Int)) = false := by simpa using hlt
        have HEX : Hid (∀ y, E'.taken[k]? = some y → ¬ y.pos < p) := Lib.hid fun y hy => by
          rw [HX1.out] at hy
          cases hy
          exact hlt
        have hlti : ¬ (x.pos : Int) < (p : Int) := by omega
        go_wp2_with (first | (show Code.wp _ (Code.region 14 _ _) _ _ _; refine Stop.out ?_) | (with_reducible refine wp_region_text (by kernel_rfl) (by kernel_rfl) ?_) | (with_reducible refine text_fin (by kernel_rfl) ?_))
        refine ⟨?_⟩
        refine Tc.wp_region_held_text (fun V => V.cell? ⟨b, 4, none⟩ = some (.slice (some ⟨g, 0, none⟩) L2.length tc)) [4, 13] (by kernel_rfl) (by kernel_rfl) (HHo.out _ (by repeat (first | with_reducible exact Keeps.refl _ _ | with_reducible apply Keeps.drew | with_reducible apply Keeps.alloc))) ?_
        go_wp2_with (first | (show Tc.wpListH _ _ _ _ _ (⟨_, Op.slice _ _ none _ _, _, _, _, _⟩ :: _) _ _ _; refine Tc.wpH_same rfl rfl (HHo.out _ (by repeat (first | with_reducible exact Keeps.refl _ _ | with_reducible apply Keeps.drew | with_reducible apply Keeps.alloc))) _ (op_slice rfl (HS1S.out _)) ?_) | (show Tc.wpListH _ _ _ _ _ (⟨_, Op.slice _ _ (some _) _ _, _, _, _, _⟩ :: _) _ _ _; refine Tc.wpH_same rfl rfl (HHo.out _ (by repeat (first | with_reducible exact Keeps.refl _ _ | with_reducible apply Keeps.drew | with_reducible apply Keeps.alloc))) _ (op_slice rfl (HS2S.out _)) ?_) | (refine Tc.wpH_load rfl _ _ rfl _ rfl rfl _ _ rfl (fun _ h => h) (HHo.out _ (by repeat (first | with_reducible exact Keeps.refl _ _ | with_reducible apply Keeps.drew | with_reducible apply Keeps.alloc))) ?_) | (refine Tc.wpH_walk rfl rfl ?_) | (refine Tc.held_fin (HHo.out _ (by repeat (first | with_reducible exact Keeps.refl _ _ | with_reducible apply Keeps.drew | with_reducible apply Keeps.alloc))) ?_) | (refine Tc.wpH_nil ?_) | (with_reducible refine Tc.text_fin (by kernel_rfl) ?_) | (show wpList _ _ _ (⟨_, Op.call ⟨Callee.builtin Builtin.append, _, _⟩, _, _, _, _⟩ :: _) _ _; refine Stop.out ?_))
        refine ⟨?_⟩
        refine wpList_append_wide _ rfl _ _ 88 88 rfl 100 (.slice 100) 4 48 _ info_b Try.underlying88 Try.underlying88 (by intro k h; cases h) rfl (.slice (some ⟨W.heap.size, 0, none⟩) 1 1) 1 (dbV (⟨p, c, n, List.replicate n 0⟩, .slice (some ⟨w2.heap.size, 0, none⟩) n n)) rfl (wide_new W.drew 100 (⟨p, c, n, List.replicate n 0⟩, .slice (some ⟨w2.heap.size, 0, none⟩) n n)) _ (L2.length - k) ((L2.drop k).flatMap dbV) rfl (by rw [flat_length, List.length_drop]) (lenOf_slice _ _ _) (fun V2 h2 => HTL.out _ (by repeat (first | with_reducible exact Keeps.refl _ _ | with_reducible apply Keeps.drew | with_reducible apply Keeps.alloc)) V2 h2) (flat_cells _ fun q hq => HOC.out q (List.mem_of_mem_drop hq)) (by unfold maxLen; omega) (by omega) ?_
        intro v5 w5 ha5
        obtain ⟨va5, vc5, rfl, _, _⟩ := ha5.row.len
        have HK5 : Hid (Keeps (fun _ => False) W w5) := Lib.hid (((Keeps.refl (fun _ => False) W).drew.alloc _).trans ha5.keeps fun g hg ho => by simp [Own, Value.ownBlock] at ho; omega)
        have HR5 := Lib.hid ha5.row
        clear ha5
        refine Tc.held_fin (HHo.out _ HK5.out) ?_
        go_wp2_with (first | (show Tc.wpListH _ _ _ _ _ (⟨_, Op.slice _ _ none _ _, _, _, _, _⟩ :: _) _ _ _; refine Tc.wpH_same rfl rfl (HHo.out _ HK5.out) _ (op_slice rfl (HS1S.out _)) ?_) | (show Tc.wpListH _ _ _ _ _ (⟨_, Op.slice _ _ (some _) _ _, _, _, _, _⟩ :: _) _ _ _; refine Tc.wpH_same rfl rfl (HHo.out _ HK5.out) _ (op_slice rfl (HS2S.out _)) ?_) | (refine Tc.wpH_load rfl _ _ rfl _ rfl rfl _ _ rfl (fun _ h => h) (HHo.out _ HK5.out) ?_) | (refine Tc.wpH_walk rfl rfl ?_) | (refine Tc.held_fin (HHo.out _ HK5.out) ?_) | (refine Tc.wpH_nil ?_) | (with_reducible refine Tc.text_fin (by kernel_rfl) ?_) | (show wpList _ _ _ (⟨_, Op.call ⟨Callee.builtin Builtin.append, _, _⟩, _, _, _, _⟩ :: _) _ _; refine Stop.out ?_))
        refine ⟨?_⟩
        refine wpList_append_wide _ rfl _ _ 88 88 rfl 100 (.slice 100) 4 48 _ info_b Try.underlying88 Try.underlying88 (by intro k h; cases h) rfl (.slice (some ⟨g, 0, none⟩) k k) k ((L2.take k).flatMap dbV) rfl (by rw [← flat_take]; exact (HD.out.tk.cut_any hk).keeps HK5.out fun _ _ h => h) _ (1 + (L2.length - k)) _ rfl HR5.out.1 (lenOf_slice _ _ _) HR5.out.all (by intro u hu; rcases List.mem_append.1 hu with hu | hu; (simp only [dbV, List.mem_cons, List.not_mem_nil, or_false] at hu; rcases hu with rfl | rfl | rfl | rfl <;> rfl); exact flat_cells _ (fun q hq => HOC.out q (List.mem_of_mem_drop hq)) u hu) (by unfold maxLen; omega) (by omega) ?_
        intro v6 w6 ha6
        obtain ⟨g1, g2, g3, g4⟩ := HD.out.putIn (D' := { E' with used := D.used + pw c, taken := DM.put E'.taken ⟨p, c, n, List.replicate n 0⟩ }) hk HK5.out HWR.out (fun g hg => by simp [Value.ownBlock] at hg; subst hg; exact HWE.out) HWW.out ha6 (put_at (HD.out.lst) hk HN.out HEX.out) rfl rfl
        obtain ⟨va6, vc6, rfl, _, _⟩ := ha6.row.len
        have G1 := Lib.hid g1
        have G2 := Lib.hid g2
        clear g1 g2 ha6
        refine Tc.held_fin g3 ?_
        go_wp2_with (first | (refine Tc.wpH_walk rfl rfl ?_) | (refine Tc.held_last rfl ?_) | (refine Tc.held_fin g3 ?_) | (refine Tc.wpH_nil ?_) | (with_reducible refine Tc.text_fin (by kernel_rfl) ?_) | fail)
        go_ret2
        refine ⟨rfl, ?_, HKW.out.trans_ext G2.out⟩
        rw [HS1.out]
        exact G1.out.wider (fun g hg => Ext.trans HKW.out.size G2.out.size hg) (fun g hg => by
          rcases hg with hg | hg
          · exact Nat.lt_of_lt_of_le (H.out.lt g hg) (HKW.out.trans_ext G2.out).size
          · exact hg.2)
    · have HEX : Hid (∀ y, E'.taken[k]? = some y → ¬ y.pos < p) := Lib.hid fun y hy => by
        have h1 := (List.getElem?_eq_some_iff.1 hy).1
        have h2 := HD.out.len
        rw [show ({ E' with used := D.used + pw c } : DM).taken = E'.taken from rfl] at h2
        omega
      go_wp2_with (first | (show Code.wp _ (Code.region 14 _ _) _ _ _; refine Stop.out ?_) | (with_reducible refine wp_region_text (by kernel_rfl) (by kernel_rfl) ?_) | (with_reducible refine text_fin (by kernel_rfl) ?_))
      refine ⟨?_⟩
      refine Tc.wp_region_held_text (fun V => V.cell? ⟨b, 4, none⟩ = some (.slice ta L2.length tc)) [4, 13] (by kernel_rfl) (by kernel_rfl) (HHo.out _ (by repeat (first | with_reducible exact Keeps.refl _ _ | with_reducible apply Keeps.drew | with_reducible apply Keeps.alloc))) ?_
      go_wp2_with (first | (show Tc.wpListH _ _ _ _ _ (⟨_, Op.slice _ _ none _ _, _, _, _, _⟩ :: _) _ _ _; refine Tc.wpH_same rfl rfl (HHo.out _ (by repeat (first | with_reducible exact Keeps.refl _ _ | with_reducible apply Keeps.drew | with_reducible apply Keeps.alloc))) _ (op_slice rfl (HS1S.out _)) ?_) | (show Tc.wpListH _ _ _ _ _ (⟨_, Op.slice _ _ (some _) _ _, _, _, _, _⟩ :: _) _ _ _; refine Tc.wpH_same rfl rfl (HHo.out _ (by repeat (first | with_reducible exact Keeps.refl _ _ | with_reducible apply Keeps.drew | with_reducible apply Keeps.alloc))) _ (op_slice rfl (HS2S.out _)) ?_) | (refine Tc.wpH_load rfl _ _ rfl _ rfl rfl _ _ rfl (fun _ h => h) (HHo.out _ (by repeat (first | with_reducible exact Keeps.refl _ _ | with_reducible apply Keeps.drew | with_reducible apply Keeps.alloc))) ?_) | (refine Tc.wpH_walk rfl rfl ?_) | (refine Tc.held_fin (HHo.out _ (by repeat (first | with_reducible exact Keeps.refl _ _ | with_reducible apply Keeps.drew | with_reducible apply Keeps.alloc))) ?_) | (refine Tc.wpH_nil ?_) | (with_reducible refine Tc.text_fin (by kernel_rfl) ?_) | (show wpList _ _ _ (⟨_, Op.call ⟨Callee.builtin Builtin.append, _, _⟩, _, _, _, _⟩ :: _) _ _; refine Stop.out ?_))
      refine ⟨?_⟩
      refine wpList_append_wide _ rfl _ _ 88 88 rfl 100 (.slice 100) 4 48 _ info_b Try.underlying88 Try.underlying88 (by intro k h; cases h) rfl (.slice (some ⟨W.heap.size, 0, none⟩) 1 1) 1 (dbV (⟨p, c, n, List.replicate n 0⟩, .slice (some ⟨w2.heap.size, 0, none⟩) n n)) rfl (wide_new W.drew 100 (⟨p, c, n, List.replicate n 0⟩, .slice (some ⟨w2.heap.size, 0, none⟩) n n)) _ (L2.length - k) ((L2.drop k).flatMap dbV) rfl (by rw [flat_length, List.length_drop]) (lenOf_slice _ _ _) (fun V2 h2 => HTL.out _ (by repeat (first | with_reducible exact Keeps.refl _ _ | with_reducible apply Keeps.drew | with_reducible apply Keeps.alloc)) V2 h2) (flat_cells _ fun q hq => HOC.out q (List.mem_of_mem_drop hq)) (by unfold maxLen; omega) (by omega) ?_
      intro v5 w5 ha5
      obtain ⟨va5, vc5, rfl, _, _⟩ := ha5.row.len
      have HK5 : Hid (Keeps (fun _ => False) W w5) := Lib.hid (((Keeps.refl (fun _ => False) W).drew.alloc _).trans ha5.keeps fun g hg ho => by simp [Own, Value.ownBlock] at ho; omega)
      have HR5 := Lib.hid ha5.row
      clear ha5
      refine Tc.held_fin (HHo.out _ HK5.out) ?_
      go_wp2_with (first | (show Tc.wpListH _ _ _ _ _ (⟨_, Op.slice _ _ none _ _, _, _, _, _⟩ :: _) _ _ _; refine Tc.wpH_same rfl rfl (HHo.out _ HK5.out) _ (op_slice rfl (HS1S.out _)) ?_) | (show Tc.wpListH _ _ _ _ _ (⟨_, Op.slice _ _ (some _) _ _, _, _, _, _⟩ :: _) _ _ _; refine Tc.wpH_same rfl rfl (HHo.out _ HK5.out) _ (op_slice rfl (HS2S.out _)) ?_) | (refine Tc.wpH_load rfl _ _ rfl _ rfl rfl _ _ rfl (fun _ h => h) (HHo.out _ HK5.out) ?_) | (refine Tc.wpH_walk rfl rfl ?_) | (refine Tc.held_fin (HHo.out _ HK5.out) ?_) | (refine Tc.wpH_nil ?_) | (with_reducible refine Tc.text_fin (by kernel_rfl) ?_) | (show wpList _ _ _ (⟨_, Op.call ⟨Callee.builtin Builtin.append, _, _⟩, _, _, _, _⟩ :: _) _ _; refine Stop.out ?_))
      refine ⟨?_⟩
      refine wpList_append_wide _ rfl _ _ 88 88 rfl 100 (.slice 100) 4 48 _ info_b Try.underlying88 Try.underlying88 (by intro k h; cases h) rfl (.slice ta k k) k ((L2.take k).flatMap dbV) rfl (by rw [← flat_take]; exact (HD.out.tk.cut_any hk).keeps HK5.out fun _ _ h => h) _ (1 + (L2.length - k)) _ rfl HR5.out.1 (lenOf_slice _ _ _) HR5.out.all (by intro u hu; rcases List.mem_append.1 hu with hu | hu; (simp only [dbV, List.mem_cons, List.not_mem_nil, or_false] at hu; rcases hu with rfl | rfl | rfl | rfl <;> rfl); exact flat_cells _ (fun q hq => HOC.out q (List.mem_of_mem_drop hq)) u hu) (by unfold maxLen; omega) (by omega) ?_
      intro v6 w6 ha6
      obtain ⟨g1, g2, g3, g4⟩ := HD.out.putIn (D' := { E' with used := D.used + pw c, taken := DM.put E'.taken ⟨p, c, n, List.replicate n 0⟩ }) hk HK5.out HWR.out (fun g hg => by simp [Value.ownBlock] at hg; subst hg; exact HWE.out) HWW.out ha6 (put_at (HD.out.lst) hk HN.out HEX.out) rfl rfl
      obtain ⟨va6, vc6, rfl, _, _⟩ := ha6.row.len
      have G1 := Lib.hid g1
      have G2 := Lib.hid g2
      clear g1 g2 ha6
      refine Tc.held_fin g3 ?_
      go_wp2_with (first | (refine Tc.wpH_walk rfl rfl ?_) | (refine Tc.held_last rfl ?_) | (refine Tc.held_fin g3 ?_) | (refine Tc.wpH_nil ?_) | (with_reducible refine Tc.text_fin (by kernel_rfl) ?_) | fail)
      go_ret2
      refine ⟨rfl, ?_, HKW.out.trans_ext G2.out⟩
      rw [HS1.out]
      exact G1.out.wider (fun g hg => Ext.trans HKW.out.size G2.out.size hg) (fun g hg => by
        rcases hg with hg | hg
        · exact Nat.lt_of_lt_of_le (H.out.lt g hg) (HKW.out.trans_ext G2.out).size
        · exact hg.2)
end Go.Proofs.Ytacedeaopgbdhaa

import Derived.Test.YtgmieehheoknbaaDoorGh
import Derived.Test.YtgmieehheoknbaaDoorGg
import Derived.Lib.ConvBytes
section
/-
  code.Read: a term but for its parts. (Printed by gen_rl.py.)
-/
namespace Go.Tx
open Go Go.RowKit
/-- a reader's call does what is said of the bytes; what it gives lies in memory -/
def RdPostW {α : Type} (w : World) (b : Nat) (v : Value) (s : List UInt8) (r : PR α) (R : α → Value → World → Prop) (e : Ending) (w' : World) : Prop := match r with
  | .error (l, c, k) => GaveUp w b (s.length - l) c k e w'
  | .ok (x, q) => ∃ u p, e = .returned u ∧ R x u w' ∧ q = s.drop p ∧ RdAt w' b v s p ∧ Keeps (fun y => y = b) w w'
theorem RdPostW.split {α : Type} {w w' : World} {b : Nat} {v : Value} {s : List UInt8} {r : PR α} {R : α → Value → World → Prop} {e : Ending} (h : RdPostW w b v s r R e w') :
    (∃ l c k E, r = .error (l, c, k) ∧ e = .panicked [{ v := E, recovered := false }] ∧ GaveUp w b (s.length - l) c k (.panicked [{ v := E, recovered := false }]) w') ∨
      (∃ x u p, r = .ok (x, s.drop p) ∧ e = .returned u ∧ R x u w' ∧ RdAt w' b v s p ∧ Keeps (fun y => y = b) w w') := by
  match r, h with
  | .error (l, c, k), h =>
    obtain ⟨E, rfl, h1, h2⟩ := h
    exact .inl ⟨l, c, k, E, rfl, rfl, E, rfl, h1, h2⟩
  | .ok (x, q), h =>
    obtain ⟨u, p, rfl, hR, rfl, h1, h2⟩ := h
    exact .inr ⟨x, u, p, rfl, rfl, hR, h1, h2⟩
theorem gaveW {α : Type} {w w' : World} {b p l : Nat} {v : Value} {s : List UInt8} {c : List (ByteArray × Int)} {k : Int} {e : Ending} {r : PR α} {R : α → Value → World → Prop} (hr : r = .error (l, c, k)) (hp : p = s.length - l) (h : GaveUp w b p c k e w') : RdPostW w b v s r R e w' := by
  subst hr hp
  exact h
theorem doneW {α : Type} {w w' : World} {b p : Nat} {v u : Value} {s q : List UInt8} {r : PR α} {x : α} {R : α → Value → World → Prop} (hr : r = .ok (x, q)) (hu : R x u w') (hq : q = s.drop p) (h : RdAt w' b v s p) (hk : Keeps (fun y => y = b) w w') :
    RdPostW w b v s r R (.returned u) w' := by
  subst hr
  exact ⟨u, p, rfl, hu, hq, h, hk⟩
theorem RdAt.keeps {w w' : World} {b : Nat} {v : Value} {s : List UInt8} {p : Nat} {S : Nat → Prop} (h : RdAt w b v s p) (hk : Keeps S w w') (hb : ¬ S b) (hs : ∀ g, v.ownBlock = some g → ¬ S g) : RdAt w' b v s p :=
  ⟨h.1.keeps hk hb, h.2.1.keeps hk hs, h.2.2.1, h.2.2.2.1, h.2.2.2.2⟩
theorem RdAt.own_lt {w : World} {b : Nat} {v : Value} {s : List UInt8} {p q : Nat} {x : UInt8} (h : RdAt w b v s p) (hx : s[q]? = some x) : ∀ g, v.ownBlock = some g → g < w.heap.size := by
  obtain ⟨a, c, rfl, _, _, hs⟩ := h.2.1
  obtain ⟨g, rfl, hg, _⟩ := hs q x hx
  intro g2 e
  simp [Value.ownBlock] at e
  omega
theorem RdAt.form {w : World} {b : Nat} {v : Value} {s : List UInt8} {p : Nat} (h : RdAt w b v s p) : ∃ a c, v = .slice a s.length c := by
  obtain ⟨a, c, e, _⟩ := h.2.1
  exact ⟨a, c, e⟩
theorem results_cellT {P : Program} {fn : Func} {c u : Tmp} {t : TypeId} {w : World} (h : fn.results = #[.cell c t, .tmp u]) (tmps : Array Value) (p : Addr) (hp : tmps.getD c undef = .pointer (some p)) (x : Value) (hl : (loadVar t p).run P w = .ok x w) :
    (results fn tmps).run P w = .ok (.tuple #[x, tmps.getD u undef]) w := by
  have hp' : tmps[c]?.getD undef = .pointer (some p) := by rw [← Array.getD_eq_getD_getElem?]; exact hp
  simp [results, h, asAddr, hp', hl]
/-- what leaf gives -/
def LeafR (w : World) (fr : Fr) (u : Value) (w' : World) : Prop :=
  ∃ vb, u = .tuple #[.agg #[.int .i64 fr.kind, .int .i64 fr.n, .string fr.name, .slice none 0 0, .slice none 0 0, vb], .int .i64 fr.left] ∧ BytesD w' (Fresh w w') vb fr.bytes
theorem BytesD.none (w : World) (S : Nat → Prop) : BytesD w S (.slice .none 0 0) ⟨#[]⟩ := ⟨by decide, .none, 0, rfl, Nat.le_refl _, Nat.zero_le _, fun h => absurd h (by decide)⟩
def frI (k : Nat) (n : Int) : Fr := ⟨k, n, ⟨#[]⟩, ⟨#[]⟩, [], [], 0, 0⟩
def frA (t : ByteArray) : Fr := ⟨2, 0, t, ⟨#[]⟩, [], [], 0, 0⟩
def frB (t : ByteArray) : Fr := ⟨8, 0, ⟨#[]⟩, t, [], [], 0, 0⟩
def frC (k n : Nat) : Fr := ⟨k, 0, ⟨#[]⟩, ⟨#[]⟩, [], [], n, 0⟩
theorem pLeaf_sign {x : UInt8} {s : List UInt8} (h : x.toNat = 1 ∨ x.toNat = 3 ∨ x.toNat = 4) : pLeaf (x :: s) = PR.then (pSign s) fun v r => .ok (frI x.toNat v, r) := by
  simp only [pLeaf, if_pos h]
  cases pSign s <;> rfl
theorem pLeaf_atom {x : UInt8} {s : List UInt8} (h : x.toNat = 2) : pLeaf (x :: s) = PR.then (pText s) fun t r => .ok (frA t, r) := by
  simp only [pLeaf, if_neg (show ¬ (x.toNat = 1 ∨ x.toNat = 3 ∨ x.toNat = 4) by omega), if_pos h]
  cases pText s <;> rfl
theorem pLeaf_bin {x : UInt8} {s : List UInt8} (h : x.toNat = 8) : pLeaf (x :: s) = PR.then (pText s) fun t r => .ok (frB t, r) := by
  simp only [pLeaf, if_neg (show ¬ (x.toNat = 1 ∨ x.toNat = 3 ∨ x.toNat = 4) by omega), if_neg (show ¬ x.toNat = 2 by omega), if_pos h]
  cases pText s <;> rfl
theorem pLeaf_nil {x : UInt8} {s : List UInt8} (h : x.toNat = 6) : pLeaf (x :: s) = .ok (frC 6 0, s) := by
  simp only [pLeaf, if_neg (show ¬ (x.toNat = 1 ∨ x.toNat = 3 ∨ x.toNat = 4) by omega), if_neg (show ¬ x.toNat = 2 by omega), if_neg (show ¬ x.toNat = 8 by omega), if_pos h]
  rfl
theorem pLeaf_count {x : UInt8} {s : List UInt8} (h : x.toNat = 5 ∨ x.toNat = 7) : pLeaf (x :: s) = PR.then (pCount s) fun n r => .ok (frC x.toNat n, r) := by
  simp only [pLeaf, if_neg (show ¬ (x.toNat = 1 ∨ x.toNat = 3 ∨ x.toNat = 4) by omega), if_neg (show ¬ x.toNat = 2 by omega), if_neg (show ¬ x.toNat = 8 by omega), if_neg (show ¬ x.toNat = 6 by omega)]
  rcases h with h | h
  · rw [if_pos h, h]
    cases pCount s <;> rfl
  · rw [if_neg (by omega), if_pos h, h]
    cases pCount s <;> rfl
theorem pLeaf_bad {x : UInt8} {s : List UInt8} (h : ¬ (x.toNat = 1 ∨ x.toNat = 2 ∨ x.toNat = 3 ∨ x.toNat = 4 ∨ x.toNat = 5 ∨ x.toNat = 6 ∨ x.toNat = 7 ∨ x.toNat = 8)) : pLeaf (x :: s) = .error (s.length + 1, [], 10) := by
  simp only [pLeaf, if_neg (show ¬ (x.toNat = 1 ∨ x.toNat = 3 ∨ x.toNat = 4) by omega), if_neg (show ¬ x.toNat = 2 by omega), if_neg (show ¬ x.toNat = 8 by omega), if_neg (show ¬ x.toNat = 6 by omega), if_neg (show ¬ x.toNat = 5 by omega), if_neg (show ¬ x.toNat = 7 by omega)]
end Go.Tx
namespace Go.Proofs.YtgmieehheoknbaaDoor
open Go.RowKit Go.Tx
theorem conv_new (w : World) (s : ByteArray) (hs : s.size ≤ 140737488355328) : ∃ c w5, (convert 9 26 (.string s)).run Tryd.prog w = .ok (.slice (some ⟨w.heap.size, 0, none⟩) s.size c) w5 ∧ BytesD w5 (fun g => g = w.heap.size) (.slice (some ⟨w.heap.size, 0, none⟩) s.size c) s ∧ Keeps (fun _ => False) w w5 ∧ w.heap.size < w5.heap.size := by
  have hsz := Lib.bytesWorld_size w 5 s
  refine ⟨_, _, Lib.run_convert_string_bytes w 9 26 5 s Tryd.underlying9 Tryd.underlying26 Tryd.underlying5, ⟨hs, _, _, rfl, grownCap_ge w _ 0 _, grownCap_le_maxLen w _ 0 _ (by unfold maxLen; omega), fun hp => ⟨_, 0, rfl, rfl, fun j u hu => ?_⟩⟩, ⟨?_, ?_, ?_, by omega, fun k hk _ => Lib.bytesWorld_at_old w _ s k hk⟩, by omega⟩
  · have hj : j < s.size := by have := (List.getElem?_eq_some_iff.1 hu).1; rwa [byteCells_length] at this
    rw [Nat.zero_add, Lib.bytesWorld_cell w 5 s j hj]
    unfold byteCells at hu
    rw [List.getElem?_map] at hu
    obtain ⟨y, hy, rfl⟩ := Option.map_eq_some_iff.1 hu
    rw [List.getD_eq_getElem?_getD, hy]
    rfl
  · rfl
  · rfl
  · rfl
/-- the cells of a term that is being read -/
abbrev zeroT : List Value := [.int .i64 0, .int .i64 0, .string ⟨#[]⟩, .slice none 0 0, .slice none 0 0, .slice none 0 0]
set_option maxRecDepth 100000 in
set_option maxHeartbeats 1600000 in
theorem leaf_int1 {w : World} {b : Nat} {v : Value} {s : List UInt8} {p : Nat} {x : UInt8} (h : RdAt w b v s p) (hx : s[p]? = some x) (hk : x.toNat = 1) :
    Calls Tryd.prog 51 #[.pointer (some ⟨b, 0, none⟩)] w (RdPostW w b v s (pLeaf (s.drop p)) (LeafR w)) := by
  have H := Lib.hid h
  have hbl : b < w.heap.size := h.1.lt
  have hgl := h.own_lt hx
  have d1 : (w.alloc (.cells zeroT.toArray 46)).cell? ⟨b, 1, none⟩ = some (.int .i64 p) := (h.1.alloc _).cell (i := 1) rfl
  have hp := h.2.2.1
  have hkn := x.toNat_lt
  have HB : Hid (pLeaf (s.drop p) = PR.then (pSign (s.drop (p + 1))) fun v r => .ok (frI 1 v, r)) := Lib.hid (by rw [rdrop_cons hx]; exact by rw [pLeaf_sign (by omega), hk])
  clear h
  go_enter Tryd.func51, Tryd.ntmps51
  go_wp2_with (first | (go_at_call 37; refine Stop.out ?_))
  refine ⟨(byte_some (H.out.keeps ((Keeps.refl (fun _ => False) w).alloc _) (fun h => h) fun _ _ h => h) hx).mono ?_⟩
  rintro e w2 ⟨rfl, hr2, hk2⟩
  have hb2 : Blk w2 w.heap.size 46 zeroT := (Blk.new w zeroT 46).keeps hk2 (by omega)
  have hk02 : Keeps (fun y => y = b) w w2 := ((Keeps.refl (fun y => y = b) w).alloc _).trans hk2 fun _ _ h => h
  have hsz2 : w.heap.size < w2.heap.size := hb2.lt
  have f0 : w2.frozen? ⟨w.heap.size, 0, none⟩ = false := hb2.free 0
  have y0 : w2.cell? ⟨w.heap.size, 0, none⟩ = some (.int .i64 0) := hb2.cell (i := 0) rfl
  generalize x.toNat = xn at *
  subst hk
  have hb3 := hb2.set 0 (.int .i64 1)
  have hk3 : Keeps (fun y => y = b) w (w2.setCell ⟨w.heap.size, 0, none⟩ (.int .i64 1)) := hk02.setCell (fun h => absurd h (Nat.lt_irrefl _)) _
  have hr3 : RdAt (w2.setCell ⟨w.heap.size, 0, none⟩ (.int .i64 1)) b v s (p + 1) := hr2.keeps (Keeps.put w2 ⟨w.heap.size, 0, none⟩ _) (by show ¬ b = w.heap.size; omega) fun g hg => by have := hgl g hg; show ¬ g = w.heap.size; omega
  have HB3 := Lib.hid hb3
  have HK3 := Lib.hid hk3
  have HR3 := Lib.hid hr3
  have HGL := Lib.hid hgl
  clear hb2 hr2 hk2 hk02 hb3 hk3 hr3 d1 hgl
  go_wp2_with (first | (go_at_call 57; refine Stop.out ?_))
  refine ⟨(rsign_any HR3.out).mono ?_⟩
  intro e w4 hr
  rcases hr.split with ⟨l, c, k, E, hb, rfl, hg⟩ | ⟨n, u, p2, hb, rfl, rfl, hr4, hk4⟩
  · exact ⟨rfl, gaveW (by rw [HB.out, hb]; rfl) rfl (hg.ahead HK3.out)⟩
  have HE : Hid (pLeaf (s.drop p) = .ok (frI 1 n, s.drop p2)) := Lib.hid (by rw [HB.out, hb]; rfl)
  have hb4 := HB3.out.keeps hk4 (by omega)
  have hk4a : Keeps (fun y => y = b) w w4 := HK3.out.trans hk4 fun _ _ h => h
  have y1 : w4.cell? ⟨w.heap.size, 1, none⟩ = some (.int .i64 0) := hb4.cell (i := 1) rfl
  have g1 : w4.frozen? ⟨w.heap.size, 1, none⟩ = false := hb4.free 1
  have hb5 := hb4.set 1 (.int .i64 n)
  have HR4 := Lib.hid (hr4.keeps (Keeps.put w4 ⟨w.heap.size, 1, none⟩ (.int .i64 n)) (by show ¬ b = w.heap.size; omega) fun g hg => by have := HGL.out g hg; show ¬ g = w.heap.size; omega)
  have HK4 : Hid (Keeps (fun y => y = b) w (w4.setCell ⟨w.heap.size, 1, none⟩ (.int .i64 n))) := Lib.hid (hk4a.setCell (fun h => absurd h (Nat.lt_irrefl _)) _)
  have q0 : (w4.setCell ⟨w.heap.size, 1, none⟩ (.int .i64 n)).cell? ⟨w.heap.size, 0, none⟩ = some (.int .i64 1) := hb5.cell (i := 0) rfl
  have q1 : (w4.setCell ⟨w.heap.size, 1, none⟩ (.int .i64 n)).cell? ⟨w.heap.size, 1, none⟩ = some (.int .i64 n) := hb5.cell (i := 1) rfl
  have q2 : (w4.setCell ⟨w.heap.size, 1, none⟩ (.int .i64 n)).cell? ⟨w.heap.size, 2, none⟩ = some (.string ⟨#[]⟩) := hb5.cell (i := 2) rfl
  have q3 : (w4.setCell ⟨w.heap.size, 1, none⟩ (.int .i64 n)).cell? ⟨w.heap.size, 3, none⟩ = some (.slice none 0 0) := hb5.cell (i := 3) rfl
  have q4 : (w4.setCell ⟨w.heap.size, 1, none⟩ (.int .i64 n)).cell? ⟨w.heap.size, 4, none⟩ = some (.slice none 0 0) := hb5.cell (i := 4) rfl
  have q5 : (w4.setCell ⟨w.heap.size, 1, none⟩ (.int .i64 n)).cell? ⟨w.heap.size, 5, none⟩ = some (.slice none 0 0) := hb5.cell (i := 5) rfl
  have f0 := hb5.free 0
  have f1 := hb5.free 1
  have f2 := hb5.free 2
  have f3 := hb5.free 3
  have f4 := hb5.free 4
  have f5 := hb5.free 5
  have HB4 := Lib.hid hb5
  clear hb4 hb5 hk4 hk4a hr4 hr hb
  go_wp2
  have hb8 := Blk.six HB4.out (.int .i64 1) (.int .i64 n) (.string ⟨#[]⟩) (.slice none 0 0) (.slice none 0 0) (.slice none 0 0)
  have h8 := Keeps.six (w4.setCell ⟨w.heap.size, 1, none⟩ (.int .i64 n)) w.heap.size (.int .i64 1) (.int .i64 n) (.string ⟨#[]⟩) (.slice none 0 0) (.slice none 0 0) (.slice none 0 0)
  refine bodyPost_ret (results_cellT rfl _ ⟨w.heap.size, 0, none⟩ rfl _ (load_at hb8)) rfl (doneW HE.out ⟨_, rfl, BytesD.none _ _⟩ rfl (HR4.out.keeps h8 (by show ¬ b = w.heap.size; omega) fun g hg => by have := HGL.out g hg; show ¬ g = w.heap.size; omega) (HK4.out.trans h8 fun y hy h => by omega))
set_option maxRecDepth 100000 in
set_option maxHeartbeats 1600000 in
theorem leaf_int3 {w : World} {b : Nat} {v : Value} {s : List UInt8} {p : Nat} {x : UInt8} (h : RdAt w b v s p) (hx : s[p]? = some x) (hk : x.toNat = 3) :
    Calls Tryd.prog 51 #[.pointer (some ⟨b, 0, none⟩)] w (RdPostW w b v s (pLeaf (s.drop p)) (LeafR w)) := by
  have H := Lib.hid h
  have hbl : b < w.heap.size := h.1.lt
  have hgl := h.own_lt hx
  have d1 : (w.alloc (.cells zeroT.toArray 46)).cell? ⟨b, 1, none⟩ = some (.int .i64 p) := (h.1.alloc _).cell (i := 1) rfl
  have hp := h.2.2.1
  have hkn := x.toNat_lt
  have HB : Hid (pLeaf (s.drop p) = PR.then (pSign (s.drop (p + 1))) fun v r => .ok (frI 3 v, r)) := Lib.hid (by rw [rdrop_cons hx]; exact by rw [pLeaf_sign (by omega), hk])
  clear h
  go_enter Tryd.func51, Tryd.ntmps51
  go_wp2_with (first | (go_at_call 37; refine Stop.out ?_))
  refine ⟨(byte_some (H.out.keeps ((Keeps.refl (fun _ => False) w).alloc _) (fun h => h) fun _ _ h => h) hx).mono ?_⟩
  rintro e w2 ⟨rfl, hr2, hk2⟩
  have hb2 : Blk w2 w.heap.size 46 zeroT := (Blk.new w zeroT 46).keeps hk2 (by omega)
  have hk02 : Keeps (fun y => y = b) w w2 := ((Keeps.refl (fun y => y = b) w).alloc _).trans hk2 fun _ _ h => h
  have hsz2 : w.heap.size < w2.heap.size := hb2.lt
  have f0 : w2.frozen? ⟨w.heap.size, 0, none⟩ = false := hb2.free 0
  have y0 : w2.cell? ⟨w.heap.size, 0, none⟩ = some (.int .i64 0) := hb2.cell (i := 0) rfl
  generalize x.toNat = xn at *
  subst hk
  have hb3 := hb2.set 0 (.int .i64 3)
  have hk3 : Keeps (fun y => y = b) w (w2.setCell ⟨w.heap.size, 0, none⟩ (.int .i64 3)) := hk02.setCell (fun h => absurd h (Nat.lt_irrefl _)) _
  have hr3 : RdAt (w2.setCell ⟨w.heap.size, 0, none⟩ (.int .i64 3)) b v s (p + 1) := hr2.keeps (Keeps.put w2 ⟨w.heap.size, 0, none⟩ _) (by show ¬ b = w.heap.size; omega) fun g hg => by have := hgl g hg; show ¬ g = w.heap.size; omega
  have HB3 := Lib.hid hb3
  have HK3 := Lib.hid hk3
  have HR3 := Lib.hid hr3
  have HGL := Lib.hid hgl
  clear hb2 hr2 hk2 hk02 hb3 hk3 hr3 d1 hgl
  go_wp2_with (first | (go_at_call 57; refine Stop.out ?_))
  refine ⟨(rsign_any HR3.out).mono ?_⟩
  intro e w4 hr
  rcases hr.split with ⟨l, c, k, E, hb, rfl, hg⟩ | ⟨n, u, p2, hb, rfl, rfl, hr4, hk4⟩
  · exact ⟨rfl, gaveW (by rw [HB.out, hb]; rfl) rfl (hg.ahead HK3.out)⟩
  have HE : Hid (pLeaf (s.drop p) = .ok (frI 3 n, s.drop p2)) := Lib.hid (by rw [HB.out, hb]; rfl)
  have hb4 := HB3.out.keeps hk4 (by omega)
  have hk4a : Keeps (fun y => y = b) w w4 := HK3.out.trans hk4 fun _ _ h => h
  have y1 : w4.cell? ⟨w.heap.size, 1, none⟩ = some (.int .i64 0) := hb4.cell (i := 1) rfl
  have g1 : w4.frozen? ⟨w.heap.size, 1, none⟩ = false := hb4.free 1
  have hb5 := hb4.set 1 (.int .i64 n)
  have HR4 := Lib.hid (hr4.keeps (Keeps.put w4 ⟨w.heap.size, 1, none⟩ (.int .i64 n)) (by show ¬ b = w.heap.size; omega) fun g hg => by have := HGL.out g hg; show ¬ g = w.heap.size; omega)
  have HK4 : Hid (Keeps (fun y => y = b) w (w4.setCell ⟨w.heap.size, 1, none⟩ (.int .i64 n))) := Lib.hid (hk4a.setCell (fun h => absurd h (Nat.lt_irrefl _)) _)
  have q0 : (w4.setCell ⟨w.heap.size, 1, none⟩ (.int .i64 n)).cell? ⟨w.heap.size, 0, none⟩ = some (.int .i64 3) := hb5.cell (i := 0) rfl
  have q1 : (w4.setCell ⟨w.heap.size, 1, none⟩ (.int .i64 n)).cell? ⟨w.heap.size, 1, none⟩ = some (.int .i64 n) := hb5.cell (i := 1) rfl
  have q2 : (w4.setCell ⟨w.heap.size, 1, none⟩ (.int .i64 n)).cell? ⟨w.heap.size, 2, none⟩ = some (.string ⟨#[]⟩) := hb5.cell (i := 2) rfl
  have q3 : (w4.setCell ⟨w.heap.size, 1, none⟩ (.int .i64 n)).cell? ⟨w.heap.size, 3, none⟩ = some (.slice none 0 0) := hb5.cell (i := 3) rfl
  have q4 : (w4.setCell ⟨w.heap.size, 1, none⟩ (.int .i64 n)).cell? ⟨w.heap.size, 4, none⟩ = some (.slice none 0 0) := hb5.cell (i := 4) rfl
  have q5 : (w4.setCell ⟨w.heap.size, 1, none⟩ (.int .i64 n)).cell? ⟨w.heap.size, 5, none⟩ = some (.slice none 0 0) := hb5.cell (i := 5) rfl
  have f0 := hb5.free 0
  have f1 := hb5.free 1
  have f2 := hb5.free 2
  have f3 := hb5.free 3
  have f4 := hb5.free 4
  have f5 := hb5.free 5
  have HB4 := Lib.hid hb5
  clear hb4 hb5 hk4 hk4a hr4 hr hb
  go_wp2
  have hb8 := Blk.six HB4.out (.int .i64 3) (.int .i64 n) (.string ⟨#[]⟩) (.slice none 0 0) (.slice none 0 0) (.slice none 0 0)
  have h8 := Keeps.six (w4.setCell ⟨w.heap.size, 1, none⟩ (.int .i64 n)) w.heap.size (.int .i64 3) (.int .i64 n) (.string ⟨#[]⟩) (.slice none 0 0) (.slice none 0 0) (.slice none 0 0)
  refine bodyPost_ret (results_cellT rfl _ ⟨w.heap.size, 0, none⟩ rfl _ (load_at hb8)) rfl (doneW HE.out ⟨_, rfl, BytesD.none _ _⟩ rfl (HR4.out.keeps h8 (by show ¬ b = w.heap.size; omega) fun g hg => by have := HGL.out g hg; show ¬ g = w.heap.size; omega) (HK4.out.trans h8 fun y hy h => by omega))
set_option maxRecDepth 100000 in
set_option maxHeartbeats 1600000 in
theorem leaf_int4 {w : World} {b : Nat} {v : Value} {s : List UInt8} {p : Nat} {x : UInt8} (h : RdAt w b v s p) (hx : s[p]? = some x) (hk : x.toNat = 4) :
    Calls Tryd.prog 51 #[.pointer (some ⟨b, 0, none⟩)] w (RdPostW w b v s (pLeaf (s.drop p)) (LeafR w)) := by
  have H := Lib.hid h
  have hbl : b < w.heap.size := h.1.lt
  have hgl := h.own_lt hx
  have d1 : (w.alloc (.cells zeroT.toArray 46)).cell? ⟨b, 1, none⟩ = some (.int .i64 p) := (h.1.alloc _).cell (i := 1) rfl
  have hp := h.2.2.1
  have hkn := x.toNat_lt
  have HB : Hid (pLeaf (s.drop p) = PR.then (pSign (s.drop (p + 1))) fun v r => .ok (frI 4 v, r)) := Lib.hid (by rw [rdrop_cons hx]; exact by rw [pLeaf_sign (by omega), hk])
  clear h
  go_enter Tryd.func51, Tryd.ntmps51
  go_wp2_with (first | (go_at_call 37; refine Stop.out ?_))
  refine ⟨(byte_some (H.out.keeps ((Keeps.refl (fun _ => False) w).alloc _) (fun h => h) fun _ _ h => h) hx).mono ?_⟩
  rintro e w2 ⟨rfl, hr2, hk2⟩
  have hb2 : Blk w2 w.heap.size 46 zeroT := (Blk.new w zeroT 46).keeps hk2 (by omega)
  have hk02 : Keeps (fun y => y = b) w w2 := ((Keeps.refl (fun y => y = b) w).alloc _).trans hk2 fun _ _ h => h
  have hsz2 : w.heap.size < w2.heap.size := hb2.lt
  have f0 : w2.frozen? ⟨w.heap.size, 0, none⟩ = false := hb2.free 0
  have y0 : w2.cell? ⟨w.heap.size, 0, none⟩ = some (.int .i64 0) := hb2.cell (i := 0) rfl
  generalize x.toNat = xn at *
  subst hk
  have hb3 := hb2.set 0 (.int .i64 4)
  have hk3 : Keeps (fun y => y = b) w (w2.setCell ⟨w.heap.size, 0, none⟩ (.int .i64 4)) := hk02.setCell (fun h => absurd h (Nat.lt_irrefl _)) _
  have hr3 : RdAt (w2.setCell ⟨w.heap.size, 0, none⟩ (.int .i64 4)) b v s (p + 1) := hr2.keeps (Keeps.put w2 ⟨w.heap.size, 0, none⟩ _) (by show ¬ b = w.heap.size; omega) fun g hg => by have := hgl g hg; show ¬ g = w.heap.size; omega
  have HB3 := Lib.hid hb3
  have HK3 := Lib.hid hk3
  have HR3 := Lib.hid hr3
  have HGL := Lib.hid hgl
  clear hb2 hr2 hk2 hk02 hb3 hk3 hr3 d1 hgl
  go_wp2_with (first | (go_at_call 57; refine Stop.out ?_))
  refine ⟨(rsign_any HR3.out).mono ?_⟩
  intro e w4 hr
  rcases hr.split with ⟨l, c, k, E, hb, rfl, hg⟩ | ⟨n, u, p2, hb, rfl, rfl, hr4, hk4⟩
  · exact ⟨rfl, gaveW (by rw [HB.out, hb]; rfl) rfl (hg.ahead HK3.out)⟩
  have HE : Hid (pLeaf (s.drop p) = .ok (frI 4 n, s.drop p2)) := Lib.hid (by rw [HB.out, hb]; rfl)
  have hb4 := HB3.out.keeps hk4 (by omega)
  have hk4a : Keeps (fun y => y = b) w w4 := HK3.out.trans hk4 fun _ _ h => h
  have y1 : w4.cell? ⟨w.heap.size, 1, none⟩ = some (.int .i64 0) := hb4.cell (i := 1) rfl
  have g1 : w4.frozen? ⟨w.heap.size, 1, none⟩ = false := hb4.free 1
  have hb5 := hb4.set 1 (.int .i64 n)
  have HR4 := Lib.hid (hr4.keeps (Keeps.put w4 ⟨w.heap.size, 1, none⟩ (.int .i64 n)) (by show ¬ b = w.heap.size; omega) fun g hg => by have := HGL.out g hg; show ¬ g = w.heap.size; omega)
  have HK4 : Hid (Keeps (fun y => y = b) w (w4.setCell ⟨w.heap.size, 1, none⟩ (.int .i64 n))) := Lib.hid (hk4a.setCell (fun h => absurd h (Nat.lt_irrefl _)) _)
  have q0 : (w4.setCell ⟨w.heap.size, 1, none⟩ (.int .i64 n)).cell? ⟨w.heap.size, 0, none⟩ = some (.int .i64 4) := hb5.cell (i := 0) rfl
  have q1 : (w4.setCell ⟨w.heap.size, 1, none⟩ (.int .i64 n)).cell? ⟨w.heap.size, 1, none⟩ = some (.int .i64 n) := hb5.cell (i := 1) rfl
  have q2 : (w4.setCell ⟨w.heap.size, 1, none⟩ (.int .i64 n)).cell? ⟨w.heap.size, 2, none⟩ = some (.string ⟨#[]⟩) := hb5.cell (i := 2) rfl
  have q3 : (w4.setCell ⟨w.heap.size, 1, none⟩ (.int .i64 n)).cell? ⟨w.heap.size, 3, none⟩ = some (.slice none 0 0) := hb5.cell (i := 3) rfl
  have q4 : (w4.setCell ⟨w.heap.size, 1, none⟩ (.int .i64 n)).cell? ⟨w.heap.size, 4, none⟩ = some (.slice none 0 0) := hb5.cell (i := 4) rfl
  have q5 : (w4.setCell ⟨w.heap.size, 1, none⟩ (.int .i64 n)).cell? ⟨w.heap.size, 5, none⟩ = some (.slice none 0 0) := hb5.cell (i := 5) rfl
  have f0 := hb5.free 0
  have f1 := hb5.free 1
  have f2 := hb5.free 2
  have f3 := hb5.free 3
  have f4 := hb5.free 4
  have f5 := hb5.free 5
  have HB4 := Lib.hid hb5
  clear hb4 hb5 hk4 hk4a hr4 hr hb
  go_wp2
  have hb8 := Blk.six HB4.out (.int .i64 4) (.int .i64 n) (.string ⟨#[]⟩) (.slice none 0 0) (.slice none 0 0) (.slice none 0 0)
  have h8 := Keeps.six (w4.setCell ⟨w.heap.size, 1, none⟩ (.int .i64 n)) w.heap.size (.int .i64 4) (.int .i64 n) (.string ⟨#[]⟩) (.slice none 0 0) (.slice none 0 0) (.slice none 0 0)
  refine bodyPost_ret (results_cellT rfl _ ⟨w.heap.size, 0, none⟩ rfl _ (load_at hb8)) rfl (doneW HE.out ⟨_, rfl, BytesD.none _ _⟩ rfl (HR4.out.keeps h8 (by show ¬ b = w.heap.size; omega) fun g hg => by have := HGL.out g hg; show ¬ g = w.heap.size; omega) (HK4.out.trans h8 fun y hy h => by omega))
set_option maxRecDepth 100000 in
set_option maxHeartbeats 1600000 in
theorem leaf_atom {w : World} {b : Nat} {v : Value} {s : List UInt8} {p : Nat} {x : UInt8} (h : RdAt w b v s p) (hx : s[p]? = some x) (hk : x.toNat = 2) :
    Calls Tryd.prog 51 #[.pointer (some ⟨b, 0, none⟩)] w (RdPostW w b v s (pLeaf (s.drop p)) (LeafR w)) := by
  have H := Lib.hid h
  have hbl : b < w.heap.size := h.1.lt
  have hgl := h.own_lt hx
  have d1 : (w.alloc (.cells zeroT.toArray 46)).cell? ⟨b, 1, none⟩ = some (.int .i64 p) := (h.1.alloc _).cell (i := 1) rfl
  have hp := h.2.2.1
  have hkn := x.toNat_lt
  have HB : Hid (pLeaf (s.drop p) = PR.then (pText (s.drop (p + 1))) fun t r => .ok (frA t, r)) := Lib.hid (by rw [rdrop_cons hx]; exact pLeaf_atom hk)
  clear h
  go_enter Tryd.func51, Tryd.ntmps51
  go_wp2_with (first | (go_at_call 37; refine Stop.out ?_))
  refine ⟨(byte_some (H.out.keeps ((Keeps.refl (fun _ => False) w).alloc _) (fun h => h) fun _ _ h => h) hx).mono ?_⟩
  rintro e w2 ⟨rfl, hr2, hk2⟩
  have hb2 : Blk w2 w.heap.size 46 zeroT := (Blk.new w zeroT 46).keeps hk2 (by omega)
  have hk02 : Keeps (fun y => y = b) w w2 := ((Keeps.refl (fun y => y = b) w).alloc _).trans hk2 fun _ _ h => h
  have hsz2 : w.heap.size < w2.heap.size := hb2.lt
  have f0 : w2.frozen? ⟨w.heap.size, 0, none⟩ = false := hb2.free 0
  have y0 : w2.cell? ⟨w.heap.size, 0, none⟩ = some (.int .i64 0) := hb2.cell (i := 0) rfl
  generalize x.toNat = xn at *
  subst hk
  have hb3 := hb2.set 0 (.int .i64 2)
  have hk3 : Keeps (fun y => y = b) w (w2.setCell ⟨w.heap.size, 0, none⟩ (.int .i64 2)) := hk02.setCell (fun h => absurd h (Nat.lt_irrefl _)) _
  have hr3 : RdAt (w2.setCell ⟨w.heap.size, 0, none⟩ (.int .i64 2)) b v s (p + 1) := hr2.keeps (Keeps.put w2 ⟨w.heap.size, 0, none⟩ _) (by show ¬ b = w.heap.size; omega) fun g hg => by have := hgl g hg; show ¬ g = w.heap.size; omega
  have HB3 := Lib.hid hb3
  have HK3 := Lib.hid hk3
  have HR3 := Lib.hid hr3
  have HGL := Lib.hid hgl
  clear hb2 hr2 hk2 hk02 hb3 hk3 hr3 d1 hgl
  go_wp2_with (first | (go_at_call 39; refine Stop.out ?_))
  refine ⟨(rtext_any HR3.out).mono ?_⟩
  intro e w4 hr
  rcases hr.split with ⟨l, c, k, E, hb, rfl, hg⟩ | ⟨n, u, p2, hb, rfl, rfl, hr4, hk4⟩
  · exact ⟨rfl, gaveW (by rw [HB.out, hb]; rfl) rfl (hg.ahead HK3.out)⟩
  have HE : Hid (pLeaf (s.drop p) = .ok (frA n, s.drop p2)) := Lib.hid (by rw [HB.out, hb]; rfl)
  have hb4 := HB3.out.keeps hk4 (by omega)
  have hk4a : Keeps (fun y => y = b) w w4 := HK3.out.trans hk4 fun _ _ h => h
  have y1 : w4.cell? ⟨w.heap.size, 2, none⟩ = some (.string ⟨#[]⟩) := hb4.cell (i := 2) rfl
  have g1 : w4.frozen? ⟨w.heap.size, 2, none⟩ = false := hb4.free 2
  have hb5 := hb4.set 2 (.string n)
  have HR4 := Lib.hid (hr4.keeps (Keeps.put w4 ⟨w.heap.size, 2, none⟩ (.string n)) (by show ¬ b = w.heap.size; omega) fun g hg => by have := HGL.out g hg; show ¬ g = w.heap.size; omega)
  have HK4 : Hid (Keeps (fun y => y = b) w (w4.setCell ⟨w.heap.size, 2, none⟩ (.string n))) := Lib.hid (hk4a.setCell (fun h => absurd h (Nat.lt_irrefl _)) _)
  have q0 : (w4.setCell ⟨w.heap.size, 2, none⟩ (.string n)).cell? ⟨w.heap.size, 0, none⟩ = some (.int .i64 2) := hb5.cell (i := 0) rfl
  have q1 : (w4.setCell ⟨w.heap.size, 2, none⟩ (.string n)).cell? ⟨w.heap.size, 1, none⟩ = some (.int .i64 0) := hb5.cell (i := 1) rfl
  have q2 : (w4.setCell ⟨w.heap.size, 2, none⟩ (.string n)).cell? ⟨w.heap.size, 2, none⟩ = some (.string n) := hb5.cell (i := 2) rfl
  have q3 : (w4.setCell ⟨w.heap.size, 2, none⟩ (.string n)).cell? ⟨w.heap.size, 3, none⟩ = some (.slice none 0 0) := hb5.cell (i := 3) rfl
  have q4 : (w4.setCell ⟨w.heap.size, 2, none⟩ (.string n)).cell? ⟨w.heap.size, 4, none⟩ = some (.slice none 0 0) := hb5.cell (i := 4) rfl
  have q5 : (w4.setCell ⟨w.heap.size, 2, none⟩ (.string n)).cell? ⟨w.heap.size, 5, none⟩ = some (.slice none 0 0) := hb5.cell (i := 5) rfl
  have f0 := hb5.free 0
  have f1 := hb5.free 1
  have f2 := hb5.free 2
  have f3 := hb5.free 3
  have f4 := hb5.free 4
  have f5 := hb5.free 5
  have HB4 := Lib.hid hb5
  clear hb4 hb5 hk4 hk4a hr4 hr hb
  go_wp2
  have hb8 := Blk.six HB4.out (.int .i64 2) (.int .i64 0) (.string n) (.slice none 0 0) (.slice none 0 0) (.slice none 0 0)
  have h8 := Keeps.six (w4.setCell ⟨w.heap.size, 2, none⟩ (.string n)) w.heap.size (.int .i64 2) (.int .i64 0) (.string n) (.slice none 0 0) (.slice none 0 0) (.slice none 0 0)
  refine bodyPost_ret (results_cellT rfl _ ⟨w.heap.size, 0, none⟩ rfl _ (load_at hb8)) rfl (doneW HE.out ⟨_, rfl, BytesD.none _ _⟩ rfl (HR4.out.keeps h8 (by show ¬ b = w.heap.size; omega) fun g hg => by have := HGL.out g hg; show ¬ g = w.heap.size; omega) (HK4.out.trans h8 fun y hy h => by omega))
set_option maxRecDepth 100000 in
set_option maxHeartbeats 1600000 in
theorem leaf_count5 {w : World} {b : Nat} {v : Value} {s : List UInt8} {p : Nat} {x : UInt8} (h : RdAt w b v s p) (hx : s[p]? = some x) (hk : x.toNat = 5) :
    Calls Tryd.prog 51 #[.pointer (some ⟨b, 0, none⟩)] w (RdPostW w b v s (pLeaf (s.drop p)) (LeafR w)) := by
  have H := Lib.hid h
  have hbl : b < w.heap.size := h.1.lt
  have hgl := h.own_lt hx
  have d1 : (w.alloc (.cells zeroT.toArray 46)).cell? ⟨b, 1, none⟩ = some (.int .i64 p) := (h.1.alloc _).cell (i := 1) rfl
  have hp := h.2.2.1
  have hkn := x.toNat_lt
  have HB : Hid (pLeaf (s.drop p) = PR.then (pCount (s.drop (p + 1))) fun n r => .ok (frC 5 n, r)) := Lib.hid (by rw [rdrop_cons hx]; exact by rw [pLeaf_count (by omega), hk])
  clear h
  go_enter Tryd.func51, Tryd.ntmps51
  go_wp2_with (first | (go_at_call 37; refine Stop.out ?_))
  refine ⟨(byte_some (H.out.keeps ((Keeps.refl (fun _ => False) w).alloc _) (fun h => h) fun _ _ h => h) hx).mono ?_⟩
  rintro e w2 ⟨rfl, hr2, hk2⟩
  have hb2 : Blk w2 w.heap.size 46 zeroT := (Blk.new w zeroT 46).keeps hk2 (by omega)
  have hk02 : Keeps (fun y => y = b) w w2 := ((Keeps.refl (fun y => y = b) w).alloc _).trans hk2 fun _ _ h => h
  have hsz2 : w.heap.size < w2.heap.size := hb2.lt
  have f0 : w2.frozen? ⟨w.heap.size, 0, none⟩ = false := hb2.free 0
  have y0 : w2.cell? ⟨w.heap.size, 0, none⟩ = some (.int .i64 0) := hb2.cell (i := 0) rfl
  generalize x.toNat = xn at *
  subst hk
  have hb3 := hb2.set 0 (.int .i64 5)
  have hk3 : Keeps (fun y => y = b) w (w2.setCell ⟨w.heap.size, 0, none⟩ (.int .i64 5)) := hk02.setCell (fun h => absurd h (Nat.lt_irrefl _)) _
  have hr3 : RdAt (w2.setCell ⟨w.heap.size, 0, none⟩ (.int .i64 5)) b v s (p + 1) := hr2.keeps (Keeps.put w2 ⟨w.heap.size, 0, none⟩ _) (by show ¬ b = w.heap.size; omega) fun g hg => by have := hgl g hg; show ¬ g = w.heap.size; omega
  have HB3 := Lib.hid hb3
  have HK3 := Lib.hid hk3
  have HR3 := Lib.hid hr3
  have HGL := Lib.hid hgl
  clear hb2 hr2 hk2 hk02 hb3 hk3 hr3 d1 hgl
  go_wp2_with (first | (go_at_call 40; refine Stop.out ?_))
  refine ⟨(rcount_any HR3.out).mono ?_⟩
  intro e w4 hr
  rcases hr.split with ⟨l, c, k, E, hb, rfl, hg⟩ | ⟨n, u, p2, hb, rfl, ⟨rfl, _⟩, hr4, hk4⟩
  · exact ⟨rfl, gaveW (by rw [HB.out, hb]; rfl) rfl (hg.ahead HK3.out)⟩
  have HE : Hid (pLeaf (s.drop p) = .ok (frC 5 n, s.drop p2)) := Lib.hid (by rw [HB.out, hb]; rfl)
  have hb4 := HB3.out.keeps hk4 (by omega)
  have hk4a : Keeps (fun y => y = b) w w4 := HK3.out.trans hk4 fun _ _ h => h
  have HR4 := Lib.hid hr4
  have HK4 := Lib.hid hk4a
  have q0 : w4.cell? ⟨w.heap.size, 0, none⟩ = some (.int .i64 5) := hb4.cell (i := 0) rfl
  have q1 : w4.cell? ⟨w.heap.size, 1, none⟩ = some (.int .i64 0) := hb4.cell (i := 1) rfl
  have q2 : w4.cell? ⟨w.heap.size, 2, none⟩ = some (.string ⟨#[]⟩) := hb4.cell (i := 2) rfl
  have q3 : w4.cell? ⟨w.heap.size, 3, none⟩ = some (.slice none 0 0) := hb4.cell (i := 3) rfl
  have q4 : w4.cell? ⟨w.heap.size, 4, none⟩ = some (.slice none 0 0) := hb4.cell (i := 4) rfl
  have q5 : w4.cell? ⟨w.heap.size, 5, none⟩ = some (.slice none 0 0) := hb4.cell (i := 5) rfl
  have f0 := hb4.free 0
  have f1 := hb4.free 1
  have f2 := hb4.free 2
  have f3 := hb4.free 3
  have f4 := hb4.free 4
  have f5 := hb4.free 5
  have HB4 := Lib.hid hb4
  clear hb4 hk4 hk4a hr4 hr hb
  go_wp2
  have hb8 := Blk.six HB4.out (.int .i64 5) (.int .i64 0) (.string ⟨#[]⟩) (.slice none 0 0) (.slice none 0 0) (.slice none 0 0)
  have h8 := Keeps.six (w4) w.heap.size (.int .i64 5) (.int .i64 0) (.string ⟨#[]⟩) (.slice none 0 0) (.slice none 0 0) (.slice none 0 0)
  refine bodyPost_ret (results_cellT rfl _ ⟨w.heap.size, 0, none⟩ rfl _ (load_at hb8)) rfl (doneW HE.out ⟨_, rfl, BytesD.none _ _⟩ rfl (HR4.out.keeps h8 (by show ¬ b = w.heap.size; omega) fun g hg => by have := HGL.out g hg; show ¬ g = w.heap.size; omega) (HK4.out.trans h8 fun y hy h => by omega))
set_option maxRecDepth 100000 in
set_option maxHeartbeats 1600000 in
theorem leaf_count7 {w : World} {b : Nat} {v : Value} {s : List UInt8} {p : Nat} {x : UInt8} (h : RdAt w b v s p) (hx : s[p]? = some x) (hk : x.toNat = 7) :
    Calls Tryd.prog 51 #[.pointer (some ⟨b, 0, none⟩)] w (RdPostW w b v s (pLeaf (s.drop p)) (LeafR w)) := by
  have H := Lib.hid h
  have hbl : b < w.heap.size := h.1.lt
  have hgl := h.own_lt hx
  have d1 : (w.alloc (.cells zeroT.toArray 46)).cell? ⟨b, 1, none⟩ = some (.int .i64 p) := (h.1.alloc _).cell (i := 1) rfl
  have hp := h.2.2.1
  have hkn := x.toNat_lt
  have HB : Hid (pLeaf (s.drop p) = PR.then (pCount (s.drop (p + 1))) fun n r => .ok (frC 7 n, r)) := Lib.hid (by rw [rdrop_cons hx]; exact by rw [pLeaf_count (by omega), hk])
  clear h
  go_enter Tryd.func51, Tryd.ntmps51
  go_wp2_with (first | (go_at_call 37; refine Stop.out ?_))
  refine ⟨(byte_some (H.out.keeps ((Keeps.refl (fun _ => False) w).alloc _) (fun h => h) fun _ _ h => h) hx).mono ?_⟩
  rintro e w2 ⟨rfl, hr2, hk2⟩
  have hb2 : Blk w2 w.heap.size 46 zeroT := (Blk.new w zeroT 46).keeps hk2 (by omega)
  have hk02 : Keeps (fun y => y = b) w w2 := ((Keeps.refl (fun y => y = b) w).alloc _).trans hk2 fun _ _ h => h
  have hsz2 : w.heap.size < w2.heap.size := hb2.lt
  have f0 : w2.frozen? ⟨w.heap.size, 0, none⟩ = false := hb2.free 0
  have y0 : w2.cell? ⟨w.heap.size, 0, none⟩ = some (.int .i64 0) := hb2.cell (i := 0) rfl
  generalize x.toNat = xn at *
  subst hk
  have hb3 := hb2.set 0 (.int .i64 7)
  have hk3 : Keeps (fun y => y = b) w (w2.setCell ⟨w.heap.size, 0, none⟩ (.int .i64 7)) := hk02.setCell (fun h => absurd h (Nat.lt_irrefl _)) _
  have hr3 : RdAt (w2.setCell ⟨w.heap.size, 0, none⟩ (.int .i64 7)) b v s (p + 1) := hr2.keeps (Keeps.put w2 ⟨w.heap.size, 0, none⟩ _) (by show ¬ b = w.heap.size; omega) fun g hg => by have := hgl g hg; show ¬ g = w.heap.size; omega
  have HB3 := Lib.hid hb3
  have HK3 := Lib.hid hk3
  have HR3 := Lib.hid hr3
  have HGL := Lib.hid hgl
  clear hb2 hr2 hk2 hk02 hb3 hk3 hr3 d1 hgl
  go_wp2_with (first | (go_at_call 40; refine Stop.out ?_))
  refine ⟨(rcount_any HR3.out).mono ?_⟩
  intro e w4 hr
  rcases hr.split with ⟨l, c, k, E, hb, rfl, hg⟩ | ⟨n, u, p2, hb, rfl, ⟨rfl, _⟩, hr4, hk4⟩
  · exact ⟨rfl, gaveW (by rw [HB.out, hb]; rfl) rfl (hg.ahead HK3.out)⟩
  have HE : Hid (pLeaf (s.drop p) = .ok (frC 7 n, s.drop p2)) := Lib.hid (by rw [HB.out, hb]; rfl)
  have hb4 := HB3.out.keeps hk4 (by omega)
  have hk4a : Keeps (fun y => y = b) w w4 := HK3.out.trans hk4 fun _ _ h => h
  have HR4 := Lib.hid hr4
  have HK4 := Lib.hid hk4a
  have q0 : w4.cell? ⟨w.heap.size, 0, none⟩ = some (.int .i64 7) := hb4.cell (i := 0) rfl
  have q1 : w4.cell? ⟨w.heap.size, 1, none⟩ = some (.int .i64 0) := hb4.cell (i := 1) rfl
  have q2 : w4.cell? ⟨w.heap.size, 2, none⟩ = some (.string ⟨#[]⟩) := hb4.cell (i := 2) rfl
  have q3 : w4.cell? ⟨w.heap.size, 3, none⟩ = some (.slice none 0 0) := hb4.cell (i := 3) rfl
  have q4 : w4.cell? ⟨w.heap.size, 4, none⟩ = some (.slice none 0 0) := hb4.cell (i := 4) rfl
  have q5 : w4.cell? ⟨w.heap.size, 5, none⟩ = some (.slice none 0 0) := hb4.cell (i := 5) rfl
  have f0 := hb4.free 0
  have f1 := hb4.free 1
  have f2 := hb4.free 2
  have f3 := hb4.free 3
  have f4 := hb4.free 4
  have f5 := hb4.free 5
  have HB4 := Lib.hid hb4
  clear hb4 hk4 hk4a hr4 hr hb
  go_wp2
  have hb8 := Blk.six HB4.out (.int .i64 7) (.int .i64 0) (.string ⟨#[]⟩) (.slice none 0 0) (.slice none 0 0) (.slice none 0 0)
  have h8 := Keeps.six (w4) w.heap.size (.int .i64 7) (.int .i64 0) (.string ⟨#[]⟩) (.slice none 0 0) (.slice none 0 0) (.slice none 0 0)
  refine bodyPost_ret (results_cellT rfl _ ⟨w.heap.size, 0, none⟩ rfl _ (load_at hb8)) rfl (doneW HE.out ⟨_, rfl, BytesD.none _ _⟩ rfl (HR4.out.keeps h8 (by show ¬ b = w.heap.size; omega) fun g hg => by have := HGL.out g hg; show ¬ g = w.heap.size; omega) (HK4.out.trans h8 fun y hy h => by omega))
set_option maxRecDepth 100000 in
set_option maxHeartbeats 1600000 in
theorem leaf_nil {w : World} {b : Nat} {v : Value} {s : List UInt8} {p : Nat} {x : UInt8} (h : RdAt w b v s p) (hx : s[p]? = some x) (hk : x.toNat = 6) :
    Calls Tryd.prog 51 #[.pointer (some ⟨b, 0, none⟩)] w (RdPostW w b v s (pLeaf (s.drop p)) (LeafR w)) := by
  have H := Lib.hid h
  have hbl : b < w.heap.size := h.1.lt
  have hgl := h.own_lt hx
  have d1 : (w.alloc (.cells zeroT.toArray 46)).cell? ⟨b, 1, none⟩ = some (.int .i64 p) := (h.1.alloc _).cell (i := 1) rfl
  have hp := h.2.2.1
  have hkn := x.toNat_lt
  have HB : Hid (pLeaf (s.drop p) = .ok (frC 6 0, s.drop (p + 1))) := Lib.hid (by rw [rdrop_cons hx]; exact pLeaf_nil hk)
  clear h
  go_enter Tryd.func51, Tryd.ntmps51
  go_wp2_with (first | (go_at_call 37; refine Stop.out ?_))
  refine ⟨(byte_some (H.out.keeps ((Keeps.refl (fun _ => False) w).alloc _) (fun h => h) fun _ _ h => h) hx).mono ?_⟩
  rintro e w2 ⟨rfl, hr2, hk2⟩
  have hb2 : Blk w2 w.heap.size 46 zeroT := (Blk.new w zeroT 46).keeps hk2 (by omega)
  have hk02 : Keeps (fun y => y = b) w w2 := ((Keeps.refl (fun y => y = b) w).alloc _).trans hk2 fun _ _ h => h
  have hsz2 : w.heap.size < w2.heap.size := hb2.lt
  have f0 : w2.frozen? ⟨w.heap.size, 0, none⟩ = false := hb2.free 0
  have y0 : w2.cell? ⟨w.heap.size, 0, none⟩ = some (.int .i64 0) := hb2.cell (i := 0) rfl
  generalize x.toNat = xn at *
  subst hk
  have hb3 := hb2.set 0 (.int .i64 6)
  have hk3 : Keeps (fun y => y = b) w (w2.setCell ⟨w.heap.size, 0, none⟩ (.int .i64 6)) := hk02.setCell (fun h => absurd h (Nat.lt_irrefl _)) _
  have hr3 : RdAt (w2.setCell ⟨w.heap.size, 0, none⟩ (.int .i64 6)) b v s (p + 1) := hr2.keeps (Keeps.put w2 ⟨w.heap.size, 0, none⟩ _) (by show ¬ b = w.heap.size; omega) fun g hg => by have := hgl g hg; show ¬ g = w.heap.size; omega
  have HB3 := Lib.hid hb3
  have HK3 := Lib.hid hk3
  have HR3 := Lib.hid hr3
  have HGL := Lib.hid hgl
  clear hb2 hr2 hk2 hk02 hb3 hk3 hr3 d1 hgl
  have HE := Lib.hid HB.out
  have HR4 := Lib.hid HR3.out
  have HK4 := Lib.hid HK3.out
  have q0 : (w2.setCell ⟨w.heap.size, 0, none⟩ (.int .i64 6)).cell? ⟨w.heap.size, 0, none⟩ = some (.int .i64 6) := HB3.out.cell (i := 0) rfl
  have q1 : (w2.setCell ⟨w.heap.size, 0, none⟩ (.int .i64 6)).cell? ⟨w.heap.size, 1, none⟩ = some (.int .i64 0) := HB3.out.cell (i := 1) rfl
  have q2 : (w2.setCell ⟨w.heap.size, 0, none⟩ (.int .i64 6)).cell? ⟨w.heap.size, 2, none⟩ = some (.string ⟨#[]⟩) := HB3.out.cell (i := 2) rfl
  have q3 : (w2.setCell ⟨w.heap.size, 0, none⟩ (.int .i64 6)).cell? ⟨w.heap.size, 3, none⟩ = some (.slice none 0 0) := HB3.out.cell (i := 3) rfl
  have q4 : (w2.setCell ⟨w.heap.size, 0, none⟩ (.int .i64 6)).cell? ⟨w.heap.size, 4, none⟩ = some (.slice none 0 0) := HB3.out.cell (i := 4) rfl
  have q5 : (w2.setCell ⟨w.heap.size, 0, none⟩ (.int .i64 6)).cell? ⟨w.heap.size, 5, none⟩ = some (.slice none 0 0) := HB3.out.cell (i := 5) rfl
  have f0 := HB3.out.free 0
  have f1 := HB3.out.free 1
  have f2 := HB3.out.free 2
  have f3 := HB3.out.free 3
  have f4 := HB3.out.free 4
  have f5 := HB3.out.free 5
  have HB4 := Lib.hid HB3.out
  go_wp2
  have hb8 := Blk.six HB4.out (.int .i64 6) (.int .i64 0) (.string ⟨#[]⟩) (.slice none 0 0) (.slice none 0 0) (.slice none 0 0)
  have h8 := Keeps.six (w2.setCell ⟨w.heap.size, 0, none⟩ (.int .i64 6)) w.heap.size (.int .i64 6) (.int .i64 0) (.string ⟨#[]⟩) (.slice none 0 0) (.slice none 0 0) (.slice none 0 0)
  refine bodyPost_ret (results_cellT rfl _ ⟨w.heap.size, 0, none⟩ rfl _ (load_at hb8)) rfl (doneW HE.out ⟨_, rfl, BytesD.none _ _⟩ rfl (HR4.out.keeps h8 (by show ¬ b = w.heap.size; omega) fun g hg => by have := HGL.out g hg; show ¬ g = w.heap.size; omega) (HK4.out.trans h8 fun y hy h => by omega))
set_option maxRecDepth 100000 in
set_option maxHeartbeats 1600000 in
theorem leaf_bin {w : World} {b : Nat} {v : Value} {s : List UInt8} {p : Nat} {x : UInt8} (h : RdAt w b v s p) (hx : s[p]? = some x) (hk : x.toNat = 8) :
    Calls Tryd.prog 51 #[.pointer (some ⟨b, 0, none⟩)] w (RdPostW w b v s (pLeaf (s.drop p)) (LeafR w)) := by
  have H := Lib.hid h
  have hbl : b < w.heap.size := h.1.lt
  have hgl := h.own_lt hx
  have d1 : (w.alloc (.cells zeroT.toArray 46)).cell? ⟨b, 1, none⟩ = some (.int .i64 p) := (h.1.alloc _).cell (i := 1) rfl
  have hp := h.2.2.1
  have hkn := x.toNat_lt
  have HB : Hid (pLeaf (s.drop p) = PR.then (pText (s.drop (p + 1))) fun t r => .ok (frB t, r)) := Lib.hid (by rw [rdrop_cons hx]; exact pLeaf_bin hk)
  clear h
  go_enter Tryd.func51, Tryd.ntmps51
  go_wp2_with (first | (go_at_call 37; refine Stop.out ?_))
  refine ⟨(byte_some (H.out.keeps ((Keeps.refl (fun _ => False) w).alloc _) (fun h => h) fun _ _ h => h) hx).mono ?_⟩
  rintro e w2 ⟨rfl, hr2, hk2⟩
  have hb2 : Blk w2 w.heap.size 46 zeroT := (Blk.new w zeroT 46).keeps hk2 (by omega)
  have hk02 : Keeps (fun y => y = b) w w2 := ((Keeps.refl (fun y => y = b) w).alloc _).trans hk2 fun _ _ h => h
  have hsz2 : w.heap.size < w2.heap.size := hb2.lt
  have f0 : w2.frozen? ⟨w.heap.size, 0, none⟩ = false := hb2.free 0
  have y0 : w2.cell? ⟨w.heap.size, 0, none⟩ = some (.int .i64 0) := hb2.cell (i := 0) rfl
  generalize x.toNat = xn at *
  subst hk
  have hb3 := hb2.set 0 (.int .i64 8)
  have hk3 : Keeps (fun y => y = b) w (w2.setCell ⟨w.heap.size, 0, none⟩ (.int .i64 8)) := hk02.setCell (fun h => absurd h (Nat.lt_irrefl _)) _
  have hr3 : RdAt (w2.setCell ⟨w.heap.size, 0, none⟩ (.int .i64 8)) b v s (p + 1) := hr2.keeps (Keeps.put w2 ⟨w.heap.size, 0, none⟩ _) (by show ¬ b = w.heap.size; omega) fun g hg => by have := hgl g hg; show ¬ g = w.heap.size; omega
  have HB3 := Lib.hid hb3
  have HK3 := Lib.hid hk3
  have HR3 := Lib.hid hr3
  have HGL := Lib.hid hgl
  clear hb2 hr2 hk2 hk02 hb3 hk3 hr3 d1 hgl
  go_wp2_with (first | (go_at_call 39; refine Stop.out ?_))
  refine ⟨(rtext_any HR3.out).mono ?_⟩
  intro e w4 hr
  rcases hr.split with ⟨l, c, k, E, hb, rfl, hg⟩ | ⟨n, u, p2, hb, rfl, rfl, hr4, hk4⟩
  · exact ⟨rfl, gaveW (by rw [HB.out, hb]; rfl) rfl (hg.ahead HK3.out)⟩
  have HE : Hid (pLeaf (s.drop p) = .ok (frB n, s.drop p2)) := Lib.hid (by rw [HB.out, hb]; rfl)
  have hb4 := HB3.out.keeps hk4 (by omega)
  have hk4a : Keeps (fun y => y = b) w w4 := HK3.out.trans hk4 fun _ _ h => h
  obtain ⟨c5, w5, kc, hd5, hk5, hsz5⟩ := conv_new w4 n (by have := (pText_back hb).2; omega)
  have hlt4 := hb4.lt
  have hb5' := hb4.keeps hk5 fun h => h
  have g1 : w5.frozen? ⟨w.heap.size, 5, none⟩ = false := hb5'.free 5
  have y1 : w5.cell? ⟨w.heap.size, 5, none⟩ = some (.slice none 0 0) := hb5'.cell (i := 5) rfl
  have hb5 := hb5'.set 5 (.slice (some ⟨w4.heap.size, 0, none⟩) n.size c5)
  have hk5a : Keeps (fun y => y = b) w w5 := hk4a.trans hk5 fun _ _ h => h.elim
  have HR4 := Lib.hid ((hr4.keeps hk5 (fun h => h) fun _ _ h => h).keeps (Keeps.put w5 ⟨w.heap.size, 5, none⟩ (.slice (some ⟨w4.heap.size, 0, none⟩) n.size c5)) (by show ¬ b = w.heap.size; omega) fun g hg => by have := HGL.out g hg; show ¬ g = w.heap.size; omega)
  have HK4 : Hid (Keeps (fun y => y = b) w (w5.setCell ⟨w.heap.size, 5, none⟩ (.slice (some ⟨w4.heap.size, 0, none⟩) n.size c5))) := Lib.hid (hk5a.setCell (fun h => absurd h (Nat.lt_irrefl _)) _)
  have HK5 := Lib.hid hk5
  have HD5 := Lib.hid hd5
  have q0 : (w5.setCell ⟨w.heap.size, 5, none⟩ (.slice (some ⟨w4.heap.size, 0, none⟩) n.size c5)).cell? ⟨w.heap.size, 0, none⟩ = some (.int .i64 8) := hb5.cell (i := 0) rfl
  have q1 : (w5.setCell ⟨w.heap.size, 5, none⟩ (.slice (some ⟨w4.heap.size, 0, none⟩) n.size c5)).cell? ⟨w.heap.size, 1, none⟩ = some (.int .i64 0) := hb5.cell (i := 1) rfl
  have q2 : (w5.setCell ⟨w.heap.size, 5, none⟩ (.slice (some ⟨w4.heap.size, 0, none⟩) n.size c5)).cell? ⟨w.heap.size, 2, none⟩ = some (.string ⟨#[]⟩) := hb5.cell (i := 2) rfl
  have q3 : (w5.setCell ⟨w.heap.size, 5, none⟩ (.slice (some ⟨w4.heap.size, 0, none⟩) n.size c5)).cell? ⟨w.heap.size, 3, none⟩ = some (.slice none 0 0) := hb5.cell (i := 3) rfl
  have q4 : (w5.setCell ⟨w.heap.size, 5, none⟩ (.slice (some ⟨w4.heap.size, 0, none⟩) n.size c5)).cell? ⟨w.heap.size, 4, none⟩ = some (.slice none 0 0) := hb5.cell (i := 4) rfl
  have q5 : (w5.setCell ⟨w.heap.size, 5, none⟩ (.slice (some ⟨w4.heap.size, 0, none⟩) n.size c5)).cell? ⟨w.heap.size, 5, none⟩ = some (.slice (some ⟨w4.heap.size, 0, none⟩) n.size c5) := hb5.cell (i := 5) rfl
  have f0 := hb5.free 0
  have f1 := hb5.free 1
  have f2 := hb5.free 2
  have f3 := hb5.free 3
  have f4 := hb5.free 4
  have f5 := hb5.free 5
  have HB4 := Lib.hid hb5
  clear hb4 hb5 hb5' hk4 hk4a hk5 hk5a hr4 hr hb hd5
  go_wp2
  have hb8 := Blk.six HB4.out (.int .i64 8) (.int .i64 0) (.string ⟨#[]⟩) (.slice none 0 0) (.slice none 0 0) (.slice (some ⟨w4.heap.size, 0, none⟩) n.size c5)
  have h8 := Keeps.six (w5.setCell ⟨w.heap.size, 5, none⟩ (.slice (some ⟨w4.heap.size, 0, none⟩) n.size c5)) w.heap.size (.int .i64 8) (.int .i64 0) (.string ⟨#[]⟩) (.slice none 0 0) (.slice none 0 0) (.slice (some ⟨w4.heap.size, 0, none⟩) n.size c5)
  have h8a := Keeps.put w5 ⟨w.heap.size, 5, none⟩ (.slice (some ⟨w4.heap.size, 0, none⟩) n.size c5)
  have h8b : Keeps (fun y => y = w.heap.size) w5 _ := h8a.trans h8 fun _ _ h => h
  refine bodyPost_ret (results_cellT rfl _ ⟨w.heap.size, 0, none⟩ rfl _ (load_at hb8)) rfl (doneW HE.out ⟨_, rfl, BytesD.laterN HD5.out h8b fun g hg => by obtain rfl := hg; exact ⟨⟨by omega, by have h1 := h8b.size; have h2 := HK5.out.size; omega⟩, by omega⟩⟩ rfl (HR4.out.keeps h8 (by show ¬ b = w.heap.size; omega) fun g hg => by have := HGL.out g hg; show ¬ g = w.heap.size; omega) (HK4.out.trans h8 fun y hy h => by omega))
set_option maxRecDepth 100000 in
set_option maxHeartbeats 1600000 in
theorem leaf_bad {w : World} {b : Nat} {v : Value} {s : List UInt8} {p : Nat} {x : UInt8} (h : RdAt w b v s p) (hx : s[p]? = some x) (hk : ¬ (x.toNat = 1 ∨ x.toNat = 2 ∨ x.toNat = 3 ∨ x.toNat = 4 ∨ x.toNat = 5 ∨ x.toNat = 6 ∨ x.toNat = 7 ∨ x.toNat = 8)) :
    Calls Tryd.prog 51 #[.pointer (some ⟨b, 0, none⟩)] w (RdPostW w b v s (pLeaf (s.drop p)) (LeafR w)) := by
  have H := Lib.hid h
  have hbl : b < w.heap.size := h.1.lt
  have hgl := h.own_lt hx
  have d1 : (w.alloc (.cells zeroT.toArray 46)).cell? ⟨b, 1, none⟩ = some (.int .i64 p) := (h.1.alloc _).cell (i := 1) rfl
  have hp := h.2.2.1
  have hkn := x.toNat_lt
  have HB : Hid (pLeaf (s.drop p) = .error ((s.drop (p + 1)).length + 1, [], 10)) := Lib.hid (by rw [rdrop_cons hx]; exact pLeaf_bad hk)
  clear h
  go_enter Tryd.func51, Tryd.ntmps51
  go_wp2_with (first | (go_at_call 37; refine Stop.out ?_))
  refine ⟨(byte_some (H.out.keeps ((Keeps.refl (fun _ => False) w).alloc _) (fun h => h) fun _ _ h => h) hx).mono ?_⟩
  rintro e w2 ⟨rfl, hr2, hk2⟩
  have hb2 : Blk w2 w.heap.size 46 zeroT := (Blk.new w zeroT 46).keeps hk2 (by omega)
  have hk02 : Keeps (fun y => y = b) w w2 := ((Keeps.refl (fun y => y = b) w).alloc _).trans hk2 fun _ _ h => h
  have hsz2 : w.heap.size < w2.heap.size := hb2.lt
  have f0 : w2.frozen? ⟨w.heap.size, 0, none⟩ = false := hb2.free 0
  have y0 : w2.cell? ⟨w.heap.size, 0, none⟩ = some (.int .i64 0) := hb2.cell (i := 0) rfl
  generalize x.toNat = xn at *
  have z1 : ((xn : Int) == 1) = false := by simp; omega
  have z2 : ((xn : Int) == 2) = false := by simp; omega
  have z3 : ((xn : Int) == 3) = false := by simp; omega
  have z4 : ((xn : Int) == 4) = false := by simp; omega
  have z5 : ((xn : Int) == 5) = false := by simp; omega
  have z6 : ((xn : Int) == 6) = false := by simp; omega
  have z7 : ((xn : Int) == 7) = false := by simp; omega
  have z8 : ((xn : Int) == 8) = false := by simp; omega

  have hb3 := hb2.set 0 (.int .i64 (xn : Int))
  have hk3 : Keeps (fun y => y = b) w (w2.setCell ⟨w.heap.size, 0, none⟩ (.int .i64 (xn : Int))) := hk02.setCell (fun h => absurd h (Nat.lt_irrefl _)) _
  have hr3 : RdAt (w2.setCell ⟨w.heap.size, 0, none⟩ (.int .i64 (xn : Int))) b v s (p + 1) := hr2.keeps (Keeps.put w2 ⟨w.heap.size, 0, none⟩ _) (by show ¬ b = w.heap.size; omega) fun g hg => by have := hgl g hg; show ¬ g = w.heap.size; omega
  have HB3 := Lib.hid hb3
  have HK3 := Lib.hid hk3
  have HR3 := Lib.hid hr3
  have HGL := Lib.hid hgl
  clear hb2 hr2 hk2 hk02 hb3 hk3 hr3 d1 hgl
  have hpl := (List.getElem?_eq_some_iff.1 hx).1
  go_wp2_with (first | (go_at_call 38; refine Stop.out ?_))
  refine ⟨(fail_kind _ b _ _ _).mono ?_⟩
  rintro e w4 ⟨E, rfl, hE, hk4⟩
  have hg : GaveUp (w2.setCell ⟨w.heap.size, 0, none⟩ (.int .i64 (xn : Int))) b p [] 10 _ w4 := ⟨E, rfl, hE, hk4⟩
  exact ⟨rfl, gaveW HB.out (by rw [List.length_drop]; omega) (hg.ahead HK3.out)⟩
set_option maxRecDepth 100000 in
set_option maxHeartbeats 1600000 in
theorem leaf_end {w : World} {b : Nat} {v : Value} {s : List UInt8} {p : Nat} (h : RdAt w b v s p) (hx : s[p]? = none) :
    Calls Tryd.prog 51 #[.pointer (some ⟨b, 0, none⟩)] w (RdPostW w b v s (pLeaf (s.drop p)) (LeafR w)) := by
  have H := Lib.hid h
  have d1 : (w.alloc (.cells zeroT.toArray 46)).cell? ⟨b, 1, none⟩ = some (.int .i64 p) := (h.1.alloc _).cell (i := 1) rfl
  have hp : p = s.length := by have := h.2.2.1; have := List.getElem?_eq_none_iff.1 hx; omega
  clear h
  go_enter Tryd.func51, Tryd.ntmps51
  go_wp2_with (first | (go_at_call 37; refine Stop.out ?_))
  refine ⟨(byte_none (H.out.keeps ((Keeps.refl (fun _ => False) w).alloc _) (fun h => h) fun _ _ h => h) hp).mono ?_⟩
  rintro e w4 ⟨E, rfl, hE, hk4⟩
  have hg : GaveUp (w.alloc (.cells zeroT.toArray 46)) b p [] 10 _ w4 := ⟨E, rfl, hE, hk4⟩
  exact ⟨rfl, gaveW (l := 0) (by first | rfl | (rw [hp, List.drop_length]; rfl)) (by omega) (hg.ahead ((Keeps.refl _ w).alloc _))⟩
theorem leaf_any {w : World} {b : Nat} {v : Value} {s : List UInt8} {p : Nat} (h : RdAt w b v s p) :
    Calls Tryd.prog 51 #[.pointer (some ⟨b, 0, none⟩)] w (RdPostW w b v s (pLeaf (s.drop p)) (LeafR w)) := by
  cases hx : s[p]? with
  | none => exact leaf_end h hx
  | some x =>
    by_cases hk : x.toNat = 1 ∨ x.toNat = 2 ∨ x.toNat = 3 ∨ x.toNat = 4 ∨ x.toNat = 5 ∨ x.toNat = 6 ∨ x.toNat = 7 ∨ x.toNat = 8
    · rcases hk with hk | hk | hk | hk | hk | hk | hk | hk
      · exact leaf_int1 h hx hk
      · exact leaf_atom h hx hk
      · exact leaf_int3 h hx hk
      · exact leaf_int4 h hx hk
      · exact leaf_count5 h hx hk
      · exact leaf_nil h hx hk
      · exact leaf_count7 h hx hk
      · exact leaf_bin h hx hk
    · exact leaf_bad h hx hk
end Go.Proofs.YtgmieehheoknbaaDoor
end
section
/-
  code.Read: does a part more come?
-/
namespace Go.Tx
open Go Go.RowKit
/-- a reader has gone on, then one cell was set -/
def MoreSet (w : World) (b : Nat) (v : Value) (s : List UInt8) (p : Nat) (a : Addr) (st : Int) (u : Bool) (e : Ending) (w' : World) : Prop :=
  ∃ w1, e = .returned (.bool u) ∧ w' = w1.setCell a (.int .i64 st) ∧ RdAt w1 b v s p ∧ Keeps (fun y => y = b) w w1
end Go.Tx
namespace Go.Proofs.YtgmieehheoknbaaDoor
open Go.RowKit Go.Tx
set_option maxRecDepth 100000 in
set_option maxHeartbeats 1600000 in
theorem more_yes {w : World} {b g o : Nat} {l : Nat} (hl : 0 < l) (c6 : w.cell? ⟨g, o + 6, none⟩ = some (.int .i64 l)) :
    Calls Tryd.prog 52 #[.pointer (some ⟨b, 0, none⟩), .pointer (some ⟨g, o, none⟩)] w fun e w' => e = .returned (.bool true) ∧ w' = w := by
  have g1 : decide (0 < l) = true := decide_eq_true hl
  go_enter Tryd.func52, Tryd.ntmps52
  go_wp2
  go_ret
  exact ⟨rfl, rfl⟩
set_option maxRecDepth 100000 in
set_option maxHeartbeats 1600000 in
theorem more_leaf {w : World} {b g o : Nat} {k : Nat} (hk : k ≠ 7) (c0 : w.cell? ⟨g, o, none⟩ = some (.int .i64 k)) (c6 : w.cell? ⟨g, o + 6, none⟩ = some (.int .i64 (0 : Nat))) :
    Calls Tryd.prog 52 #[.pointer (some ⟨b, 0, none⟩), .pointer (some ⟨g, o, none⟩)] w fun e w' => e = .returned (.bool false) ∧ w' = w := by
  have g1 : ((k : Int) != 7) = true := by simp; omega
  go_enter Tryd.func52, Tryd.ntmps52
  go_wp2
  go_ret
  exact ⟨rfl, rfl⟩
set_option maxRecDepth 100000 in
set_option maxHeartbeats 1600000 in
theorem more_known {w : World} {b g o : Nat} {t : Nat} (ht : t ≠ 0) (c0 : w.cell? ⟨g, o, none⟩ = some (.int .i64 (7 : Nat))) (c6 : w.cell? ⟨g, o + 6, none⟩ = some (.int .i64 (0 : Nat))) (c7 : w.cell? ⟨g, o + 7, none⟩ = some (.int .i64 t)) :
    Calls Tryd.prog 52 #[.pointer (some ⟨b, 0, none⟩), .pointer (some ⟨g, o, none⟩)] w fun e w' => e = .returned (.bool false) ∧ w' = w := by
  have g1 : ((t : Int) != 0) = true := by simp; omega
  go_enter Tryd.func52, Tryd.ntmps52
  go_wp2
  go_ret
  exact ⟨rfl, rfl⟩
set_option maxRecDepth 100000 in
set_option maxHeartbeats 1600000 in
theorem more_end {w : World} {b g o : Nat} {v : Value} {s : List UInt8} {p : Nat} (h : RdAt w b v s p) (hx : s[p]? = none) (c0 : w.cell? ⟨g, o, none⟩ = some (.int .i64 (7 : Nat))) (c6 : w.cell? ⟨g, o + 6, none⟩ = some (.int .i64 (0 : Nat))) (c7 : w.cell? ⟨g, o + 7, none⟩ = some (.int .i64 (0 : Nat))) :
    Calls Tryd.prog 52 #[.pointer (some ⟨b, 0, none⟩), .pointer (some ⟨g, o, none⟩)] w (GaveUp w b p [] 10) := by
  have H := Lib.hid h
  have d1 : w.cell? ⟨b, 1, none⟩ = some (.int .i64 p) := h.1.cell (i := 1) rfl
  have hp : p = s.length := by have := h.2.2.1; have := List.getElem?_eq_none_iff.1 hx; omega
  clear h
  subst hp
  go_enter Tryd.func52, Tryd.ntmps52
  go_wp2_with (first | (go_at_call 37; refine Stop.out ?_))
  refine ⟨(byte_none H.out rfl).mono ?_⟩
  rintro e w4 ⟨E, rfl, hE, hk4⟩
  exact ⟨rfl, E, rfl, hE, hk4⟩
set_option maxRecDepth 100000 in
set_option maxHeartbeats 1600000 in
theorem more_none {w : World} {b g o : Nat} {v : Value} {s : List UInt8} {p : Nat} {x : UInt8} (h : RdAt w b v s p) (hx : s[p]? = some x) (hk : x.toNat = 0) (hg : g ≠ b) (c0 : w.cell? ⟨g, o, none⟩ = some (.int .i64 (7 : Nat))) (c6 : w.cell? ⟨g, o + 6, none⟩ = some (.int .i64 (0 : Nat))) (c7 : w.cell? ⟨g, o + 7, none⟩ = some (.int .i64 (0 : Nat))) (f7 : w.frozen? ⟨g, o + 7, none⟩ = false) :
    Calls Tryd.prog 52 #[.pointer (some ⟨b, 0, none⟩), .pointer (some ⟨g, o, none⟩)] w (MoreSet w b v s (p + 1) ⟨g, o + 7, none⟩ 2 false) := by
  have H := Lib.hid h
  have d1 : w.cell? ⟨b, 1, none⟩ = some (.int .i64 p) := h.1.cell (i := 1) rfl
  clear h
  go_enter Tryd.func52, Tryd.ntmps52
  go_wp2_with (first | (go_at_call 37; refine Stop.out ?_))
  refine ⟨(byte_some H.out hx).mono ?_⟩
  rintro e w2 ⟨rfl, hr2, hk2⟩
  have y7 : w2.cell? ⟨g, o + 7, none⟩ = some (.int .i64 (0 : Nat)) := hk2.cell c7 hg
  have z7 : w2.frozen? ⟨g, o + 7, none⟩ = false := (hk2.frozen (lt_cell c7) hg).trans f7
  have HR2 := Lib.hid hr2
  have HK2 := Lib.hid hk2
  clear hr2 hk2 c0 c6 c7 f7 d1
  generalize x.toNat = xn at *
  subst hk
  go_wp2
  go_ret
  exact ⟨w2, rfl, rfl, HR2.out, HK2.out⟩
set_option maxRecDepth 100000 in
set_option maxHeartbeats 1600000 in
theorem more_one {w : World} {b g o : Nat} {v : Value} {s : List UInt8} {p : Nat} {x : UInt8} (h : RdAt w b v s p) (hx : s[p]? = some x) (hk : x.toNat = 1) (hg : g ≠ b) (c0 : w.cell? ⟨g, o, none⟩ = some (.int .i64 (7 : Nat))) (c6 : w.cell? ⟨g, o + 6, none⟩ = some (.int .i64 (0 : Nat))) (c7 : w.cell? ⟨g, o + 7, none⟩ = some (.int .i64 (0 : Nat))) (f7 : w.frozen? ⟨g, o + 7, none⟩ = false) :
    Calls Tryd.prog 52 #[.pointer (some ⟨b, 0, none⟩), .pointer (some ⟨g, o, none⟩)] w (MoreSet w b v s (p + 1) ⟨g, o + 7, none⟩ 1 true) := by
  have H := Lib.hid h
  have d1 : w.cell? ⟨b, 1, none⟩ = some (.int .i64 p) := h.1.cell (i := 1) rfl
  clear h
  go_enter Tryd.func52, Tryd.ntmps52
  go_wp2_with (first | (go_at_call 37; refine Stop.out ?_))
  refine ⟨(byte_some H.out hx).mono ?_⟩
  rintro e w2 ⟨rfl, hr2, hk2⟩
  have y7 : w2.cell? ⟨g, o + 7, none⟩ = some (.int .i64 (0 : Nat)) := hk2.cell c7 hg
  have z7 : w2.frozen? ⟨g, o + 7, none⟩ = false := (hk2.frozen (lt_cell c7) hg).trans f7
  have HR2 := Lib.hid hr2
  have HK2 := Lib.hid hk2
  clear hr2 hk2 c0 c6 c7 f7 d1
  generalize x.toNat = xn at *
  subst hk
  go_wp2
  go_ret
  exact ⟨w2, rfl, rfl, HR2.out, HK2.out⟩
set_option maxRecDepth 100000 in
set_option maxHeartbeats 1600000 in
theorem more_bad {w : World} {b g o : Nat} {v : Value} {s : List UInt8} {p : Nat} {x : UInt8} (h : RdAt w b v s p) (hx : s[p]? = some x) (hk0 : ¬ x.toNat = 0) (hk1 : ¬ x.toNat = 1) (c0 : w.cell? ⟨g, o, none⟩ = some (.int .i64 (7 : Nat))) (c6 : w.cell? ⟨g, o + 6, none⟩ = some (.int .i64 (0 : Nat))) (c7 : w.cell? ⟨g, o + 7, none⟩ = some (.int .i64 (0 : Nat))) :
    Calls Tryd.prog 52 #[.pointer (some ⟨b, 0, none⟩), .pointer (some ⟨g, o, none⟩)] w (GaveUp w b p [] 10) := by
  have H := Lib.hid h
  have d1 : w.cell? ⟨b, 1, none⟩ = some (.int .i64 p) := h.1.cell (i := 1) rfl
  clear h
  go_enter Tryd.func52, Tryd.ntmps52
  go_wp2_with (first | (go_at_call 37; refine Stop.out ?_))
  refine ⟨(byte_some H.out hx).mono ?_⟩
  rintro e w2 ⟨rfl, hr2, hk2⟩
  have HK2 := Lib.hid hk2
  clear hr2 hk2 c0 c6 c7 d1
  generalize x.toNat = xn at *
  have g2 : ((xn : Int) == 0) = false := by simp; omega
  have g3 : ((xn : Int) == 1) = false := by simp; omega
  go_wp2_with (first | (go_at_call 38; refine Stop.out ?_))
  refine ⟨(fail_kind _ b _ _ _).mono ?_⟩
  rintro e w4 ⟨E, rfl, hE, hk4⟩
  exact ⟨rfl, GaveUp.ahead HK2.out ⟨E, rfl, hE, hk4⟩⟩
end Go.Proofs.YtgmieehheoknbaaDoor
end

import Derived.Test.YtgmieehheoknbaaDoorGo
import Derived.Test.YtgmieehheoknbaaDoorGa
import Derived.Lib.SlBytesConst
section
/-
  A module's bytes: what the Go code does (code.Write).
-/
namespace Go.Tx
open Go Go.RowKit
/-- the first literal that may not be -/
def firstLit : List Tm → Nat → ErrO
  | [], _ => none
  | t :: l, i => match rightTm t with
    | some (c, k) => some ((⟨#[119, 114, 105, 116, 101]⟩, (i : Int)) :: c, k)
    | none => firstLit l (i + 1)
/-- the first function that may not be -/
def firstFn : List Fnc → Nat → ErrO
  | [], _ => none
  | f :: l, i => if fnOk f then firstFn l (i + 1) else some ([(⟨#[119, 114, 105, 116, 101]⟩, (i : Int))], 1)
/-- what is wrong with a module -/
def errM (m : Md) : ErrO := match firstLit m.lits 0 with
  | some e => some e
  | none => firstFn m.funcs 0
/-- nothing that was there has turned; a slice in new memory -/
structure New (w wr : World) (v : Value) : Prop where
  keeps : Keeps (fun _ => False) w wr
  own : ∀ g, v.ownBlock = some g → w.heap.size ≤ g
theorem New.grown {w w1 w2 : World} {v v' : Value} (h : New w w1 v) (k : Grown w1 w2 v v') : New w w2 v' := by
  refine ⟨h.keeps.trans k.keeps fun b hb ho => by have := h.own b ho; omega, fun g hg => ?_⟩
  rcases k.own with e | e
  · exact h.own g (e ▸ hg)
  · exact Nat.le_trans h.keeps.size (e g hg)
theorem New.still {w w1 w2 : World} {v : Value} (h : New w w1 v) (k : Keeps (fun _ => False) w1 w2) : New w w2 v := ⟨h.keeps.trans k fun _ _ h => h, h.own⟩
def WritePost (m : Md) (w : World) (e : Ending) (w' : World) : Prop :=
  ∃ v er, e = .returned (.tuple #[v, er]) ∧ IsErrO w' (Fresh w w') er (errM m) ∧ (errM m = none → Bytes w' v (encM m)) ∧ (errM m ≠ none → v = .slice none 0 0) ∧ New w w' v
theorem writePost_err {m : Md} {w w' : World} {er : Value} {c : List (ByteArray × Int)} {k : Int} (he : errM m = some (c, k)) (h : IsErr w' (Fresh w w') er c k) (hc : c.length ≤ 9000) (hk : Keeps (fun _ => False) w w') :
    WritePost m w (.returned (.tuple #[.slice none 0 0, er])) w' :=
  ⟨_, _, rfl, by rw [he]; exact ⟨h, hc⟩, (fun h => by rw [he] at h; cases h), fun _ => rfl, hk, fun g hg => by simp [Value.ownBlock] at hg⟩
theorem writePost_ok {m : Md} {w w' : World} {v : Value} (he : errM m = none) (h : Bytes w' v (encM m)) (hn : New w w' v) : WritePost m w (.returned (.tuple #[v, .nilIface])) w' :=
  ⟨_, _, rfl, by rw [he]; exact rfl, fun _ => h, fun h => (h he).elim, hn⟩
theorem bytes_new {w : World} {g cap : Nat} {l : List UInt8} (hb : Blk w g 5 (byteV l)) (hc : cap = l.length) (hm : l.length ≤ maxLen) : Bytes w (.slice (some ⟨g, 0, none⟩) l.length cap) l := by
  subst hc
  refine ⟨by rw [byteV_length, Nat.mul_one], .inr ⟨g, _, _, rfl, Nat.zero_le _, hb, Nat.le_refl _, hm, by simp [byteV_length], ?_⟩⟩
  rw [Nat.mul_one]
  have : (byteV l).toArray.toList = byteV l := rfl
  rw [this, List.take_of_length_le (by rw [byteV_length]; exact Nat.le_refl _)]
theorem encB_len (s : ByteArray) : (encB s).length = (encN s.size).length + s.size := by
  rw [encB, List.length_append, Array.length_toList (xs := s.data)]
  rfl
theorem drop_at {α : Type} {l : List α} {i : Nat} {t : α} (h : l[i]? = some t) : l.drop i = t :: l.drop (i + 1) := by
  obtain ⟨hi, rfl⟩ := List.getElem?_eq_some_iff.1 h
  exact List.drop_eq_getElem_cons hi
theorem firstLit_ok {l : List Tm} {i : Nat} {t : Tm} (h : l[i]? = some t) (hr : rightTm t = none) : firstLit (l.drop i) i = firstLit (l.drop (i + 1)) (i + 1) := by
  rw [drop_at h, firstLit, hr]
theorem firstLit_bad {l : List Tm} {i : Nat} {t : Tm} {c : List (ByteArray × Int)} {k : Int} (h : l[i]? = some t) (hr : rightTm t = some (c, k)) : firstLit (l.drop i) i = some ((⟨#[119, 114, 105, 116, 101]⟩, (i : Int)) :: c, k) := by
  rw [drop_at h, firstLit, hr]
theorem firstFn_ok {l : List Fnc} {i : Nat} {f : Fnc} (h : l[i]? = some f) (hr : fnOk f = true) : firstFn (l.drop i) i = firstFn (l.drop (i + 1)) (i + 1) := by
  rw [drop_at h, firstFn, if_pos hr]
theorem firstFn_bad {l : List Fnc} {i : Nat} {f : Fnc} (h : l[i]? = some f) (hr : fnOk f = false) : firstFn (l.drop i) i = some ([(⟨#[119, 114, 105, 116, 101]⟩, (i : Int))], 1) := by
  rw [drop_at h, firstFn, if_neg (by rw [hr]; decide)]
/-- so many literals are written -/
def LitsAt (lits : List Tm) (q0 : List UInt8) (w0 : World) (b c : Value) (wr : World) : Prop :=
  ∃ (i : Nat) (q : List UInt8), c = .int .i64 i ∧ i ≤ lits.length ∧ firstLit lits 0 = firstLit (lits.drop i) i ∧ q = q0 ++ encTs (lits.take i) ∧ Bytes wr b q ∧ New w0 wr b
/-- so many functions are written -/
def FnsAt (funcs : List Fnc) (q0 : List UInt8) (w0 : World) (b c : Value) (wr : World) : Prop :=
  ∃ (i : Nat) (q : List UInt8), c = .int .i64 i ∧ i ≤ funcs.length ∧ firstFn funcs 0 = firstFn (funcs.drop i) i ∧ q = q0 ++ encFs (funcs.take i) ∧ Bytes wr b q ∧ New w0 wr b
/-- so many instructions are written -/
def CodeAt (code : List (Int × Int × Int × Int)) (q0 : List UInt8) (w0 : World) (v0 : Value) (b c : Value) (wr : World) : Prop :=
  ∃ (i : Nat) (q : List UInt8), c = .int .i64 i ∧ i ≤ code.length ∧ q = q0 ++ encIs (code.take i) ∧ Bytes wr b q ∧ Grown w0 wr v0 b
theorem insOk_op {p : Int × Int × Int × Int} (h : insOk p = true) : 0 ≤ p.1 ∧ p.1 ≤ 255 := by
  unfold insOk at h
  simp only [Bool.and_eq_true] at h
  exact of_decide_eq_true h.1
theorem byte_op {n : Nat} (h : n ≤ 255) : [Value.int .u8 (n : Int)] = byteV [UInt8.ofNat n] := by
  simp only [byteV, List.map_cons, List.map_nil, UInt8.toNat_ofNat']
  congr 2
  omega
theorem encS_ten {x : Int} (h1 : -9223372036854775808 ≤ x) (h2 : x ≤ 9223372036854775807) : (encS x).length ≤ 10 := encN_ten (zig_lt h1 h2)
theorem cells_marked (w1 : World) (C : Array Value) (e : TypeId) (fz : Nat × Nat) : ∀ j u, C.toList[j]? = some u → (w1.alloc (.cells C e fz)).cell? ⟨w1.heap.size, j, none⟩ = some u := by
  intro j u hu
  have h : (w1.alloc (.cells C e fz)).heap[w1.heap.size]? = some (.cells C e fz) := heap_alloc_new w1 _
  rw [Array.getElem?_toList] at hu
  unfold World.cell?
  simp only [h]
  exact hu
theorem New.of {w w1 w2 : World} {v v' : Value} (k : Keeps (fun _ => False) w w1) (h : Grown w1 w2 v v') (hv : ∀ g, v.ownBlock = some g → w.heap.size ≤ g) : New w w2 v' := New.grown ⟨k, hv⟩ h
end Go.Tx
namespace Go.Proofs.YtgmieehheoknbaaDoor
open Go.RowKit Go.Tx
set_option maxRecDepth 100000 in
set_option maxHeartbeats 1600000 in
theorem write_any {w : World} {S : Nat → Prop} {d : Nat} {v : Value} (m : Md) (h : MdD w S d v m) (hS : ∀ x, S x → x < w.heap.size) (hl : (encM m).length ≤ 70368744170000) :
    Calls Tryd.prog 8 #[v] w (WritePost m w) := by
  obtain ⟨nm, lits, funcs⟩ := m
  obtain ⟨vl, vf, rfl, hn, h1, h2⟩ := h
  simp only at hn h1 h2 ⊢
  have HS := Lib.hid hS
  have HL := Lib.hid hl
  have H1 := Lib.hid h1
  have H2 := Lib.hid h2
  obtain ⟨al, cl, rfl⟩ := h1.form
  obtain ⟨af, cf, rfl⟩ := h2.form
  have hll := h1.1
  have hfl := h2.1
  have hb0 := Lib.hid (Blk.new w [.string nm, .slice al lits.length cl, .slice af funcs.length cf] 25)
  have HC : Hid (∀ W, Keeps (fun _ => False) (w.alloc (.cells #[.string nm, .slice al lits.length cl, .slice af funcs.length cf] 25)) W → W.cell? ⟨w.heap.size, 0, none⟩ = some (.string nm) ∧ W.cell? ⟨w.heap.size, 1, none⟩ = some (.slice al lits.length cl)) := Lib.hid fun W hW =>
    ⟨(hb0.out.keeps hW fun h => h).cell (i := 0) rfl, (hb0.out.keeps hW fun h => h).cell (i := 1) rfl⟩
  have kcv : (convert 26 26 (.slice (some ⟨w.heap.size + 1, 0, none⟩) 4 4)).run Tryd.prog (((w.alloc (.cells #[.string nm, .slice al lits.length cl, .slice af funcs.length cf] 25)).alloc (.cells #[.int .u8 84, .int .u8 82, .int .u8 80, .int .u8 69] 5)).drew) =
      .ok (.slice (some ⟨w.heap.size + 1, 0, none⟩) 4 4) (((w.alloc (.cells #[.string nm, .slice al lits.length cl, .slice af funcs.length cf] 25)).alloc (.cells #[.int .u8 84, .int .u8 82, .int .u8 80, .int .u8 69] 5 (4, 5))).drew) := by
    have h := Lib.run_convert_bytes_const (P := Tryd.prog) (w.alloc (.cells #[.string nm, .slice al lits.length cl, .slice af funcs.length cf] 25)).drew 26 5 #[.int .u8 84, .int .u8 82, .int .u8 80, .int .u8 69] 4 4 Tryd.underlying26 Tryd.underlying5
    have e : (w.alloc (.cells #[.string nm, .slice al lits.length cl, .slice af funcs.length cf] 25)).drew.heap.size = w.heap.size + 1 := World.size_alloc ..
    rw [e] at h
    exact h
  clear hS hl h1 h2
  go_enter Tryd.func8, Tryd.ntmps8
  go_wp2_with (first | (show Code.wp _ (Code.region 1 _ _) _ _ _; refine Stop.out ?_))
  refine ⟨?_⟩
  refine wp_region_held_text (fun W => W.cell? ⟨w.heap.size, 0, none⟩ = some (.string nm) ∧ W.cell? ⟨w.heap.size, 1, none⟩ = some (.slice al lits.length cl)) [3, 6] (by kernel_rfl) (by kernel_rfl) (HC.out _ (Keeps.refl _ _).drew) ?_
  go_wp2_with (first | (refine wpH_loadG _ _ rfl _ rfl rfl _ _ (by kernel_rfl) rfl (fun _ h => h.1) (HC.out _ (by repeat (first | with_reducible exact Keeps.refl _ _ | with_reducible apply Keeps.drew | with_reducible apply Keeps.alloc))) ?_) | (refine wpH_walkG rfl ?_) | (refine held_fin (HC.out _ (by repeat (first | with_reducible exact Keeps.refl _ _ | with_reducible apply Keeps.drew | with_reducible apply Keeps.alloc))) ?_) | (refine wpH_nil ?_) | (with_reducible refine text_fin (by kernel_rfl) ?_) | (go_at_call 17; refine Stop.out ?_))
  have hbf : BytesF (((w.alloc (.cells #[.string nm, .slice al lits.length cl, .slice af funcs.length cf] 25)).alloc (.cells #[.int .u8 84, .int .u8 82, .int .u8 80, .int .u8 69] 5 (4, 5))).drew) (.slice (some ⟨w.heap.size + 1, 0, none⟩) 4 4) magic := by
    refine .inr ⟨w.heap.size + 1, rfl, fun j u hu => ?_⟩
    have h := cells_marked (w.alloc (.cells #[.string nm, .slice al lits.length cl, .slice af funcs.length cf] 25)) #[.int .u8 84, .int .u8 82, .int .u8 80, .int .u8 69] 5 (4, 5) j u hu
    rw [World.size_alloc] at h
    exact h
  refine ⟨(text_full nm (by omega) hbf (by decide) (by simp [magic]; omega)).mono ?_⟩
  rintro e w2 ⟨v2, q2, rfl, hq2, hb2, hg2⟩
  have hN2 : New (w.alloc (.cells #[.string nm, .slice al lits.length cl, .slice af funcs.length cf] 25)) w2 v2 := New.of (((Keeps.refl _ _).alloc _).drew) hg2 fun g hg => by
    have := Option.some.inj hg
    simp at this ⊢
    omega
  obtain ⟨a2, c2, rfl⟩ := hb2.form
  have hq2l : q2.length ≤ 1099511627800 := by
    have h1 := encN_ten (n := nm.size) (by omega)
    have h2 : magic.length = 4 := rfl
    rw [hq2, List.length_append, encB_len]
    omega
  have HN2 := Lib.hid hN2
  have HB2 := Lib.hid hb2
  have HQ2 := Lib.hid hq2
  clear hb2 hg2 hq2 hN2 hbf kcv
  go_wp2_with (first | (refine wpH_loadG _ _ rfl _ rfl rfl _ _ (by kernel_rfl) rfl (fun _ h => h.2) (HC.out _ HN2.out.keeps) ?_) | (refine wpH_walkG rfl ?_) | (refine held_fin (HC.out _ HN2.out.keeps) ?_) | (refine wpH_nil ?_) | (with_reducible refine text_fin (by kernel_rfl) ?_) | (go_at_call 16; refine Stop.out ?_))
  refine ⟨(number_any lits.length (by omega) HB2.out (by omega)).mono ?_⟩
  rintro e w3 ⟨v3, q3, rfl, hq3, hb3, hg3⟩
  have hN3 := HN2.out.grown hg3
  obtain ⟨a3, c3, rfl⟩ := hb3.form
  have hq3l : q3.length ≤ 1099511627900 := by
    have h1 := encN_ten (n := lits.length) (by omega)
    rw [hq3, List.length_append]
    omega
  have HN3 := Lib.hid hN3
  have HB3 := Lib.hid hb3
  have HQ3 := Lib.hid hq3
  clear hb3 hg3 hq3 hN3
  obtain ⟨w0, hw0⟩ : ∃ w0, w0 = w.alloc (.cells #[.string nm, .slice al lits.length cl, .slice af funcs.length cf] 25) := ⟨_, rfl⟩
  rw [← hw0] at HC HN2 HN3 hb0
  have hz0 : w0.heap.size = w.heap.size + 1 := by rw [hw0, World.size_alloc]
  have HZ0 := Lib.hid hz0
  have HW0 : Hid (Keeps (fun _ => False) w w0) := Lib.hid (by rw [hw0]; exact (Keeps.refl _ w).alloc _)
  clear hz0 hw0
  have hb3x := hb0.out.keeps HN3.out.keeps fun h => h
  have d1 : w3.cell? ⟨w.heap.size, 1, none⟩ = some (.slice al lits.length cl) := hb3x.cell (i := 1) rfl
  have d2 : w3.cell? ⟨w.heap.size, 2, none⟩ = some (.slice af funcs.length cf) := hb3x.cell (i := 2) rfl
  clear hb3x
  go_wp2_with (first | (refine wpH_walkG rfl ?_) | (refine held_fin (HC.out _ HN3.out.keeps) ?_) | (refine wpH_nil ?_) | (with_reducible refine text_fin (by kernel_rfl) ?_))
  clear d1 d2
  go_loopw [4, 25] (fun b c wr => LitsAt lits q3 w0 b c wr) (fun _ c _ => lits.length - (intOf c).toNat)
  case atStart => exact ⟨0, q3, rfl, Nat.zero_le _, rfl, by simp [encTs], HB3.out, HN3.out⟩
  case round =>
    obtain ⟨i, q4, rfl, hi, hfl4, hq4, hb4, hn4⟩ := hrel
    obtain ⟨a4, c4, rfl⟩ := hb4.form
    have HF4 := Lib.hid hfl4
    have HQ4 := Lib.hid hq4
    have HB4 := Lib.hid hb4
    have HN4 := Lib.hid hn4
    have hsw := hn4.keeps.size
    have HKW := Lib.hid (HW0.out.trans hn4.keeps fun _ _ h => h)
    have hszw := HZ0.out
    have hsw2 : w.heap.size + 1 ≤ wr.heap.size := by omega
    have HBX := Lib.hid (hb0.out.keeps hn4.keeps fun h => h)
    clear hfl4 hb4 hn4 hsw hszw
    by_cases hlt : i < lits.length
    · obtain ⟨t, hti⟩ : ∃ t, lits[i]? = some t := ⟨lits[i], by simp⟩
      have hbd : q4.length + (encT t).length ≤ 70368744177000 := by
        have h1 := HL.out
        have h2 := encTs_next hti
        simp only [encM, List.length_append] at h1
        rw [hq4, List.length_append, HQ3.out, List.length_append, HQ2.out, List.length_append]
        omega
      obtain ⟨_, _, _, e, _, hcm, hel⟩ := H1.out.keeps HKW.out (fun _ _ h => h)
      cases e
      obtain ⟨b, o, vi, vr, vb, rfl, hSb, ⟨e0, e1, e2, e3, e4, e5⟩, htm⟩ := hel i t hti
      obtain ⟨x3, k3, x4, k4, x5, k5, rfl, rfl, rfl⟩ := htm.slices
      have HTI := Lib.hid hti
      have HTM := Lib.hid htm
      have hbr : b < wr.heap.size := by have := HS.out b hSb; omega
      unfold maxLen at hcm
      clear hti htm hel hq4
      go_wp2_with (first | (go_at_call 18; refine Stop.out ?_))
      refine ⟨(right_any (HTM.out.keeps ((Keeps.refl (fun _ => False) wr).alloc (.cells #[.int .i64 t.kind, .int .i64 t.n, .string t.name, .slice x3 t.items.length k3, .slice x4 t.rest.length k4, .slice x5 t.bytes.size k5] 46)) fun _ _ h => h) (fun x hx => by have := HS.out x hx; simp; omega)).mono ?_⟩
      rintro e w5 ⟨v5, rfl, he5, hk5⟩
      unfold id
      have HK5 := Lib.hid (((Keeps.refl (fun _ => False) wr).alloc (.cells #[.int .i64 t.kind, .int .i64 t.n, .string t.name, .slice x3 t.items.length k3, .slice x4 t.rest.length k4, .slice x5 t.bytes.size k5] 46)).trans hk5 fun _ _ h => h)
      have hbe : Blk w5 wr.heap.size 46 [.int .i64 t.kind, .int .i64 t.n, .string t.name, .slice x3 t.items.length k3, .slice x4 t.rest.length k4, .slice x5 t.bytes.size k5] := (Blk.new wr _ _).keeps hk5 fun h => h
      clear e0 e1 e2 e3 e4 e5
      cases hr : rightTm t with
      | some x =>
        obtain ⟨ch, kd⟩ := x
        rw [hr] at he5
        obtain ⟨he5, hcl⟩ := he5
        obtain ⟨tt, u, rfl⟩ := he5.face
        have HE5 := Lib.hid (he5.mono fun g hg => (⟨by have := hg.1; rw [World.size_alloc] at this; omega, hg.2⟩ : Fresh w w5 g))
        have HR := Lib.hid hr
        have HCL := Lib.hid (right_few hr)
        clear he5 hk5 hbe hr hcl
        go_wp2_with (go_at_call 19; refine (at_any _ _ _ _ _).mono ?_; rintro e w6 ⟨rfl, rfl⟩)
        go_ret2
        have hee : errM ⟨nm, lits, funcs⟩ = some ((⟨#[119, 114, 105, 116, 101]⟩, (i : Int)) :: ch, kd) := by
          unfold errM
          simp only
          rw [HF4.out, firstLit_bad HTI.out HR.out]
        have hk6 : Keeps (fun _ => False) w w5 := HKW.out.trans HK5.out fun _ _ h => h
        exact writePost_err hee (HE5.out.wrapped _ _ (Keeps.refl _ _) hk6.size) (by have := HCL.out; simp; omega) (hk6.alloc _)
      | none =>
        rw [hr] at he5
        obtain rfl : v5 = .nilIface := he5
        have HR := Lib.hid hr
        have e0 : w5.cell? ⟨wr.heap.size, 0, none⟩ = some (.int .i64 t.kind) := hbe.cell (i := 0) rfl
        have e1 : w5.cell? ⟨wr.heap.size, 1, none⟩ = some (.int .i64 t.n) := hbe.cell (i := 1) rfl
        have e2 : w5.cell? ⟨wr.heap.size, 2, none⟩ = some (.string t.name) := hbe.cell (i := 2) rfl
        have e3 : w5.cell? ⟨wr.heap.size, 3, none⟩ = some (.slice x3 t.items.length k3) := hbe.cell (i := 3) rfl
        have e4 : w5.cell? ⟨wr.heap.size, 4, none⟩ = some (.slice x4 t.rest.length k4) := hbe.cell (i := 4) rfl
        have e5 : w5.cell? ⟨wr.heap.size, 5, none⟩ = some (.slice x5 t.bytes.size k5) := hbe.cell (i := 5) rfl
        clear hk5 hbe hr
        go_wp2_with (first | (go_at_call 20; refine Stop.out ?_))
        refine ⟨(enc_any d _ S _ _ q4 t (HB4.out.still HK5.out) (HTM.out.keeps HK5.out fun _ _ h => h) (right_okT HR.out) (fun x hx => by have := HS.out x hx; have := HK5.out.size; omega) (fun g hg hs => by have := HN4.out.own g hg; have := HS.out g hs; have := HZ0.out; omega) hbd).mono ?_⟩
        rintro e w7 ⟨v7, q7, rfl, hq7, hb7, hg7⟩
        have HB7 := Lib.hid hb7
        have HN7 := Lib.hid ((HN4.out.still HK5.out).grown hg7)
        have HQ7 := Lib.hid hq7
        clear hb7 hg7 hq7 e0 e1 e2 e3 e4 e5
        go_wp2
        refine ⟨⟨i + 1, q7, by go_num, by omega, ?_, ?_, HB7.out, HN7.out⟩, by simp [intOf]; omega⟩
        · rw [HF4.out, firstLit_ok HTI.out HR.out]
        · rw [HQ7.out, HQ4.out, encTs_take HTI.out, List.append_assoc]
    · obtain rfl : i = lits.length := by omega
      rw [List.take_length] at hq4
      have HQ4 := Lib.hid hq4
      clear hq4
      have hbx := HBX.out
      have d1 : wr.cell? ⟨w.heap.size, 1, none⟩ = some (.slice al lits.length cl) := hbx.cell (i := 1) rfl
      have d2 : wr.cell? ⟨w.heap.size, 2, none⟩ = some (.slice af funcs.length cf) := hbx.cell (i := 2) rfl
      clear hbx
      go_wp2_with (first | (go_at_call 16; refine Stop.out ?_))
      have hq4l : q4.length ≤ 70368744177000 := by
        have h1 := HL.out
        simp only [encM, List.length_append] at h1
        rw [HQ4.out, List.length_append, HQ3.out, List.length_append, HQ2.out, List.length_append]
        omega
      refine ⟨(number_any funcs.length (by omega) HB4.out (by omega)).mono ?_⟩
      rintro e w5 ⟨v5, q5, rfl, hq5, hb5, hg5⟩
      obtain ⟨a5, c5, rfl⟩ := hb5.form
      have HB5 := Lib.hid hb5
      have HN5 := Lib.hid (HN4.out.grown hg5)
      have HQ5 := Lib.hid hq5
      have hbx := hb0.out.keeps HN5.out.keeps fun h => h
      have d2 : w5.cell? ⟨w.heap.size, 2, none⟩ = some (.slice af funcs.length cf) := hbx.cell (i := 2) rfl
      clear hb5 hg5 hq5 hbx d1
      go_wp2
      clear d2
      go_loopw [4, 50] (fun b c wr => FnsAt funcs q5 w0 b c wr) (fun _ c _ => funcs.length - (intOf c).toNat)
      case atStart => exact ⟨0, q5, rfl, Nat.zero_le _, rfl, by simp [encFs], HB5.out, HN5.out⟩
      case round =>
        obtain ⟨i, q6, rfl, hi, hfn6, hq6, hb6, hn6⟩ := hrel
        obtain ⟨wo, rfl⟩ : ∃ wo : World, wo = wr := ⟨_, rfl⟩
        obtain ⟨a6, c6, rfl⟩ := hb6.form
        have HF6 := Lib.hid hfn6
        have HQ6 := Lib.hid hq6
        have HB6 := Lib.hid hb6
        have HN6 := Lib.hid hn6
        have HKW6 := Lib.hid (HW0.out.trans hn6.keeps fun _ _ h => h)
        have hsw6 := HKW6.out.size
        clear hfn6 hb6 hn6
        by_cases hlt : i < funcs.length
        · obtain ⟨f, hfi⟩ : ∃ f, funcs[i]? = some f := ⟨funcs[i], by simp⟩
          have hbd : q6.length + (encF f).length ≤ 70368744177000 := by
            have h1 := HL.out
            have h2 := encFs_next hfi
            simp only [encM, List.length_append] at h1
            rw [hq6, List.length_append, HQ5.out, List.length_append, HQ4.out, List.length_append, HQ3.out, List.length_append, HQ2.out, List.length_append]
            omega
          obtain ⟨_, _, _, e, _, hcm, hel⟩ := H2.out.keeps HKW6.out (fun _ _ h => h)
          cases e
          obtain ⟨hff, b, o, vc, rfl, hSb, ⟨e0, e1, e2, e3⟩, hcd⟩ := hel i f hfi
          obtain ⟨fn, fa, fs, cd⟩ := f
          obtain ⟨ac, cc, rfl⟩ := hcd.form
          simp only at e0 e1 e2 e3
          have HFI := Lib.hid hfi
          have HFF := Lib.hid hff
          have HCD := Lib.hid hcd
          have hbr : b < wo.heap.size := by have := HS.out b hSb; omega
          have hcdl := hcd.1
          simp only at hcdl
          unfold maxLen at hcm
          clear hfi hff hcd hel hq6
          go_wp2_with (first | (go_at_call 21; refine Stop.out ?_))
          refine ⟨(right_fn ⟨fn, fa, fs, cd⟩ HFF.out (HCD.out.keeps ((Keeps.refl (fun _ => False) wo).alloc (.cells #[.string fn, .int .i64 fa, .int .i64 fs, .slice ac cd.length cc] 51)) fun _ _ h => h) (fun x hx => by have := HS.out x hx; simp; omega)).mono ?_⟩
          rintro e w7 ⟨rfl, hk7⟩
          have HK7 := Lib.hid (((Keeps.refl (fun _ => False) wo).alloc (.cells #[.string fn, .int .i64 fa, .int .i64 fs, .slice ac cd.length cc] 51)).trans hk7 fun _ _ h => h)
          have HBF := Lib.hid ((Blk.new wo [.string fn, .int .i64 fa, .int .i64 fs, .slice ac cd.length cc] 51).keeps hk7 fun h => h)
          clear hk7 e0 e1 e2 e3
          cases hr : fnOk ⟨fn, fa, fs, cd⟩ with
          | false =>
            have HR := Lib.hid hr
            clear hr
            go_wp2_with (go_at_call 19; refine (at_any _ _ _ _ _).mono ?_; rintro e w8 ⟨rfl, rfl⟩)
            go_ret2
            have hee : errM ⟨nm, lits, funcs⟩ = some ([(⟨#[119, 114, 105, 116, 101]⟩, (i : Int))], 1) := by
              have hno : firstLit lits 0 = none := by rw [HF4.out]; simp [firstLit]
              unfold errM
              simp only
              rw [hno, HF6.out, firstFn_bad HFI.out HR.out]
            have hk8 : Keeps (fun _ => False) w w7 := HKW6.out.trans HK7.out fun _ _ h => h
            exact writePost_err hee (IsErr.wrapped (w := w7) (c := []) _ _ rfl (Keeps.refl _ _) hk8.size) (by simp) (hk8.alloc _)
          | true =>
            have HR := Lib.hid hr
            clear hr
            have HC2 : Hid (∀ W, Keeps (fun _ => False) w7 W → W.cell? ⟨wo.heap.size, 0, none⟩ = some (.string fn) ∧ W.cell? ⟨wo.heap.size, 1, none⟩ = some (.int .i64 fa) ∧ W.cell? ⟨wo.heap.size, 2, none⟩ = some (.int .i64 fs) ∧ W.cell? ⟨wo.heap.size, 3, none⟩ = some (.slice ac cd.length cc)) := Lib.hid fun W hW =>
              ⟨(HBF.out.keeps hW fun h => h).cell (i := 0) rfl, (HBF.out.keeps hW fun h => h).cell (i := 1) rfl, (HBF.out.keeps hW fun h => h).cell (i := 2) rfl, (HBF.out.keeps hW fun h => h).cell (i := 3) rfl⟩
            have hho : headOk ⟨fn, fa, fs, cd⟩ = true := by have := HR.out; unfold fnOk at this; simp only [Bool.and_eq_true] at this; exact this.1
            obtain ⟨fa0, fa1, fs0, fs1⟩ := of_decide_eq_true hho
            simp only at fa0 fa1 fs0 fs1
            obtain ⟨na, rfl⟩ := Int.eq_ofNat_of_zero_le fa0
            obtain ⟨ns, rfl⟩ := Int.eq_ofNat_of_zero_le fs0
            clear hho
            go_wp2_with (first | (show Code.wp _ (Code.region 16 _ _) _ _ _; refine Stop.out ?_))
            refine ⟨?_⟩
            have hbd' := hbd
            simp only [encF, encH, List.length_append, encB_len, Int.toNat_natCast] at hbd'
            have hfn := HFF.out.n1
            simp only at hfn
            refine wp_region_held_text (fun W => W.cell? ⟨wo.heap.size, 0, none⟩ = some (.string fn) ∧ W.cell? ⟨wo.heap.size, 1, none⟩ = some (.int .i64 (na : Int)) ∧ W.cell? ⟨wo.heap.size, 2, none⟩ = some (.int .i64 (ns : Int)) ∧ W.cell? ⟨wo.heap.size, 3, none⟩ = some (.slice ac cd.length cc)) [2, 5, 9, 13] (by kernel_rfl) (by kernel_rfl) (HC2.out _ (Keeps.refl _ _).drew) ?_
            have HB67 := Lib.hid (HB6.out.still HK7.out)
            go_wp2_with (first | (refine wpH_loadG _ _ rfl _ rfl rfl _ _ (by kernel_rfl) rfl (fun _ h => h.1) (HC2.out _ (Keeps.refl _ _).drew) ?_) | (refine wpH_walkG rfl ?_) | (refine held_fin (HC2.out _ (Keeps.refl _ _).drew) ?_) | (refine wpH_nil ?_) | (with_reducible refine text_fin (by kernel_rfl) ?_) | (go_at_call 17; refine Stop.out ?_))
            refine ⟨(text_any fn (by omega) (HB67.out.still (Keeps.refl _ _).drew) (by omega) (by omega)).mono ?_⟩
            rintro e w8 ⟨v8, q8, rfl, hq8, hb8, hg8⟩
            obtain ⟨a8, c8, rfl⟩ := hb8.form
            have hle8 : q8.length ≤ q6.length + (encB fn).length := by rw [hq8, List.length_append]; exact Nat.le_refl _
            rw [encB_len] at hle8
            have HB8 := Lib.hid hb8
            have HX8 : Hid (Grown w7 w8 (.slice a6 q6.length c6) (.slice a8 q8.length c8)) := Lib.hid (hg8.ahead (Keeps.refl _ _).drew)
            have HBW8 := Lib.hid (HBF.out.keeps HX8.out.keeps fun h => HBF.out.ne_row HB67.out (by decide) h rfl)
            have HC8 : Hid (w8.cell? ⟨wo.heap.size, 0, none⟩ = some (.string fn) ∧ w8.cell? ⟨wo.heap.size, 1, none⟩ = some (.int .i64 (na : Int)) ∧ w8.cell? ⟨wo.heap.size, 2, none⟩ = some (.int .i64 (ns : Int)) ∧ w8.cell? ⟨wo.heap.size, 3, none⟩ = some (.slice ac cd.length cc)) := Lib.hid ⟨HBW8.out.cell (i := 0) rfl, HBW8.out.cell (i := 1) rfl, HBW8.out.cell (i := 2) rfl, HBW8.out.cell (i := 3) rfl⟩
            have HQ8 := Lib.hid hq8
            clear hb8 hg8 hq8
            go_wp2_with (first | (refine wpH_loadG _ _ rfl _ rfl rfl _ _ (by kernel_rfl) rfl (fun _ h => h.2.1) (HC8.out) ?_) | (refine wpH_walkG rfl ?_) | (refine held_fin (HC8.out) ?_) | (refine wpH_nil ?_) | (with_reducible refine text_fin (by kernel_rfl) ?_) | (go_at_call 16; refine Stop.out ?_))
            refine ⟨(number_any na (by omega) HB8.out (by omega)).mono ?_⟩
            rintro e w9 ⟨v9, q9, rfl, hq9, hb9, hg9⟩
            obtain ⟨a9, c9, rfl⟩ := hb9.form
            have hle9 : q9.length ≤ q8.length + (encN na).length := by rw [hq9, List.length_append]; exact Nat.le_refl _
            have HB9 := Lib.hid hb9
            have HX9 : Hid (Grown w7 w9 (.slice a6 q6.length c6) (.slice a9 q9.length c9)) := Lib.hid (HX8.out.trans hg9)
            have HBW9 := Lib.hid (HBF.out.keeps HX9.out.keeps fun h => HBF.out.ne_row HB67.out (by decide) h rfl)
            have HC9 : Hid (w9.cell? ⟨wo.heap.size, 0, none⟩ = some (.string fn) ∧ w9.cell? ⟨wo.heap.size, 1, none⟩ = some (.int .i64 (na : Int)) ∧ w9.cell? ⟨wo.heap.size, 2, none⟩ = some (.int .i64 (ns : Int)) ∧ w9.cell? ⟨wo.heap.size, 3, none⟩ = some (.slice ac cd.length cc)) := Lib.hid ⟨HBW9.out.cell (i := 0) rfl, HBW9.out.cell (i := 1) rfl, HBW9.out.cell (i := 2) rfl, HBW9.out.cell (i := 3) rfl⟩
            have HQ9 := Lib.hid hq9
            clear hb9 hg9 hq9
            go_wp2_with (first | (refine wpH_loadG _ _ rfl _ rfl rfl _ _ (by kernel_rfl) rfl (fun _ h => h.2.2.1) (HC9.out) ?_) | (refine wpH_walkG rfl ?_) | (refine held_fin (HC9.out) ?_) | (refine wpH_nil ?_) | (with_reducible refine text_fin (by kernel_rfl) ?_) | (go_at_call 16; refine Stop.out ?_))
            refine ⟨(number_any ns (by omega) HB9.out (by omega)).mono ?_⟩
            rintro e w10 ⟨v10, q10, rfl, hq10, hb10, hg10⟩
            obtain ⟨a10, c10, rfl⟩ := hb10.form
            have hle10 : q10.length ≤ q9.length + (encN ns).length := by rw [hq10, List.length_append]; exact Nat.le_refl _
            have HB10 := Lib.hid hb10
            have HX10 : Hid (Grown w7 w10 (.slice a6 q6.length c6) (.slice a10 q10.length c10)) := Lib.hid (HX9.out.trans hg10)
            have HBW10 := Lib.hid (HBF.out.keeps HX10.out.keeps fun h => HBF.out.ne_row HB67.out (by decide) h rfl)
            have HC10 : Hid (w10.cell? ⟨wo.heap.size, 0, none⟩ = some (.string fn) ∧ w10.cell? ⟨wo.heap.size, 1, none⟩ = some (.int .i64 (na : Int)) ∧ w10.cell? ⟨wo.heap.size, 2, none⟩ = some (.int .i64 (ns : Int)) ∧ w10.cell? ⟨wo.heap.size, 3, none⟩ = some (.slice ac cd.length cc)) := Lib.hid ⟨HBW10.out.cell (i := 0) rfl, HBW10.out.cell (i := 1) rfl, HBW10.out.cell (i := 2) rfl, HBW10.out.cell (i := 3) rfl⟩
            have HQ10 := Lib.hid hq10
            clear hb10 hg10 hq10
            go_wp2_with (first | (refine wpH_loadG _ _ rfl _ rfl rfl _ _ (by kernel_rfl) rfl (fun _ h => h.2.2.2) (HC10.out) ?_) | (refine wpH_walkG rfl ?_) | (refine held_fin (HC10.out) ?_) | (refine wpH_nil ?_) | (with_reducible refine text_fin (by kernel_rfl) ?_) | (go_at_call 16; refine Stop.out ?_))
            refine ⟨(number_any cd.length (by omega) HB10.out (by omega)).mono ?_⟩
            rintro e w11 ⟨v11, q11, rfl, hq11, hb11, hg11⟩
            obtain ⟨a11, c11, rfl⟩ := hb11.form
            have hle11 : q11.length ≤ q10.length + (encN cd.length).length := by rw [hq11, List.length_append]; exact Nat.le_refl _
            have HB11 := Lib.hid hb11
            have HX11 : Hid (Grown w7 w11 (.slice a6 q6.length c6) (.slice a11 q11.length c11)) := Lib.hid (HX10.out.trans hg11)
            have HBW11 := Lib.hid (HBF.out.keeps HX11.out.keeps fun h => HBF.out.ne_row HB67.out (by decide) h rfl)
            have HC11 : Hid (w11.cell? ⟨wo.heap.size, 0, none⟩ = some (.string fn) ∧ w11.cell? ⟨wo.heap.size, 1, none⟩ = some (.int .i64 (na : Int)) ∧ w11.cell? ⟨wo.heap.size, 2, none⟩ = some (.int .i64 (ns : Int)) ∧ w11.cell? ⟨wo.heap.size, 3, none⟩ = some (.slice ac cd.length cc)) := Lib.hid ⟨HBW11.out.cell (i := 0) rfl, HBW11.out.cell (i := 1) rfl, HBW11.out.cell (i := 2) rfl, HBW11.out.cell (i := 3) rfl⟩
            have HQ11 := Lib.hid hq11
            clear hb11 hg11 hq11
            have d3 : w11.cell? ⟨wo.heap.size, 3, none⟩ = some (.slice ac cd.length cc) := HC11.out.2.2.2
            go_wp2_with (first | (refine wpH_loadG _ _ rfl _ rfl rfl _ _ (by kernel_rfl) rfl (fun _ h => h.1) (HC11.out) ?_) | (refine wpH_walkG rfl ?_) | (refine held_fin (HC11.out) ?_) | (refine wpH_nil ?_) | (with_reducible refine text_fin (by kernel_rfl) ?_))
            clear d3
            have HN11 := Lib.hid ((HN6.out.still HK7.out).grown HX11.out)
            go_loopw [4, 81] (fun b c wr => CodeAt cd q11 w11 (.slice a11 q11.length c11) b c wr) (fun _ c _ => cd.length - (intOf c).toNat)
            case atStart => exact ⟨0, q11, rfl, Nat.zero_le _, by simp [encIs], HB11.out, Grown.refl _ _⟩
            case round =>
              obtain ⟨j, q12, rfl, hj, hq12, hb12, hg12⟩ := hrel
              obtain ⟨a12, c12, rfl⟩ := hb12.form
              have HQ12 := Lib.hid hq12
              have HB12 := Lib.hid hb12
              have HX12 := Lib.hid (HX11.out.trans hg12)
              have HG12 := Lib.hid hg12
              clear hb12 hg12
              by_cases hjl : j < cd.length
              · obtain ⟨p, hpj⟩ : ∃ p, cd[j]? = some p := ⟨cd[j], by simp⟩
                have hbd2 : q12.length + (encI p).length ≤ 70368744177000 := by
                  have h2 := encIs_next hpj
                  rw [hq12, List.length_append]
                  omega
                have hokp : insOk p = true := by
                  have := HR.out
                  unfold fnOk at this
                  simp only [Bool.and_eq_true] at this
                  exact List.all_eq_true.1 this.2 p (List.mem_of_getElem? hpj)
                have hop := insOk_op hokp
                obtain ⟨_, _, _, e, _, hcm2, hel⟩ := (HCD.out.keeps HK7.out fun _ _ h => h).keeps HX12.out.keeps fun g hg he => by have := HN6.out.own g he; have := HS.out g hg; have := HZ0.out; omega
                cases e
                obtain ⟨⟨⟨p1, p2⟩, ⟨x1, x2⟩, ⟨y1, y2⟩, z1, z2⟩, b2, o2, rfl, hSb2, d0, d1, d2, d3⟩ := hel j p hpj
                obtain ⟨op, pa, pb, pc⟩ := p
                simp only at p1 p2 x1 x2 y1 y2 z1 z2 d0 d1 d2 d3 hop
                obtain ⟨op, rfl⟩ := Int.eq_ofNat_of_zero_le hop.1
                have hop : op ≤ 255 := by have := hop.2; omega
                have hbr2 : b2 < wr.heap.size := by have := HS.out b2 hSb2; have := HX12.out.keeps.size; have := HK7.out.size; omega
                have HPJ := Lib.hid hpj
                unfold maxLen at hcm2
                clear hpj hel hq12 hokp
                have HC3 : Hid (∀ W, Keeps (fun _ => False) (wr.alloc (.cells #[.int .i64 (op : Int), .int .i64 pa, .int .i64 pb, .int .i64 pc] 48)) W → W.cell? ⟨wr.heap.size, 0, none⟩ = some (.int .i64 (op : Int)) ∧ W.cell? ⟨wr.heap.size, 1, none⟩ = some (.int .i64 pa) ∧ W.cell? ⟨wr.heap.size, 2, none⟩ = some (.int .i64 pb) ∧ W.cell? ⟨wr.heap.size, 3, none⟩ = some (.int .i64 pc)) := Lib.hid fun W hW => by
                  have hb := (Blk.new wr [.int .i64 (op : Int), .int .i64 pa, .int .i64 pb, .int .i64 pc] 48).keeps hW fun h => h
                  exact ⟨hb.cell (i := 0) rfl, hb.cell (i := 1) rfl, hb.cell (i := 2) rfl, hb.cell (i := 3) rfl⟩
                go_wp2_with (first | (show Code.wp _ (Code.region 20 _ _) _ _ _; refine Stop.out ?_))
                refine ⟨?_⟩
                refine wp_region_held_text (fun W => W.cell? ⟨wr.heap.size, 0, none⟩ = some (.int .i64 (op : Int)) ∧ W.cell? ⟨wr.heap.size, 1, none⟩ = some (.int .i64 pa) ∧ W.cell? ⟨wr.heap.size, 2, none⟩ = some (.int .i64 pb) ∧ W.cell? ⟨wr.heap.size, 3, none⟩ = some (.int .i64 pc)) [2, 7, 10, 13] (by kernel_rfl) (by kernel_rfl) (HC3.out _ (Keeps.refl _ _).drew) ?_
                go_wp2_with (first | (refine wpH_loadG _ _ rfl _ rfl rfl _ _ (by kernel_rfl) rfl (fun _ h => h.1) (HC3.out _ (Keeps.refl _ _).drew) ?_) | (refine wpH_walkG rfl ?_) | (refine held_fin (HC3.out _ (by repeat (first | with_reducible exact Keeps.refl _ _ | with_reducible apply Keeps.drew | with_reducible apply Keeps.alloc))) ?_) | (refine wpH_nil ?_) | (with_reducible refine text_fin (by kernel_rfl) ?_) | (at_builtin; refine Stop.out ?_))
                refine ⟨?_⟩
                refine wpList_append_bytes rfl _ _ 26 26 rfl (.slice 5) info_u8 Tryd.underlying26 Tryd.underlying26 (by intro k h; cases h) (.slice a12 q12.length c12) q12 rfl (.inl (HB12.out.still ((((Keeps.refl _ wr).alloc _).alloc _).drew))) _ [.int .u8 (op : Int)] [UInt8.ofNat op] (byte_op hop) (Nat.succ_pos _) rfl (lenOf_slice _ _ _) (firstCells_at _ rfl (cells_newAt (by first | rfl | rw [World.size_alloc] | simp))) (by simp only [List.length_cons, List.length_nil]; omega) ?_
                intro v13 w13 q13 hq13 hb13 hg13
                obtain ⟨a13, c13, rfl⟩ := hb13.form
                have hle13 : q13.length ≤ q12.length + 1 := by rw [hq13, List.length_append]; exact Nat.le_refl _
                have HB13 := Lib.hid hb13
                have HY13 : Hid (Grown (wr.alloc (.cells #[.int .i64 (op : Int), .int .i64 pa, .int .i64 pb, .int .i64 pc] 48)) w13 (.slice a12 q12.length c12) (.slice a13 q13.length c13)) := Lib.hid (hg13.ahead (((Keeps.refl _ _).alloc _).drew))
                have HBI13 := Lib.hid ((Blk.new wr [.int .i64 (op : Int), .int .i64 pa, .int .i64 pb, .int .i64 pc] 48).keeps HY13.out.keeps fun h => by have := Row.lt HB12.out h; omega)
                have HC13 : Hid (w13.cell? ⟨wr.heap.size, 0, none⟩ = some (.int .i64 (op : Int)) ∧ w13.cell? ⟨wr.heap.size, 1, none⟩ = some (.int .i64 pa) ∧ w13.cell? ⟨wr.heap.size, 2, none⟩ = some (.int .i64 pb) ∧ w13.cell? ⟨wr.heap.size, 3, none⟩ = some (.int .i64 pc)) := Lib.hid ⟨HBI13.out.cell (i := 0) rfl, HBI13.out.cell (i := 1) rfl, HBI13.out.cell (i := 2) rfl, HBI13.out.cell (i := 3) rfl⟩
                have HQ13 := Lib.hid hq13
                clear hb13 hg13 hq13
                have hbd3 := hbd2
                simp only [encI, List.length_cons, List.length_append] at hbd3
                go_wp2_with (first | (refine wpH_loadG _ _ rfl _ rfl rfl _ _ (by kernel_rfl) rfl (fun _ h => h.2.1) (HC13.out) ?_) | (refine wpH_walkG rfl ?_) | (refine held_fin (HC13.out) ?_) | (refine wpH_nil ?_) | (with_reducible refine text_fin (by kernel_rfl) ?_) | (go_at_call 22; refine Stop.out ?_))
                refine ⟨(sign_any pa x1 x2 HB13.out (by omega)).mono ?_⟩
                rintro e w14 ⟨v14, q14, rfl, hq14, hb14, hg14⟩
                obtain ⟨a14, c14, rfl⟩ := hb14.form
                have hle14 : q14.length ≤ q13.length + (encS pa).length := by rw [hq14, List.length_append]; exact Nat.le_refl _
                have HB14 := Lib.hid hb14
                have HY14 : Hid (Grown (wr.alloc (.cells #[.int .i64 (op : Int), .int .i64 pa, .int .i64 pb, .int .i64 pc] 48)) w14 (.slice a12 q12.length c12) (.slice a14 q14.length c14)) := Lib.hid (HY13.out.trans hg14)
                have HBI14 := Lib.hid ((Blk.new wr [.int .i64 (op : Int), .int .i64 pa, .int .i64 pb, .int .i64 pc] 48).keeps HY14.out.keeps fun h => by have := Row.lt HB12.out h; omega)
                have HC14 : Hid (w14.cell? ⟨wr.heap.size, 0, none⟩ = some (.int .i64 (op : Int)) ∧ w14.cell? ⟨wr.heap.size, 1, none⟩ = some (.int .i64 pa) ∧ w14.cell? ⟨wr.heap.size, 2, none⟩ = some (.int .i64 pb) ∧ w14.cell? ⟨wr.heap.size, 3, none⟩ = some (.int .i64 pc)) := Lib.hid ⟨HBI14.out.cell (i := 0) rfl, HBI14.out.cell (i := 1) rfl, HBI14.out.cell (i := 2) rfl, HBI14.out.cell (i := 3) rfl⟩
                have HQ14 := Lib.hid hq14
                clear hb14 hg14 hq14
                go_wp2_with (first | (refine wpH_loadG _ _ rfl _ rfl rfl _ _ (by kernel_rfl) rfl (fun _ h => h.2.2.1) (HC14.out) ?_) | (refine wpH_walkG rfl ?_) | (refine held_fin (HC14.out) ?_) | (refine wpH_nil ?_) | (with_reducible refine text_fin (by kernel_rfl) ?_) | (go_at_call 22; refine Stop.out ?_))
                refine ⟨(sign_any pb y1 y2 HB14.out (by omega)).mono ?_⟩
                rintro e w15 ⟨v15, q15, rfl, hq15, hb15, hg15⟩
                obtain ⟨a15, c15, rfl⟩ := hb15.form
                have hle15 : q15.length ≤ q14.length + (encS pb).length := by rw [hq15, List.length_append]; exact Nat.le_refl _
                have HB15 := Lib.hid hb15
                have HY15 : Hid (Grown (wr.alloc (.cells #[.int .i64 (op : Int), .int .i64 pa, .int .i64 pb, .int .i64 pc] 48)) w15 (.slice a12 q12.length c12) (.slice a15 q15.length c15)) := Lib.hid (HY14.out.trans hg15)
                have HBI15 := Lib.hid ((Blk.new wr [.int .i64 (op : Int), .int .i64 pa, .int .i64 pb, .int .i64 pc] 48).keeps HY15.out.keeps fun h => by have := Row.lt HB12.out h; omega)
                have HC15 : Hid (w15.cell? ⟨wr.heap.size, 0, none⟩ = some (.int .i64 (op : Int)) ∧ w15.cell? ⟨wr.heap.size, 1, none⟩ = some (.int .i64 pa) ∧ w15.cell? ⟨wr.heap.size, 2, none⟩ = some (.int .i64 pb) ∧ w15.cell? ⟨wr.heap.size, 3, none⟩ = some (.int .i64 pc)) := Lib.hid ⟨HBI15.out.cell (i := 0) rfl, HBI15.out.cell (i := 1) rfl, HBI15.out.cell (i := 2) rfl, HBI15.out.cell (i := 3) rfl⟩
                have HQ15 := Lib.hid hq15
                clear hb15 hg15 hq15
                go_wp2_with (first | (refine wpH_loadG _ _ rfl _ rfl rfl _ _ (by kernel_rfl) rfl (fun _ h => h.2.2.2) (HC15.out) ?_) | (refine wpH_walkG rfl ?_) | (refine held_fin (HC15.out) ?_) | (refine wpH_nil ?_) | (with_reducible refine text_fin (by kernel_rfl) ?_) | (go_at_call 22; refine Stop.out ?_))
                refine ⟨(sign_any pc z1 z2 HB15.out (by omega)).mono ?_⟩
                rintro e w16 ⟨v16, q16, rfl, hq16, hb16, hg16⟩
                obtain ⟨a16, c16, rfl⟩ := hb16.form
                have hle16 : q16.length ≤ q15.length + (encS pc).length := by rw [hq16, List.length_append]; exact Nat.le_refl _
                have HB16 := Lib.hid hb16
                have HY16 : Hid (Grown (wr.alloc (.cells #[.int .i64 (op : Int), .int .i64 pa, .int .i64 pb, .int .i64 pc] 48)) w16 (.slice a12 q12.length c12) (.slice a16 q16.length c16)) := Lib.hid (HY15.out.trans hg16)
                have HBI16 := Lib.hid ((Blk.new wr [.int .i64 (op : Int), .int .i64 pa, .int .i64 pb, .int .i64 pc] 48).keeps HY16.out.keeps fun h => by have := Row.lt HB12.out h; omega)
                have HC16 : Hid (w16.cell? ⟨wr.heap.size, 0, none⟩ = some (.int .i64 (op : Int)) ∧ w16.cell? ⟨wr.heap.size, 1, none⟩ = some (.int .i64 pa) ∧ w16.cell? ⟨wr.heap.size, 2, none⟩ = some (.int .i64 pb) ∧ w16.cell? ⟨wr.heap.size, 3, none⟩ = some (.int .i64 pc)) := Lib.hid ⟨HBI16.out.cell (i := 0) rfl, HBI16.out.cell (i := 1) rfl, HBI16.out.cell (i := 2) rfl, HBI16.out.cell (i := 3) rfl⟩
                have HQ16 := Lib.hid hq16
                clear hb16 hg16 hq16
                go_wp2_with (first | (refine wpH_loadG _ _ rfl _ rfl rfl _ _ (by kernel_rfl) rfl (fun _ h => h.1) (HC16.out) ?_) | (refine wpH_walkG rfl ?_) | (refine held_fin (HC16.out) ?_) | (refine wpH_nil ?_) | (with_reducible refine text_fin (by kernel_rfl) ?_))
                refine ⟨⟨j + 1, q16, by go_num, by omega, ?_, HB16.out, HG12.out.trans (HY16.out.ahead ((Keeps.refl _ wr).alloc _))⟩, by simp [intOf]; omega⟩
                rw [HQ16.out, HQ15.out, HQ14.out, HQ13.out, HQ12.out, encIs_take HPJ.out, encI]
                simp
              · obtain rfl : j = cd.length := by omega
                rw [List.take_length] at hq12
                have HQ12 := Lib.hid hq12
                clear hq12
                go_wp2
                refine ⟨⟨i + 1, q12, by go_num, by omega, ?_, ?_, HB12.out, HN11.out.grown HG12.out⟩, by simp [intOf]; omega⟩
                · rw [HF6.out, firstFn_ok HFI.out HR.out]
                · rw [HQ12.out, HQ11.out, HQ10.out, HQ9.out, HQ8.out, HQ6.out, encFs_take HFI.out, encF, encH]
                  simp
        · obtain rfl : i = funcs.length := by omega
          rw [List.take_length] at hq6
          have HQ6 := Lib.hid hq6
          clear hq6
          go_wp2
          go_ret2
          have hee : errM ⟨nm, lits, funcs⟩ = none := by
            have hno : firstLit lits 0 = none := by rw [HF4.out]; simp [firstLit]
            unfold errM
            simp only
            rw [hno, HF6.out]
            simp [firstFn]
          have hqm : q6 = encM ⟨nm, lits, funcs⟩ := by
            rw [HQ6.out, HQ5.out, HQ4.out, HQ3.out, HQ2.out, encM]
            simp
          exact writePost_ok hee (hqm ▸ HB6.out) ⟨HW0.out.trans HN6.out.keeps fun _ _ h => h, fun g hg => by have := HN6.out.own g hg; have := HZ0.out; omega⟩
end Go.Proofs.YtgmieehheoknbaaDoor
end
section
/-
  The laws' awake: Write of an empty module.
-/
namespace Go.Tx
open Go Go.RowKit
theorem MdD.keeps {w w' : World} {S T : Nat → Prop} {d : Nat} {v : Value} {m : Md} (h : MdD w S d v m) (hk : Keeps T w w') (hs : ∀ g, S g → ¬ T g) : MdD w' S d v m := by
  obtain ⟨vl, vf, e, hn, h1, h2⟩ := h
  exact ⟨vl, vf, e, hn, h1.keeps hk hs, h2.keeps hk hs⟩
theorem MdD.form {w : World} {S : Nat → Prop} {d : Nat} {v : Value} {m : Md} (h : MdD w S d v m) : ∃ al cl af cf, v = .agg #[.string m.name, .slice al m.lits.length cl, .slice af m.funcs.length cf] := by
  obtain ⟨vl, vf, e, hn, h1, h2⟩ := h
  obtain ⟨_, _, rfl⟩ := h1.form
  obtain ⟨_, _, rfl⟩ := h2.form
  exact ⟨_, _, _, _, e⟩
end Go.Tx
namespace Go.Proofs.YtgmieehheoknbaaDoor
open Go.RowKit Go.Tx
theorem conv_row {w : World} {v : Value} {q : List UInt8} (h : Bytes w v q) : (convert 26 9 v).run Tryd.prog w = .ok (.string ⟨q.toArray⟩) w := by
  obtain ⟨a, c, rfl⟩ := h.form
  refine conv_bytes ⟨q.toArray⟩ Tryd.underlying26 Tryd.underlying5 Tryd.underlying9 rfl fun hp => ?_
  obtain ⟨g, c2, e, _, _⟩ := Row.form h (by simpa [ByteArray.size] using hp)
  cases e
  exact ⟨g, 0, rfl, fun j u hu => by rw [Nat.zero_add]; exact Row.cell3 h (by simpa [byteCells, byteV] using hu)⟩
set_option maxRecDepth 100000 in
set_option maxHeartbeats 800000 in
theorem awake_any (w : World) : Calls Tryd.prog 13 #[] w fun e w' => e = .returned (.bool true) ∧ Keeps (fun _ => False) w w' := by
  have he : errM ⟨⟨#[]⟩, [], []⟩ = none := rfl
  have hq : encM ⟨⟨#[]⟩, [], []⟩ = [84, 82, 80, 69, 0, 0, 0] := by
    have h0 : encN 0 = [0] := encN_small (by decide)
    simp [encM, magic, encB, h0, encTs, encFs, ByteArray.size]
  have hm : MdD w (fun _ => False) 0 (.agg #[.string ⟨#[]⟩, .slice none 0 0, .slice none 0 0]) ⟨⟨#[]⟩, [], []⟩ :=
    ⟨_, _, rfl, by decide, ⟨by simp, none, 0, rfl, Nat.le_refl _, Nat.zero_le _, fun i t h => by simp at h⟩, by simp, none, 0, rfl, Nat.le_refl _, Nat.zero_le _, fun i f h => by simp at h⟩
  have HW := Lib.hid (write_any _ hm (fun _ h => h.elim) (by rw [hq]; decide))
  have HE := Lib.hid he
  have HQ := Lib.hid hq
  clear he hq hm
  go_enter Tryd.func13, Tryd.ntmps13
  go_wp2_with (first | (go_at_call 8; refine Stop.out ?_))
  refine ⟨HW.out.mono ?_⟩
  rintro e w2 ⟨v, er, rfl, h1, h2, _, hn⟩
  rw [HE.out] at h1
  obtain rfl : er = .nilIface := h1
  have hb := h2 HE.out
  rw [HQ.out] at hb
  obtain ⟨a, c, rfl⟩ := hb.form
  have kc : (convert 26 9 (.slice a 7 c)).run Tryd.prog w2 = .ok (.string ⟨#[84, 82, 80, 69, 0, 0, 0]⟩) w2 := conv_row hb
  have HN := Lib.hid hn
  clear h2 hn hb
  go_wp2
  go_ret
  exact ⟨rfl, HN.out.keeps⟩
end Go.Proofs.YtgmieehheoknbaaDoor
end

import Derived.Test.YtgmieehheoknbaaDoorGsa
import Derived.Test.YtgmieehheoknbaaDoorGcm
/-
  code.Read: an instruction, a function.
-/
namespace Go.Tx
open Go Go.RowKit
theorem pMany_succ {α : Type} (p : List UInt8 → PR α) (n : Nat) (s : List UInt8) : pMany p (n + 1) s = PR.then (p s) fun x r => PR.then (pMany p n r) fun l q => .ok (x :: l, q) := by
  simp only [pMany]
  cases p s with
  | error e => rfl
  | ok x =>
    obtain ⟨a, r⟩ := x
    simp only [then_ok]
    cases pMany p n r with
    | error e => rfl
    | ok y => rfl
/-- behind the first ones -/
def manyGo {α : Type} (p : List UInt8 → PR α) (l : List α) (n : Nat) (s : List UInt8) : PR (List α) := PR.then (pMany p n s) fun l2 q => .ok (l ++ l2, q)
theorem manyGo_start {α : Type} (p : List UInt8 → PR α) (n : Nat) (s : List UInt8) : pMany p n s = manyGo p [] n s := by
  unfold manyGo
  cases pMany p n s with
  | error e => rfl
  | ok y => rfl
theorem manyGo_end {α : Type} {p : List UInt8 → PR α} {l : List α} {s : List UInt8} : manyGo p l 0 s = .ok (l, s) := by
  simp [manyGo, pMany, then_ok]
theorem manyGo_error {α : Type} {p : List UInt8 → PR α} {l : List α} {n : Nat} {s : List UInt8} {e : PErr} (h : p s = .error e) : manyGo p l (n + 1) s = .error e := by
  unfold manyGo
  rw [pMany_succ, h]
  rfl
theorem manyGo_next {α : Type} {p : List UInt8 → PR α} {l : List α} {n : Nat} {s r : List UInt8} {x : α} (h : p s = .ok (x, r)) : manyGo p l (n + 1) s = manyGo p (l ++ [x]) n r := by
  unfold manyGo
  rw [pMany_succ, h, then_ok, then_then]
  cases pMany p n r with
  | error e => rfl
  | ok y => simp [then_ok]
theorem pFn_then (s : List UInt8) : pFn s = PR.then (pText s) fun name r => PR.then (pNumber r) fun a r1 => PR.then (pNumber r1) fun b r2 => PR.then (pCount r2) fun n r3 => PR.then (pMany pIns n r3) fun l r4 => .ok ({ name := name, args := (a : Int), slots := (b : Int), code := l }, r4) := by
  unfold pFn
  cases pText s with
  | error e => rfl
  | ok x =>
    obtain ⟨name, r⟩ := x
    simp only [then_ok]
    cases pNumber r with
    | error e => rfl
    | ok x =>
      obtain ⟨a, r1⟩ := x
      simp only [then_ok]
      cases pNumber r1 with
      | error e => rfl
      | ok x =>
        obtain ⟨b, r2⟩ := x
        simp only [then_ok]
        cases pCount r2 with
        | error e => rfl
        | ok x =>
          obtain ⟨n, r3⟩ := x
          simp only [then_ok]
          cases pMany pIns n r3 with
          | error e => rfl
          | ok x => rfl
theorem pIns_cons (x : UInt8) (s : List UInt8) : pIns (x :: s) = PR.then (pOperand s) fun a r => PR.then (pOperand r) fun b r2 => PR.then (pOperand r2) fun c r3 => .ok (((x.toNat : Int), a, b, c), r3) := by
  simp only [pIns]
  cases pOperand s with
  | error e => rfl
  | ok y =>
    obtain ⟨a, r⟩ := y
    simp only [then_ok]
    cases pOperand r with
    | error e => rfl
    | ok y =>
      obtain ⟨b, r2⟩ := y
      simp only [then_ok]
      cases pOperand r2 with
      | error e => rfl
      | ok y => rfl
theorem pNumber_le {s r : List UInt8} {n : Nat} (h : pNumber s = .ok (n, r)) : n ≤ 1099511627776 := (pNumber_back h).2
def FnR (w : World) (f : Fnc) (u : Value) (w' : World) : Prop := ∃ vc, u = f.val vc ∧ f.fine ∧ InsD w' (Fresh w w') vc f.code
/-- a function that is being read, in memory -/
structure FnM (T TI : TypeId) (w : World) (b gf : Nat) (fs zs : List Value) (vc : Value) (l : List (Int × Int × Int × Int)) (wr : World) : Prop where
  f : Blk wr gf T fs
  z : Blk wr w.heap.size T zs
  row : Row wr TI 4 vc l.length (insRow l)
  own : ∀ g, vc.ownBlock = some g → w.heap.size ≤ g ∧ g ≠ gf ∧ g ≠ w.heap.size
  fresh : w.heap.size < gf
  keeps : Keeps (fun y => y = b) w wr
theorem FnM.move {T TI : TypeId} {w wr w' : World} {b gf : Nat} {fs zs : List Value} {vc : Value} {l : List (Int × Int × Int × Int)} (h : FnM T TI w b gf fs zs vc l wr) (hb : b < w.heap.size) (k : Keeps (fun y => y = b) wr w') : FnM T TI w b gf fs zs vc l w' :=
  ⟨h.f.keeps k (by have := h.fresh; omega), h.z.keeps k (by omega), h.row.keeps k (fun g hg => by have := h.own g hg; omega), h.own, h.fresh, h.keeps.trans k fun _ _ h => h⟩
theorem Blk.four {w : World} {b : Nat} {T : TypeId} {z0 z1 z2 z3 : Value} (h : Blk w b T [z0, z1, z2, z3]) (v0 v1 v2 v3 : Value) : Blk ((((w.setCell ⟨b, 0, none⟩ v0).setCell ⟨b, 1, none⟩ v1).setCell ⟨b, 2, none⟩ v2).setCell ⟨b, 3, none⟩ v3) b T [v0, v1, v2, v3] :=
  (((h.set 0 v0).set 1 v1).set 2 v2).set 3 v3
theorem Keeps.four (w : World) (b : Nat) (v0 v1 v2 v3 : Value) : Keeps (fun g => g = b) w ((((w.setCell ⟨b, 0, none⟩ v0).setCell ⟨b, 1, none⟩ v1).setCell ⟨b, 2, none⟩ v2).setCell ⟨b, 3, none⟩ v3) :=
  Keeps.setCell (S := fun g => g = b) (Keeps.setCell (S := fun g => g = b) (Keeps.setCell (S := fun g => g = b) (Keeps.setCell (S := fun g => g = b) (Keeps.refl _ w) (fun _ => rfl) _) (fun _ => rfl) _) (fun _ => rfl) _) (fun _ => rfl) _
theorem fn_done {T TI : TypeId} {w wr w' : World} {b gf x y n0 : Nat} {zs : List Value} {nm : ByteArray} {va : Option Addr} {vcap : Nat} {l : List (Int × Int × Int × Int)} (h : FnM T TI w b gf [.string nm, .int .i64 x, .int .i64 y, .slice va l.length vcap] zs (.slice va l.length vcap) l wr) (hln : l.length + 0 = n0) (hi : ∀ p ∈ l, insOkI p) (hx : x ≤ 1099511627776 ∧ y ≤ 1099511627776) (hnm : nm.size ≤ 1099511627776) (hn : n0 ≤ 1099511627776) (hk : Keeps (fun g => g = w.heap.size) wr w') :
    FnR w { name := nm, args := (x : Int), slots := (y : Int), code := l } (.agg #[.string nm, .int .i64 x, .int .i64 y, .slice va l.length vcap]) w' := by
  refine ⟨.slice va l.length vcap, rfl, ⟨by show (-9223372036854775808 : Int) ≤ (x : Int); omega, by show (x : Int) ≤ 9223372036854775807; omega, by show (-9223372036854775808 : Int) ≤ (y : Int); omega, by show (y : Int) ≤ 9223372036854775807; omega, hnm⟩, ins_row (h.row.keeps hk fun g hg => (h.own g hg).2.2) (by show l.length ≤ _; omega) hi fun g hg => ⟨(h.own g hg).1, Nat.lt_of_lt_of_le (h.row.lt hg) hk.size⟩⟩
/-- so many instructions are read -/
def FnAt (T TI : TypeId) (w : World) (b : Nat) (v : Value) (s : List UInt8) (nm : ByteArray) (x y : Nat) (n0 p0 gf : Nat) (zs : List Value) (n : Value) (wr : World) : Prop :=
  ∃ (l : List (Int × Int × Int × Int)) (vc : Value) (n' p : Nat), n = .int .i64 n' ∧ l.length + n' = n0 ∧ FnM T TI w b gf [.string nm, .int .i64 x, .int .i64 y, vc] zs vc l wr ∧ (∀ p ∈ l, insOkI p) ∧ RdAt wr b v s p ∧ pMany pIns n0 (s.drop p0) = manyGo pIns l n' (s.drop p)
theorem fn_next {T TI : TypeId} {w W w4 : World} {b gf : Nat} {zs : List Value} {nm : ByteArray} {x y : Int} {vc v' : Value} {l : List (Int × Int × Int × Int)} {i : Int × Int × Int × Int} {n : Nat} (h : FnM T TI w b gf [.string nm, .int .i64 x, .int .i64 y, vc] zs vc l W) (hb : b < w.heap.size) (ha : Appended W w4 TI 4 vc v' n (insRow l ++ icells i)) (hn : n = l.length + 1) :
    FnM T TI w b gf [.string nm, .int .i64 x, .int .i64 y, v'] zs v' (l ++ [i]) (w4.setCell ⟨gf, 3, none⟩ v') := by
  subst hn
  have hlt : gf < W.heap.size := h.f.lt
  have hown : ∀ g, v'.ownBlock = some g → w.heap.size ≤ g ∧ g ≠ gf ∧ g ≠ w.heap.size := fun g hg => by
    rcases ha.own with e | ⟨e, _⟩
    · exact h.own g (by rw [← e]; exact hg)
    · have h1 : W.heap.size = g := Option.some.inj (e.symm.trans hg)
      have := h.fresh
      omega
  have hnf : ¬ Own vc gf := fun e => (h.own gf e).2.1 rfl
  have hnz : ¬ Own vc w.heap.size := fun e => (h.own _ e).2.2 rfl
  refine ⟨(h.f.keeps ha.keeps hnf).set 3 v', (h.z.keeps ha.keeps hnz).set_other (by have := h.fresh; show w.heap.size ≠ gf; omega) _, ?_, hown, h.fresh, (h.keeps.trans ha.keeps fun g hg e => by have := (h.own g e).1; omega).setCell (fun e => by have := h.fresh; have e2 : gf < w.heap.size := e; omega) _⟩
  have hr : Row w4 TI 4 v' (l ++ [i]).length (insRow (l ++ [i])) := by
    have e1 : insRow (l ++ [i]) = insRow l ++ icells i := by simp [insRow]
    rw [e1, List.length_append]
    exact ha.row
  exact hr.setCell_other (fun e => (hown gf e).2.1 rfl) _
theorem rd_next {T TI : TypeId} {w w8 w4 : World} {b gf p : Nat} {fs zs : List Value} {v vc v' : Value} {s : List UInt8} {l : List (Int × Int × Int × Int)} {n : Nat} {xs : List Value} {o : Obj} (hr : RdAt w8 b v s p) (hb : b < w.heap.size) (hv : ∀ x, v.ownBlock = some x → x < w.heap.size) (h : FnM T TI w b gf fs zs vc l (w8.alloc o)) (ha : Appended (w8.alloc o) w4 TI 4 vc v' n xs) :
    RdAt (w4.setCell ⟨gf, 3, none⟩ v') b v s p := by
  have h1 : RdAt (w8.alloc o) b v s p := hr.keeps ((Keeps.refl (fun _ => False) w8).alloc _) (fun h => h) fun _ _ h => h
  have h2 := h1.keeps ha.keeps (fun e => by have := (h.own b e).1; omega) fun x hx e => by have := (h.own x e).1; have := hv x hx; omega
  have hf := h.fresh
  exact h2.keeps (Keeps.put w4 ⟨gf, 3, none⟩ _) (by show ¬ b = gf; omega) fun x hx => by have := hv x hx; show ¬ x = gf; omega
theorem lt_alloc {w w1 : World} {o : Obj} (h : (w.alloc o).heap.size ≤ w1.heap.size) : w.heap.size < w1.heap.size := by rw [World.size_alloc] at h; omega
theorem len_more {l n n0 s : Nat} (h : l + (n + 1) = n0) (h2 : n0 ≤ s) (h3 : s ≤ 1099511627776) : l + 1 ≤ 1099511627776 := by omega
theorem len_less {l n n0 s : Nat} (h : l + (n + 1) = n0) (h2 : n0 ≤ s) (h3 : s ≤ 1099511627776) : n ≤ 1099511627776 := by omega
theorem app_len {n : Nat} (h : n + 1 ≤ 1099511627776) : n + 1 ≤ maxLen := by unfold maxLen; omega
theorem app_bytes {n : Nat} (h : n + 1 ≤ 1099511627776) : (n + 1) * 32 ≤ 140737488355328 := by omega
theorem len_snoc {α : Type} {l : List α} (i : α) {n n0 : Nat} (h : l.length + (n + 1) = n0) : (l ++ [i]).length + n = n0 := by rw [List.length_append]; simp only [List.length_singleton]; omega
theorem meas_next {n : Nat} (h : wrap64 (n : Int) = (n : Int)) : (intOf (.int .i64 (wrap64 (n : Int)))).toNat < (intOf (.int .i64 ((n + 1 : Nat) : Int))).toNat := by rw [h]; simp [intOf]
theorem pIns_fine {s r : List UInt8} {i : Int × Int × Int × Int} (h : pIns s = .ok (i, r)) : insOkI i := by
  have h2 := (pIns_back h).2
  simp only [insOk, half, Bool.and_eq_true, decide_eq_true_eq] at h2
  unfold insOkI
  omega
end Go.Tx
namespace Go.Proofs.YtgmieehheoknbaaDoor
open Go.RowKit Go.Tx
theorem sizeFn : (Tryd.prog.info? 51).map (·.size) = some 4 := by kernel_rfl
theorem load_fn {w : World} {g : Nat} {x0 x1 x2 x3 : Value} (hb : Blk w g 51 [x0, x1, x2, x3]) : (loadVar 51 ⟨g, 0, none⟩).run Tryd.prog w = .ok (.agg #[x0, x1, x2, x3]) w := by
  cases hi : Tryd.prog.info? 51 with
  | none => have := sizeFn; rw [hi] at this; cases this
  | some i =>
    have hs : i.size = 4 := by have := sizeFn; rw [hi] at this; simpa using this
    unfold loadVar loadCells
    simp [loadCellsFrom, isAgg, sizeOf, typeInfo, Tryd.underlying51, hi, hs, addN, hb.cell (i := 0) rfl, hb.cell (i := 1) rfl, hb.cell (i := 2) rfl, hb.cell (i := 3) rfl]
abbrev zeroF : List Value := [.string ⟨#[]⟩, .int .i64 0, .int .i64 0, .slice none 0 0]
set_option maxRecDepth 100000 in
set_option maxHeartbeats 1600000 in
theorem rfunction_any {w : World} {b : Nat} {v : Value} {s : List UInt8} {p : Nat} (h : RdAt w b v s p) (hv : ∀ x, v.ownBlock = some x → x < w.heap.size) (hN : s.length ≤ 1099511627776) :
    Calls Tryd.prog 42 #[.pointer (some ⟨b, 0, none⟩)] w (RdPostW w b v s (pFn (s.drop p)) (FnR w)) := by
  have H := Lib.hid h
  have HV := Lib.hid hv
  have HN := Lib.hid hN
  have hbl : b < w.heap.size := h.1.lt
  clear h hv hN
  go_enter Tryd.func42, Tryd.ntmps42
  go_wp2_with (first | (go_at_call 39; refine Stop.out ?_))
  have h1 : RdAt (w.alloc (.cells zeroF.toArray 51)) b v s p := H.out.keeps ((Keeps.refl (fun _ => False) w).alloc _) (fun h => h) fun _ _ h => h
  refine ⟨(rtext_any h1).mono ?_⟩
  intro e w1 hr
  rcases hr.split with ⟨l, c, k, E, hb, rfl, hg⟩ | ⟨nm, u, p1, hb, rfl, rfl, hr1, hk1⟩
  · exact ⟨rfl, gaveW (by rw [pFn_then, hb]; rfl) rfl (hg.ahead ((Keeps.refl _ w).alloc _))⟩
  have hwl : w.heap.size < w1.heap.size := lt_alloc hk1.size
  have hz1 : Blk w1 w.heap.size 51 zeroF := (Blk.new w zeroF 51).keeps hk1 (Nat.ne_of_gt hbl)
  have hk01 : Keeps (fun y => y = b) w w1 := ((Keeps.refl (fun y => y = b) w).alloc _).trans hk1 fun _ _ h => h
  have HM1 : Hid (FnM 51 48 w b w1.heap.size [.string nm, .int .i64 0, .int .i64 0, .slice none 0 0] zeroF (.slice none 0 0) [] (w1.alloc (.cells #[.string nm, .int .i64 0, .int .i64 0, .slice none 0 0] 51))) := Lib.hid ⟨Blk.new w1 _ _, hz1.alloc _, World.ownsRow_nil _ _ _ _, fun g hg => by simp [Value.ownBlock] at hg, hwl, hk01.alloc _⟩
  have HR1 : Hid (RdAt (w1.alloc (.cells #[.string nm, .int .i64 0, .int .i64 0, .slice none 0 0] 51)) b v s p1) := Lib.hid (hr1.keeps ((Keeps.refl (fun _ => False) w1).alloc _) (fun h => h) fun _ _ h => h)
  have HB1 : Hid (pText (s.drop p) = .ok (nm, s.drop p1)) := Lib.hid hb
  have hnm : nm.size ≤ 1099511627776 := (pText_back hb).2
  have HNM := Lib.hid hnm
  have HWL := Lib.hid hwl
  clear hr1 hk1 hk01 hz1 hb hr h1 hnm
  go_wp2_with (first | (go_at_call 50; refine Stop.out ?_))
  refine ⟨(rnumber_any HR1.out).mono ?_⟩
  intro e w2 hr
  rcases hr.split with ⟨l, c, k, E, hb, rfl, hg⟩ | ⟨x, u, p2, hb, rfl, rfl, hr2, hk2⟩
  · exact ⟨rfl, gaveW (by rw [pFn_then, HB1.out, Go.Tx.then_ok, hb]; rfl) rfl (hg.ahead HM1.out.keeps)⟩
  have hm2 := HM1.out.move hbl hk2
  have y1 : w2.cell? ⟨w1.heap.size, 1, none⟩ = some (.int .i64 0) := hm2.f.cell (i := 1) rfl
  have f1 := hm2.f.free 1
  have HM2 : Hid (FnM 51 48 w b w1.heap.size [.string nm, .int .i64 x, .int .i64 0, .slice none 0 0] zeroF (.slice none 0 0) [] (w2.setCell ⟨w1.heap.size, 1, none⟩ (.int .i64 x))) := Lib.hid ⟨hm2.f.set 1 _, hm2.z.set_other (Nat.ne_of_lt hwl) _, World.ownsRow_nil _ _ _ _, fun g hg => by simp [Value.ownBlock] at hg, hwl, hm2.keeps.setCell (fun e => (Nat.lt_asymm hwl e).elim) _⟩
  have HR2 : Hid (RdAt (w2.setCell ⟨w1.heap.size, 1, none⟩ (.int .i64 x)) b v s p2) := Lib.hid (hr2.keeps (Keeps.put w2 ⟨w1.heap.size, 1, none⟩ _) (Nat.ne_of_lt (Nat.lt_trans hbl hwl)) fun g hg => Nat.ne_of_lt (Nat.lt_trans (HV.out g hg) hwl))
  have HB2 : Hid (pNumber (s.drop p1) = .ok (x, s.drop p2)) := Lib.hid hb
  clear hm2 hr2 hk2 hb hr
  go_wp2_with (first | (go_at_call 50; refine Stop.out ?_))
  refine ⟨(rnumber_any HR2.out).mono ?_⟩
  intro e w3 hr
  rcases hr.split with ⟨l, c, k, E, hb, rfl, hg⟩ | ⟨y, u, p3, hb, rfl, rfl, hr3, hk3⟩
  · exact ⟨rfl, gaveW (by rw [pFn_then, HB1.out, Go.Tx.then_ok, HB2.out, Go.Tx.then_ok, hb]; rfl) rfl (hg.ahead HM2.out.keeps)⟩
  have hm3 := HM2.out.move hbl hk3
  have y2 : w3.cell? ⟨w1.heap.size, 2, none⟩ = some (.int .i64 0) := hm3.f.cell (i := 2) rfl
  have f2 := hm3.f.free 2
  have HM3 : Hid (FnM 51 48 w b w1.heap.size [.string nm, .int .i64 x, .int .i64 y, .slice none 0 0] zeroF (.slice none 0 0) [] (w3.setCell ⟨w1.heap.size, 2, none⟩ (.int .i64 y))) := Lib.hid ⟨hm3.f.set 2 _, hm3.z.set_other (Nat.ne_of_lt hwl) _, World.ownsRow_nil _ _ _ _, fun g hg => by simp [Value.ownBlock] at hg, hwl, hm3.keeps.setCell (fun e => (Nat.lt_asymm hwl e).elim) _⟩
  have HR3 : Hid (RdAt (w3.setCell ⟨w1.heap.size, 2, none⟩ (.int .i64 y)) b v s p3) := Lib.hid (hr3.keeps (Keeps.put w3 ⟨w1.heap.size, 2, none⟩ _) (Nat.ne_of_lt (Nat.lt_trans hbl hwl)) fun g hg => Nat.ne_of_lt (Nat.lt_trans (HV.out g hg) hwl))
  have HB3 : Hid (pNumber (s.drop p2) = .ok (y, s.drop p3)) := Lib.hid hb
  clear hm3 hr3 hk3 hb hr y1 f1
  go_wp2_with (first | (go_at_call 40; refine Stop.out ?_))
  refine ⟨(rcount_any HR3.out).mono ?_⟩
  intro e w4 hr
  rcases hr.split with ⟨l, c, k, E, hb, rfl, hg⟩ | ⟨n0, u, p4, hb, rfl, ⟨rfl, hn0⟩, hr4, hk4⟩
  · exact ⟨rfl, gaveW (by rw [pFn_then, HB1.out, Go.Tx.then_ok, HB2.out, Go.Tx.then_ok, HB3.out, Go.Tx.then_ok, hb]; rfl) rfl (hg.ahead HM3.out.keeps)⟩
  have HM4 := Lib.hid (HM3.out.move hbl hk4)
  have HR4 := Lib.hid hr4
  have HPRE : Hid (pFn (s.drop p) = PR.then (pMany pIns n0 (s.drop p4)) fun l r4 => .ok ({ name := nm, args := (x : Int), slots := (y : Int), code := l }, r4)) := Lib.hid (by rw [pFn_then, HB1.out, Go.Tx.then_ok, HB2.out, Go.Tx.then_ok, HB3.out, Go.Tx.then_ok, hb, Go.Tx.then_ok])
  have HFX : Hid (x ≤ 1099511627776 ∧ y ≤ 1099511627776) := Lib.hid ⟨pNumber_le HB2.out, pNumber_le HB3.out⟩
  have HN0 := Lib.hid hn0
  clear hr4 hk4 hb hr y2 f2 HB1 HB2 HB3 HM1 HM2 HM3 HR1 HR2 HR3 hn0 hwl
  go_wp2
  go_loopw [4] (fun n wr => FnAt 51 48 w b v s nm x y n0 p4 w1.heap.size zeroF n wr) (fun n _ => (intOf n).toNat)
  case atStart => exact ⟨[], _, n0, p4, rfl, by simp, HM4.out, fun p hp => by simp at hp, HR4.out, manyGo_start _ _ _⟩
  case round =>
    obtain ⟨l, vc, n', p5, rfl, hln, hm, hi, hr, hp⟩ := hrel
    obtain ⟨va, vcap, rfl, hvc, hvm⟩ := hm.row.len
    unfold maxLen at hvm
    have HM := Lib.hid hm
    have HI := Lib.hid hi
    have HR := Lib.hid hr
    have HP := Lib.hid hp
    rcases n' with _ | n'
    · have y0 : wr.cell? ⟨w1.heap.size, 0, none⟩ = some (.string nm) := hm.f.cell (i := 0) rfl
      have y1 : wr.cell? ⟨w1.heap.size, 1, none⟩ = some (.int .i64 x) := hm.f.cell (i := 1) rfl
      have y2 : wr.cell? ⟨w1.heap.size, 2, none⟩ = some (.int .i64 y) := hm.f.cell (i := 2) rfl
      have y3 : wr.cell? ⟨w1.heap.size, 3, none⟩ = some (.slice va l.length vcap) := hm.f.cell (i := 3) rfl
      have z0 : wr.cell? ⟨w.heap.size, 0, none⟩ = some (.string ⟨#[]⟩) := hm.z.cell (i := 0) rfl
      have z1 : wr.cell? ⟨w.heap.size, 1, none⟩ = some (.int .i64 0) := hm.z.cell (i := 1) rfl
      have z2 : wr.cell? ⟨w.heap.size, 2, none⟩ = some (.int .i64 0) := hm.z.cell (i := 2) rfl
      have z3 : wr.cell? ⟨w.heap.size, 3, none⟩ = some (.slice none 0 0) := hm.z.cell (i := 3) rfl
      have q0 := hm.z.free 0
      have q1 := hm.z.free 1
      have q2 := hm.z.free 2
      have q3 := hm.z.free 3
      clear hm hi hr hp
      go_wp2
      have hb8 := Blk.four HM.out.z (.string nm) (.int .i64 x) (.int .i64 y) (.slice va l.length vcap)
      have h8 := Keeps.four wr w.heap.size (.string nm) (.int .i64 x) (.int .i64 y) (.slice va l.length vcap)
      refine bodyPost_ret (results_cell1 rfl _ ⟨w.heap.size, 0, none⟩ rfl _ (load_fn hb8)) rfl (doneW (by rw [HPRE.out, HP.out, manyGo_end]; rfl) (fn_done HM.out hln HI.out HFX.out HNM.out (Nat.le_trans HN0.out HN.out) h8) rfl (HR.out.keeps h8 (Nat.ne_of_lt hbl) fun g hg => Nat.ne_of_lt (HV.out g hg)) (HM.out.keeps.trans h8 fun y hy e => absurd e (Nat.ne_of_lt hy)))
    · have g1 : decide (0 < n' + 1) = true := decide_eq_true (Nat.succ_pos _)
      cases hx : s[p5]? with
      | none =>
        have hq : p5 = s.length := Nat.le_antisymm hr.2.2.1 (List.getElem?_eq_none_iff.1 hx)
        clear hm hi hr hp
        go_wp2_with (first | (go_at_call 37; refine Stop.out ?_))
        refine ⟨(byte_none HR.out hq).mono ?_⟩
        rintro e w5 ⟨E, rfl, hE, hk3⟩
        have hg : GaveUp wr b p5 [] 10 _ w5 := ⟨E, rfl, hE, hk3⟩
        exact ⟨rfl, gaveW (by rw [HPRE.out, HP.out, manyGo_error (e := (0, [], 10)) (by rw [hq, List.drop_length]; rfl)]; rfl) hq (hg.ahead HM.out.keeps)⟩
      | some o =>
        have HDR : Hid (s.drop p5 = o :: s.drop (p5 + 1)) := Lib.hid (rdrop_cons hx)
        clear hm hi hr hp
        go_wp2_with (first | (go_at_call 37; refine Stop.out ?_))
        refine ⟨(byte_some HR.out hx).mono ?_⟩
        rintro e w5 ⟨rfl, hr5, hk5⟩
        generalize ho : o.toNat = on at *
        have hon : on < 256 := by rw [← ho]; exact o.toNat_lt
        have g2 : wrap64 (on : Int) = (on : Int) := wrap_len (Nat.le_trans (Nat.le_of_lt hon) (by decide))
        have hw15 : w1.heap.size < w5.heap.size := Nat.lt_of_lt_of_le HM.out.f.lt hk5.size
        have hwr5 : wr.heap.size ≤ w5.heap.size := hk5.size
        have hne5 : ¬ w5.heap.size = b := Nat.ne_of_gt (Nat.lt_of_lt_of_le (Nat.lt_of_lt_of_le hbl HM.out.keeps.size) hwr5)
        have HR5 : Hid (RdAt (w5.alloc (.cells #[.int .i64 on, .int .i64 0, .int .i64 0, .int .i64 0] 48)) b v s (p5 + 1)) := Lib.hid (hr5.keeps ((Keeps.refl (fun _ => False) w5).alloc _) (fun h => h) fun _ _ h => h)
        have HK5 : Hid (Keeps (fun y => y = b) wr (w5.alloc (.cells #[.int .i64 on, .int .i64 0, .int .i64 0, .int .i64 0] 48))) := Lib.hid (hk5.alloc _)
        have HI5 : Hid (Blk (w5.alloc (.cells #[.int .i64 on, .int .i64 0, .int .i64 0, .int .i64 0] 48)) w5.heap.size 48 [.int .i64 on, .int .i64 0, .int .i64 0, .int .i64 0]) := Lib.hid (Blk.new w5 _ _)
        have hbr : b < wr.heap.size := Nat.lt_of_lt_of_le hbl HM.out.keeps.size
        have HVR : Hid (∀ g, v.ownBlock = some g → g < w5.heap.size) := Lib.hid fun g hg => Nat.lt_of_lt_of_le (Nat.lt_of_lt_of_le (HV.out g hg) HM.out.keeps.size) hwr5
        clear hr5 hk5
        go_wp2_with (first | (go_at_call 54; refine Stop.out ?_))
        refine ⟨(roperand_any HR5.out).mono ?_⟩
        intro e w6 hr
        rcases hr.split with ⟨l9, c9, k9, E, hb, rfl, hg⟩ | ⟨a1, u, p6, hb, rfl, rfl, hr9, hk9⟩
        · exact ⟨rfl, gaveW (by rw [HPRE.out, HP.out, manyGo_error (by rw [HDR.out, pIns_cons];  rw [hb]; rfl)]; rfl) rfl ((hg.ahead HK5.out).ahead HM.out.keeps)⟩
        have hi9 := HI5.out.keeps hk9 hne5
        have hk09 : Keeps (fun y => y = b) wr w6 := HK5.out.trans hk9 fun _ _ h => h
        have y1 : w6.cell? ⟨w5.heap.size, 1, none⟩ = some (.int .i64 0) := hi9.cell (i := 1) rfl
        have f1 := hi9.free 1
        have HO1 := Lib.hid hb
        have HI6 : Hid (Blk (w6.setCell ⟨w5.heap.size, 1, none⟩ (.int .i64 a1)) w5.heap.size 48 [.int .i64 on, .int .i64 a1, .int .i64 0, .int .i64 0]) := Lib.hid (hi9.set 1 _)
        have HK6 : Hid (Keeps (fun y => y = b) wr (w6.setCell ⟨w5.heap.size, 1, none⟩ (.int .i64 a1))) := Lib.hid (hk09.setCell (fun e => (Nat.not_lt.2 hwr5 e).elim) _)
        have HR6 : Hid (RdAt (w6.setCell ⟨w5.heap.size, 1, none⟩ (.int .i64 a1)) b v s p6) := Lib.hid (hr9.keeps (Keeps.put w6 ⟨w5.heap.size, 1, none⟩ _) (fun e => hne5 e.symm) fun g hg => Nat.ne_of_lt (HVR.out g hg))
        clear hi9 hk09 hr9 hk9 hb hr
        go_wp2_with (first | (go_at_call 54; refine Stop.out ?_))
        refine ⟨(roperand_any HR6.out).mono ?_⟩
        intro e w7 hr
        rcases hr.split with ⟨l9, c9, k9, E, hb, rfl, hg⟩ | ⟨a2, u, p7, hb, rfl, rfl, hr9, hk9⟩
        · exact ⟨rfl, gaveW (by rw [HPRE.out, HP.out, manyGo_error (by rw [HDR.out, pIns_cons]; rw [HO1.out, Go.Tx.then_ok]; rw [hb]; rfl)]; rfl) rfl ((hg.ahead HK6.out).ahead HM.out.keeps)⟩
        have hi9 := HI6.out.keeps hk9 hne5
        have hk09 : Keeps (fun y => y = b) wr w7 := HK6.out.trans hk9 fun _ _ h => h
        have y2 : w7.cell? ⟨w5.heap.size, 2, none⟩ = some (.int .i64 0) := hi9.cell (i := 2) rfl
        have f2 := hi9.free 2
        have HO2 := Lib.hid hb
        have HI7 : Hid (Blk (w7.setCell ⟨w5.heap.size, 2, none⟩ (.int .i64 a2)) w5.heap.size 48 [.int .i64 on, .int .i64 a1, .int .i64 a2, .int .i64 0]) := Lib.hid (hi9.set 2 _)
        have HK7 : Hid (Keeps (fun y => y = b) wr (w7.setCell ⟨w5.heap.size, 2, none⟩ (.int .i64 a2))) := Lib.hid (hk09.setCell (fun e => (Nat.not_lt.2 hwr5 e).elim) _)
        have HR7 : Hid (RdAt (w7.setCell ⟨w5.heap.size, 2, none⟩ (.int .i64 a2)) b v s p7) := Lib.hid (hr9.keeps (Keeps.put w7 ⟨w5.heap.size, 2, none⟩ _) (fun e => hne5 e.symm) fun g hg => Nat.ne_of_lt (HVR.out g hg))
        clear hi9 hk09 hr9 hk9 hb hr
        go_wp2_with (first | (go_at_call 54; refine Stop.out ?_))
        refine ⟨(roperand_any HR7.out).mono ?_⟩
        intro e w8 hr
        rcases hr.split with ⟨l9, c9, k9, E, hb, rfl, hg⟩ | ⟨a3, u, p8, hb, rfl, rfl, hr9, hk9⟩
        · exact ⟨rfl, gaveW (by rw [HPRE.out, HP.out, manyGo_error (by rw [HDR.out, pIns_cons]; rw [HO1.out, Go.Tx.then_ok]; rw [HO2.out, Go.Tx.then_ok]; rw [hb]; rfl)]; rfl) rfl ((hg.ahead HK7.out).ahead HM.out.keeps)⟩
        have hi9 := HI7.out.keeps hk9 hne5
        have hk09 : Keeps (fun y => y = b) wr w8 := HK7.out.trans hk9 fun _ _ h => h
        have y3 : w8.cell? ⟨w5.heap.size, 3, none⟩ = some (.int .i64 0) := hi9.cell (i := 3) rfl
        have f3 := hi9.free 3
        have HO3 := Lib.hid hb
        have HI8 : Hid (Blk (w8.setCell ⟨w5.heap.size, 3, none⟩ (.int .i64 a3)) w5.heap.size 48 [.int .i64 on, .int .i64 a1, .int .i64 a2, .int .i64 a3]) := Lib.hid (hi9.set 3 _)
        have HK8 : Hid (Keeps (fun y => y = b) wr (w8.setCell ⟨w5.heap.size, 3, none⟩ (.int .i64 a3))) := Lib.hid (hk09.setCell (fun e => (Nat.not_lt.2 hwr5 e).elim) _)
        have HR8 : Hid (RdAt (w8.setCell ⟨w5.heap.size, 3, none⟩ (.int .i64 a3)) b v s p8) := Lib.hid (hr9.keeps (Keeps.put w8 ⟨w5.heap.size, 3, none⟩ _) (fun e => hne5 e.symm) fun g hg => Nat.ne_of_lt (HVR.out g hg))
        clear hi9 hk09 hr9 hk9 hb hr
        have hm8 := HM.out.move hbl HK8.out
        have c0 : (w8.setCell ⟨w5.heap.size, 3, none⟩ (.int .i64 a3)).cell? ⟨w5.heap.size, 0, none⟩ = some (.int .i64 on) := HI8.out.cell (i := 0) rfl
        have c1 : (w8.setCell ⟨w5.heap.size, 3, none⟩ (.int .i64 a3)).cell? ⟨w5.heap.size, 1, none⟩ = some (.int .i64 a1) := HI8.out.cell (i := 1) rfl
        have c2 : (w8.setCell ⟨w5.heap.size, 3, none⟩ (.int .i64 a3)).cell? ⟨w5.heap.size, 2, none⟩ = some (.int .i64 a2) := HI8.out.cell (i := 2) rfl
        have c3 : (w8.setCell ⟨w5.heap.size, 3, none⟩ (.int .i64 a3)).cell? ⟨w5.heap.size, 3, none⟩ = some (.int .i64 a3) := HI8.out.cell (i := 3) rfl
        have d3 : (w8.setCell ⟨w5.heap.size, 3, none⟩ (.int .i64 a3)).cell? ⟨w1.heap.size, 3, none⟩ = some (.slice va l.length vcap) := hm8.f.cell (i := 3) rfl
        have e3 := hm8.f.free 3
        have HM8 : Hid (FnM 51 48 w b w1.heap.size [.string nm, .int .i64 x, .int .i64 y, .slice va l.length vcap] zeroF (.slice va l.length vcap) l ((w8.setCell ⟨w5.heap.size, 3, none⟩ (.int .i64 a3)).alloc (.cells #[.int .i64 on, .int .i64 a1, .int .i64 a2, .int .i64 a3] 48))) := Lib.hid (hm8.move hbl ((Keeps.refl _ _).alloc _))
        have hll : l.length + 1 ≤ 1099511627776 := len_more hln HN0.out HN.out
        have PF : Hid (∀ w9 v9, Appended ((w8.setCell ⟨w5.heap.size, 3, none⟩ (.int .i64 a3)).alloc (.cells #[.int .i64 on, .int .i64 a1, .int .i64 a2, .int .i64 a3] 48)) w9 48 4 (.slice va l.length vcap) v9 (l.length + 1) (insRow l ++ icells ((on : Int), a1, a2, a3)) → w9.cell? ⟨w1.heap.size, 3, none⟩ = some (.slice va l.length vcap) ∧ w9.frozen? ⟨w1.heap.size, 3, none⟩ = false) := Lib.hid fun w9 v9 ha => by
          have hb9 := HM8.out.f.keeps ha.keeps fun e => (HM8.out.own _ e).2.1 rfl
          exact ⟨hb9.cell (i := 3) rfl, hb9.free 3⟩
        have HLL := Lib.hid hll
        have g3 : wrap64 (n' : Int) = (n' : Int) := wrap_len (len_less hln HN0.out HN.out)
        clear hm8 y1 y2 f1 f2 hbr hw15 hwr5 hll hne5
        go_wp2_with (first | (at_builtin; go_must (refine wpList_append_row _ rfl _ _ 49 49 rfl 48 (.slice 48) 4 32 (.agg #[.int .i64 0, .int .i64 0, .int .i64 0, .int .i64 0]) info_ins Tryd.underlying49 Tryd.underlying49 (by intro k h; cases h) rfl (.slice va l.length vcap) l.length (insRow l) rfl HM8.out.row _ 1 (icells ((on : Int), a1, a2, a3)) rfl rfl (lenOf_slice _ _ _) (firstCells_at _ rfl (cells_newAt (World.size_setCell ..).symm)) (by intro u hu; simp only [icells, List.mem_cons, List.not_mem_nil, or_false] at hu; rcases hu with rfl | rfl | rfl | rfl <;> rfl) (app_len HLL.out) (app_bytes HLL.out) ?_); intro v' w9 ha; obtain ⟨va9, vc9, rfl, _, _⟩ := ha.row.len; obtain ⟨t3, s3⟩ := PF.out w9 _ ha; have HA := Lib.hid ha; clear ha))
        have hpi : pIns (s.drop p5) = .ok (((on : Int), a1, a2, a3), s.drop p8) := by rw [HDR.out, pIns_cons, HO1.out, Go.Tx.then_ok, HO2.out, Go.Tx.then_ok, HO3.out, Go.Tx.then_ok, ho]
        refine ⟨⟨l ++ [((on : Int), a1, a2, a3)], _, n', p8, congrArg (Value.int .i64) g3, len_snoc _ hln, fn_next HM8.out hbl HA.out rfl, ?_, rd_next HR8.out hbl HV.out HM8.out HA.out, by rw [HP.out, manyGo_next hpi]⟩, meas_next g3⟩
        intro q hq
        rcases List.mem_append.1 hq with hq | hq
        · exact HI.out q hq
        · simp only [List.mem_singleton] at hq
          subst hq
          exact pIns_fine hpi
end Go.Proofs.YtgmieehheoknbaaDoor

/-
  A module's bytes: what the document's code does (trouperef09.Write).
-/
import Derived.Test.YtgmieehheoknbaaEb
import Derived.Test.YtgmieehheoknbaaFu
import Derived.Test.YtgmieehheoknbaaWr
namespace Go.Tx
open Go Go.RowKit
def WriteXPost (m : Md) (w : World) (e : Ending) (w' : World) : Prop :=
  ∃ v er, e = .returned (.tuple #[v, er]) ∧ IsXO w' (Fresh w w') er (errM m) ∧ (errM m = none → Bytes w' v (encM m)) ∧ (errM m ≠ none → v = .slice none 0 0) ∧ New w w' v
theorem writeXPost_err {m : Md} {w w' : World} {er : Value} {c : List (ByteArray × Int)} {k : Int} (he : errM m = some (c, k)) (h : IsX w' (Fresh w w') er c k) (hc : c.length ≤ 9000) (hk : Keeps (fun _ => False) w w') :
    WriteXPost m w (.returned (.tuple #[.slice none 0 0, er])) w' :=
  ⟨_, _, rfl, by rw [he]; exact ⟨h, hc⟩, (fun h => by rw [he] at h; cases h), fun _ => rfl, hk, fun g hg => by simp [Value.ownBlock] at hg⟩
theorem writeXPost_ok {m : Md} {w w' : World} {v : Value} (he : errM m = none) (h : Bytes w' v (encM m)) (hn : New w w' v) : WriteXPost m w (.returned (.tuple #[v, .pointer none])) w' :=
  ⟨_, _, rfl, by rw [he]; exact rfl, fun _ => h, fun h => (h he).elim, hn⟩
theorem writeX_arg {m : Md} {w w' w1 : World} {i : Nat} {g1 g2 : Nat} (he : errM m = some ([(⟨#[119, 114, 105, 116, 101]⟩, (i : Int))], 1)) (hk : Keeps (fun _ => False) w w1) (h1 : g1 = w1.heap.size) (h2 : g2 = w1.heap.size + 1)
    (hw : w' = (w1.alloc (.cells #[.string ⟨#[]⟩, .int .i64 0, .pointer none, .int .i64 1] 79)).alloc (.cells #[.string ⟨#[119, 114, 105, 116, 101]⟩, .int .i64 (i : Int), .pointer (some ⟨g1, 0, none⟩), .int .i64 0] 79) := by rfl) :
    WriteXPost m w (.returned (.tuple #[.slice none 0 0, .pointer (some ⟨g2, 0, none⟩)])) w' := by
  subst hw h1 h2
  have hb := Blk.new (w1.alloc (.cells #[.string ⟨#[]⟩, .int .i64 0, .pointer none, .int .i64 1] 79)) [.string ⟨#[119, 114, 105, 116, 101]⟩, .int .i64 (i : Int), .pointer (some ⟨w1.heap.size, 0, none⟩), .int .i64 0] 79
  rw [World.size_alloc] at hb
  have hs := hk.size
  exact writeXPost_err he ⟨_, _, rfl, hb, ⟨by omega, by simp⟩, _, rfl, (Blk.new w1 _ _).alloc _, ⟨hs, by simp; omega⟩⟩ (by simp) ((hk.alloc _).alloc _)
/-- so many literals are written -/
def LitsAtR (lits : List Tm) (q0 : List UInt8) (w0 : World) (b c : Value) (wr : World) : Prop :=
  ∃ (i : Nat) (q : List UInt8), c = .int .i64 i ∧ i ≤ lits.length ∧ q = q0 ++ encTs (lits.take i) ∧ Bytes wr b q ∧ New w0 wr b
/-- so many functions are written -/
def FnsAtR (funcs : List Fnc) (q0 : List UInt8) (w0 : World) (b c : Value) (wr : World) : Prop :=
  ∃ (i : Nat) (q : List UInt8), c = .int .i64 i ∧ i ≤ funcs.length ∧ q = q0 ++ encFs (funcs.take i) ∧ Bytes wr b q ∧ New w0 wr b
theorem firstLit_all {l : List Tm} : ∀ {n : Nat} {i : Nat} {t : Tm}, firstLit l n = none → l[i]? = some t → rightTm t = none := by
  induction l with
  | nil => intro n i t _ h; simp at h
  | cons u l ih =>
    intro n i t hn hi
    unfold firstLit at hn
    split at hn
    · cases hn
    · next hr =>
      cases i with
      | zero => simp at hi; subst hi; exact hr
      | succ i => exact ih hn (by simpa using hi)
theorem firstFn_all {l : List Fnc} : ∀ {n : Nat} {i : Nat} {f : Fnc}, firstFn l n = none → l[i]? = some f → fnOk f = true := by
  induction l with
  | nil => intro n i t _ h; simp at h
  | cons u l ih =>
    intro n i t hn hi
    unfold firstFn at hn
    split at hn
    · next hr =>
      cases i with
      | zero => simp at hi; subst hi; exact hr
      | succ i => exact ih hn (by simpa using hi)
    · cases hn
/-- so many literals may be -/
def LitsOk (lits : List Tm) (w0 : World) (c : Value) (wr : World) : Prop :=
  ∃ i : Nat, c = .int .i64 i ∧ i ≤ lits.length ∧ firstLit lits 0 = firstLit (lits.drop i) i ∧ Keeps (fun _ => False) w0 wr
/-- so many functions may be -/
def FnsOk (funcs : List Fnc) (w0 : World) (c : Value) (wr : World) : Prop :=
  ∃ i : Nat, c = .int .i64 i ∧ i ≤ funcs.length ∧ firstFn funcs 0 = firstFn (funcs.drop i) i ∧ Keeps (fun _ => False) w0 wr
/-- so many instructions were passed by: the function may not be -/
def CodeNo (code : List (Int × Int × Int × Int)) (w0 : World) (b c : Value) (wr : World) : Prop :=
  ∃ j : Nat, c = .int .i64 j ∧ j ≤ code.length ∧ b = .bool false ∧ Keeps (fun _ => False) w0 wr
/-- so many instructions were looked at -/
def CodeOk (code : List (Int × Int × Int × Int)) (w0 : World) (b c : Value) (wr : World) : Prop :=
  ∃ j : Nat, c = .int .i64 j ∧ j ≤ code.length ∧ b = .bool ((code.take j).all insOk) ∧ Keeps (fun _ => False) w0 wr
end Go.Tx
namespace Go.Proofs.Ytgmieehheoknbaa
open Go.RowKit Go.Tx
set_option maxRecDepth 100000 in
set_option maxHeartbeats 12000000 in
theorem rwrite_any {w : World} {S : Nat → Prop} {d : Nat} {v : Value} (m : Md) (h : MdD w S d v m) (hS : ∀ x, S x → x < w.heap.size) (hl : (encM m).length ≤ 70368744170000) :
    Calls Try.prog 6 #[v] w (WriteXPost m w) := by
  obtain ⟨nm, lits, funcs⟩ := m
  obtain ⟨vl, vf, rfl, hn, h1, h2⟩ := h
  simp only at hn h1 h2 ⊢
  have HS := Lib.hid hS
  have HL := Lib.hid hl
  have H1 := Lib.hid h1
  have H2 := Lib.hid h2
  obtain ⟨al, cl, rfl⟩ := h1.form
  obtain ⟨af, cf, rfl⟩ := h2.form
  have hll := h1.1
  have hfl := h2.1
  clear hS hl h1 h2
  go_enter Try.func6, Try.ntmps6
  go_wp2
  obtain ⟨w0, hw0⟩ : ∃ w0, w0 = w.alloc (.cells #[.string nm, .slice al lits.length cl, .slice af funcs.length cf] 25) := ⟨_, rfl⟩
  rw [← hw0]
  have hb0 : Hid (Blk w0 w.heap.size 25 [.string nm, .slice al lits.length cl, .slice af funcs.length cf]) := Lib.hid (by rw [hw0]; exact Blk.new w _ _)
  have HZ0 : Hid (w0.heap.size = w.heap.size + 1) := Lib.hid (by rw [hw0, World.size_alloc])
  have HW0 : Hid (Keeps (fun _ => False) w w0) := Lib.hid (by rw [hw0]; exact (Keeps.refl _ w).alloc _)
  clear hw0
  go_loopw [4] (fun c wr => LitsOk lits w0 c wr) (fun c _ => lits.length - (intOf c).toNat)
  case atStart => exact ⟨0, rfl, Nat.zero_le _, rfl, Keeps.refl _ _⟩
  case round =>
    obtain ⟨i, rfl, hi, hfl4, hk4⟩ := hrel
    have HF4 := Lib.hid hfl4
    have HK4 := Lib.hid hk4
    have HKW := Lib.hid (HW0.out.trans hk4 fun _ _ h => h)
    have hsw2 := HKW.out.size
    have hbx := hb0.out.keeps hk4 fun h => h
    have d0 : wr.cell? ⟨w.heap.size, 0, none⟩ = some (.string nm) := hbx.cell (i := 0) rfl
    have d1 : wr.cell? ⟨w.heap.size, 1, none⟩ = some (.slice al lits.length cl) := hbx.cell (i := 1) rfl
    have d2 : wr.cell? ⟨w.heap.size, 2, none⟩ = some (.slice af funcs.length cf) := hbx.cell (i := 2) rfl
    have HBX := Lib.hid hbx
    clear hfl4 hk4 hbx
    by_cases hlt : i < lits.length
    · obtain ⟨t, hti⟩ : ∃ t, lits[i]? = some t := ⟨lits[i], by simp⟩
      obtain ⟨_, _, _, e, _, hcm, hel⟩ := H1.out.keeps HKW.out (fun _ _ h => h)
      cases e
      obtain ⟨b, o, vi, vr, vb, rfl, hSb, ⟨e0, e1, e2, e3, e4, e5⟩, htm⟩ := hel i t hti
      obtain ⟨x3, k3, x4, k4, x5, k5, rfl, rfl, rfl⟩ := htm.slices
      have HTI := Lib.hid hti
      have HTM := Lib.hid htm
      have hbr : b < wr.heap.size := by have := HS.out b hSb; omega
      unfold maxLen at hcm
      clear hti htm hel
      go_wp2_with (first | (go_at_call 17; refine Stop.out ?_))
      refine ⟨(rright_any HTM.out (fun x hx => by have := HS.out x hx; omega)).mono ?_⟩
      rintro e w5 ⟨v5, rfl, he5, hk5⟩
      unfold id
      have HK5 := Lib.hid hk5
      clear e0 e1 e2 e3 e4 e5 d0 d1 d2
      cases hr : rightTm t with
      | some x =>
        obtain ⟨ch, kd⟩ := x
        rw [hr] at he5
        obtain ⟨he5, hcl⟩ := he5
        obtain ⟨g, rfl⟩ := he5.ptr
        have HE5 := Lib.hid (he5.mono fun g hg => (⟨by have := hg.1; omega, hg.2⟩ : Fresh w w5 g))
        have HR := Lib.hid hr
        have HCL := Lib.hid (right_few hr)
        clear he5 hk5 hr hcl
        go_wp2_with (go_at_call 18; refine (around_some _ _ _ _).mono ?_; rintro e w6 ⟨rfl, rfl⟩)
        go_ret2
        have hee : errM ⟨nm, lits, funcs⟩ = some ((⟨#[119, 114, 105, 116, 101]⟩, (i : Int)) :: ch, kd) := by
          unfold errM
          simp only
          rw [HF4.out, firstLit_bad HTI.out HR.out]
        have hk6 : Keeps (fun _ => False) w w5 := HKW.out.trans HK5.out fun _ _ h => h
        exact writeXPost_err hee (HE5.out.wrapped _ _ (Keeps.refl _ _) hk6.size) (by have := HCL.out; simp; omega) (hk6.alloc _)
      | none =>
        rw [hr] at he5
        obtain rfl : v5 = .pointer none := he5
        have HR := Lib.hid hr
        clear hk5 hr
        go_wp2
        exact ⟨⟨i + 1, by go_num, by omega, by rw [HF4.out, firstLit_ok HTI.out HR.out], HK4.out.trans HK5.out fun _ _ h => h⟩, by simp [intOf]; omega⟩
    · obtain rfl : i = lits.length := by omega
      have HNO : Hid (firstLit lits 0 = none) := Lib.hid (by rw [HF4.out]; simp [firstLit])
      go_wp2
      clear d0 d1 d2
      obtain ⟨wo, rfl⟩ : ∃ wo : World, wo = wr := ⟨_, rfl⟩
      go_loopw [6] (fun c wr => FnsOk funcs w0 c wr) (fun c _ => funcs.length - (intOf c).toNat)
      case atStart => exact ⟨0, rfl, Nat.zero_le _, rfl, HK4.out⟩
      case round =>
        obtain ⟨i, rfl, hi, hfl6, hk6⟩ := hrel
        obtain ⟨wq, rfl⟩ : ∃ wq : World, wq = wr := ⟨_, rfl⟩
        have HF6 := Lib.hid hfl6
        have HK6 := Lib.hid hk6
        have HKW6 := Lib.hid (HW0.out.trans hk6 fun _ _ h => h)
        have hsw6 := HKW6.out.size
        have hbx := hb0.out.keeps hk6 fun h => h
        have d0 : wq.cell? ⟨w.heap.size, 0, none⟩ = some (.string nm) := hbx.cell (i := 0) rfl
        have d1 : wq.cell? ⟨w.heap.size, 1, none⟩ = some (.slice al lits.length cl) := hbx.cell (i := 1) rfl
        have d2 : wq.cell? ⟨w.heap.size, 2, none⟩ = some (.slice af funcs.length cf) := hbx.cell (i := 2) rfl
        have hsw7 : w.heap.size < wq.heap.size := lt_cell d0
        clear hfl6 hk6 hbx
        by_cases hlt6 : i < funcs.length
        · obtain ⟨f, hfi⟩ : ∃ f, funcs[i]? = some f := ⟨funcs[i], by simp⟩
          obtain ⟨_, _, _, e, _, hcm, hel⟩ := H2.out.keeps HKW6.out (fun _ _ h => h)
          cases e
          obtain ⟨hff, b, o, vc, rfl, hSb, ⟨e0, e1, e2, e3⟩, hcd⟩ := hel i f hfi
          obtain ⟨fn, fa, fs, cd⟩ := f
          obtain ⟨ac, cc, rfl⟩ := hcd.form
          simp only at e0 e1 e2 e3
          have HFI := Lib.hid hfi
          have HFF := Lib.hid hff
          have HCD := Lib.hid hcd
          have hbr : b < wq.heap.size := by have := HS.out b hSb; omega
          have hcdl := hcd.1
          simp only at hcdl
          have HNB : Hid (Blk (wq.alloc (.cells #[.string fn, .int .i64 fa, .int .i64 fs, .slice ac cd.length cc] 48)) wq.heap.size 48 [.string fn, .int .i64 fa, .int .i64 fs, .slice ac cd.length cc]) := Lib.hid (Blk.new wq _ _)
          have HKB : Hid (Keeps (fun _ => False) w0 (wq.alloc (.cells #[.string fn, .int .i64 fa, .int .i64 fs, .slice ac cd.length cc] 48))) := Lib.hid (HK6.out.alloc _)
          unfold maxLen at hcm
          clear hfi hff hcd hel
          by_cases hk1 : fa < 0
          · have g1 : decide (0 ≤ fa) = false := decide_eq_false (by omega)
            have HHO : Hid (headOk ⟨fn, fa, fs, cd⟩ = false) := Lib.hid (decide_eq_false (by simp only; omega))
            clear hk1
            go_wp2
            go_loopw [8, 9] (fun b c wr => CodeNo cd (wq.alloc (.cells #[.string fn, .int .i64 fa, .int .i64 fs, .slice ac cd.length cc] 48)) b c wr) (fun _ c _ => cd.length - (intOf c).toNat)
            case atStart => exact ⟨0, rfl, Nat.zero_le _, rfl, Keeps.refl _ _⟩
            case round =>
              obtain ⟨j, rfl, hj, rfl, hkj⟩ := hrel
              have hbf := HNB.out.keeps hkj fun h => h
              have f3 : wr.cell? ⟨wq.heap.size, 3, none⟩ = some (.slice ac cd.length cc) := hbf.cell (i := 3) rfl
              have HKJ := Lib.hid hkj
              have hsj := hkj.size
              rw [World.size_alloc] at hsj
              by_cases hjl : j < cd.length
              · obtain ⟨p, hpj⟩ : ∃ p, cd[j]? = some p := ⟨cd[j], by simp⟩
                obtain ⟨_, _, _, e, _, hcm2, hel⟩ := (HCD.out.keeps ((Keeps.refl (fun _ => False) wq).alloc (.cells #[.string fn, .int .i64 fa, .int .i64 fs, .slice ac cd.length cc] 48)) fun _ _ h => h).keeps hkj fun _ _ h => h
                cases e
                obtain ⟨_, b2, o2, rfl, hSb2, k0, k1, k2, k3⟩ := hel j p hpj
                obtain ⟨op, pa, pb, pc⟩ := p
                simp only at k0 k1 k2 k3
                have hbr2 : b2 < wr.heap.size := by have := HS.out b2 hSb2; omega
                unfold maxLen at hcm2
                clear hpj hel hkj hbf
                go_wp2
                exact ⟨⟨j + 1, by go_num, by omega, rfl, HKJ.out.alloc _⟩, by simp [intOf]; omega⟩
              · clear hkj hbf
                go_wp2_with (first | (go_at_call 20; refine (K_any _ _).mono ?_; rintro e w8 ⟨rfl, rfl⟩) | (go_at_call 18; refine (around_some _ _ _ _).mono ?_; rintro e w9 ⟨rfl, rfl⟩))
                go_ret2
                have hee : errM ⟨nm, lits, funcs⟩ = some ([(⟨#[119, 114, 105, 116, 101]⟩, (i : Int))], 1) := by
                  unfold errM
                  simp only
                  rw [HNO.out, HF6.out, firstFn_bad HFI.out (by unfold fnOk; rw [HHO.out]; rfl)]
                have hk8 : Keeps (fun _ => False) w wr := (HKW6.out.trans ((Keeps.refl _ _).alloc _) fun _ _ h => h).trans HKJ.out fun _ _ h => h
                exact writeX_arg hee hk8 rfl rfl
          have g1 : decide (0 ≤ fa) = true := decide_eq_true (by omega)
          by_cases hk2 : 1099511627776 < fa
          · have g2 : decide (fa ≤ 1099511627776) = false := decide_eq_false (by omega)
            have HHO : Hid (headOk ⟨fn, fa, fs, cd⟩ = false) := Lib.hid (decide_eq_false (by simp only; omega))
            clear hk1 hk2
            go_wp2
            go_loopw [8, 9] (fun b c wr => CodeNo cd (wq.alloc (.cells #[.string fn, .int .i64 fa, .int .i64 fs, .slice ac cd.length cc] 48)) b c wr) (fun _ c _ => cd.length - (intOf c).toNat)
            case atStart => exact ⟨0, rfl, Nat.zero_le _, rfl, Keeps.refl _ _⟩
            case round =>
              obtain ⟨j, rfl, hj, rfl, hkj⟩ := hrel
              have hbf := HNB.out.keeps hkj fun h => h
              have f3 : wr.cell? ⟨wq.heap.size, 3, none⟩ = some (.slice ac cd.length cc) := hbf.cell (i := 3) rfl
              have HKJ := Lib.hid hkj
              have hsj := hkj.size
              rw [World.size_alloc] at hsj
              by_cases hjl : j < cd.length
              · obtain ⟨p, hpj⟩ : ∃ p, cd[j]? = some p := ⟨cd[j], by simp⟩
                obtain ⟨_, _, _, e, _, hcm2, hel⟩ := (HCD.out.keeps ((Keeps.refl (fun _ => False) wq).alloc (.cells #[.string fn, .int .i64 fa, .int .i64 fs, .slice ac cd.length cc] 48)) fun _ _ h => h).keeps hkj fun _ _ h => h
                cases e
                obtain ⟨_, b2, o2, rfl, hSb2, k0, k1, k2, k3⟩ := hel j p hpj
                obtain ⟨op, pa, pb, pc⟩ := p
                simp only at k0 k1 k2 k3
                have hbr2 : b2 < wr.heap.size := by have := HS.out b2 hSb2; omega
                unfold maxLen at hcm2
                clear hpj hel hkj hbf
                go_wp2
                exact ⟨⟨j + 1, by go_num, by omega, rfl, HKJ.out.alloc _⟩, by simp [intOf]; omega⟩
              · clear hkj hbf
                go_wp2_with (first | (go_at_call 20; refine (K_any _ _).mono ?_; rintro e w8 ⟨rfl, rfl⟩) | (go_at_call 18; refine (around_some _ _ _ _).mono ?_; rintro e w9 ⟨rfl, rfl⟩))
                go_ret2
                have hee : errM ⟨nm, lits, funcs⟩ = some ([(⟨#[119, 114, 105, 116, 101]⟩, (i : Int))], 1) := by
                  unfold errM
                  simp only
                  rw [HNO.out, HF6.out, firstFn_bad HFI.out (by unfold fnOk; rw [HHO.out]; rfl)]
                have hk8 : Keeps (fun _ => False) w wr := (HKW6.out.trans ((Keeps.refl _ _).alloc _) fun _ _ h => h).trans HKJ.out fun _ _ h => h
                exact writeX_arg hee hk8 rfl rfl
          have g2 : decide (fa ≤ 1099511627776) = true := decide_eq_true (by omega)
          by_cases hk3 : fs < 0
          · have g3 : decide (0 ≤ fs) = false := decide_eq_false (by omega)
            have HHO : Hid (headOk ⟨fn, fa, fs, cd⟩ = false) := Lib.hid (decide_eq_false (by simp only; omega))
            clear hk1 hk2 hk3
            go_wp2
            go_loopw [8, 9] (fun b c wr => CodeNo cd (wq.alloc (.cells #[.string fn, .int .i64 fa, .int .i64 fs, .slice ac cd.length cc] 48)) b c wr) (fun _ c _ => cd.length - (intOf c).toNat)
            case atStart => exact ⟨0, rfl, Nat.zero_le _, rfl, Keeps.refl _ _⟩
            case round =>
              obtain ⟨j, rfl, hj, rfl, hkj⟩ := hrel
              have hbf := HNB.out.keeps hkj fun h => h
              have f3 : wr.cell? ⟨wq.heap.size, 3, none⟩ = some (.slice ac cd.length cc) := hbf.cell (i := 3) rfl
              have HKJ := Lib.hid hkj
              have hsj := hkj.size
              rw [World.size_alloc] at hsj
              by_cases hjl : j < cd.length
              · obtain ⟨p, hpj⟩ : ∃ p, cd[j]? = some p := ⟨cd[j], by simp⟩
                obtain ⟨_, _, _, e, _, hcm2, hel⟩ := (HCD.out.keeps ((Keeps.refl (fun _ => False) wq).alloc (.cells #[.string fn, .int .i64 fa, .int .i64 fs, .slice ac cd.length cc] 48)) fun _ _ h => h).keeps hkj fun _ _ h => h
                cases e
                obtain ⟨_, b2, o2, rfl, hSb2, k0, k1, k2, k3⟩ := hel j p hpj
                obtain ⟨op, pa, pb, pc⟩ := p
                simp only at k0 k1 k2 k3
                have hbr2 : b2 < wr.heap.size := by have := HS.out b2 hSb2; omega
                unfold maxLen at hcm2
                clear hpj hel hkj hbf
                go_wp2
                exact ⟨⟨j + 1, by go_num, by omega, rfl, HKJ.out.alloc _⟩, by simp [intOf]; omega⟩
              · clear hkj hbf
                go_wp2_with (first | (go_at_call 20; refine (K_any _ _).mono ?_; rintro e w8 ⟨rfl, rfl⟩) | (go_at_call 18; refine (around_some _ _ _ _).mono ?_; rintro e w9 ⟨rfl, rfl⟩))
                go_ret2
                have hee : errM ⟨nm, lits, funcs⟩ = some ([(⟨#[119, 114, 105, 116, 101]⟩, (i : Int))], 1) := by
                  unfold errM
                  simp only
                  rw [HNO.out, HF6.out, firstFn_bad HFI.out (by unfold fnOk; rw [HHO.out]; rfl)]
                have hk8 : Keeps (fun _ => False) w wr := (HKW6.out.trans ((Keeps.refl _ _).alloc _) fun _ _ h => h).trans HKJ.out fun _ _ h => h
                exact writeX_arg hee hk8 rfl rfl
          have g3 : decide (0 ≤ fs) = true := decide_eq_true (by omega)
          by_cases hk4 : 1099511627776 < fs
          · have g4 : decide (fs ≤ 1099511627776) = false := decide_eq_false (by omega)
            have HHO : Hid (headOk ⟨fn, fa, fs, cd⟩ = false) := Lib.hid (decide_eq_false (by simp only; omega))
            clear hk1 hk2 hk3 hk4
            go_wp2
            go_loopw [8, 9] (fun b c wr => CodeNo cd (wq.alloc (.cells #[.string fn, .int .i64 fa, .int .i64 fs, .slice ac cd.length cc] 48)) b c wr) (fun _ c _ => cd.length - (intOf c).toNat)
            case atStart => exact ⟨0, rfl, Nat.zero_le _, rfl, Keeps.refl _ _⟩
            case round =>
              obtain ⟨j, rfl, hj, rfl, hkj⟩ := hrel
              have hbf := HNB.out.keeps hkj fun h => h
              have f3 : wr.cell? ⟨wq.heap.size, 3, none⟩ = some (.slice ac cd.length cc) := hbf.cell (i := 3) rfl
              have HKJ := Lib.hid hkj
              have hsj := hkj.size
              rw [World.size_alloc] at hsj
              by_cases hjl : j < cd.length
              · obtain ⟨p, hpj⟩ : ∃ p, cd[j]? = some p := ⟨cd[j], by simp⟩
                obtain ⟨_, _, _, e, _, hcm2, hel⟩ := (HCD.out.keeps ((Keeps.refl (fun _ => False) wq).alloc (.cells #[.string fn, .int .i64 fa, .int .i64 fs, .slice ac cd.length cc] 48)) fun _ _ h => h).keeps hkj fun _ _ h => h
                cases e
                obtain ⟨_, b2, o2, rfl, hSb2, k0, k1, k2, k3⟩ := hel j p hpj
                obtain ⟨op, pa, pb, pc⟩ := p
                simp only at k0 k1 k2 k3
                have hbr2 : b2 < wr.heap.size := by have := HS.out b2 hSb2; omega
                unfold maxLen at hcm2
                clear hpj hel hkj hbf
                go_wp2
                exact ⟨⟨j + 1, by go_num, by omega, rfl, HKJ.out.alloc _⟩, by simp [intOf]; omega⟩
              · clear hkj hbf
                go_wp2_with (first | (go_at_call 20; refine (K_any _ _).mono ?_; rintro e w8 ⟨rfl, rfl⟩) | (go_at_call 18; refine (around_some _ _ _ _).mono ?_; rintro e w9 ⟨rfl, rfl⟩))
                go_ret2
                have hee : errM ⟨nm, lits, funcs⟩ = some ([(⟨#[119, 114, 105, 116, 101]⟩, (i : Int))], 1) := by
                  unfold errM
                  simp only
                  rw [HNO.out, HF6.out, firstFn_bad HFI.out (by unfold fnOk; rw [HHO.out]; rfl)]
                have hk8 : Keeps (fun _ => False) w wr := (HKW6.out.trans ((Keeps.refl _ _).alloc _) fun _ _ h => h).trans HKJ.out fun _ _ h => h
                exact writeX_arg hee hk8 rfl rfl
          have g4 : decide (fs ≤ 1099511627776) = true := decide_eq_true (by omega)
          have HHO : Hid (headOk ⟨fn, fa, fs, cd⟩ = true) := Lib.hid (decide_eq_true (by simp only; omega))
          clear hk1 hk2 hk3 hk4
          go_wp2
          go_loopw [8, 9] (fun b c wr => CodeOk cd (wq.alloc (.cells #[.string fn, .int .i64 fa, .int .i64 fs, .slice ac cd.length cc] 48)) b c wr) (fun _ c _ => cd.length - (intOf c).toNat)
          case atStart => exact ⟨0, rfl, Nat.zero_le _, rfl, Keeps.refl _ _⟩
          case round =>
            obtain ⟨j, rfl, hj, rfl, hkj⟩ := hrel
            have hbf := HNB.out.keeps hkj fun h => h
            have f3 : wr.cell? ⟨wq.heap.size, 3, none⟩ = some (.slice ac cd.length cc) := hbf.cell (i := 3) rfl
            have HKJ := Lib.hid hkj
            have hsj := hkj.size
            rw [World.size_alloc] at hsj
            clear hkj hbf
            cases hall : (cd.take j).all insOk with
            | false =>
              have HALL := Lib.hid hall
              clear hall
              by_cases hjl : j < cd.length
              · skip
                obtain ⟨p, hpj⟩ : ∃ p, cd[j]? = some p := ⟨cd[j], by simp⟩
                obtain ⟨_, _, _, e, _, hcm2, hel⟩ := (HCD.out.keeps ((Keeps.refl (fun _ => False) wq).alloc (.cells #[.string fn, .int .i64 fa, .int .i64 fs, .slice ac cd.length cc] 48)) fun _ _ h => h).keeps HKJ.out fun _ _ h => h
                cases e
                obtain ⟨_, b2, o2, rfl, hSb2, k0, k1, k2, k3⟩ := hel j p hpj
                obtain ⟨op, pa, pb, pc⟩ := p
                simp only at k0 k1 k2 k3
                have hbr2 : b2 < wr.heap.size := by have := HS.out b2 hSb2; omega
                have HPJ := Lib.hid hpj
                unfold maxLen at hcm2
                clear hpj hel
                go_wp2
                refine ⟨⟨j + 1, by go_num, by omega, ?_, HKJ.out.alloc _⟩, by simp [intOf]; omega⟩
                rw [List.take_add_one, List.all_append, HALL.out]
                rfl
              · obtain rfl : j = cd.length := by omega
                rw [List.take_length] at HALL
                go_wp2_with (first | (go_at_call 20; refine (K_any _ _).mono ?_; rintro e w8 ⟨rfl, rfl⟩) | (go_at_call 18; refine (around_some _ _ _ _).mono ?_; rintro e w9 ⟨rfl, rfl⟩))
                go_ret2
                have hee : errM ⟨nm, lits, funcs⟩ = some ([(⟨#[119, 114, 105, 116, 101]⟩, (i : Int))], 1) := by
                  unfold errM
                  simp only
                  rw [HNO.out, HF6.out, firstFn_bad HFI.out (by unfold fnOk; rw [HHO.out]; exact HALL.out)]
                have hk8 : Keeps (fun _ => False) w wr := (HKW6.out.trans ((Keeps.refl _ _).alloc _) fun _ _ h => h).trans HKJ.out fun _ _ h => h
                exact writeX_arg hee hk8 rfl rfl
            | true =>
              have HALL := Lib.hid hall
              clear hall
              by_cases hjl : j < cd.length
              · skip
                obtain ⟨p, hpj⟩ : ∃ p, cd[j]? = some p := ⟨cd[j], by simp⟩
                obtain ⟨_, _, _, e, _, hcm2, hel⟩ := (HCD.out.keeps ((Keeps.refl (fun _ => False) wq).alloc (.cells #[.string fn, .int .i64 fa, .int .i64 fs, .slice ac cd.length cc] 48)) fun _ _ h => h).keeps HKJ.out fun _ _ h => h
                cases e
                obtain ⟨_, b2, o2, rfl, hSb2, k0, k1, k2, k3⟩ := hel j p hpj
                obtain ⟨op, pa, pb, pc⟩ := p
                simp only at k0 k1 k2 k3
                have hbr2 : b2 < wr.heap.size := by have := HS.out b2 hSb2; omega
                have HPJ := Lib.hid hpj
                unfold maxLen at hcm2
                clear hpj hel
                by_cases ho1 : op < 0
                · have go1 : decide (0 ≤ op) = false := decide_eq_false (by omega)
                  have HI2 : Hid (insOk (op, pa, pb, pc) = false) := Lib.hid (by rw [insOk_eq, decide_eq_false (by omega)]; rfl)
                  go_wp2
                  refine ⟨⟨j + 1, by go_num, by omega, ?_, HKJ.out.alloc _⟩, by simp [intOf]; omega⟩
                  rw [List.take_add_one, HPJ.out, List.all_append, HALL.out]
                  simp [HI2.out]
                have go1 : decide (0 ≤ op) = true := decide_eq_true (by omega)
                by_cases ho2 : 255 < op
                · have go2 : decide (op ≤ 255) = false := decide_eq_false (by omega)
                  have HI2 : Hid (insOk (op, pa, pb, pc) = false) := Lib.hid (by rw [insOk_eq, decide_eq_false (by omega)]; rfl)
                  go_wp2
                  refine ⟨⟨j + 1, by go_num, by omega, ?_, HKJ.out.alloc _⟩, by simp [intOf]; omega⟩
                  rw [List.take_add_one, HPJ.out, List.all_append, HALL.out]
                  simp [HI2.out]
                have go2 : decide (op ≤ 255) = true := decide_eq_true (by omega)
                cases hpa : half pa with
                | false =>
                  have Hpa : Hid (∀ w, Calls Try.prog 19 #[.int .i64 pa] w fun e w' => e = .returned (.bool false) ∧ w' = w) := Lib.hid fun w => by have := half_any w pa; rwa [hpa] at this
                  have HI2 : Hid (insOk (op, pa, pb, pc) = false) := Lib.hid (by rw [insOk_eq, hpa]; simp)
                  go_wp2_with (first | (go_at_call 19; refine (Hpa.out _).mono ?_; rintro e w9 ⟨rfl, rfl⟩))
                  refine ⟨⟨j + 1, by go_num, by omega, ?_, HKJ.out.alloc _⟩, by simp [intOf]; omega⟩
                  rw [List.take_add_one, HPJ.out, List.all_append, HALL.out]
                  simp [HI2.out]
                | true =>
                  cases hpb : half pb with
                  | false =>
                    have Hpa : Hid (∀ w, Calls Try.prog 19 #[.int .i64 pa] w fun e w' => e = .returned (.bool true) ∧ w' = w) := Lib.hid fun w => by have := half_any w pa; rwa [hpa] at this
                    have Hpb : Hid (∀ w, Calls Try.prog 19 #[.int .i64 pb] w fun e w' => e = .returned (.bool false) ∧ w' = w) := Lib.hid fun w => by have := half_any w pb; rwa [hpb] at this
                    have HI2 : Hid (insOk (op, pa, pb, pc) = false) := Lib.hid (by rw [insOk_eq, hpb]; simp)
                    go_wp2_with (first | (go_at_call 19; refine (Hpa.out _).mono ?_; rintro e w9 ⟨rfl, rfl⟩) | (go_at_call 19; refine (Hpb.out _).mono ?_; rintro e w9 ⟨rfl, rfl⟩))
                    refine ⟨⟨j + 1, by go_num, by omega, ?_, HKJ.out.alloc _⟩, by simp [intOf]; omega⟩
                    rw [List.take_add_one, HPJ.out, List.all_append, HALL.out]
                    simp [HI2.out]
                  | true =>
                    cases hpc : half pc with
                    | false =>
                      have Hpa : Hid (∀ w, Calls Try.prog 19 #[.int .i64 pa] w fun e w' => e = .returned (.bool true) ∧ w' = w) := Lib.hid fun w => by have := half_any w pa; rwa [hpa] at this
                      have Hpb : Hid (∀ w, Calls Try.prog 19 #[.int .i64 pb] w fun e w' => e = .returned (.bool true) ∧ w' = w) := Lib.hid fun w => by have := half_any w pb; rwa [hpb] at this
                      have Hpc : Hid (∀ w, Calls Try.prog 19 #[.int .i64 pc] w fun e w' => e = .returned (.bool false) ∧ w' = w) := Lib.hid fun w => by have := half_any w pc; rwa [hpc] at this
                      have HI2 : Hid (insOk (op, pa, pb, pc) = false) := Lib.hid (by rw [insOk_eq, hpc]; simp)
                      go_wp2_with (first | (go_at_call 19; refine (Hpa.out _).mono ?_; rintro e w9 ⟨rfl, rfl⟩) | (go_at_call 19; refine (Hpb.out _).mono ?_; rintro e w9 ⟨rfl, rfl⟩) | (go_at_call 19; refine (Hpc.out _).mono ?_; rintro e w9 ⟨rfl, rfl⟩))
                      refine ⟨⟨j + 1, by go_num, by omega, ?_, HKJ.out.alloc _⟩, by simp [intOf]; omega⟩
                      rw [List.take_add_one, HPJ.out, List.all_append, HALL.out]
                      simp [HI2.out]
                    | true =>
                      have Hpa : Hid (∀ w, Calls Try.prog 19 #[.int .i64 pa] w fun e w' => e = .returned (.bool true) ∧ w' = w) := Lib.hid fun w => by have := half_any w pa; rwa [hpa] at this
                      have Hpb : Hid (∀ w, Calls Try.prog 19 #[.int .i64 pb] w fun e w' => e = .returned (.bool true) ∧ w' = w) := Lib.hid fun w => by have := half_any w pb; rwa [hpb] at this
                      have Hpc : Hid (∀ w, Calls Try.prog 19 #[.int .i64 pc] w fun e w' => e = .returned (.bool true) ∧ w' = w) := Lib.hid fun w => by have := half_any w pc; rwa [hpc] at this
                      have HI2 : Hid (insOk (op, pa, pb, pc) = true) := Lib.hid (by rw [insOk_eq, hpa, hpb, hpc, decide_eq_true (by omega)]; rfl)
                      go_wp2_with (first | (go_at_call 19; refine (Hpa.out _).mono ?_; rintro e w9 ⟨rfl, rfl⟩) | (go_at_call 19; refine (Hpb.out _).mono ?_; rintro e w9 ⟨rfl, rfl⟩) | (go_at_call 19; refine (Hpc.out _).mono ?_; rintro e w9 ⟨rfl, rfl⟩))
                      refine ⟨⟨j + 1, by go_num, by omega, ?_, HKJ.out.alloc _⟩, by simp [intOf]; omega⟩
                      rw [List.take_add_one, HPJ.out, List.all_append, HALL.out]
                      simp [HI2.out]
              · obtain rfl : j = cd.length := by omega
                rw [List.take_length] at HALL
                go_wp2
                exact ⟨⟨i + 1, by go_num, by omega, by rw [HF6.out, firstFn_ok HFI.out (by unfold fnOk; rw [HHO.out]; exact HALL.out)], HKB.out.trans HKJ.out fun _ _ h => h⟩, by simp [intOf]; omega⟩
        · obtain rfl : i = funcs.length := by omega
          have HNF : Hid (errM ⟨nm, lits, funcs⟩ = none) := Lib.hid (by
            unfold errM
            simp only
            rw [HNO.out, HF6.out]
            simp [firstFn])
          go_wp2_with (first | (go_at_call 21; refine Stop.out ?_))
          have hbm : Bytes (wq.alloc (.cells #[.int .u8 84, .int .u8 82, .int .u8 80, .int .u8 69] 5)) (.slice (some ⟨wq.heap.size, 0, none⟩) 4 4) magic := bytes_new (Blk.new wq (byteV magic) 5) rfl (by decide)
          refine ⟨(rsome_any nm (by omega) hbm (by decide) (by simp [magic]; omega)).mono ?_⟩
          rintro e w2 ⟨v2, q2, rfl, hq2, hb2, hg2⟩
          obtain ⟨a2, c2, rfl⟩ := hb2.form
          have HN2 : Hid (New w0 w2 (.slice a2 q2.length c2)) := Lib.hid (New.of (HK6.out.alloc _) hg2 fun g hg => by have h1 := Option.some.inj hg; have h2 := HK6.out.size; simp at h1; omega)
          have hq2l : q2.length ≤ 1099511627800 := by
            have h1 := encN_ten (n := nm.size) (by omega)
            have h2 : magic.length = 4 := rfl
            rw [hq2, List.length_append, encB_len]
            omega
          have HB2 := Lib.hid hb2
          have HQ2 := Lib.hid hq2
          have hbx2 := hb0.out.keeps HN2.out.keeps fun h => h
          have d1 : w2.cell? ⟨w.heap.size, 1, none⟩ = some (.slice al lits.length cl) := hbx2.cell (i := 1) rfl
          clear hb2 hg2 hq2 hbm hbx2 d0 d2
          go_wp2_with (first | (go_at_call 22; refine Stop.out ?_))
          refine ⟨(rnum_any lits.length (by omega) HB2.out (by omega)).mono ?_⟩
          rintro e w3 ⟨v3, q3, rfl, hq3, hb3, hg3⟩
          obtain ⟨a3, c3, rfl⟩ := hb3.form
          have HN3 := Lib.hid (HN2.out.grown hg3)
          have HB3 := Lib.hid hb3
          have HQ3 := Lib.hid hq3
          clear hb3 hg3 hq3 d1
          go_wp2
          go_loopw [11, 12] (fun b c wr => LitsAtR lits q3 w0 b c wr) (fun _ c _ => lits.length - (intOf c).toNat)
          case atStart => exact ⟨0, q3, rfl, Nat.zero_le _, by simp [encTs], HB3.out, HN3.out⟩
          case round =>
            obtain ⟨i, q4, rfl, hi, hq4, hb4, hn4⟩ := hrel
            obtain ⟨a4, c4, rfl⟩ := hb4.form
            have HQ4 := Lib.hid hq4
            have HB4 := Lib.hid hb4
            have HN4 := Lib.hid hn4
            have HKW4 := Lib.hid (HW0.out.trans hn4.keeps fun _ _ h => h)
            have hbx := hb0.out.keeps hn4.keeps fun h => h
            have d1 : wr.cell? ⟨w.heap.size, 1, none⟩ = some (.slice al lits.length cl) := hbx.cell (i := 1) rfl
            have d2 : wr.cell? ⟨w.heap.size, 2, none⟩ = some (.slice af funcs.length cf) := hbx.cell (i := 2) rfl
            have hsw4 := HKW4.out.size
            clear hb4 hn4 hbx
            by_cases hlt4 : i < lits.length
            · obtain ⟨t, hti⟩ : ∃ t, lits[i]? = some t := ⟨lits[i], by simp⟩
              have hbd : q4.length + (encT t).length ≤ 70368744177000 := by
                have h1 := HL.out
                have h2 := encTs_next hti
                simp only [encM, List.length_append] at h1
                rw [hq4, List.length_append, HQ3.out, List.length_append, HQ2.out, List.length_append]
                omega
              have hrt : rightTm t = none := firstLit_all HNO.out hti
              obtain ⟨_, _, _, e, _, hcm, hel⟩ := H1.out.keeps HKW4.out (fun _ _ h => h)
              cases e
              obtain ⟨b, o, vi, vr, vb, rfl, hSb, ⟨e0, e1, e2, e3, e4, e5⟩, htm⟩ := hel i t hti
              obtain ⟨x3, k3, x4, k4, x5, k5, rfl, rfl, rfl⟩ := htm.slices
              have HTI := Lib.hid hti
              have HTM := Lib.hid htm
              have HR := Lib.hid hrt
              have hbr : b < wr.heap.size := by have := HS.out b hSb; omega
              unfold maxLen at hcm
              clear hti htm hel hq4 hrt
              go_wp2_with (first | (go_at_call 23; refine Stop.out ?_))
              refine ⟨(renc_any d _ S _ _ q4 t HB4.out HTM.out (right_okT HR.out) (fun x hx => by have := HS.out x hx; omega) (fun g hg hs => by have := HN4.out.own g hg; have := HS.out g hs; have := HZ0.out; omega) hbd).mono ?_⟩
              rintro e w7 ⟨v7, q7, rfl, hq7, hb7, hg7⟩
              have HB7 := Lib.hid hb7
              have HN7 := Lib.hid (HN4.out.grown hg7)
              have HQ7 := Lib.hid hq7
              clear hb7 hg7 hq7 e0 e1 e2 e3 e4 e5 d1 d2
              go_wp2
              refine ⟨⟨i + 1, q7, by go_num, by omega, ?_, HB7.out, HN7.out⟩, by simp [intOf]; omega⟩
              rw [HQ7.out, HQ4.out, encTs_take HTI.out, List.append_assoc]
            · obtain rfl : i = lits.length := by omega
              rw [List.take_length] at hq4
              have HQ4 := Lib.hid hq4
              have hq4l : q4.length ≤ 70368744177000 := by
                have h1 := HL.out
                simp only [encM, List.length_append] at h1
                rw [hq4, List.length_append, HQ3.out, List.length_append, HQ2.out, List.length_append]
                omega
              clear hq4
              go_wp2_with (first | (go_at_call 22; refine Stop.out ?_))
              refine ⟨(rnum_any funcs.length (by omega) HB4.out (by omega)).mono ?_⟩
              rintro e w5 ⟨v5, q5, rfl, hq5, hb5, hg5⟩
              obtain ⟨a5, c5, rfl⟩ := hb5.form
              have HB5 := Lib.hid hb5
              have HN5 := Lib.hid (HN4.out.grown hg5)
              have HQ5 := Lib.hid hq5
              clear hb5 hg5 hq5 d1 d2
              go_wp2
              go_loopw [11, 13] (fun b c wr => FnsAtR funcs q5 w0 b c wr) (fun _ c _ => funcs.length - (intOf c).toNat)
              case atStart => exact ⟨0, q5, rfl, Nat.zero_le _, by simp [encFs], HB5.out, HN5.out⟩
              case round =>
                obtain ⟨i, q6, rfl, hi, hq6, hb6, hn6⟩ := hrel
                obtain ⟨wp, rfl⟩ : ∃ wp : World, wp = wr := ⟨_, rfl⟩
                obtain ⟨a6, c6, rfl⟩ := hb6.form
                have HQ6 := Lib.hid hq6
                have HB6 := Lib.hid hb6
                have HN6 := Lib.hid hn6
                have HKW7 := Lib.hid (HW0.out.trans hn6.keeps fun _ _ h => h)
                have hsw8 := HKW7.out.size
                have hbx := hb0.out.keeps hn6.keeps fun h => h
                have d2 : wp.cell? ⟨w.heap.size, 2, none⟩ = some (.slice af funcs.length cf) := hbx.cell (i := 2) rfl
                clear hb6 hn6 hbx
                by_cases hlt7 : i < funcs.length
                · obtain ⟨f, hfi⟩ : ∃ f, funcs[i]? = some f := ⟨funcs[i], by simp⟩
                  have hbd : q6.length + (encF f).length ≤ 70368744177000 := by
                    have h1 := HL.out
                    have h2 := encFs_next hfi
                    simp only [encM, List.length_append] at h1
                    rw [hq6, List.length_append, HQ5.out, List.length_append, HQ4.out, List.length_append, HQ3.out, List.length_append, HQ2.out, List.length_append]
                    omega
                  have hfok : fnOk f = true := by
                    have hno := HNF.out
                    unfold errM at hno
                    simp only at hno
                    rw [HNO.out] at hno
                    exact firstFn_all hno hfi
                  obtain ⟨_, _, _, e, _, hcm, hel⟩ := H2.out.keeps HKW7.out (fun _ _ h => h)
                  cases e
                  obtain ⟨hff, b, o, vc, rfl, hSb, ⟨e0, e1, e2, e3⟩, hcd⟩ := hel i f hfi
                  obtain ⟨fn, fa, fs, cd⟩ := f
                  obtain ⟨ac, cc, rfl⟩ := hcd.form
                  simp only at e0 e1 e2 e3
                  have HR := Lib.hid hfok
                  have hho : headOk ⟨fn, fa, fs, cd⟩ = true := by unfold fnOk at hfok; simp only [Bool.and_eq_true] at hfok; exact hfok.1
                  obtain ⟨fa0, fa1, fs0, fs1⟩ := of_decide_eq_true hho
                  simp only at fa0 fa1 fs0 fs1
                  obtain ⟨na, rfl⟩ := Int.eq_ofNat_of_zero_le fa0
                  obtain ⟨ns, rfl⟩ := Int.eq_ofNat_of_zero_le fs0
                  have HFI := Lib.hid hfi
                  have HCD := Lib.hid hcd
                  have hbr : b < wp.heap.size := by have := HS.out b hSb; omega
                  have hcdl := hcd.1
                  have hfn := hff.n1
                  simp only at hcdl hfn
                  have hbd' := hbd
                  simp only [encF, encH, List.length_append, encB_len, Int.toNat_natCast] at hbd'
                  unfold maxLen at hcm
                  clear hfi hff hcd hel hq6 hho hfok
                  go_wp2_with (first | (go_at_call 21; refine Stop.out ?_))
                  have HB67 := Lib.hid (HB6.out.still ((Keeps.refl (fun _ => False) wp).alloc (.cells #[.string fn, .int .i64 (na : Int), .int .i64 (ns : Int), .slice ac cd.length cc] 48)))
                  have HBF := Lib.hid (Blk.new wp [.string fn, .int .i64 (na : Int), .int .i64 (ns : Int), .slice ac cd.length cc] 48)
                  refine ⟨(rsome_any fn (by omega) HB67.out (by omega) (by omega)).mono ?_⟩
                  rintro e w8 ⟨v8, q8, rfl, hq8, hb8, hg8⟩
                  obtain ⟨a8, c8, rfl⟩ := hb8.form
                  have hle8 : q8.length ≤ q6.length + (encB fn).length := by rw [hq8, List.length_append]; exact Nat.le_refl _
                  rw [encB_len] at hle8
                  have HB8 := Lib.hid hb8
                  have HX8 : Hid (Grown (wp.alloc (.cells #[.string fn, .int .i64 (na : Int), .int .i64 (ns : Int), .slice ac cd.length cc] 48)) w8 (.slice a6 q6.length c6) (.slice a8 q8.length c8)) := Lib.hid (hg8)
                  have hbw := HBF.out.keeps HX8.out.keeps fun h => HBF.out.ne_row HB67.out (by decide) h rfl
                  have f1 : w8.cell? ⟨wp.heap.size, 1, none⟩ = some (.int .i64 (na : Int)) := hbw.cell (i := 1) rfl
                  have f2 : w8.cell? ⟨wp.heap.size, 2, none⟩ = some (.int .i64 (ns : Int)) := hbw.cell (i := 2) rfl
                  have f3 : w8.cell? ⟨wp.heap.size, 3, none⟩ = some (.slice ac cd.length cc) := hbw.cell (i := 3) rfl
                  have HQ8 := Lib.hid hq8
                  clear hb8 hg8 hq8 hbw
                  clear e0 e1 e2 e3 d2
                  go_wp2_with (first | (go_at_call 22; refine Stop.out ?_))
                  refine ⟨(rnum_any na (by omega) HB8.out (by omega)).mono ?_⟩
                  rintro e w9 ⟨v9, q9, rfl, hq9, hb9, hg9⟩
                  obtain ⟨a9, c9, rfl⟩ := hb9.form
                  have hle9 : q9.length ≤ q8.length + (encN na).length := by rw [hq9, List.length_append]; exact Nat.le_refl _
                  have HB9 := Lib.hid hb9
                  have HX9 : Hid (Grown (wp.alloc (.cells #[.string fn, .int .i64 (na : Int), .int .i64 (ns : Int), .slice ac cd.length cc] 48)) w9 (.slice a6 q6.length c6) (.slice a9 q9.length c9)) := Lib.hid (HX8.out.trans hg9)
                  have hbw := HBF.out.keeps HX9.out.keeps fun h => HBF.out.ne_row HB67.out (by decide) h rfl
                  have f1 : w9.cell? ⟨wp.heap.size, 1, none⟩ = some (.int .i64 (na : Int)) := hbw.cell (i := 1) rfl
                  have f2 : w9.cell? ⟨wp.heap.size, 2, none⟩ = some (.int .i64 (ns : Int)) := hbw.cell (i := 2) rfl
                  have f3 : w9.cell? ⟨wp.heap.size, 3, none⟩ = some (.slice ac cd.length cc) := hbw.cell (i := 3) rfl
                  have HQ9 := Lib.hid hq9
                  clear hb9 hg9 hq9 hbw
                  go_wp2_with (first | (go_at_call 22; refine Stop.out ?_))
                  refine ⟨(rnum_any ns (by omega) HB9.out (by omega)).mono ?_⟩
                  rintro e w10 ⟨v10, q10, rfl, hq10, hb10, hg10⟩
                  obtain ⟨a10, c10, rfl⟩ := hb10.form
                  have hle10 : q10.length ≤ q9.length + (encN ns).length := by rw [hq10, List.length_append]; exact Nat.le_refl _
                  have HB10 := Lib.hid hb10
                  have HX10 : Hid (Grown (wp.alloc (.cells #[.string fn, .int .i64 (na : Int), .int .i64 (ns : Int), .slice ac cd.length cc] 48)) w10 (.slice a6 q6.length c6) (.slice a10 q10.length c10)) := Lib.hid (HX9.out.trans hg10)
                  have hbw := HBF.out.keeps HX10.out.keeps fun h => HBF.out.ne_row HB67.out (by decide) h rfl
                  have f1 : w10.cell? ⟨wp.heap.size, 1, none⟩ = some (.int .i64 (na : Int)) := hbw.cell (i := 1) rfl
                  have f2 : w10.cell? ⟨wp.heap.size, 2, none⟩ = some (.int .i64 (ns : Int)) := hbw.cell (i := 2) rfl
                  have f3 : w10.cell? ⟨wp.heap.size, 3, none⟩ = some (.slice ac cd.length cc) := hbw.cell (i := 3) rfl
                  have HQ10 := Lib.hid hq10
                  clear hb10 hg10 hq10 hbw
                  go_wp2_with (first | (go_at_call 22; refine Stop.out ?_))
                  refine ⟨(rnum_any cd.length (by omega) HB10.out (by omega)).mono ?_⟩
                  rintro e w11 ⟨v11, q11, rfl, hq11, hb11, hg11⟩
                  obtain ⟨a11, c11, rfl⟩ := hb11.form
                  have hle11 : q11.length ≤ q10.length + (encN cd.length).length := by rw [hq11, List.length_append]; exact Nat.le_refl _
                  have HB11 := Lib.hid hb11
                  have HX11 : Hid (Grown (wp.alloc (.cells #[.string fn, .int .i64 (na : Int), .int .i64 (ns : Int), .slice ac cd.length cc] 48)) w11 (.slice a6 q6.length c6) (.slice a11 q11.length c11)) := Lib.hid (HX10.out.trans hg11)
                  have hbw := HBF.out.keeps HX11.out.keeps fun h => HBF.out.ne_row HB67.out (by decide) h rfl
                  have f1 : w11.cell? ⟨wp.heap.size, 1, none⟩ = some (.int .i64 (na : Int)) := hbw.cell (i := 1) rfl
                  have f2 : w11.cell? ⟨wp.heap.size, 2, none⟩ = some (.int .i64 (ns : Int)) := hbw.cell (i := 2) rfl
                  have f3 : w11.cell? ⟨wp.heap.size, 3, none⟩ = some (.slice ac cd.length cc) := hbw.cell (i := 3) rfl
                  have HQ11 := Lib.hid hq11
                  clear hb11 hg11 hq11 hbw
                  go_wp2
                  clear f1 f2 f3
                  have HN11 := Lib.hid ((HN6.out.still ((Keeps.refl (fun _ => False) wp).alloc (.cells #[.string fn, .int .i64 (na : Int), .int .i64 (ns : Int), .slice ac cd.length cc] 48))).grown HX11.out)
                  go_loopw [11, 15] (fun b c wr => CodeAt cd q11 w11 (.slice a11 q11.length c11) b c wr) (fun _ c _ => cd.length - (intOf c).toNat)
                  case atStart => exact ⟨0, q11, rfl, Nat.zero_le _, by simp [encIs], HB11.out, Grown.refl _ _⟩
                  case round =>
                    obtain ⟨j, q12, rfl, hj, hq12, hb12, hg12⟩ := hrel
                    obtain ⟨a12, c12, rfl⟩ := hb12.form
                    have HQ12 := Lib.hid hq12
                    have HB12 := Lib.hid hb12
                    have HX12 := Lib.hid (HX11.out.trans hg12)
                    have HG12 := Lib.hid hg12
                    have HBW := Lib.hid (HBF.out.keeps HX12.out.keeps fun h => HBF.out.ne_row HB67.out (by decide) h rfl)
                    have f3 : wr.cell? ⟨wp.heap.size, 3, none⟩ = some (.slice ac cd.length cc) := HBW.out.cell (i := 3) rfl
                    have hltw : wp.heap.size < wr.heap.size := lt_cell f3
                    clear hb12 hg12
                    by_cases hjl : j < cd.length
                    · obtain ⟨p, hpj⟩ : ∃ p, cd[j]? = some p := ⟨cd[j], by simp⟩
                      have hbd2 : q12.length + (encI p).length ≤ 70368744177000 := by
                        have h2 := encIs_next hpj
                        rw [hq12, List.length_append]
                        omega
                      have hokp : insOk p = true := by
                        have := HR.out
                        unfold fnOk at this
                        simp only [Bool.and_eq_true] at this
                        exact List.all_eq_true.1 this.2 p (List.mem_of_getElem? hpj)
                      have hop := insOk_op hokp
                      obtain ⟨_, _, _, e, _, hcm2, hel⟩ := (HCD.out.keeps ((Keeps.refl (fun _ => False) wp).alloc (.cells #[.string fn, .int .i64 (na : Int), .int .i64 (ns : Int), .slice ac cd.length cc] 48)) fun _ _ h => h).keeps HX12.out.keeps fun g hg he => by have := HN6.out.own g he; have := HS.out g hg; have := HZ0.out; omega
                      cases e
                      obtain ⟨⟨⟨p1, p2⟩, ⟨x1, x2⟩, ⟨y1, y2⟩, z1, z2⟩, b2, o2, rfl, hSb2, k0, k1, k2, k3⟩ := hel j p hpj
                      obtain ⟨op, pa, pb, pc⟩ := p
                      simp only at p1 p2 x1 x2 y1 y2 z1 z2 k0 k1 k2 k3 hop
                      obtain ⟨op, rfl⟩ := Int.eq_ofNat_of_zero_le hop.1
                      have hop : op ≤ 255 := by have := hop.2; omega
                      have hb2s := HS.out b2 hSb2
                      have hbr2 : b2 < wr.heap.size := by have := HX12.out.keeps.size; rw [World.size_alloc] at this; omega
                      have hnS : ∀ g, (Value.slice a12 q12.length c12).ownBlock = some g → b2 ≠ g := fun g hg he => by
                        rcases HX12.out.own with h | h
                        · have := HN6.out.own g (h ▸ hg); have := HZ0.out; omega
                        · have := h g hg; rw [World.size_alloc] at this; omega
                      have HNS := Lib.hid hnS
                      have HPJ := Lib.hid hpj
                      unfold maxLen at hcm2
                      clear hpj hel hq12 hokp hnS
                      go_wp2_with (first | (at_builtin; refine Stop.out ?_))
                      refine ⟨?_⟩
                      refine wpList_append_bytes rfl _ _ 26 26 rfl (.slice 5) info_u8 Try.underlying26 Try.underlying26 (by intro k h; cases h) (.slice a12 q12.length c12) q12 rfl (.inl (HB12.out.still ((Keeps.refl _ wr).alloc _))) _ [.int .u8 (op : Int)] [UInt8.ofNat op] (byte_op hop) (Nat.succ_pos _) rfl (lenOf_slice _ _ _) (firstCells_at _ rfl (cells_newAt (by first | rfl | rw [World.size_alloc] | simp))) (by simp only [List.length_cons, List.length_nil]; omega) ?_
                      intro v13 w13 q13 hq13 hb13 hg13
                      obtain ⟨a13, c13, rfl⟩ := hb13.form
                      have hle13 : q13.length ≤ q12.length + 1 := by rw [hq13, List.length_append]; exact Nat.le_refl _
                      have HB13 := Lib.hid hb13
                      have HY13 : Hid (Grown wr w13 (.slice a12 q12.length c12) (.slice a13 q13.length c13)) := Lib.hid (hg13.ahead ((Keeps.refl _ wr).alloc _))
                      have HQ13 := Lib.hid hq13
                      have hbd3 := hbd2
                      simp only [encI, List.length_cons, List.length_append] at hbd3
                      have HK0 := Lib.hid (And.intro k1 (And.intro k2 k3))
                      clear hb13 hg13 hq13 k0 k1 k2 k3 f3
                      have hbwn := HBW.out.keeps HY13.out.keeps fun h => HBW.out.ne_row HB12.out (by decide) h rfl
                      have f3 : w13.cell? ⟨wp.heap.size, 3, none⟩ = some (.slice (some ⟨b2, o2, none⟩) cd.length cc) := hbwn.cell (i := 3) rfl
                      have k1 := HY13.out.keeps.cell HK0.out.1 fun h => HNS.out _ h rfl
                      have k2 := HY13.out.keeps.cell HK0.out.2.1 fun h => HNS.out _ h rfl
                      have k3 := HY13.out.keeps.cell HK0.out.2.2 fun h => HNS.out _ h rfl
                      clear hbwn
                      go_wp2_with (first | (go_at_call 24; refine Stop.out ?_))
                      refine ⟨(rsigned_any pa x1 x2 HB13.out (by omega)).mono ?_⟩
                      rintro e w14 ⟨v14, q14, rfl, hq14, hb14, hg14⟩
                      obtain ⟨a14, c14, rfl⟩ := hb14.form
                      have hle14 : q14.length ≤ q13.length + (encS pa).length := by rw [hq14, List.length_append]; exact Nat.le_refl _
                      have HB14 := Lib.hid hb14
                      have HY14 := Lib.hid (HY13.out.trans hg14)
                      have HQ14 := Lib.hid hq14
                      clear hb14 hg14 hq14 f3 k1 k2 k3
                      have hbwn := HBW.out.keeps HY14.out.keeps fun h => HBW.out.ne_row HB12.out (by decide) h rfl
                      have f3 : w14.cell? ⟨wp.heap.size, 3, none⟩ = some (.slice (some ⟨b2, o2, none⟩) cd.length cc) := hbwn.cell (i := 3) rfl
                      have k1 := HY14.out.keeps.cell HK0.out.1 fun h => HNS.out _ h rfl
                      have k2 := HY14.out.keeps.cell HK0.out.2.1 fun h => HNS.out _ h rfl
                      have k3 := HY14.out.keeps.cell HK0.out.2.2 fun h => HNS.out _ h rfl
                      clear hbwn
                      go_wp2_with (first | (go_at_call 24; refine Stop.out ?_))
                      refine ⟨(rsigned_any pb y1 y2 HB14.out (by omega)).mono ?_⟩
                      rintro e w15 ⟨v15, q15, rfl, hq15, hb15, hg15⟩
                      obtain ⟨a15, c15, rfl⟩ := hb15.form
                      have hle15 : q15.length ≤ q14.length + (encS pb).length := by rw [hq15, List.length_append]; exact Nat.le_refl _
                      have HB15 := Lib.hid hb15
                      have HY15 := Lib.hid (HY14.out.trans hg15)
                      have HQ15 := Lib.hid hq15
                      clear hb15 hg15 hq15 f3 k1 k2 k3
                      have hbwn := HBW.out.keeps HY15.out.keeps fun h => HBW.out.ne_row HB12.out (by decide) h rfl
                      have f3 : w15.cell? ⟨wp.heap.size, 3, none⟩ = some (.slice (some ⟨b2, o2, none⟩) cd.length cc) := hbwn.cell (i := 3) rfl
                      have k1 := HY15.out.keeps.cell HK0.out.1 fun h => HNS.out _ h rfl
                      have k2 := HY15.out.keeps.cell HK0.out.2.1 fun h => HNS.out _ h rfl
                      have k3 := HY15.out.keeps.cell HK0.out.2.2 fun h => HNS.out _ h rfl
                      clear hbwn
                      go_wp2_with (first | (go_at_call 24; refine Stop.out ?_))
                      refine ⟨(rsigned_any pc z1 z2 HB15.out (by omega)).mono ?_⟩
                      rintro e w16 ⟨v16, q16, rfl, hq16, hb16, hg16⟩
                      obtain ⟨a16, c16, rfl⟩ := hb16.form
                      have hle16 : q16.length ≤ q15.length + (encS pc).length := by rw [hq16, List.length_append]; exact Nat.le_refl _
                      have HB16 := Lib.hid hb16
                      have HY16 := Lib.hid (HY15.out.trans hg16)
                      have HQ16 := Lib.hid hq16
                      clear hb16 hg16 hq16 f3 k1 k2 k3
                      go_wp2
                      refine ⟨⟨j + 1, q16, by go_num, by omega, ?_, HB16.out, HG12.out.trans HY16.out⟩, by simp [intOf]; omega⟩
                      rw [HQ16.out, HQ15.out, HQ14.out, HQ13.out, HQ12.out, encIs_take HPJ.out, encI]
                      simp
                    · obtain rfl : j = cd.length := by omega
                      rw [List.take_length] at hq12
                      have HQ12 := Lib.hid hq12
                      clear hq12
                      go_wp2
                      refine ⟨⟨i + 1, q12, by go_num, by omega, ?_, HB12.out, HN11.out.grown HG12.out⟩, by simp [intOf]; omega⟩
                      rw [HQ12.out, HQ11.out, HQ10.out, HQ9.out, HQ8.out, HQ6.out, encFs_take HFI.out, encF, encH]
                      simp
                · obtain rfl : i = funcs.length := by omega
                  rw [List.take_length] at hq6
                  have HQ6 := Lib.hid hq6
                  clear hq6
                  go_wp2
                  go_ret2
                  have hqm : q6 = encM ⟨nm, lits, funcs⟩ := by
                    rw [HQ6.out, HQ5.out, HQ4.out, HQ3.out, HQ2.out, encM]
                    simp
                  exact writeXPost_ok HNF.out (hqm ▸ HB6.out) ⟨HKW7.out, fun g hg => by have := HN6.out.own g hg; have := HZ0.out; omega⟩
end Go.Proofs.Ytgmieehheoknbaa

import Derived.Test.YtgmieehheoknbaaDoorGn
import Derived.Test.YtgmieehheoknbaaDoorGs
import Derived.Test.YtgmieehheoknbaaDoorGr
import Derived.Test.YtgmieehheoknbaaDoorGd
import Derived.Test.YtgmieehheoknbaaDoorGb
/-
  The law CodeNumbers: what the Go code does.
-/
namespace Go.Tx
open Go Go.RowKit
theorem MdD.deep {w : World} {S : Nat → Prop} {d e : Nat} {v : Value} {m : Md} (hd : d ≤ e) (h : MdD w S d v m) : MdD w S e v m := by
  obtain ⟨vl, vf, h1, h2, h3, h4⟩ := h
  exact ⟨vl, vf, h1, h2, h3.mono (fun _ h => h) (fun _ _ _ _ h => h) (fun _ _ h => h.deep hd), h4⟩
/-- two modules held in the same way -/
theorem MdD.both {w : World} {S T : Nat → Prop} {d e : Nat} {v u : Value} {m n : Md} (h : MdD w S d v m) (k : MdD w T e u n) (hS : ∀ x, S x → x < w.heap.size) (hT : ∀ x, T x → x < w.heap.size) :
    MdD w (fun x => x < w.heap.size) (max d e) v m ∧ MdD w (fun x => x < w.heap.size) (max d e) u n :=
  ⟨(h.mono hS fun _ _ _ _ h => h).deep (Nat.le_max_left ..), (k.mono hT fun _ _ _ _ h => h).deep (Nat.le_max_right ..)⟩
def numT (n : Int) : Tm := .mk 1 n ⟨#[]⟩ [] [] ⟨#[]⟩
/-- the law's module -/
def numM (n a b c : Int) : Md := ⟨⟨#[109]⟩, [numT n], [⟨⟨#[102]⟩, 0, 0, [(7, a, b, c)]⟩]⟩
theorem num_err {n a b c : Int} (hc : half a = true → half c = true) : errM (numM n a b c) = if (half a && half b) = true then none else some ([(⟨#[119, 114, 105, 116, 101]⟩, 0)], 1) := by
  have h0 : rightTm (numT n) = none := rfl
  have h1 : fnOk ⟨⟨#[102]⟩, 0, 0, [(7, a, b, c)]⟩ = (half a && (half b && half c)) := by
    simp [fnOk, headOk, insOk, Bool.and_assoc]
  unfold errM numM
  simp only [firstLit, h0, firstFn, h1]
  cases ha : half a <;> cases hb : half b <;> simp [ha] at hc ⊢
  simp [hc]
theorem half_back {a : Int} (h3 : -9223372036854775808 ≤ a) (h4 : a ≤ 9223372036854775807) : half a = true → half (wrap64 ((wrap64 (-a)).tdiv 2)) = true := by
  unfold half
  intro h
  have h := of_decide_eq_true h
  refine decide_eq_true ?_
  have e : wrap64 (-a) = -a := by unfold wrap64; omega
  rw [e]
  have h2 : -549755813888 ≤ (-a).tdiv 2 ∧ (-a).tdiv 2 ≤ 549755813888 := by
    rw [Int.neg_tdiv]
    have h5 := Int.tdiv_le_self (a := a.natAbs) 2 (by omega)
    rcases Int.le_total 0 a with h0 | h0
    · rw [Int.tdiv_eq_ediv_of_nonneg h0]; omega
    · obtain ⟨k, rfl⟩ : ∃ k : Int, a = -k := ⟨-a, by omega⟩
      rw [Int.neg_tdiv, Int.tdiv_eq_ediv_of_nonneg (by omega)]; omega
  have e2 : wrap64 ((-a).tdiv 2) = (-a).tdiv 2 := by unfold wrap64; omega
  rw [e2]
  exact h2
theorem wrap_fits (x : Int) : -9223372036854775808 ≤ wrap64 x ∧ wrap64 x ≤ 9223372036854775807 := by unfold wrap64; omega
end Go.Tx
namespace Go.Proofs.YtgmieehheoknbaaDoor
open Go.RowKit Go.Tx
def numW (w : World) (n a b c : Int) : World := (((w.alloc (Obj.cells #[.int .i64 1, .int .i64 n, .string ⟨#[]⟩, .slice none 0 0, .slice none 0 0, .slice none 0 0] 46)).alloc (Obj.cells #[.int .i64 7, .int .i64 a, .int .i64 b, .int .i64 c] 48)).alloc (Obj.cells #[.string ⟨#[102]⟩, .int .i64 0, .int .i64 0, .slice (some ⟨w.heap.size + 1, 0, none⟩) 1 1] 51)).alloc (Obj.cells #[.string ⟨#[109]⟩, .slice (some ⟨w.heap.size, 0, none⟩) 1 1, .slice (some ⟨w.heap.size + 1 + 1, 0, none⟩) 1 1] 25)
def numV (w : World) : Value := .agg #[.string ⟨#[109]⟩, .slice (some ⟨w.heap.size, 0, none⟩) 1 1, .slice (some ⟨w.heap.size + 1 + 1, 0, none⟩) 1 1]
theorem numW_keeps (w : World) (n a b c : Int) : Keeps (fun _ => False) w (numW w n a b c) := ((((Keeps.refl _ w).alloc _).alloc _).alloc _).alloc _
theorem numW_size (w : World) (n a b c : Int) : (numW w n a b c).heap.size = w.heap.size + 1 + 1 + 1 + 1 := by simp [numW, World.size_alloc]
theorem numW_blk (w : World) (n a b c : Int) : Blk (numW w n a b c) (w.heap.size + 1 + 1 + 1) 25 [.string ⟨#[109]⟩, .slice (some ⟨w.heap.size, 0, none⟩) 1 1, .slice (some ⟨w.heap.size + 1 + 1, 0, none⟩) 1 1] := by
  have := Blk.new (((w.alloc (Obj.cells #[.int .i64 1, .int .i64 n, .string ⟨#[]⟩, .slice none 0 0, .slice none 0 0, .slice none 0 0] 46)).alloc (Obj.cells #[.int .i64 7, .int .i64 a, .int .i64 b, .int .i64 c] 48)).alloc (Obj.cells #[.string ⟨#[102]⟩, .int .i64 0, .int .i64 0, .slice (some ⟨w.heap.size + 1, 0, none⟩) 1 1] 51)) [.string ⟨#[109]⟩, .slice (some ⟨w.heap.size, 0, none⟩) 1 1, .slice (some ⟨w.heap.size + 1 + 1, 0, none⟩) 1 1] 25
  rwa [World.size_alloc, World.size_alloc, World.size_alloc] at this
theorem one_at {α : Type} {x y : α} {i : Nat} (h : [x][i]? = some y) : i = 0 ∧ y = x := by
  cases i with
  | zero => simp at h; exact ⟨rfl, h.symm⟩
  | succ i => simp at h
theorem numW_md (w : World) (n a b c : Int) (h1 : -9223372036854775808 ≤ n) (h2 : n ≤ 9223372036854775807) (h3 : -9223372036854775808 ≤ a) (h4 : a ≤ 9223372036854775807) (h5 : -9223372036854775808 ≤ b) (h6 : b ≤ 9223372036854775807) (h7 : -9223372036854775808 ≤ c) (h8 : c ≤ 9223372036854775807) :
    MdD (numW w n a b c) (fun x => x < (numW w n a b c).heap.size) 1 (numV w) (numM n a b c) := by
  have b1 : Blk (numW w n a b c) w.heap.size 46 [.int .i64 1, .int .i64 n, .string ⟨#[]⟩, .slice none 0 0, .slice none 0 0, .slice none 0 0] := (((Blk.new w _ _).alloc _).alloc _).alloc _
  have b2 : Blk (numW w n a b c) (w.heap.size + 1) 48 [.int .i64 7, .int .i64 a, .int .i64 b, .int .i64 c] := by
    have := ((Blk.new (w.alloc (Obj.cells #[.int .i64 1, .int .i64 n, .string ⟨#[]⟩, .slice none 0 0, .slice none 0 0, .slice none 0 0] 46)) [.int .i64 7, .int .i64 a, .int .i64 b, .int .i64 c] 48).alloc (Obj.cells #[.string ⟨#[102]⟩, .int .i64 0, .int .i64 0, .slice (some ⟨w.heap.size + 1, 0, none⟩) 1 1] 51)).alloc (Obj.cells #[.string ⟨#[109]⟩, .slice (some ⟨w.heap.size, 0, none⟩) 1 1, .slice (some ⟨w.heap.size + 1 + 1, 0, none⟩) 1 1] 25)
    rwa [World.size_alloc] at this
  have b3 : Blk (numW w n a b c) (w.heap.size + 1 + 1) 51 [.string ⟨#[102]⟩, .int .i64 0, .int .i64 0, .slice (some ⟨w.heap.size + 1, 0, none⟩) 1 1] := by
    have := (Blk.new ((w.alloc (Obj.cells #[.int .i64 1, .int .i64 n, .string ⟨#[]⟩, .slice none 0 0, .slice none 0 0, .slice none 0 0] 46)).alloc (Obj.cells #[.int .i64 7, .int .i64 a, .int .i64 b, .int .i64 c] 48)) [.string ⟨#[102]⟩, .int .i64 0, .int .i64 0, .slice (some ⟨w.heap.size + 1, 0, none⟩) 1 1] 51).alloc (Obj.cells #[.string ⟨#[109]⟩, .slice (some ⟨w.heap.size, 0, none⟩) 1 1, .slice (some ⟨w.heap.size + 1 + 1, 0, none⟩) 1 1] 25)
    rwa [World.size_alloc, World.size_alloc] at this
  have hz := numW_size w n a b c
  refine ⟨_, _, rfl, of_decide_eq_true rfl, ⟨of_decide_eq_true rfl, some ⟨w.heap.size, 0, none⟩, 1, rfl, Nat.le_refl _, of_decide_eq_true rfl, fun i t ht => ?_⟩, ⟨of_decide_eq_true rfl, some ⟨w.heap.size + 1 + 1, 0, none⟩, 1, rfl, Nat.le_refl _, of_decide_eq_true rfl, fun i f hf => ?_⟩⟩
  · obtain ⟨rfl, rfl⟩ := one_at ht
    refine ⟨w.heap.size, 0, _, _, _, rfl, by omega, ⟨b1.cell (i := 0) rfl, b1.cell (i := 1) rfl, b1.cell (i := 2) rfl, b1.cell (i := 3) rfl, b1.cell (i := 4) rfl, b1.cell (i := 5) rfl⟩, _, _, _, rfl, ⟨by simp [numT, Tm.kind], by simp [numT, Tm.kind], h1, h2⟩, of_decide_eq_true rfl, ⟨of_decide_eq_true rfl, none, 0, rfl, Nat.le_refl _, Nat.zero_le _, fun i t h => by simp [numT, Tm.items] at h⟩, ⟨of_decide_eq_true rfl, none, 0, rfl, Nat.le_refl _, Nat.zero_le _, fun i t h => by simp [numT, Tm.rest] at h⟩, ⟨of_decide_eq_true rfl, none, 0, rfl, Nat.le_refl _, Nat.zero_le _, fun h => absurd h (of_decide_eq_true rfl)⟩⟩
  · obtain ⟨rfl, rfl⟩ := one_at hf
    refine ⟨⟨of_decide_eq_true rfl, of_decide_eq_true rfl, of_decide_eq_true rfl, of_decide_eq_true rfl, of_decide_eq_true rfl⟩, w.heap.size + 1 + 1, 0, _, rfl, by omega, ⟨b3.cell (i := 0) rfl, b3.cell (i := 1) rfl, b3.cell (i := 2) rfl, b3.cell (i := 3) rfl⟩, ⟨of_decide_eq_true rfl, some ⟨w.heap.size + 1, 0, none⟩, 1, rfl, Nat.le_refl _, of_decide_eq_true rfl, fun i p hp => ?_⟩⟩
    obtain ⟨rfl, rfl⟩ := one_at hp
    exact ⟨⟨⟨of_decide_eq_true rfl, of_decide_eq_true rfl⟩, ⟨h3, h4⟩, ⟨h5, h6⟩, h7, h8⟩, w.heap.size + 1, 0, rfl, by omega, b2.cell (i := 0) rfl, b2.cell (i := 1) rfl, b2.cell (i := 2) rfl, b2.cell (i := 3) rfl⟩
def numO : ErrO := some ([(⟨#[119, 114, 105, 116, 101]⟩, 0)], 1)
theorem num_errs {w4 w5 W : World} {E : Value} (h : IsErrO w5 (Fresh w4 w5) E numO)
    (hW : W = (w5.alloc (.cells #[.string ⟨#[119, 114, 105, 116, 101]⟩, .int .i64 0, .iface 41 (.int .i64 1)] 43))) :
    IsErrO W (Fresh w4 w5) E numO ∧ IsErrO W (fun _ => True) (.iface 40 (.pointer (some ⟨w5.heap.size, 0, none⟩))) numO := by
  subst hW
  refine ⟨⟨h.1.keeps ((Keeps.refl (fun _ => False) w5).alloc _) fun _ _ h => h, by decide⟩, ⟨w5.heap.size, .iface 41 (.int .i64 1), rfl, Blk.new w5 _ _, True.intro, rfl⟩, by decide⟩
set_option maxRecDepth 100000 in
set_option maxHeartbeats 1600000 in
theorem numbers_any (w : World) (n a b : Int) (h1 : -9223372036854775808 ≤ n) (h2 : n ≤ 9223372036854775807) (h3 : -9223372036854775808 ≤ a) (h4 : a ≤ 9223372036854775807) (h5 : -9223372036854775808 ≤ b) (h6 : b ≤ 9223372036854775807) (hg : ErrorType w) :
    Calls Tryd.prog 5 #[.int .i64 n, .int .i64 a, .int .i64 b] w fun e w' => e = .returned (.bool true) ∧ Keeps (fun _ => False) w w' := by
  have hhalf := half_back h3 h4
  have hcw := wrap_fits ((wrap64 (-a)).tdiv 2)
  have HG := Lib.hid hg
  have HH := Lib.hid hhalf
  have HC := Lib.hid hcw
  clear hg hhalf hcw
  go_enter Tryd.func5, Tryd.ntmps5
  go_wp2_with (first | (go_at_call 8; refine Stop.out ?_))
  generalize wrap64 ((wrap64 (-a)).tdiv 2) = c at *
  have hmd := numW_md w n a b c h1 h2 h3 h4 h5 h6 HC.out.1 HC.out.2
  have hsz : (numM n a b c).name.size + tmsSize (numM n a b c).lits + fnsSize (numM n a b c).funcs ≤ 1048576 := of_decide_eq_true rfl
  have hlen := encM_small hmd hsz
  have HMD := Lib.hid hmd
  have HLEN := Lib.hid hlen
  clear hmd hsz hlen
  refine ⟨(write_any (w := numW w n a b c) (v := numV w) (numM n a b c) HMD.out (fun _ h => h) (by have := HLEN.out; omega)).mono ?_⟩
  rintro e w2 ⟨v, er, rfl, g1, g2, g3, hn⟩
  rw [num_err HH.out] at g1 g2 g3
  have HN := Lib.hid hn
  have HB := Lib.hid ((numW_blk w n a b c).keeps hn.keeps fun h => h)
  have HKS := Lib.hid (numW_keeps w n a b c)
  by_cases hok : (half a && half b) = true
  · have HOK := Lib.hid hok
    simp only [if_pos hok] at g1 g2
    obtain rfl : er = .nilIface := g1
    have hb := g2 trivial
    obtain ⟨av, cv, rfl⟩ := hb.form
    have HBY := Lib.hid hb
    simp only [Bool.and_eq_true, half, decide_eq_true_eq] at hok
    obtain ⟨⟨o1, o2⟩, o3, o4⟩ := hok
    clear g2 g3 hn hb
    go_wp2_with (first | (go_at_call 10; refine Stop.out ?_))
    have hm := errM_none.1 (show errM (numM n a b c) = none by rw [num_err HH.out, if_pos HOK.out])
    have hg2 : ErrorType w2 := HN.out.keeps.cell (HKS.out.cell HG.out fun h => h) fun h => h
    refine ⟨(read_any HBY.out.bsAt HBY.out.lt HLEN.out hg2).mono ?_⟩
    rintro e w3 ⟨hk3, hr3⟩
    rw [pMod_enc hm (md_fits HMD.out hm (of_decide_eq_true rfl)) (by omega)] at hr3
    obtain ⟨u, rfl, hm3⟩ := hr3
    obtain ⟨a3, c3, a4, c4, rfl⟩ := hm3.form
    have HM3 := Lib.hid hm3
    have HK3 := Lib.hid hk3
    have hb3 := HB.out.keeps hk3 fun h => h
    have x0 : w3.cell? ⟨w.heap.size + 1 + 1 + 1, 0, none⟩ = some (.string ⟨#[109]⟩) := hb3.cell (i := 0) rfl
    have x1 : w3.cell? ⟨w.heap.size + 1 + 1 + 1, 1, none⟩ = some (.slice (some ⟨w.heap.size, 0, none⟩) 1 1) := hb3.cell (i := 1) rfl
    have x2 : w3.cell? ⟨w.heap.size + 1 + 1 + 1, 2, none⟩ = some (.slice (some ⟨w.heap.size + 1 + 1, 0, none⟩) 1 1) := hb3.cell (i := 2) rfl
    have hlt3 := hb3.lt
    clear hk3 hm3 hb3 hm hg2
    go_wp2_with (first | (go_at_call 11; refine Stop.out ?_))
    obtain ⟨d3, hd3⟩ := HM3.out
    have hmb : MdD w3 (fun x => x < (numW w n a b c).heap.size) 1 (numV w) (numM n a b c) := (HMD.out.keeps HN.out.keeps fun _ _ h => h).keeps HK3.out fun _ _ h => h
    have hbo := MdD.both hd3 hmb (fun x hx => hx.2) (fun x hx => Nat.lt_of_lt_of_le hx (Nat.le_trans HN.out.keeps.size HK3.out.size))
    refine ⟨(sameModule_any _ _ (hbo.1.keeps (T := fun _ => False) (by repeat (first | with_reducible exact Keeps.refl _ _ | with_reducible apply Keeps.drew | with_reducible apply Keeps.alloc)) fun _ _ h => h) (hbo.2.keeps (T := fun _ => False) (by repeat (first | with_reducible exact Keeps.refl _ _ | with_reducible apply Keeps.drew | with_reducible apply Keeps.alloc)) fun _ _ h => h) (fun x hx => by simp; omega)).mono ?_⟩
    rintro e w4 ⟨r, rfl, hr, hk4⟩
    obtain rfl : r = true := hr.2 rfl
    have HK4 := Lib.hid (((HKS.out.trans HN.out.keeps fun _ _ h => h).trans HK3.out fun _ _ h => h).trans (Keeps.trans (S := fun _ => False) (T := fun _ => False) (by repeat (first | with_reducible exact Keeps.refl _ _ | with_reducible apply Keeps.drew | with_reducible apply Keeps.alloc)) hk4 fun _ _ h => h) fun _ _ h => h)
    clear hr hk4 hbo hmb hd3 x0 x1 x2
    go_wp2_with (first | (go_at_call 13; refine (awake_any _).mono ?_; rintro e w6 ⟨rfl, hk6⟩; have HK6 := Lib.hid hk6; clear hk6))
    go_ret
    exact ⟨rfl, HK4.out.trans HK6.out fun _ _ h => h⟩
  · simp only [if_neg hok] at g1 g3
    have hv := g3 (by simp)
    subst hv
    have HE := Lib.hid g1
    have hE := g1.1
    obtain ⟨t0, u0, rfl⟩ := hE.form
    have KALL := Lib.hid (HKS.out.trans HN.out.keeps fun _ _ h => h)
    have hor : ¬ (-549755813888 ≤ a) ∨ (-549755813888 ≤ a ∧ ¬ (a ≤ 549755813888)) ∨ (-549755813888 ≤ a ∧ a ≤ 549755813888 ∧ ¬ (-549755813888 ≤ b)) ∨ (-549755813888 ≤ a ∧ a ≤ 549755813888 ∧ -549755813888 ≤ b ∧ ¬ (b ≤ 549755813888)) := by
      simp only [Bool.and_eq_true, half, decide_eq_true_eq] at hok
      omega
    clear g1 g2 g3 hn hE hok
    rcases hor with q | ⟨p1, q⟩ | ⟨p1, p2, q⟩ | ⟨p1, p2, p3, q⟩
    · go_wp2_with (first | (go_at_call 15; refine Stop.out ?_))
      refine ⟨(err_any (num_errs HE.out rfl).1 (num_errs HE.out rfl).2).mono ?_⟩
      rintro e w6 ⟨rfl, hk6⟩
      have HK6 := Lib.hid hk6
      clear hk6
      rw [show (fineO numO && fineO numO && decide (numO = numO)) = true by simp [fineO, numO]]
      go_wp2_with (first | (go_at_call 13; refine (awake_any _).mono ?_; rintro e w7 ⟨rfl, hk7⟩; have HK7 := Lib.hid hk7; clear hk7))
      go_ret
      exact ⟨rfl, ((KALL.out.trans (Keeps.trans (S := fun _ => False) (T := fun _ => False) (by repeat (first | with_reducible exact Keeps.refl _ _ | with_reducible apply Keeps.drew | with_reducible apply Keeps.alloc)) HK6.out fun _ _ h => h) fun _ _ h => h)).trans HK7.out fun _ _ h => h⟩
    · go_wp2_with (first | (go_at_call 15; refine Stop.out ?_))
      refine ⟨(err_any (num_errs HE.out rfl).1 (num_errs HE.out rfl).2).mono ?_⟩
      rintro e w6 ⟨rfl, hk6⟩
      have HK6 := Lib.hid hk6
      clear hk6
      rw [show (fineO numO && fineO numO && decide (numO = numO)) = true by simp [fineO, numO]]
      go_wp2_with (first | (go_at_call 13; refine (awake_any _).mono ?_; rintro e w7 ⟨rfl, hk7⟩; have HK7 := Lib.hid hk7; clear hk7))
      go_ret
      exact ⟨rfl, ((KALL.out.trans (Keeps.trans (S := fun _ => False) (T := fun _ => False) (by repeat (first | with_reducible exact Keeps.refl _ _ | with_reducible apply Keeps.drew | with_reducible apply Keeps.alloc)) HK6.out fun _ _ h => h) fun _ _ h => h)).trans HK7.out fun _ _ h => h⟩
    · go_wp2_with (first | (go_at_call 15; refine Stop.out ?_))
      refine ⟨(err_any (num_errs HE.out rfl).1 (num_errs HE.out rfl).2).mono ?_⟩
      rintro e w6 ⟨rfl, hk6⟩
      have HK6 := Lib.hid hk6
      clear hk6
      rw [show (fineO numO && fineO numO && decide (numO = numO)) = true by simp [fineO, numO]]
      go_wp2_with (first | (go_at_call 13; refine (awake_any _).mono ?_; rintro e w7 ⟨rfl, hk7⟩; have HK7 := Lib.hid hk7; clear hk7))
      go_ret
      exact ⟨rfl, ((KALL.out.trans (Keeps.trans (S := fun _ => False) (T := fun _ => False) (by repeat (first | with_reducible exact Keeps.refl _ _ | with_reducible apply Keeps.drew | with_reducible apply Keeps.alloc)) HK6.out fun _ _ h => h) fun _ _ h => h)).trans HK7.out fun _ _ h => h⟩
    · have q4 : decide (b ≤ 549755813888) = false := decide_eq_false q
      go_wp2_with (first | (go_at_call 15; refine Stop.out ?_))
      refine ⟨(err_any (num_errs HE.out rfl).1 (num_errs HE.out rfl).2).mono ?_⟩
      rintro e w6 ⟨rfl, hk6⟩
      have HK6 := Lib.hid hk6
      clear hk6
      rw [show (fineO numO && fineO numO && decide (numO = numO)) = true by simp [fineO, numO]]
      go_wp2_with (first | (go_at_call 13; refine (awake_any _).mono ?_; rintro e w7 ⟨rfl, hk7⟩; have HK7 := Lib.hid hk7; clear hk7))
      go_ret
      exact ⟨rfl, ((KALL.out.trans (Keeps.trans (S := fun _ => False) (T := fun _ => False) (by repeat (first | with_reducible exact Keeps.refl _ _ | with_reducible apply Keeps.drew | with_reducible apply Keeps.alloc)) HK6.out fun _ _ h => h) fun _ _ h => h)).trans HK7.out fun _ _ h => h⟩
end Go.Proofs.YtgmieehheoknbaaDoor

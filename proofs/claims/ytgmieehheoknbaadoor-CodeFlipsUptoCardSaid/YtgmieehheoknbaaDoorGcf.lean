import Derived.Test.YtgmieehheoknbaaDoorGn
import Derived.Test.YtgmieehheoknbaaDoorGs
import Derived.Test.YtgmieehheoknbaaDoorGr
import Derived.Test.YtgmieehheoknbaaDoorGb
import Derived.Deep.RegionLaw
/-
  The law CodeFlips: what the Go code does.
-/
namespace Go.Tx
open Go Go.RowKit
theorem MdD.deep {w : World} {S : Nat → Prop} {d e : Nat} {v : Value} {m : Md} (hd : d ≤ e) (h : MdD w S d v m) : MdD w S e v m := by
  obtain ⟨vl, vf, h1, h2, h3, h4⟩ := h
  exact ⟨vl, vf, h1, h2, h3.mono (fun _ h => h) (fun _ _ _ _ h => h) (fun _ _ h => h.deep hd), h4⟩
/-- two modules held in the same way -/
theorem MdD.both {w : World} {S T : Nat → Prop} {d e : Nat} {v u : Value} {m n : Md} (h : MdD w S d v m) (k : MdD w T e u n) (hS : ∀ x, S x → x < w.heap.size) (hT : ∀ x, T x → x < w.heap.size) :
    MdD w (fun x => x < w.heap.size) (max d e) v m ∧ MdD w (fun x => x < w.heap.size) (max d e) u n :=
  ⟨(h.mono hS fun _ _ _ _ h => h).deep (Nat.le_max_left ..), (k.mono hT fun _ _ _ _ h => h).deep (Nat.le_max_right ..)⟩
theorem BsAt.put {w : World} {v : Value} {s : List UInt8} {g i : Nat} (h : BsAt w v s) (hg : v.ownBlock = some g) (x : UInt8) : BsAt (w.setCell ⟨g, i, none⟩ (.int .u8 (x.toNat : Int))) v (s.set i x) := by
  obtain ⟨a, c, rfl, h1, h2, h3⟩ := h
  refine ⟨a, c, by rw [List.length_set], by rwa [List.length_set], h2, fun j y hj => ?_⟩
  have hjl := (List.getElem?_eq_some_iff.1 hj).1
  rw [List.length_set] at hjl
  obtain ⟨g', e, hlt, hc⟩ := h3 j (s[j]) (List.getElem?_eq_getElem hjl)
  have hg' : g' = g := by
    subst e
    simpa [Value.ownBlock] using hg
  subst hg'
  refine ⟨g', e, by rwa [World.size_setCell], ?_⟩
  by_cases hij : i = j
  · subst hij
    rw [World.cell?_setCell_same' w _ _ (by rw [hc]; rfl)]
    have e3 : (s.set i x)[i]? = some x := by simp [hjl]
    rw [e3] at hj
    rw [← Option.some.inj hj]
  · rw [World.cell?_setCell_other w ⟨g', i, none⟩ ⟨g', j, none⟩ _ (by intro h; simp at h; try exact hij h), hc]
    rw [List.getElem?_set_ne hij, List.getElem?_eq_getElem hjl] at hj
    rw [← Option.some.inj hj]
theorem flip_all : ∀ (q : Fin 256) (r : Fin 8), bits BinOp.xor .u8 (q.val : Int) (IntKind.u8.wrap (2 ^ min (IntKind.u64.wrap (r.val : Int)).toNat 8)) = ((q.val ^^^ 2 ^ r.val : Nat) : Int) ∧ q.val ^^^ 2 ^ r.val < 256 ∧ q.val ^^^ 2 ^ r.val ≠ q.val := by decide +kernel
/-- a byte with one bit turned -/
theorem flip_byte (x : UInt8) (b : Int) : ∃ y : UInt8, y ≠ x ∧ bits BinOp.xor .u8 (x.toNat : Int) (IntKind.u8.wrap (2 ^ min (IntKind.u64.wrap (b % 8)).toNat 8)) = (y.toNat : Int) := by
  obtain ⟨r, hr⟩ : ∃ r : Fin 8, b % 8 = (r.val : Int) := ⟨⟨(b % 8).toNat, by omega⟩, by simp; omega⟩
  obtain ⟨h1, h2, h3⟩ := flip_all ⟨x.toNat, x.toNat_lt⟩ r
  refine ⟨UInt8.ofNat (x.toNat ^^^ 2 ^ r.val), fun e => h3 ?_, ?_⟩
  · have := congrArg UInt8.toNat e
    rw [UInt8.toNat_ofNat', Nat.mod_eq_of_lt h2] at this
    exact this
  · rw [hr, h1, UInt8.toNat_ofNat', Nat.mod_eq_of_lt h2]
theorem encN_pos (n : Nat) : 1 ≤ (encN n).length := by rw [encN]; split <;> simp
theorem step_call2 {P : Program} {w : World} {ops : Array Oper} {o : Oper} {a : Act} {K : Act → World → Prop} {Q : Exit → Act → World → Prop} {E : Prop} (hgd : o.guard = none) (f : FuncId) (x y : Operand) (t s : TypeId) (ho : o.op = .call { callee := .value (.func f), args := #[x, y], argTypes := #[t, s] })
    (fn : Func) (hf : P.funcs[f]? = some fn) (hname : (fn.name == "runtime.NumGoroutine") = false) (hbody : fn.body.isNone = false)
    (v u : Value) (hx : a.eval x = v) (hy : a.eval y = u) (h : Calls P f #[v, u] w fun e w' => match e, w' with | .returned z, w'' => K (a.put o.dst z) w'' | .panicked c, w'' => Q (.panic c) a w'' | .outgrown, _ => LetsOut Q) :
    if Region.wanted o (yielded ops a.tmps) = true then Oper.wp P o a w K Q else E := by
  rw [if_pos (by simp [Region.wanted, hgd])]
  unfold Oper.wp execOp
  simp only [ho, resolve, Sem.run_bind, Sem.run_pure, Result.andThen_ok, List.map_toArray, List.map_cons, List.map_nil, hx, hy]
  have hd : (Deferred.ofValue (a.eval (Operand.func f)) #[v, u]).run P w = .ok { target := .fn (.func f) #[], args := #[v, u] } w := by
    simp [Act.eval, Deferred.ofValue]
  have hc : (callFunc f (#[v, u] ++ #[])).run P w = .ok (.enter f (#[v, u] ++ #[])) w := by
    have h1 : ¬ fn.name = "runtime.NumGoroutine" := by simpa using hname
    have h2 : ¬ fn.body = none := fun e => by rw [e] at hbody; cases hbody
    simp [callFunc, hf, h1, h2]
  rw [hd]
  simp only [Result.andThen_ok, invoke, Oper.upon, hc]
  exact h
end Go.Tx
namespace Go.Proofs.YtgmieehheoknbaaDoor
open Go.RowKit Go.Tx
set_option maxRecDepth 100000 in
set_option maxHeartbeats 1600000 in
theorem flips_any {w : World} {S : Nat → Prop} {d : Nat} {v : Value} (m : Md) (h : MdD w S d v m) (hbig : m.lits.length ≤ 1048576) (hsl : ∀ x ∈ m.lits, Slim d x) (hS : ∀ x, S x → x < w.heap.size) (hl : (encM m).length ≤ 1099511627776)
    (at' bit : Int) (h1 : -9223372036854775808 ≤ at') (h2 : at' ≤ 9223372036854775807) (h3 : -9223372036854775808 ≤ bit) (h4 : bit ≤ 9223372036854775807) (hg : ErrorType w) :
    Calls Tryd.prog 6 #[v, .int .i64 at', .int .i64 bit] w fun e w' => e = .returned (.bool true) ∧ Keeps (fun _ => False) w w' := by
  have HM := Lib.hid h
  have HL := Lib.hid hl
  have HS := Lib.hid hS
  have HSL := Lib.hid hsl
  have HG := Lib.hid hg
  obtain ⟨al, cl, af, cf, rfl⟩ := h.form
  clear h hl hS hsl hg
  go_enter Tryd.func6, Tryd.ntmps6
  go_wp2_with (first | (go_at_call 9; refine Stop.out ?_))
  refine ⟨(copyModule_any m (HM.out.keeps ((Keeps.refl (fun _ => False) w).alloc _) fun _ _ h => h) (by omega) HSL.out (fun x hx => by have := HS.out x hx; simp; omega)).mono ?_⟩
  rintro e w1 ⟨v1, rfl, hm1, hk1⟩
  have hbx : Blk w1 w.heap.size 25 [.string m.name, .slice al m.lits.length cl, .slice af m.funcs.length cf] := (Blk.new w _ _).keeps hk1 fun h => h
  have HK1 : Hid (Keeps (fun _ => False) w w1) := Lib.hid (((Keeps.refl _ w).alloc _).trans hk1 fun _ _ h => h)
  have HBX := Lib.hid hbx
  have HW := Lib.hid (write_any m hm1 (fun x hx => hx.2) (Nat.le_trans HL.out (by decide)))
  have HM1 := Lib.hid hm1
  obtain ⟨al1, cl1, af1, cf1, rfl⟩ := hm1.form
  clear hm1 hk1 hbx
  go_wp2_with (first | (go_at_call 8; refine Stop.out ?_))
  refine ⟨HW.out.mono ?_⟩
  rintro e w2 ⟨b2, er2, rfl, he2, hy2, hz2, hn2⟩
  have HK2 : Hid (Keeps (fun _ => False) w w2) := Lib.hid (HK1.out.trans hn2.keeps fun _ _ h => h)
  have HBX2 := Lib.hid (HBX.out.keeps hn2.keeps fun h => h)
  have HN2 := Lib.hid hn2
  clear hn2
  cases hM : errM m with
  | some o =>
    obtain ⟨c, k⟩ := o
    rw [hM] at he2 hz2
    obtain ⟨t0, u0, rfl⟩ := he2.1.form
    obtain rfl := hz2 (by simp)
    clear he2 hz2 hy2 hM
    go_wp2_with (first | (go_at_call 13; refine (awake_any _).mono ?_; rintro e w5 ⟨rfl, hk5⟩; have HK5 := Lib.hid hk5; clear hk5))
    go_ret
    exact ⟨rfl, HK2.out.trans HK5.out fun _ _ h => h⟩
  | none =>
    rw [hM] at he2
    obtain rfl : er2 = .nilIface := he2
    have hb := hy2 hM
    have hm := errM_none.1 hM
    have HMO := Lib.hid hm
    have HFIT := Lib.hid (md_fits HM.out hm (by omega))
    have HB := Lib.hid hb
    obtain ⟨ab, cb, rfl⟩ := hb.form
    obtain ⟨n, hn⟩ : ∃ n, n = (encM m).length := ⟨_, rfl⟩
    have hn7 : 7 ≤ n := by
      rw [hn]
      unfold encM encB
      have p1 := encN_pos m.name.size
      have p2 := encN_pos m.lits.length
      have p3 := encN_pos m.funcs.length
      simp only [List.length_append, magic, List.length_cons, List.length_nil]
      omega
    have hnl : n ≤ 1099511627776 := by rw [hn]; exact HL.out
    have HNN := Lib.hid hn
    rw [← hn]
    clear hy2 hz2 hM hm hb hn
    obtain ⟨g, cb', e, hgc1, hgc2⟩ := Row.form HB.out (by rw [← HNN.out]; omega)
    rw [← HNN.out] at e hgc1
    cases e
    unfold maxLen at hgc2
    have hgl : g < w2.heap.size := Row.lt HB.out rfl
    go_wp2_with (first | (go_at_call 14; refine Stop.out ?_))
    refine ⟨(place_any at' (n : Int) (by omega) (by omega) h1 h2 w2).mono ?_⟩
    rintro e w3 ⟨rfl, rfl⟩
    obtain ⟨k, hk⟩ : ∃ k : Nat, at' % (n : Int) = (k : Int) := ⟨(at' % (n : Int)).toNat, by have := Int.emod_nonneg at' (b := (n : Int)) (by omega); omega⟩
    have hkn : k < n := by have := Int.emod_lt_of_pos at' (b := (n : Int)) (by omega); omega
    rw [hk]
    obtain ⟨x, hx⟩ : ∃ x, (encM m)[k]? = some x := ⟨(encM m)[k]'(by rw [← HNN.out]; exact hkn), by simp⟩
    have x0 : w2.cell? ⟨g, k, none⟩ = some (.int .u8 (x.toNat : Int)) := by
      have := Row.cell3 HB.out (i := k) (v := .int .u8 (x.toNat : Int)) (by simp [byteV, hx])
      exact this
    have y0 : w2.frozen? ⟨g, k, none⟩ = false := Row.free HB.out k
    have HX := Lib.hid hx
    clear hk hx
    go_wp2
    go_region_law (first
      | (refine step_call2 rfl _ _ _ _ _ rfl _ Tryd.func14 (by kernel_rfl) (by kernel_rfl) (.int .i64 bit) (.int .i64 8) (by simp [Act.eval, Act.put]) (by simp [Act.eval, Act.put]) ?_; refine (place_any bit 8 (by decide) (by decide) h3 h4 _).mono ?_; rintro e w4 ⟨rfl, rfl⟩))
    all_goals (
      obtain ⟨y, hyx, hxy⟩ := flip_byte x bit
      rw [hxy]
      have HYX := Lib.hid hyx
      clear hxy hyx
      obtain ⟨w4, hw4⟩ : ∃ w4, w4 = (w2.setCell ⟨g, k, none⟩ (.int .u8 (y.toNat : Int))).drew := ⟨_, rfl⟩
      rw [← hw4]
      have hown : w.heap.size < g := by
        have h1 := HN2.out.own g rfl
        have h2 := HBX.out.lt
        omega
      have HK4 : Hid (Keeps (fun _ => False) w w4) := Lib.hid (by rw [hw4]; exact (HK2.out.setCell (fun h => by simp only at h; omega) _).drew)
      have HB4 : Hid (Blk w4 w.heap.size 25 [.string m.name, .slice al m.lits.length cl, .slice af m.funcs.length cf]) := Lib.hid (by rw [hw4]; exact (HBX2.out.set_other (by simp; omega) _).drew)
      have HS4 : Hid (BsAt w4 (.slice (some ⟨g, 0, none⟩) n cb) ((encM m).set k y)) := Lib.hid (by
        have hbs := Bytes.bsAt HB.out
        rw [← HNN.out] at hbs
        have := (hbs.put (g := g) (i := k) rfl y).keeps (S := fun _ => False) ((Keeps.refl _ _).drew) fun _ _ h => h
        rw [hw4]
        exact this)
      have hgl4 : g < w4.heap.size := by rw [hw4]; exact (Nat.lt_of_lt_of_eq hgl (World.size_setCell ..).symm)
      clear hw4 x0 y0
      go_wp2_with (first | (go_at_call 10; refine Stop.out ?_))
      refine ⟨(read_any HS4.out (fun z e => by have e2 : g = z := Option.some.inj e; omega) (by rw [List.length_set, ← HNN.out]; exact hnl) (HK4.out.cell HG.out fun h => h)).mono ?_⟩
      rintro e w5 ⟨hk5, hr5⟩
      have HK5 := Lib.hid (HK4.out.trans hk5 fun _ _ h => h)
      have HB5 := Lib.hid (HB4.out.keeps hk5 fun h => h)
      cases hp : pMod (((encM m).set k y).length + 1) ((encM m).set k y) with
      | error q =>
        obtain ⟨l, c, kk⟩ := q
        rw [hp] at hr5
        obtain ⟨E, rfl, hE⟩ := hr5
        obtain ⟨t0, u0, rfl⟩ := hE.form
        clear hE hk5 hp
        go_wp2_with (first | (go_at_call 13; refine (awake_any _).mono ?_; rintro e w6 ⟨rfl, hk6⟩; have HK6 := Lib.hid hk6; clear hk6))
        go_ret
        exact ⟨rfl, (HK5.out.trans (Keeps.trans (S := fun _ => False) (T := fun _ => False) (by repeat (first | with_reducible exact Keeps.refl _ _ | with_reducible apply Keeps.drew | with_reducible apply Keeps.alloc)) HK6.out fun _ _ h => h) fun _ _ h => h)⟩
      | ok q =>
        obtain ⟨m', r'⟩ := q
        rw [hp] at hr5
        obtain ⟨u, rfl, hm5⟩ := hr5
        have hne : ¬ m' = m := fun e => by
          have h0 := (pMod_back hp).1
          rw [e] at h0
          have h1 : ((encM m).set k y)[k]? = some y := by simp [← HNN.out, hkn]
          rw [h0, HX.out] at h1
          exact HYX.out (Option.some.inj h1).symm
        have HNE := Lib.hid hne
        obtain ⟨a3, c3, a4, c4, rfl⟩ := hm5.form
        have HM5 := Lib.hid hm5
        have x0 : w5.cell? ⟨w.heap.size, 0, none⟩ = some (.string m.name) := HB5.out.cell (i := 0) rfl
        have x1 : w5.cell? ⟨w.heap.size, 1, none⟩ = some (.slice al m.lits.length cl) := HB5.out.cell (i := 1) rfl
        have x2 : w5.cell? ⟨w.heap.size, 2, none⟩ = some (.slice af m.funcs.length cf) := HB5.out.cell (i := 2) rfl
        have hlt5 := HB5.out.lt
        clear hp hne hm5 hk5
        go_wp2_with (first | (go_at_call 11; refine Stop.out ?_))
        obtain ⟨d5, hd5⟩ := HM5.out
        have hmb := HM.out.keeps HK5.out fun _ _ h => h
        have hbo := MdD.both hd5 hmb (fun x hx => hx.2) (fun x hx => Nat.lt_of_lt_of_le (HS.out x hx) HK5.out.size)
        refine ⟨(sameModule_any _ _ (hbo.1.keeps (T := fun _ => False) (by repeat (first | with_reducible exact Keeps.refl _ _ | with_reducible apply Keeps.drew | with_reducible apply Keeps.alloc)) fun _ _ h => h) (hbo.2.keeps (T := fun _ => False) (by repeat (first | with_reducible exact Keeps.refl _ _ | with_reducible apply Keeps.drew | with_reducible apply Keeps.alloc)) fun _ _ h => h) (fun x hx => by simp; omega)).mono ?_⟩
        rintro e w6 ⟨r, rfl, hr, hk6⟩
        obtain rfl : r = false := by
          cases r with
          | false => rfl
          | true => exact absurd (hr.1 rfl) HNE.out
        have HK6 := Lib.hid (HK5.out.trans (Keeps.trans (S := fun _ => False) (T := fun _ => False) (by repeat (first | with_reducible exact Keeps.refl _ _ | with_reducible apply Keeps.drew | with_reducible apply Keeps.alloc)) hk6 fun _ _ h => h) fun _ _ h => h)
        clear hr hk6 hbo hmb hd5 x0 x1 x2 hlt5
        go_wp2_with (first | (go_at_call 13; refine (awake_any _).mono ?_; rintro e w7 ⟨rfl, hk7⟩; have HK7 := Lib.hid hk7; clear hk7))
        go_ret
        exact ⟨rfl, HK6.out.trans HK7.out fun _ _ h => h⟩)
end Go.Proofs.YtgmieehheoknbaaDoor

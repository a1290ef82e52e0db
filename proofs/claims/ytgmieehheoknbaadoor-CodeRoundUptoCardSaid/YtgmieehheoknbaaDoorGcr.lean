import Derived.Test.YtgmieehheoknbaaDoorGcc
import Derived.Test.YtgmieehheoknbaaDoorGr
/-
  The law CodeRound: what the Go code does.
-/
namespace Go.Tx
open Go Go.RowKit
theorem MdD.deep {w : World} {S : Nat → Prop} {d e : Nat} {v : Value} {m : Md} (hd : d ≤ e) (h : MdD w S d v m) : MdD w S e v m := by
  obtain ⟨vl, vf, h1, h2, h3, h4⟩ := h
  exact ⟨vl, vf, h1, h2, h3.mono (fun _ h => h) (fun _ _ _ _ h => h) (fun _ _ h => h.deep hd), h4⟩
/-- two modules held in the same way -/
theorem MdD.both {w : World} {S T : Nat → Prop} {d e : Nat} {v u : Value} {m n : Md} (h : MdD w S d v m) (k : MdD w T e u n) (hS : ∀ x, S x → x < w.heap.size) (hT : ∀ x, T x → x < w.heap.size) :
    MdD w (fun x => x < w.heap.size) (max d e) v m ∧ MdD w (fun x => x < w.heap.size) (max d e) u n :=
  ⟨(h.mono hS fun _ _ _ _ h => h).deep (Nat.le_max_left ..), (k.mono hT fun _ _ _ _ h => h).deep (Nat.le_max_right ..)⟩
theorem zero_md (w : World) : MdD w (fun _ => False) 0 (.agg #[.string ⟨#[]⟩, .slice none 0 0, .slice none 0 0]) ⟨⟨#[]⟩, [], []⟩ :=
  ⟨_, _, rfl, by decide, ⟨by simp, none, 0, rfl, Nat.le_refl _, Nat.zero_le _, fun i t h => by simp at h⟩, by simp, none, 0, rfl, Nat.le_refl _, Nat.zero_le _, fun i f h => by simp at h⟩
end Go.Tx
namespace Go.Proofs.YtgmieehheoknbaaDoor
open Go.RowKit Go.Tx
theorem conv_arg {w : World} {S : Nat → Prop} {v : Value} {s : ByteArray} (h : BytesD w S v s) : (convert 26 9 v).run Tryd.prog w = .ok (.string s) w := by
  obtain ⟨_, a, cap, rfl, _, _, hc⟩ := h
  exact conv_bytes s Tryd.underlying26 Tryd.underlying5 Tryd.underlying9 rfl fun hp => by
    obtain ⟨b, o, e, _, hj⟩ := hc hp
    exact ⟨b, o, e, hj⟩
set_option maxRecDepth 100000 in
set_option maxHeartbeats 1600000 in
theorem round_any {w : World} {S : Nat → Prop} {d : Nat} {v : Value} (m : Md) (h : MdD w S d v m) (hbig : m.lits.length ≤ 1048576) (hsl : ∀ x ∈ m.lits, Slim d x) (hS : ∀ x, S x → x < w.heap.size) (hl : (encM m).length ≤ 1099511627776)
    {u : Value} {s : ByteArray} (hu : BytesD w (fun b => b < w.heap.size) u s) (hsn : s.size ≤ 1048576) (hg : ErrorType w) :
    Calls Tryd.prog 3 #[v, u] w fun e w' => e = .returned (.bool true) ∧ Keeps (fun _ => False) w w' := by
  have HM := Lib.hid h
  have HL := Lib.hid hl
  have HS := Lib.hid hS
  have HSL := Lib.hid hsl
  have HG := Lib.hid hg
  have HU := Lib.hid hu
  have HSN : Hid (s.data.toList.length ≤ 1099511627776) := Lib.hid (by rw [← size_list]; omega)
  obtain ⟨_, au, cu, rfl, hu1, hu2, _⟩ := hu
  unfold maxLen at hu2
  obtain ⟨al, cl, af, cf, rfl⟩ := h.form
  clear h hl hS hsl hg
  go_enter Tryd.func3, Tryd.ntmps3
  go_wp2_with (first | (go_at_call 9; refine Stop.out ?_))
  refine ⟨(copyModule_any m (HM.out.keeps ((Keeps.refl (fun _ => False) w).alloc _) fun _ _ h => h) (by omega) HSL.out (fun x hx => by have := HS.out x hx; simp; omega)).mono ?_⟩
  rintro e w1 ⟨v1, rfl, hm1, hk1⟩
  have hbx : Blk w1 w.heap.size 25 [.string m.name, .slice al m.lits.length cl, .slice af m.funcs.length cf] := (Blk.new w _ _).keeps hk1 fun h => h
  have HK1 : Hid (Keeps (fun _ => False) w w1) := Lib.hid (((Keeps.refl _ w).alloc _).trans hk1 fun _ _ h => h)
  have HBX := Lib.hid hbx
  have HW := Lib.hid (write_any m hm1 (fun x hx => hx.2) (Nat.le_trans HL.out (by decide)))
  have HM1 := Lib.hid hm1
  obtain ⟨al1, cl1, af1, cf1, rfl⟩ := hm1.form
  clear hm1 hk1 hbx
  go_wp2_with (first | (go_at_call 8; refine Stop.out ?_))
  refine ⟨HW.out.mono ?_⟩
  rintro e w2 ⟨b2, er2, rfl, he2, hy2, hz2, hn2⟩
  have HK2 : Hid (Keeps (fun _ => False) w w2) := Lib.hid (HK1.out.trans hn2.keeps fun _ _ h => h)
  have HBX2 := Lib.hid (HBX.out.keeps hn2.keeps fun h => h)
  clear hn2
  cases hM : errM m with
  | some o =>
    obtain ⟨c, k⟩ := o
    rw [hM] at he2 hz2
    obtain ⟨t0, u0, rfl⟩ := he2.1.form
    obtain rfl := hz2 (by simp)
    clear he2 hz2 hy2 hM
    go_wp2_with (first | (go_at_call 12; refine Stop.out ?_))
    refine ⟨(copyBytes_by (HU.out.keeps (T := fun _ => False) (HK2.out.trans (T := fun _ => False) (by repeat (first | with_reducible exact Keeps.refl _ _ | with_reducible apply Keeps.drew | with_reducible apply Keeps.alloc)) fun _ _ h => h) fun _ _ h => h)).mono ?_⟩
    rintro e w5 ⟨v5, rfl, hb5, hn5⟩
    obtain ⟨a5, c5, rfl⟩ := hb5.form
    have HB5 := Lib.hid hb5
    have HK5 : Hid (Keeps (fun _ => False) w w5) := Lib.hid ((HK2.out.trans (T := fun _ => False) (by repeat (first | with_reducible exact Keeps.refl _ _ | with_reducible apply Keeps.drew | with_reducible apply Keeps.alloc)) fun _ _ h => h).trans hn5.keeps fun _ _ h => h)
    clear hb5 hn5
    go_wp2_with (first | (go_at_call 10; refine Stop.out ?_))
    refine ⟨(read_any HB5.out.bsAt HB5.out.lt HSN.out (HK5.out.cell HG.out fun h => h)).mono ?_⟩
    rintro e w6 ⟨hk6, hr6⟩
    have HK6 := Lib.hid (HK5.out.trans hk6 fun _ _ h => h)
    cases hp : pMod (s.data.toList.length + 1) s.data.toList with
    | error q =>
      obtain ⟨l, c, kk⟩ := q
      rw [hp] at hr6
      obtain ⟨E, rfl, hE⟩ := hr6
      obtain ⟨t0, u0, rfl⟩ := hE.form
      clear hE hk6 hp
      go_wp2_with (first | (go_at_call 11; refine Stop.out ?_))
      refine ⟨(sameModule_any ⟨⟨#[]⟩, [], []⟩ ⟨⟨#[]⟩, [], []⟩ (zero_md _) (zero_md _) (fun _ h => h.elim)).mono ?_⟩
      rintro e w7 ⟨r, rfl, hr, hk7⟩
      obtain rfl : r = true := hr.2 rfl
      have HK7 : Hid (Keeps (fun _ => False) w w7) := Lib.hid (HK6.out.trans (Keeps.trans (S := fun _ => False) (T := fun _ => False) (by repeat (first | with_reducible exact Keeps.refl _ _ | with_reducible apply Keeps.drew | with_reducible apply Keeps.alloc)) hk7 fun _ _ h => h) fun _ _ h => h)
      clear hr hk7
      go_wp2_with (first | (go_at_call 13; refine (awake_any _).mono ?_; rintro e w9 ⟨rfl, hk9⟩; have HK9 := Lib.hid hk9; clear hk9))
      go_ret
      exact ⟨rfl, HK7.out.trans HK9.out fun _ _ h => h⟩
    | ok q =>
      obtain ⟨m', r'⟩ := q
      rw [hp] at hr6
      obtain ⟨u6, rfl, d6, hm6⟩ := hr6
      obtain ⟨a3, c3, a4, c4, rfl⟩ := hm6.form
      obtain ⟨q1, q2, _⟩ := pMod_back hp
      have HQ1 := Lib.hid q1
      have HQ2 := Lib.hid (errM_none.2 q2)
      have HM6 := Lib.hid hm6
      have hb6 : BytesD w6 (fun b => b < w.heap.size) (.slice au s.size cu) s := HU.out.keeps HK6.out fun _ _ h => h
      have HB6 := Lib.hid hb6
      clear hp q1 q2 hm6 hk6 hb6
      go_wp2_with (first | (go_at_call 8; refine Stop.out ?_))
      refine ⟨(write_any m' (HM6.out.keeps (T := fun _ => False) (by repeat (first | with_reducible exact Keeps.refl _ _ | with_reducible apply Keeps.drew | with_reducible apply Keeps.alloc)) fun _ _ h => h) (fun x hx => by have := hx.2; simp; omega) (by rw [← HQ1.out]; have := HSN.out; omega)).mono ?_⟩
      rintro e w7 ⟨v7, er7, rfl, he7, hy7, hz7, hn7⟩
      rw [HQ2.out] at he7
      obtain rfl : er7 = .nilIface := he7
      have hb7 := hy7 HQ2.out
      have kc1 : (convert 26 9 v7).run Tryd.prog w7 = .ok (.string s) w7 := by
        have h := conv_row hb7
        rw [← HQ1.out] at h
        exact h
      have HK7 : Hid (Keeps (fun _ => False) w w7) := Lib.hid (HK6.out.trans (Keeps.trans (S := fun _ => False) (T := fun _ => False) (by repeat (first | with_reducible exact Keeps.refl _ _ | with_reducible apply Keeps.drew | with_reducible apply Keeps.alloc)) hn7.keeps fun _ _ h => h) fun _ _ h => h)
      have kc2 : (convert 26 9 (.slice au s.size cu)).run Tryd.prog w7 = .ok (.string s) w7 := conv_arg (HU.out.keeps HK7.out fun _ _ h => h)
      obtain ⟨a7, c7, rfl⟩ := hb7.form
      clear hy7 hz7 hn7 hb7
      go_wp2_with (first | (go_at_call 13; refine (awake_any _).mono ?_; rintro e w9 ⟨rfl, hk9⟩; have HK9 := Lib.hid hk9; clear hk9))
      go_ret
      exact ⟨rfl, HK7.out.trans HK9.out fun _ _ h => h⟩
  | none =>
    rw [hM] at he2
    obtain rfl : er2 = .nilIface := he2
    have hb := hy2 hM
    have hm := errM_none.1 hM
    have HMO := Lib.hid hm
    have HFIT := Lib.hid (md_fits HM.out hm (by omega))
    have HB := Lib.hid hb
    obtain ⟨ab, cb, rfl⟩ := hb.form
    clear hy2 hz2 hM hm hb
    go_wp2_with (first | (go_at_call 10; refine Stop.out ?_))
    refine ⟨(read_any HB.out.bsAt HB.out.lt HL.out (HK2.out.cell HG.out fun h => h)).mono ?_⟩
    rintro e w3 ⟨hk3, hr3⟩
    rw [pMod_enc HMO.out HFIT.out (by omega)] at hr3
    obtain ⟨u3, rfl, hm3⟩ := hr3
    obtain ⟨a3, c3, a4, c4, rfl⟩ := hm3.form
    have HM3 := Lib.hid hm3
    have HK3 := Lib.hid (HK2.out.trans hk3 fun _ _ h => h)
    have hb3 := HBX2.out.keeps hk3 fun h => h
    have x0 : w3.cell? ⟨w.heap.size, 0, none⟩ = some (.string m.name) := hb3.cell (i := 0) rfl
    have x1 : w3.cell? ⟨w.heap.size, 1, none⟩ = some (.slice al m.lits.length cl) := hb3.cell (i := 1) rfl
    have x2 : w3.cell? ⟨w.heap.size, 2, none⟩ = some (.slice af m.funcs.length cf) := hb3.cell (i := 2) rfl
    have hlt3 := hb3.lt
    clear hk3 hm3 hb3
    go_wp2_with (first | (go_at_call 11; refine Stop.out ?_))
    obtain ⟨d3, hd3⟩ := HM3.out
    have hmb := HM.out.keeps HK3.out fun _ _ h => h
    have hbo := MdD.both hd3 hmb (fun x hx => hx.2) (fun x hx => Nat.lt_of_lt_of_le (HS.out x hx) HK3.out.size)
    refine ⟨(sameModule_any _ _ (hbo.2.keeps (T := fun _ => False) (by repeat (first | with_reducible exact Keeps.refl _ _ | with_reducible apply Keeps.drew | with_reducible apply Keeps.alloc)) fun _ _ h => h) (hbo.1.keeps (T := fun _ => False) (by repeat (first | with_reducible exact Keeps.refl _ _ | with_reducible apply Keeps.drew | with_reducible apply Keeps.alloc)) fun _ _ h => h) (fun x hx => by simp; omega)).mono ?_⟩
    rintro e w4 ⟨r, rfl, hr, hk4⟩
    obtain rfl : r = true := hr.2 rfl
    have HK4 : Hid (Keeps (fun _ => False) w w4) := Lib.hid (HK3.out.trans (Keeps.trans (S := fun _ => False) (T := fun _ => False) (by repeat (first | with_reducible exact Keeps.refl _ _ | with_reducible apply Keeps.drew | with_reducible apply Keeps.alloc)) hk4 fun _ _ h => h) fun _ _ h => h)
    clear hr hk4 hbo hmb hd3 x0 x1 x2
    go_wp2_with (first | (go_at_call 12; refine Stop.out ?_))
    refine ⟨(copyBytes_by (HU.out.keeps (T := fun _ => False) (HK4.out.trans (T := fun _ => False) (by repeat (first | with_reducible exact Keeps.refl _ _ | with_reducible apply Keeps.drew | with_reducible apply Keeps.alloc)) fun _ _ h => h) fun _ _ h => h)).mono ?_⟩
    rintro e w5 ⟨v5, rfl, hb5, hn5⟩
    obtain ⟨a5, c5, rfl⟩ := hb5.form
    have HB5 := Lib.hid hb5
    have HK5 : Hid (Keeps (fun _ => False) w w5) := Lib.hid ((HK4.out.trans (T := fun _ => False) (by repeat (first | with_reducible exact Keeps.refl _ _ | with_reducible apply Keeps.drew | with_reducible apply Keeps.alloc)) fun _ _ h => h).trans hn5.keeps fun _ _ h => h)
    clear hb5 hn5
    go_wp2_with (first | (go_at_call 10; refine Stop.out ?_))
    refine ⟨(read_any HB5.out.bsAt HB5.out.lt HSN.out (HK5.out.cell HG.out fun h => h)).mono ?_⟩
    rintro e w6 ⟨hk6, hr6⟩
    have HK6 := Lib.hid (HK5.out.trans hk6 fun _ _ h => h)
    cases hp : pMod (s.data.toList.length + 1) s.data.toList with
    | error q =>
      obtain ⟨l, c, kk⟩ := q
      rw [hp] at hr6
      obtain ⟨E, rfl, hE⟩ := hr6
      obtain ⟨t0, u0, rfl⟩ := hE.form
      clear hE hk6 hp
      go_wp2_with (first | (go_at_call 11; refine Stop.out ?_))
      refine ⟨(sameModule_any ⟨⟨#[]⟩, [], []⟩ ⟨⟨#[]⟩, [], []⟩ (zero_md _) (zero_md _) (fun _ h => h.elim)).mono ?_⟩
      rintro e w7 ⟨r, rfl, hr, hk7⟩
      obtain rfl : r = true := hr.2 rfl
      have HK7 : Hid (Keeps (fun _ => False) w w7) := Lib.hid (HK6.out.trans (Keeps.trans (S := fun _ => False) (T := fun _ => False) (by repeat (first | with_reducible exact Keeps.refl _ _ | with_reducible apply Keeps.drew | with_reducible apply Keeps.alloc)) hk7 fun _ _ h => h) fun _ _ h => h)
      clear hr hk7
      go_wp2_with (first | (go_at_call 13; refine (awake_any _).mono ?_; rintro e w9 ⟨rfl, hk9⟩; have HK9 := Lib.hid hk9; clear hk9))
      go_ret
      exact ⟨rfl, HK7.out.trans HK9.out fun _ _ h => h⟩
    | ok q =>
      obtain ⟨m', r'⟩ := q
      rw [hp] at hr6
      obtain ⟨u6, rfl, d6, hm6⟩ := hr6
      obtain ⟨a3, c3, a4, c4, rfl⟩ := hm6.form
      obtain ⟨q1, q2, _⟩ := pMod_back hp
      have HQ1 := Lib.hid q1
      have HQ2 := Lib.hid (errM_none.2 q2)
      have HM6 := Lib.hid hm6
      have hb6 : BytesD w6 (fun b => b < w.heap.size) (.slice au s.size cu) s := HU.out.keeps HK6.out fun _ _ h => h
      have HB6 := Lib.hid hb6
      clear hp q1 q2 hm6 hk6 hb6
      go_wp2_with (first | (go_at_call 8; refine Stop.out ?_))
      refine ⟨(write_any m' (HM6.out.keeps (T := fun _ => False) (by repeat (first | with_reducible exact Keeps.refl _ _ | with_reducible apply Keeps.drew | with_reducible apply Keeps.alloc)) fun _ _ h => h) (fun x hx => by have := hx.2; simp; omega) (by rw [← HQ1.out]; have := HSN.out; omega)).mono ?_⟩
      rintro e w7 ⟨v7, er7, rfl, he7, hy7, hz7, hn7⟩
      rw [HQ2.out] at he7
      obtain rfl : er7 = .nilIface := he7
      have hb7 := hy7 HQ2.out
      have kc1 : (convert 26 9 v7).run Tryd.prog w7 = .ok (.string s) w7 := by
        have h := conv_row hb7
        rw [← HQ1.out] at h
        exact h
      have HK7 : Hid (Keeps (fun _ => False) w w7) := Lib.hid (HK6.out.trans (Keeps.trans (S := fun _ => False) (T := fun _ => False) (by repeat (first | with_reducible exact Keeps.refl _ _ | with_reducible apply Keeps.drew | with_reducible apply Keeps.alloc)) hn7.keeps fun _ _ h => h) fun _ _ h => h)
      have kc2 : (convert 26 9 (.slice au s.size cu)).run Tryd.prog w7 = .ok (.string s) w7 := conv_arg (HU.out.keeps HK7.out fun _ _ h => h)
      obtain ⟨a7, c7, rfl⟩ := hb7.form
      clear hy7 hz7 hn7 hb7
      go_wp2_with (first | (go_at_call 13; refine (awake_any _).mono ?_; rintro e w9 ⟨rfl, hk9⟩; have HK9 := Lib.hid hk9; clear hk9))
      go_ret
      exact ⟨rfl, HK7.out.trans HK9.out fun _ _ h => h⟩
end Go.Proofs.YtgmieehheoknbaaDoor

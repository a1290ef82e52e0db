import Derived.Test.YtgmieehheoknbaaDoorGn
import Derived.Test.YtgmieehheoknbaaDoorGs
import Derived.Test.YtgmieehheoknbaaDoorGb
import Derived.Test.YtgmieehheoknbaaDoorGd
/-
  The law CodeCuts: what the Go code does.
-/
namespace Go.Tx
open Go Go.RowKit
theorem encN_pos (n : Nat) : 1 ≤ (encN n).length := by rw [encN]; split <;> simp
theorem byteCells_list (s : ByteArray) : byteCells s = byteV s.data.toList := by
  simp [byteCells, byteV]
theorem size_list (s : ByteArray) : s.size = s.data.toList.length := by rw [Array.length_toList]; rfl
theorem Bytes.asD {w : World} {v : Value} {q : List UInt8} (h : Bytes w v q) (hl : q.length ≤ 140737488355328) : BytesD w (fun b => b < w.heap.size) v ⟨q.toArray⟩ := by
  refine bytes_row ?_ (by simpa [ByteArray.size] using hl) fun g hg => Row.lt h hg
  rw [byteCells_list]
  have e : (⟨q.toArray⟩ : ByteArray).size = q.length := by simp [ByteArray.size]
  rw [e]
  have h2 : Row w 5 1 v q.length (byteV q) := h
  simpa using h2
theorem BsAt.take {w : World} {a : Option Addr} {c n k : Nat} {s : List UInt8} (h : BsAt w (.slice a n c) s) (hk : k ≤ n) : BsAt w (.slice a k c) (s.take k) := by
  obtain ⟨a', c', e, h1, h2, h3⟩ := h
  cases e
  refine ⟨a, c, by rw [List.length_take, Nat.min_eq_left hk], by rw [List.length_take]; omega, h2, fun i x hx => h3 i x ?_⟩
  rw [List.getElem?_take] at hx
  split at hx
  · exact hx
  · cases hx
end Go.Tx
namespace Go.Proofs.YtgmieehheoknbaaDoor
open Go.RowKit Go.Tx
def cutO (n : Nat) : ErrO := some ([(⟨#[114, 101, 97, 100]⟩, (n : Int))], 10)
theorem cut_errs {w6 w7 W : World} {E : Value} {n : Nat} (h : IsErr w7 (Fresh w6 w7) E [(⟨#[114, 101, 97, 100]⟩, (n : Int))] 10) (o : Obj)
    (hW : W = (w7.alloc o).alloc (.cells #[.string ⟨#[114, 101, 97, 100]⟩, .int .i64 n, .iface 41 (.int .i64 10)] 43)) :
    IsErrO W (Fresh w6 w7) E (cutO n) ∧ IsErrO W (fun _ => True) (.iface 40 (.pointer (some ⟨w7.heap.size + 1, 0, none⟩))) (cutO n) := by
  subst hW
  refine ⟨⟨h.keeps (((Keeps.refl (fun _ => False) w7).alloc _).alloc _) fun _ _ h => h, of_decide_eq_true rfl⟩, ⟨w7.heap.size + 1, .iface 41 (.int .i64 10), rfl, ?_, True.intro, rfl⟩, of_decide_eq_true rfl⟩
  have := Blk.new (w7.alloc o) [.string ⟨#[114, 101, 97, 100]⟩, .int .i64 n, .iface 41 (.int .i64 10)] 43
  rwa [World.size_alloc] at this
set_option maxRecDepth 100000 in
set_option maxHeartbeats 400000 in
theorem copyBytes_by {w : World} {S : Nat → Prop} {v : Value} {s : ByteArray} (h : BytesD w S v s) :
    Calls Tryd.prog 12 #[v] w fun e w' => ∃ v', e = .returned v' ∧ Bytes w' v' s.data.toList ∧ New w w' v' := by
  have H := Lib.hid h
  obtain ⟨hb, a, cap, rfl, _⟩ := h
  go_enter Tryd.func12, Tryd.ntmps12
  go_wp2_with (first | (at_builtin; go_must (refine wpList_append_row _ rfl _ _ 26 26 rfl 5 (.slice 5) 1 1 (.int .u8 0) info_u8 Tryd.underlying26 Tryd.underlying26 (by intro k h; cases h) rfl (.slice none 0 0) 0 [] rfl (World.ownsRow_nil _ _ _ _) _ s.size (byteCells s) rfl (by rw [byteCells_length, Nat.mul_one]) (lenOf_slice _ _ _) (fun W hW => first_bytes H.out hW) (by intro u hu; simp only [byteCells, List.mem_map] at hu; obtain ⟨_, _, rfl⟩ := hu; rfl) (by unfold maxLen; omega) (by omega) ?_); intro v' w4 ha; obtain ⟨va, vc, rfl, _, _⟩ := ha.row.len; have HA := Lib.hid ha; clear ha))
  go_ret
  have ha := HA.out
  rw [Nat.zero_add, List.nil_append] at ha
  have hk : Keeps (fun _ => False) w _ := ha.keeps.mono fun g _ hg => by simp [Own, Value.ownBlock] at hg
  refine ⟨.slice va s.size vc, rfl, ?_, hk, fun g hg => ?_⟩
  · have := ha.row
    rw [byteCells_list, size_list] at this
    rw [size_list]
    exact this
  · rcases ha.own with e | ⟨e, hs⟩
    · rw [e] at hg; simp [Value.ownBlock] at hg
    · rw [e] at hg; cases hg; exact Nat.le_refl _
set_option maxRecDepth 100000 in
set_option maxHeartbeats 1600000 in
theorem cuts_any {w : World} {S : Nat → Prop} {d : Nat} {v : Value} (m : Md) (h : MdD w S d v m) (hbig : m.lits.length ≤ 1048576) (hsl : ∀ x ∈ m.lits, Slim d x) (hS : ∀ x, S x → x < w.heap.size) (hl : (encM m).length ≤ 1099510000000)
    (at' : Int) (h1 : -9223372036854775808 ≤ at') (h2 : at' ≤ 9223372036854775807) {u : Value} {ms : ByteArray} (hu : BytesD w (fun b => b < w.heap.size) u ms) (hms : ms.size ≤ 1048576) (hg : ErrorType w) :
    Calls Tryd.prog 4 #[v, .int .i64 at', u] w fun e w' => e = .returned (.bool true) ∧ Keeps (fun _ => False) w w' := by
  have HM := Lib.hid h
  have HL := Lib.hid hl
  have HS := Lib.hid hS
  have HSL := Lib.hid hsl
  have HG := Lib.hid hg
  have HU := Lib.hid hu
  obtain ⟨_, au, cu, rfl, hu1, hu2, _⟩ := hu
  unfold maxLen at hu2
  obtain ⟨al, cl, af, cf, rfl⟩ := h.form
  clear h hl hS hsl hg
  go_enter Tryd.func4, Tryd.ntmps4
  go_wp2_with (first | (go_at_call 9; refine Stop.out ?_))
  refine ⟨(copyModule_any m (HM.out.keeps ((Keeps.refl (fun _ => False) w).alloc _) fun _ _ h => h) (by omega) HSL.out (fun x hx => by have := HS.out x hx; simp; omega)).mono ?_⟩
  rintro e w1 ⟨v1, rfl, hm1, hk1⟩
  have hbx : Blk w1 w.heap.size 25 [.string m.name, .slice al m.lits.length cl, .slice af m.funcs.length cf] := (Blk.new w _ _).keeps hk1 fun h => h
  have HK1 : Hid (Keeps (fun _ => False) w w1) := Lib.hid (((Keeps.refl _ w).alloc _).trans hk1 fun _ _ h => h)
  have HBX := Lib.hid hbx
  have HW := Lib.hid (write_any m hm1 (fun x hx => hx.2) (Nat.le_trans HL.out (by decide)))
  have HM1 := Lib.hid hm1
  obtain ⟨al1, cl1, af1, cf1, rfl⟩ := hm1.form
  clear hm1 hk1 hbx
  go_wp2_with (first | (go_at_call 8; refine Stop.out ?_))
  refine ⟨HW.out.mono ?_⟩
  rintro e w2 ⟨b2, er2, rfl, he2, hy2, hz2, hn2⟩
  have HK2 : Hid (Keeps (fun _ => False) w w2) := Lib.hid (HK1.out.trans hn2.keeps fun _ _ h => h)
  have HBX2 := Lib.hid (HBX.out.keeps hn2.keeps fun h => h)
  have HN2 := Lib.hid hn2
  clear hn2
  cases hM : errM m with
  | some o =>
    obtain ⟨c, k⟩ := o
    rw [hM] at he2 hz2
    obtain ⟨t0, u0, rfl⟩ := he2.1.form
    obtain rfl := hz2 (by simp)
    clear he2 hz2 hy2 hM
    go_wp2_with (first | (go_at_call 13; refine (awake_any _).mono ?_; rintro e w5 ⟨rfl, hk5⟩; have HK5 := Lib.hid hk5; clear hk5))
    go_ret
    exact ⟨rfl, HK2.out.trans HK5.out fun _ _ h => h⟩
  | none =>
    rw [hM] at he2
    obtain rfl : er2 = .nilIface := he2
    have hb := hy2 hM
    have hm := errM_none.1 hM
    have HMO := Lib.hid hm
    have HFIT := Lib.hid (md_fits HM.out hm (by omega))
    have HB := Lib.hid hb
    obtain ⟨ab, cb, rfl⟩ := hb.form
    obtain ⟨n, hn⟩ : ∃ n, n = (encM m).length := ⟨_, rfl⟩
    have hn7 : 7 ≤ n := by
      rw [hn]
      unfold encM encB
      have p1 := encN_pos m.name.size
      have p2 := encN_pos m.lits.length
      have p3 := encN_pos m.funcs.length
      simp only [List.length_append, magic, List.length_cons, List.length_nil]
      omega
    have hnl : n ≤ 1099510000000 := by rw [hn]; exact HL.out
    have HNN := Lib.hid hn
    rw [← hn]
    clear hy2 hz2 hM hm hb hn
    obtain ⟨g, cb', e, hgc1, hgc2⟩ := Row.form HB.out (by rw [← HNN.out]; omega)
    rw [← HNN.out] at e hgc1
    cases e
    unfold maxLen at hgc2
    have hgl : g < w2.heap.size := Row.lt HB.out rfl
    have HBS : Hid (BsAt w2 (.slice (some ⟨g, 0, none⟩) n cb) (encM m)) := Lib.hid (by
      have := Bytes.bsAt HB.out
      rwa [← HNN.out] at this)
    go_wp2_with (first | (go_at_call 14; refine Stop.out ?_))
    refine ⟨(place_any at' (n : Int) (by omega) (by omega) h1 h2 w2).mono ?_⟩
    rintro e w3 ⟨rfl, rfl⟩
    obtain ⟨k, hk⟩ : ∃ k : Nat, at' % (n : Int) = (k : Int) := ⟨(at' % (n : Int)).toNat, by have := Int.emod_nonneg at' (b := (n : Int)) (by omega); omega⟩
    have hkn : k < n := by have := Int.emod_lt_of_pos at' (b := (n : Int)) (by omega); omega
    rw [hk]
    clear hk
    go_wp2_with (first | (go_at_call 10; refine Stop.out ?_))
    have hkl : ((encM m).take k).length = k := by rw [List.length_take, ← HNN.out]; omega
    refine ⟨(read_any (HBS.out.take (Nat.le_of_lt hkn)) (fun z e => by have e2 : g = z := Option.some.inj e; omega) (by rw [hkl]; omega) (HK2.out.cell HG.out fun h => h)).mono ?_⟩
    rintro e w4 ⟨hk4, hr4⟩
    cases hp : pMod (((encM m).take k).length + 1) ((encM m).take k) with
    | ok q =>
      exfalso
      obtain ⟨m', r'⟩ := q
      rw [hp] at hr4
      obtain ⟨u', rfl, d4, hm4⟩ := hr4
      obtain ⟨q1, q2, q3, q4, q5, q6⟩ := pMod_back hp
      exact cut_none HMO.out HFIT.out q2 (md_fits hm4 q2 q4) (by rw [← HNN.out]; exact hkn) q1
    | error q =>
      obtain ⟨l, c, kk⟩ := q
      rw [hp] at hr4
      obtain ⟨E, rfl, hE⟩ := hr4
      obtain ⟨t0, u0, rfl⟩ := hE.form
      have HK4 := Lib.hid (HK2.out.trans hk4 fun _ _ h => h)
      have HB4 : Hid (Bytes w4 (.slice (some ⟨g, 0, none⟩) n cb) (encM m)) := Lib.hid (by
        have := HB.out.keeps hk4 fun _ _ h => h
        unfold Bytes
        rw [← HNN.out] at this ⊢
        exact this)
      clear hE hk4 hp hkl
      go_wp2_with (first | (go_at_call 12; refine Stop.out ?_))
      have hd4 : BytesD (w4.alloc (.cells #[.string ⟨#[]⟩, .slice none 0 0, .slice none 0 0] 25)) (fun b => b < w4.heap.size) (.slice (some ⟨g, 0, none⟩) n cb) ⟨(encM m).toArray⟩ := (HB4.out.asD (by rw [← HNN.out]; omega)).keeps ((Keeps.refl (fun _ => False) w4).alloc _) fun _ _ h => h
      refine ⟨(copyBytes_by hd4).mono ?_⟩
      rintro e w5 ⟨v5, rfl, hb5, hn5⟩
      have hb5 : Bytes w5 v5 (encM m) := by simpa using hb5
      obtain ⟨a5, c5, rfl⟩ := hb5.form
      have HB5 := Lib.hid hb5
      have HN5 := Lib.hid hn5
      have HK5 := Lib.hid ((HK4.out.alloc _).trans hn5.keeps fun _ _ h => h)
      clear hb5 hn5 hd4
      rw [← HNN.out]
      have HROW5 : Hid (Row w5 5 1 (.slice a5 n c5) n (byteV (encM m))) := Lib.hid (by
        have h := HB5.out
        unfold Bytes at h
        rw [← HNN.out] at h
        exact h)
      have hmu : BytesD w5 (fun b => b < w.heap.size) (.slice au ms.size cu) ms := HU.out.keeps HK5.out fun _ _ h => h
      have HMU := Lib.hid hmu
      clear hmu
      go_wp2_with (first | (at_builtin; go_must (refine wpList_append_row _ rfl _ _ 26 26 rfl 5 (.slice 5) 1 1 (.int .u8 0) info_u8 Tryd.underlying26 Tryd.underlying26 (by intro k h; cases h) rfl (.slice a5 n c5) n (byteV (encM m)) rfl HROW5.out _ ms.size (byteCells ms) rfl (by rw [byteCells_length, Nat.mul_one]) (lenOf_slice _ _ _) (fun W hW => first_bytes HMU.out hW) (by intro u hu; simp only [byteCells, List.mem_map] at hu; obtain ⟨_, _, rfl⟩ := hu; rfl) (by unfold maxLen; omega) (by omega) ?_); intro v' w4 ha; obtain ⟨va, vc, rfl, _, _⟩ := ha.row.len; have HA := Lib.hid ha; clear ha) | (go_at_call 10; refine Stop.out ?_))
      rename World => w6
      have hlen : (encM m ++ ms.data.toList).length = n + ms.size := by rw [List.length_append, ← HNN.out, size_list]
      have hb6 : Bytes w6 (.slice va (n + ms.size) vc) (encM m ++ ms.data.toList) := by
        have h := HA.out.row
        unfold Bytes
        rw [hlen]
        rw [byteCells_list] at h
        simpa [byteV] using h
      have hk6 : Keeps (fun _ => False) w w6 := HK5.out.trans HA.out.keeps fun x hx ho => by
        have := HN5.out.own x (by cases a5 with | none => simp [Own, Value.ownBlock] at ho | some a => exact ho)
        have := HK4.out.size
        rw [World.size_alloc] at *
        omega
      refine ⟨(read_any hb6.bsAt hb6.lt (by rw [hlen]; omega) (hk6.cell HG.out fun h => h)).mono ?_⟩
      rintro e w7 ⟨hk7, hr7⟩
      rw [pMod_more HMO.out HFIT.out] at hr7
      have HK7 := Lib.hid (hk6.trans hk7 fun _ _ h => h)
      by_cases h0 : ms.size = 0
      · have e0 : ms.data.toList = [] := List.eq_nil_of_length_eq_zero (by rw [← size_list]; exact h0)
        rw [e0] at hr7
        obtain ⟨u7, rfl, hm7⟩ := hr7
        obtain ⟨a7, c7, a8, c8, rfl⟩ := hm7.form
        clear hm7 hk7 hk6 hb6 hlen e0
        go_wp2_with (first | (go_at_call 13; refine (awake_any _).mono ?_; rintro e w8 ⟨rfl, hk8⟩; have HK8 := Lib.hid hk8; clear hk8))
        go_ret
        exact ⟨rfl, (HK7.out.trans (Keeps.trans (S := fun _ => False) (T := fun _ => False) (by repeat (first | with_reducible exact Keeps.refl _ _ | with_reducible apply Keeps.drew | with_reducible apply Keeps.alloc)) HK8.out fun _ _ h => h) fun _ _ h => h)⟩
      · obtain ⟨x, xs, e1⟩ : ∃ x xs, ms.data.toList = x :: xs := by
          cases hx : ms.data.toList with
          | nil => rw [size_list, hx] at h0; exact absurd rfl h0
          | cons x xs => exact ⟨x, xs, rfl⟩
        have hr8 : ∃ E, e = .returned (.tuple #[.agg #[.string ⟨#[]⟩, .slice none 0 0, .slice none 0 0], E]) ∧ IsErr w7 (Fresh w6 w7) E [(⟨#[114, 101, 97, 100]⟩, (n : Int))] 10 := by
          rw [e1] at hr7
          obtain ⟨E, he, hE⟩ := hr7
          refine ⟨E, he, ?_⟩
          rw [show (encM m ++ x :: xs).length - (xs.length + 1) = n by rw [List.length_append, ← HNN.out, List.length_cons]; omega] at hE
          exact hE
        obtain ⟨E7, rfl, hE7⟩ := hr8
        obtain ⟨t7, v7, rfl⟩ := hE7.form
        have HE7 := Lib.hid hE7
        clear hr7 hE7 hk7 hk6 hb6 hlen e1
        have hm0 : 0 < ms.size := by omega
        go_wp2_with (first | (go_at_call 15; refine Stop.out ?_))
        refine ⟨(err_any (cut_errs HE7.out _ rfl).1 (cut_errs HE7.out _ rfl).2).mono ?_⟩
        rintro e w8 ⟨rfl, hk8⟩
        have HK8 := Lib.hid hk8
        clear hk8
        rw [show (fineO (cutO n) && fineO (cutO n) && decide (cutO n = cutO n)) = true by simp [fineO, cutO]]
        go_wp2_with (first | (go_at_call 13; refine (awake_any _).mono ?_; rintro e w9 ⟨rfl, hk9⟩; have HK9 := Lib.hid hk9; clear hk9))
        go_ret
        exact ⟨rfl, ((HK7.out.trans (Keeps.trans (S := fun _ => False) (T := fun _ => False) (by repeat (first | with_reducible exact Keeps.refl _ _ | with_reducible apply Keeps.drew | with_reducible apply Keeps.alloc)) HK8.out fun _ _ h => h) fun _ _ h => h)).trans HK9.out fun _ _ h => h⟩
end Go.Proofs.YtgmieehheoknbaaDoor

import Derived.Test.YtgmieehheoknbaaDoorGc
import Derived.Test.YtgmieehheoknbaaDoorGa
import Derived.Lib.SlBytesRow
import Derived.Test.YtgmieehheoknbaaDoorGf
import Derived.BigGuardPart
import Derived.Test.YtgmieehheoknbaaDoorGe
section
/-
  code.Read: the bytes as a reader has them; giving up; the next byte.
-/
namespace Go.Tx
open Go Go.RowKit
/-- a slice of bytes at the head of a block, or an empty one -/
def BsAt (w : World) (v : Value) (s : List UInt8) : Prop :=
  ∃ a c, v = .slice a s.length c ∧ s.length ≤ c ∧ c ≤ maxLen ∧ ∀ i x, s[i]? = some x → ∃ g, a = some ⟨g, 0, none⟩ ∧ g < w.heap.size ∧ w.cell? ⟨g, i, none⟩ = some (.int .u8 (x.toNat : Int))
theorem BsAt.keeps {w w' : World} {v : Value} {s : List UInt8} {S : Nat → Prop} (h : BsAt w v s) (hk : Keeps S w w') (hs : ∀ g, v.ownBlock = some g → ¬ S g) : BsAt w' v s := by
  obtain ⟨a, c, rfl, hc1, hc2, h1⟩ := h
  refine ⟨a, c, rfl, hc1, hc2, fun i x hx => ?_⟩
  obtain ⟨g, rfl, hg, hc⟩ := h1 i x hx
  exact ⟨g, rfl, Nat.lt_of_lt_of_le hg hk.size, hk.cell hc (hs g (by simp [Value.ownBlock]))⟩
/-- a reader: its bytes; so many are read -/
def RdAt (w : World) (b : Nat) (v : Value) (s : List UInt8) (p : Nat) : Prop :=
  Blk w b 70 [v, .int .i64 p] ∧ BsAt w v s ∧ p ≤ s.length ∧ s.length ≤ maxLen ∧ ∀ g, v.ownBlock = some g → g ≠ b
/-- how a reader gives up: at which place, around what -/
def GaveUp (w : World) (b : Nat) (p : Nat) (c : List (ByteArray × Int)) (k : Int) (e : Ending) (w' : World) : Prop :=
  ∃ E, e = .panicked [{ v := E, recovered := false }] ∧ IsErr w' (Fresh w w') E ((⟨#[114, 101, 97, 100]⟩, (p : Int)) :: c) k ∧ Keeps (fun x => x = b) w w'
end Go.Tx
namespace Go.Tx
open Go
theorem Keeps.put (w : World) (a : Addr) (u : Value) : Keeps (fun g => g = a.block) w (w.setCell a u) := Keeps.setCell (S := fun g => g = a.block) (Keeps.refl _ w) (fun _ => rfl) u
end Go.Tx
namespace Go.Proofs.YtgmieehheoknbaaDoor
open Go.RowKit Go.Tx
set_option maxHeartbeats 400000 in
theorem fail_kind (w : World) (b : Nat) (p : Nat) (k : Int) (r : Value) :
    Calls Tryd.prog 38 #[r, .int .i64 p, .iface 41 (.int .i64 k)] w (GaveUp w b p [] k) := by
  go_enter Tryd.func38, Tryd.ntmps38
  go_wp2_with (go_at_call 19; refine (at_any _ _ _ _ _).mono ?_; rintro e w1 ⟨rfl, rfl⟩)
  refine ⟨rfl, _, rfl, (isErr_new w _ _ _ [] k (fun _ => False) rfl).mono fun g hg => ?_, (Keeps.refl _ w).alloc _⟩
  rcases hg with rfl | hg
  · exact ⟨Nat.le_refl _, by rw [World.size_alloc]; omega⟩
  · exact hg.elim
set_option maxHeartbeats 800000 in
theorem byte_some {w : World} {b : Nat} {v : Value} {s : List UInt8} {p : Nat} {x : UInt8} (h : RdAt w b v s p) (hx : s[p]? = some x) :
    Calls Tryd.prog 37 #[.pointer (some ⟨b, 0, none⟩)] w fun e w' => e = .returned (.int .u8 (x.toNat : Int)) ∧ RdAt w' b v s (p + 1) ∧ Keeps (fun y => y = b) w w' := by
  obtain ⟨hb, hs, hp, hm, hv⟩ := h
  have HB := Lib.hid hb
  have HS := Lib.hid hs
  have HV := Lib.hid hv
  have hpl : p < s.length := (List.getElem?_eq_some_iff.1 hx).1
  obtain ⟨a, c, rfl, _, _, h1⟩ := hs
  obtain ⟨g, rfl, hgl, hc⟩ := h1 p x hx
  have hgb : g ≠ b := hv g rfl
  have d0 : w.cell? ⟨b, 0, none⟩ = some (.slice (some ⟨g, 0, none⟩) s.length c) := hb.cell (i := 0) rfl
  have d1 : w.cell? ⟨b, 1, none⟩ = some (.int .i64 p) := hb.cell (i := 1) rfl
  have g1 : ((p : Int) == (s.length : Int)) = false := by simp; omega
  have hm2 : s.length ≤ 9223372036854775807 := by unfold maxLen at hm; omega
  have g2 : wrap64 ((p : Int) + 1) = (p : Int) + 1 := by unfold wrap64; omega
  clear hb h1 hv hx
  go_enter Tryd.func37, Tryd.ntmps37
  have hb2 := HB.out.set 1 (.int .i64 ((p : Int) + 1))
  have e0 : (w.setCell ⟨b, 1, none⟩ (.int .i64 ((p : Int) + 1))).cell? ⟨b, 0, none⟩ = some (.slice (some ⟨g, 0, none⟩) s.length c) := hb2.cell (i := 0) rfl
  have e1 : (w.setCell ⟨b, 1, none⟩ (.int .i64 ((p : Int) + 1))).cell? ⟨b, 1, none⟩ = some (.int .i64 ((p : Int) + 1)) := hb2.cell (i := 1) rfl
  have e2 : (w.setCell ⟨b, 1, none⟩ (.int .i64 ((p : Int) + 1))).cell? ⟨g, p, none⟩ = some (.int .u8 (x.toNat : Int)) := (Keeps.put w ⟨b, 1, none⟩ _).cell hc fun h => hgb h
  have HB2 := Lib.hid hb2
  have hfz : w.frozen? ⟨b, 1, none⟩ = false := HB.out.free 1
  have HKS : Hid (Keeps (fun y => y = b) w (w.setCell ⟨b, 1, none⟩ (.int .i64 ((p : Int) + 1)))) := Lib.hid (Keeps.put w ⟨b, 1, none⟩ _)
  clear hb2 hc
  go_wp2_with (first | (with_reducible refine wp_region_text (by kernel_rfl) (by kernel_rfl) ?_) | (with_reducible refine text_fin (by kernel_rfl) ?_))
  go_ret
  exact ⟨rfl, ⟨HB2.out.drew.drew, HS.out.keeps HKS.out.drew.drew HV.out, by omega, hm, HV.out⟩, HKS.out.drew.drew⟩
set_option maxHeartbeats 800000 in
theorem byte_none {w : World} {b : Nat} {v : Value} {s : List UInt8} {p : Nat} (h : RdAt w b v s p) (hx : p = s.length) :
    Calls Tryd.prog 37 #[.pointer (some ⟨b, 0, none⟩)] w (GaveUp w b p [] 10) := by
  obtain ⟨hb, ⟨a, c, rfl, _⟩, hp, hm, hv⟩ := h
  have d0 : w.cell? ⟨b, 0, none⟩ = some (.slice a s.length c) := hb.cell (i := 0) rfl
  have d1 : w.cell? ⟨b, 1, none⟩ = some (.int .i64 p) := hb.cell (i := 1) rfl
  have g1 : ((p : Int) == (s.length : Int)) = true := by simp; omega
  clear hb hv
  subst hx
  go_enter Tryd.func37, Tryd.ntmps37
  go_wp2_with (first | (with_reducible refine wp_region_text (by kernel_rfl) (by kernel_rfl) ?_) | (with_reducible refine text_fin (by kernel_rfl) ?_) | (go_at_call 38; refine Stop.out ?_))
  refine ⟨(fail_kind _ b _ _ _).mono ?_⟩
  rintro e w2 ⟨E, rfl, hE, hk⟩
  exact ⟨rfl, E, rfl, hE, hk.of_drew⟩
end Go.Proofs.YtgmieehheoknbaaDoor
end
section
/-
  code.Read: groups of seven bits.
-/
namespace Go.Tx
open Go Go.RowKit
/-- a reader's call does what is said of the bytes -/
def RdPost {α : Type} (w : World) (b : Nat) (v : Value) (s : List UInt8) (r : PR α) (R : α → Value → Prop) (e : Ending) (w' : World) : Prop := match r with
  | .error (l, c, k) => GaveUp w b (s.length - l) c k e w'
  | .ok (x, q) => ∃ u p, e = .returned u ∧ R x u ∧ q = s.drop p ∧ RdAt w' b v s p ∧ Keeps (fun y => y = b) w w'
theorem GaveUp.ahead {w w1 w' : World} {b p : Nat} {c : List (ByteArray × Int)} {k : Int} {e : Ending} (hk : Keeps (fun y => y = b) w w1) (h : GaveUp w1 b p c k e w') : GaveUp w b p c k e w' := by
  obtain ⟨E, rfl, hE, h2⟩ := h
  exact ⟨E, rfl, hE.mono fun g hg => ⟨Nat.le_trans hk.size hg.1, hg.2⟩, hk.trans h2 fun _ _ h => h⟩
theorem gave {α : Type} {w w' : World} {b p l : Nat} {v : Value} {s : List UInt8} {c : List (ByteArray × Int)} {k : Int} {e : Ending} {r : PR α} {R : α → Value → Prop} (hr : r = .error (l, c, k)) (hp : p = s.length - l) (h : GaveUp w b p c k e w') : RdPost w b v s r R e w' := by
  subst hr hp
  exact h
theorem rdrop_cons {s : List UInt8} {q : Nat} {x : UInt8} (h : s[q]? = some x) : s.drop q = x :: s.drop (q + 1) := by
  obtain ⟨hl, he⟩ := List.getElem?_eq_some_iff.1 h
  rw [List.drop_eq_getElem_cons hl, he]
theorem and_u8 {x : Nat} (h : x < 256) : bits BinOp.and IntKind.u8 (x : Int) 127 = ((x % 128 : Nat) : Int) := by
  have h' : ∀ k : Fin 256, bits BinOp.and IntKind.u8 ((k.val : Nat) : Int) 127 = ((k.val % 128 : Nat) : Int) := by decide +kernel
  exact h' ⟨x, h⟩
theorem wrap_u64 (n : Int) : IntKind.u64.wrap n = n % 18446744073709551616 := by simp [IntKind.wrap, IntKind.signed, IntKind.bits]
theorem or_u64 {m y j : Nat} (hm : m < 128 ^ j) (hb : y * 128 ^ j < 18446744073709551616) (hm2 : m < 18446744073709551616) : bits BinOp.or IntKind.u64 (m : Int) ((y * 128 ^ j : Nat) : Int) = ((m + y * 128 ^ j : Nat) : Int) := by
  show IntKind.u64.wrap ((BitVec.ofInt 64 m ||| BitVec.ofInt 64 ((y * 128 ^ j : Nat) : Int)).toNat : Int) = _
  rw [BitVec.ofInt_natCast, BitVec.ofInt_natCast, BitVec.toNat_or, BitVec.toNat_ofNat, BitVec.toNat_ofNat, Nat.mod_eq_of_lt (by simpa using hm2), Nat.mod_eq_of_lt (by simpa using hb)]
  have hp : 128 ^ j = 2 ^ (7 * j) := by rw [Nat.pow_mul]
  have ho : m ||| y * 128 ^ j = m + y * 128 ^ j := by
    rw [hp] at hm ⊢
    rw [Nat.or_comm, Nat.mul_comm, ← Nat.two_pow_add_eq_or_of_lt hm, Nat.add_comm]
  rw [ho, wrap_u64]
  have h64 : (2 : Nat) ^ 64 = 18446744073709551616 := by decide
  have hlt : (m ||| y * 128 ^ j) < 2 ^ 64 := Nat.or_lt_two_pow (by omega) (by omega)
  rw [ho] at hlt
  omega
theorem or_bits {m x j : Nat} (hm : m < 128 ^ j) (hx : x < 256) (hj : j ≤ 9) (hb : j = 9 → x % 128 ≤ 1) :
    bits BinOp.or IntKind.u64 (m : Int) (IntKind.u64.wrap (IntKind.u64.wrap (bits BinOp.and IntKind.u8 (x : Int) 127) * 2 ^ (7 * j))) = ((m + x % 128 * 128 ^ j : Nat) : Int) := by
  have hb2 : x % 128 * 128 ^ j < 18446744073709551616 := by
    rcases Nat.lt_or_ge j 9 with h9 | h9
    · have h1 : 128 ^ j ≤ 128 ^ 8 := Nat.pow_le_pow_right (by decide) (by omega)
      have h2 : x % 128 * 128 ^ j ≤ 128 * 128 ^ 8 := Nat.mul_le_mul (by omega) h1
      omega
    · obtain rfl : j = 9 := by omega
      have h2 : x % 128 * 128 ^ 9 ≤ 1 * 128 ^ 9 := Nat.mul_le_mul_right _ (hb rfl)
      omega
  have hm2 : m < 18446744073709551616 := by
    have h1 : 128 ^ j ≤ 128 ^ 9 := Nat.pow_le_pow_right (by decide) hj
    omega
  have hp : (2 : Int) ^ (7 * j) = ((128 ^ j : Nat) : Int) := by
    have : 128 ^ j = 2 ^ (7 * j) := by rw [Nat.pow_mul]
    rw [this]
    simp
  rw [and_u8 hx, wrap_u64 ((x % 128 : Nat) : Int), hp, show (((x % 128 : Nat) : Int) % 18446744073709551616) = ((x % 128 : Nat) : Int) by omega, ← Int.natCast_mul, wrap_u64]
  rw [show (((x % 128 * 128 ^ j : Nat) : Int) % 18446744073709551616) = ((x % 128 * 128 ^ j : Nat) : Int) by omega]
  exact or_u64 hm hb2 hm2
theorem done {α : Type} {w w' : World} {b p : Nat} {v u : Value} {s q : List UInt8} {r : PR α} {x : α} {R : α → Value → Prop} (hr : r = .ok (x, q)) (hu : R x u) (hq : q = s.drop p) (h : RdAt w' b v s p) (hk : Keeps (fun y => y = b) w w') :
    RdPost w b v s r R (.returned u) w' := by
  subst hr
  exact ⟨u, p, rfl, hu, hq, h, hk⟩
/-- so many groups are read -/
def BitsAt (w : World) (b : Nat) (v : Value) (s : List UInt8) (p : Nat) (k : Nat) (n i : Value) (wr : World) : Prop :=
  ∃ (j m q : Nat), n = .int .u64 m ∧ i = .int .i64 j ∧ j ≤ k ∧ m < 128 ^ j ∧ RdAt wr b v s q ∧ Keeps (fun y => y = b) w wr ∧ pBits (s.drop p).length k 0 0 (s.drop p) = pBits (s.drop p).length (k - j) j m (s.drop q)
end Go.Tx
namespace Go.Proofs.YtgmieehheoknbaaDoor
open Go.RowKit Go.Tx
set_option maxRecDepth 100000 in
set_option maxHeartbeats 800000 in
theorem bits_any {w : World} {b : Nat} {v : Value} {s : List UInt8} {p : Nat} (k : Nat) (hk : k = 6 ∨ k = 10) (h : RdAt w b v s p) :
    Calls Tryd.prog 56 #[.pointer (some ⟨b, 0, none⟩), .int .i64 k] w (RdPost w b v s (pBits (s.drop p).length k 0 0 (s.drop p)) fun x u => u = .int .u64 (x : Nat)) := by
  have H := Lib.hid h
  have d1 : w.cell? ⟨b, 1, none⟩ = some (.int .i64 p) := h.1.cell (i := 1) rfl
  have hp := h.2.2.1
  clear h
  go_enter Tryd.func56, Tryd.ntmps56
  go_wp2_with (first | (with_reducible refine wp_region_text (by kernel_rfl) (by kernel_rfl) ?_) | (with_reducible refine text_fin (by kernel_rfl) ?_))
  go_loopw [6, 14] (fun n i wr => BitsAt w b v s p k n i wr) (fun _ i _ => k - (intOf i).toNat)
  case atStart => exact ⟨0, 0, p, rfl, rfl, Nat.zero_le _, by simp, H.out, Keeps.refl _ _, rfl⟩
  case round =>
    obtain ⟨j, m, q, rfl, rfl, hj, hm, hr, hke, hb⟩ := hrel
    have HR := Lib.hid hr
    have HK := Lib.hid hke
    have HB := Lib.hid hb
    have HM := Lib.hid hm
    clear hr hke hb hm
    by_cases hjk : j = k
    · have g1 : decide ((j : Int) < (k : Int)) = false := decide_eq_false (by omega)
      go_wp2_with (first | (go_at_call 38; refine Stop.out ?_))
      refine ⟨(fail_kind _ b _ _ _).mono ?_⟩
      rintro e w2 ⟨E, rfl, hE, hk3⟩
      have hg : GaveUp wr b p [] 10 _ w2 := ⟨E, rfl, hE, hk3⟩
      exact ⟨rfl, gave (by rw [HB.out, show k - j = 0 by omega, pBits]) (by rw [List.length_drop]; omega) (hg.ahead HK.out)⟩
    · have g1 : decide ((j : Int) < (k : Int)) = true := decide_eq_true (by omega)
      cases hx : s[q]? with
      | none =>
        have hq : q = s.length := by have := HR.out.2.2.1; have := List.getElem?_eq_none_iff.1 hx; omega
        go_wp2_with (first | (go_at_call 37; refine Stop.out ?_))
        refine ⟨(byte_none HR.out hq).mono ?_⟩
        rintro e w2 ⟨E, rfl, hE, hk3⟩
        have hg : GaveUp wr b q [] 10 _ w2 := ⟨E, rfl, hE, hk3⟩
        refine ⟨rfl, gave (l := 0) (c := []) (k := 10) ?_ (by omega) (hg.ahead HK.out)⟩
        rw [HB.out, show k - j = (k - j - 1) + 1 by omega, hq, List.drop_length, pBits]
      | some x =>
        go_wp2_with (first | (go_at_call 37; refine Stop.out ?_))
        refine ⟨(byte_some HR.out hx).mono ?_⟩
        rintro e w2 ⟨rfl, hr2, hk2⟩
        have hdr : s.drop q = x :: s.drop (q + 1) := rdrop_cons hx
        have HR2 := Lib.hid hr2
        have HK2 := Lib.hid (HK.out.trans hk2 fun _ _ h => h)
        have hB := HB.out
        rw [show k - j = (k - j - 1) + 1 by omega, hdr, pBits] at hB
        have HB2 := Lib.hid hB
        have hx256 := x.toNat_lt
        clear hr2 hk2 hdr hB HB HR HK
        generalize x.toNat = xn at *
        by_cases hz : xn = 0 ∧ 0 < j
        · obtain ⟨rfl, hj0⟩ := hz
          have HE := Lib.hid (HB2.out.trans (if_pos (.inl ⟨rfl, hj0⟩)))
          clear HB2
          have g2 : decide (0 < j) = true := decide_eq_true hj0
          go_wp2_with (first | (go_at_call 38; refine Stop.out ?_))
          refine ⟨(fail_kind _ b _ _ _).mono ?_⟩
          rintro e w3 ⟨E, rfl, hE, hk3⟩
          have hg : GaveUp w2 b p [] 10 _ w3 := ⟨E, rfl, hE, hk3⟩
          exact ⟨rfl, gave HE.out (by rw [List.length_drop]; omega) (hg.ahead HK2.out)⟩
        · by_cases hz9 : j = 9 ∧ 1 < xn
          · obtain ⟨rfl, hx1⟩ := hz9
            have HE := Lib.hid (HB2.out.trans (if_pos (.inr ⟨rfl, hx1⟩)))
            clear HB2
            have g2 : ((xn : Int) == 0) = false := by simp; omega
            have g3 : decide (1 < xn) = true := decide_eq_true hx1
            go_wp2_with (first | (go_at_call 38; refine Stop.out ?_))
            refine ⟨(fail_kind _ b _ _ _).mono ?_⟩
            rintro e w3 ⟨E, rfl, hE, hk3⟩
            have hg : GaveUp w2 b p [] 10 _ w3 := ⟨E, rfl, hE, hk3⟩
            exact ⟨rfl, gave HE.out (by rw [List.length_drop]; omega) (hg.ahead HK2.out)⟩
          · have hB := HB2.out
            rw [if_neg (by omega)] at hB
            have HB3 := Lib.hid hB
            clear hB HB2
            by_cases h0 : xn = 0
            · obtain rfl : j = 0 := by omega
              subst h0
              have HE := Lib.hid (HB3.out.trans (if_pos (by decide)))
              clear HB3
              go_wp2
              go_ret
              have e0 := or_bits (m := m) (x := 0) (j := 0) HM.out (by decide) (by decide) (by decide)
              exact done HE.out (congrArg (Value.int .u64) e0) rfl HR2.out HK2.out
            · have g2 : ((xn : Int) == 0) = false := by simp; omega
              by_cases h9 : j = 9
              · obtain rfl : xn = 1 := by omega
                subst h9
                have HE := Lib.hid (HB3.out.trans (if_pos (by decide)))
                clear HB3
                go_wp2
                go_ret
                have e0 := or_bits (m := m) (x := 1) (j := 9) HM.out (by decide) (by decide) (by decide)
                exact done HE.out (congrArg (Value.int .u64) e0) rfl HR2.out HK2.out
              · have g3 : ((j : Int) == 9) = false := by simp; omega
                have e0 := or_bits (m := m) (x := xn) (j := j) HM.out hx256 (by omega) (fun h => absurd h h9)
                by_cases hs : xn < 128
                · have HE := Lib.hid (HB3.out.trans (if_pos hs))
                  have g4 : decide (xn < 128) = true := decide_eq_true hs
                  have E0 := Lib.hid e0
                  clear e0 HB3
                  go_wp2
                  go_ret
                  exact done HE.out (congrArg (Value.int .u64) (E0.out.trans (by rw [Nat.mod_eq_of_lt hs]))) rfl HR2.out HK2.out
                · have HE := Lib.hid (HB3.out.trans (if_neg hs))
                  have g4 : decide (xn < 128) = false := decide_eq_false hs
                  have E0 := Lib.hid e0
                  clear e0 HB3
                  go_wp2
                  refine ⟨⟨j + 1, _, q + 1, congrArg (Value.int .u64) E0.out, by simp, by omega, ?_, HR2.out, HK2.out, ?_⟩, ?_⟩
                  · have h1 := HM.out
                    have h2 : xn % 128 * 128 ^ j ≤ 127 * 128 ^ j := Nat.mul_le_mul_right _ (by omega)
                    rw [Nat.pow_succ]
                    omega
                  · rw [HE.out, show k - j - 1 = k - (j + 1) by omega]
                  · simp [intOf]; omega
end Go.Proofs.YtgmieehheoknbaaDoor
end
section
/-
  code.Read: numbers, signed numbers, operands, counts, texts.
-/
namespace Go.Tx
open Go Go.RowKit
theorem RdPost.split {α : Type} {w w' : World} {b : Nat} {v : Value} {s : List UInt8} {r : PR α} {R : α → Value → Prop} {e : Ending} (h : RdPost w b v s r R e w') :
    (∃ l c k E, r = .error (l, c, k) ∧ e = .panicked [{ v := E, recovered := false }] ∧ GaveUp w b (s.length - l) c k (.panicked [{ v := E, recovered := false }]) w') ∨
      (∃ x u p, r = .ok (x, s.drop p) ∧ e = .returned u ∧ R x u ∧ RdAt w' b v s p ∧ Keeps (fun y => y = b) w w') := by
  match r, h with
  | .error (l, c, k), h =>
    obtain ⟨E, rfl, h1, h2⟩ := h
    exact .inl ⟨l, c, k, E, rfl, rfl, E, rfl, h1, h2⟩
  | .ok (x, q), h =>
    obtain ⟨u, p, rfl, hR, rfl, h1, h2⟩ := h
    exact .inr ⟨x, u, p, rfl, rfl, hR, h1, h2⟩
theorem and_one (n : Nat) (hn : n < 18446744073709551616) : bits BinOp.and IntKind.u64 (n : Int) 1 = ((n % 2 : Nat) : Int) := by
  show IntKind.u64.wrap ((BitVec.ofInt 64 n &&& BitVec.ofInt 64 1).toNat : Int) = _
  have h1 : BitVec.ofInt 64 1 = 1#64 := rfl
  rw [h1, BitVec.ofInt_natCast, BitVec.toNat_and, BitVec.toNat_ofNat, Nat.mod_eq_of_lt (by simpa using hn)]
  have h2 : (1#64).toNat = 1 := rfl
  rw [h2, Nat.and_one_is_mod, wrap_u64]
  omega
theorem wrap_i64 (n : Int) : IntKind.i64.wrap n = wrap64 n := by
  simp only [IntKind.wrap, IntKind.signed, IntKind.bits, wrap64]
  have h64 : (2 : Int) ^ 64 = 18446744073709551616 := by decide
  have h63 : (2 : Int) ^ (64 - 1) = 9223372036854775808 := by decide
  simp only [h64, h63]
  split <;> rename_i hh <;> simp at hh <;> omega
theorem unzig_bits (n : Nat) (hn : n < 18446744073709551616) : bits BinOp.xor IntKind.i64 (wrap64 ((n : Int) / 2)) (wrap64 (-wrap64 (bits BinOp.and IntKind.u64 (n : Int) 1))) = unzig n := by
  have e1 : wrap64 ((n : Int) / 2) = (n : Int) / 2 := by unfold wrap64; omega
  rw [and_one n hn, e1]
  unfold unzig
  rcases Nat.mod_two_eq_zero_or_one n with h | h
  · rw [h, if_pos rfl]
    have e2 : wrap64 (-wrap64 ((0 : Nat) : Int)) = 0 := by unfold wrap64; omega
    rw [e2]
    show IntKind.i64.wrap ((BitVec.ofInt 64 ((n : Int) / 2) ^^^ BitVec.ofInt 64 0).toNat : Int) = _
    have h0 : BitVec.ofInt 64 0 = 0#64 := rfl
    rw [h0, BitVec.xor_zero, BitVec.toNat_ofInt, wrap_i64]
    unfold wrap64
    omega
  · rw [h, if_neg (by decide)]
    have e2 : wrap64 (-wrap64 ((1 : Nat) : Int)) = -1 := by unfold wrap64; omega
    rw [e2]
    show IntKind.i64.wrap ((BitVec.ofInt 64 ((n : Int) / 2) ^^^ BitVec.ofInt 64 (-1)).toNat : Int) = _
    have h0 : BitVec.ofInt 64 (-1) = BitVec.allOnes 64 := rfl
    rw [h0, BitVec.xor_allOnes, BitVec.toNat_not, BitVec.toNat_ofInt, wrap_i64]
    unfold wrap64
    omega
end Go.Tx
namespace Go.Proofs.YtgmieehheoknbaaDoor
open Go.RowKit Go.Tx
set_option maxRecDepth 100000 in
set_option maxHeartbeats 800000 in
theorem rnumber_any {w : World} {b : Nat} {v : Value} {s : List UInt8} {p : Nat} (h : RdAt w b v s p) :
    Calls Tryd.prog 50 #[.pointer (some ⟨b, 0, none⟩)] w (RdPost w b v s (pNumber (s.drop p)) fun x u => u = .int .i64 (x : Nat)) := by
  have H := Lib.hid h
  have d1 : w.cell? ⟨b, 1, none⟩ = some (.int .i64 p) := h.1.cell (i := 1) rfl
  have hp := h.2.2.1
  clear h
  go_enter Tryd.func50, Tryd.ntmps50
  go_wp2_with (first | (go_at_call 56; refine Stop.out ?_))
  refine ⟨(bits_any 6 (.inl rfl) H.out).mono ?_⟩
  intro e w2 hr
  rcases hr.split with ⟨l, c, k, E, hb, rfl, hg⟩ | ⟨n, u, p2, hb, rfl, rfl, hr2, hk2⟩
  · exact ⟨rfl, gave (by unfold pNumber; rw [hb]) rfl hg⟩
  · have HR2 := Lib.hid hr2
    have HK2 := Lib.hid hk2
    have HB := Lib.hid hb
    clear hr2 hk2 hb hr
    by_cases hn : 1099511627776 < n
    · have g1 : decide (1099511627776 < n) = true := decide_eq_true hn
      go_wp2_with (first | (go_at_call 38; refine Stop.out ?_))
      refine ⟨(fail_kind _ b _ _ _).mono ?_⟩
      rintro e w3 ⟨E, rfl, hE, hk3⟩
      have hg : GaveUp w2 b p [] 10 _ w3 := ⟨E, rfl, hE, hk3⟩
      exact ⟨rfl, gave (by unfold pNumber; rw [HB.out]; exact if_pos hn) (by rw [List.length_drop]; omega) (hg.ahead HK2.out)⟩
    · have g1 : decide (1099511627776 < n) = false := decide_eq_false hn
      have g2 : wrap64 (n : Int) = (n : Int) := by unfold wrap64; omega
      go_wp2
      go_ret
      exact done (by unfold pNumber; rw [HB.out]; exact if_neg hn) rfl rfl HR2.out HK2.out
set_option maxRecDepth 100000 in
set_option maxHeartbeats 800000 in
theorem rsign_any {w : World} {b : Nat} {v : Value} {s : List UInt8} {p : Nat} (h : RdAt w b v s p) :
    Calls Tryd.prog 57 #[.pointer (some ⟨b, 0, none⟩)] w (RdPost w b v s (pSign (s.drop p)) fun x u => u = .int .i64 x) := by
  have H := Lib.hid h
  clear h
  go_enter Tryd.func57, Tryd.ntmps57
  go_wp2_with (first | (go_at_call 56; refine Stop.out ?_))
  refine ⟨(bits_any 10 (.inr rfl) H.out).mono ?_⟩
  intro e w2 hr
  rcases hr.split with ⟨l, c, k, E, hb, rfl, hg⟩ | ⟨n, u, p2, hb, rfl, rfl, hr2, hk2⟩
  · exact ⟨rfl, gave (by unfold pSign; rw [hb]) rfl hg⟩
  · have HR2 := Lib.hid hr2
    have HK2 := Lib.hid hk2
    have HB := Lib.hid hb
    clear hr2 hk2 hb hr
    go_wp2
    go_ret
    have hn : n < 18446744073709551616 := by
      obtain ⟨x, _, hm, _, _, _, hb⟩ := pBits_back _ 10 0 0 _ _ _ (by decide) HB.out
      have := hb (by decide)
      omega
    exact done (by unfold pSign; rw [HB.out]) (congrArg (Value.int .i64) (unzig_bits n hn)) rfl HR2.out HK2.out
set_option maxRecDepth 100000 in
set_option maxHeartbeats 800000 in
theorem roperand_any {w : World} {b : Nat} {v : Value} {s : List UInt8} {p : Nat} (h : RdAt w b v s p) :
    Calls Tryd.prog 54 #[.pointer (some ⟨b, 0, none⟩)] w (RdPost w b v s (pOperand (s.drop p)) fun x u => u = .int .i64 x) := by
  have H := Lib.hid h
  have d1 : w.cell? ⟨b, 1, none⟩ = some (.int .i64 p) := h.1.cell (i := 1) rfl
  have hp := h.2.2.1
  clear h
  go_enter Tryd.func54, Tryd.ntmps54
  go_wp2_with (first | (go_at_call 57; refine Stop.out ?_))
  refine ⟨(rsign_any H.out).mono ?_⟩
  intro e w2 hr
  rcases hr.split with ⟨l, c, k, E, hb, rfl, hg⟩ | ⟨n, u, p2, hb, rfl, rfl, hr2, hk2⟩
  · exact ⟨rfl, gave (by unfold pOperand; rw [hb]) rfl hg⟩
  · have HR2 := Lib.hid hr2
    have HK2 := Lib.hid hk2
    have HB := Lib.hid hb
    clear hr2 hk2 hb hr
    by_cases h1 : n < -549755813888
    · have g1 : decide (n < -549755813888) = true := decide_eq_true h1
      go_wp2_with (first | (go_at_call 38; refine Stop.out ?_))
      refine ⟨(fail_kind _ b _ _ _).mono ?_⟩
      rintro e w3 ⟨E, rfl, hE, hk3⟩
      have hg : GaveUp w2 b p [] 10 _ w3 := ⟨E, rfl, hE, hk3⟩
      exact ⟨rfl, gave (by unfold pOperand; rw [HB.out]; exact if_pos (.inl h1)) (by rw [List.length_drop]; omega) (hg.ahead HK2.out)⟩
    · have g1 : decide (n < -549755813888) = false := decide_eq_false h1
      by_cases h2 : 549755813888 < n
      · have g2 : decide (549755813888 < n) = true := decide_eq_true h2
        go_wp2_with (first | (go_at_call 38; refine Stop.out ?_))
        refine ⟨(fail_kind _ b _ _ _).mono ?_⟩
        rintro e w3 ⟨E, rfl, hE, hk3⟩
        have hg : GaveUp w2 b p [] 10 _ w3 := ⟨E, rfl, hE, hk3⟩
        exact ⟨rfl, gave (by unfold pOperand; rw [HB.out]; exact if_pos (.inr h2)) (by rw [List.length_drop]; omega) (hg.ahead HK2.out)⟩
      · have g2 : decide (549755813888 < n) = false := decide_eq_false h2
        go_wp2
        go_ret
        exact done (by unfold pOperand; rw [HB.out]; exact if_neg (by omega)) rfl rfl HR2.out HK2.out
set_option maxRecDepth 100000 in
set_option maxHeartbeats 800000 in
theorem rcount_any {w : World} {b : Nat} {v : Value} {s : List UInt8} {p : Nat} (h : RdAt w b v s p) :
    Calls Tryd.prog 40 #[.pointer (some ⟨b, 0, none⟩)] w (RdPost w b v s (pCount (s.drop p)) fun x u => u = .int .i64 (x : Nat) ∧ x ≤ s.length) := by
  have H := Lib.hid h
  have d1 : w.cell? ⟨b, 1, none⟩ = some (.int .i64 p) := h.1.cell (i := 1) rfl
  have hp := h.2.2.1
  clear h
  go_enter Tryd.func40, Tryd.ntmps40
  go_wp2_with (first | (go_at_call 50; refine Stop.out ?_))
  refine ⟨(rnumber_any H.out).mono ?_⟩
  intro e w2 hr
  rcases hr.split with ⟨l, c, k, E, hb, rfl, hg⟩ | ⟨n, u, p2, hb, rfl, rfl, hr2, hk2⟩
  · exact ⟨rfl, gave (by unfold pCount; rw [hb]) rfl hg⟩
  · obtain ⟨a, c, rfl, _⟩ := hr2.2.1
    have d2 : w2.cell? ⟨b, 1, none⟩ = some (.int .i64 p2) := hr2.1.cell (i := 1) rfl
    have d3 : w2.cell? ⟨b, 0, none⟩ = some (.slice a s.length c) := hr2.1.cell (i := 0) rfl
    have hp2 := hr2.2.2.1
    have hm := hr2.2.2.2.1
    have hm2 : s.length ≤ 9223372036854775807 := by unfold maxLen at hm; omega
    have g2 : wrap64 ((s.length : Int) - p2) = ((s.length - p2 : Nat) : Int) := by unfold wrap64; omega
    have HR2 := Lib.hid hr2
    have HK2 := Lib.hid hk2
    have HB := Lib.hid hb
    have hl : (s.drop p2).length = s.length - p2 := List.length_drop
    clear hr2 hk2 hb hr hm
    by_cases hn : s.length - p2 < n
    · have g1 : decide (s.length - p2 < n) = true := decide_eq_true hn
      go_wp2_with (first | (with_reducible refine wp_region_text (by kernel_rfl) (by kernel_rfl) ?_) | (with_reducible refine text_fin (by kernel_rfl) ?_) | (go_at_call 38; refine Stop.out ?_))
      refine ⟨(fail_kind _ b _ _ _).mono ?_⟩
      rintro e w3 ⟨E, rfl, hE, hk3⟩
      have hg : GaveUp w2 b p [] 10 _ w3 := GaveUp.ahead (w1 := w2.drew) (Keeps.refl _ _).drew ⟨E, rfl, hE, hk3⟩
      exact ⟨rfl, gave (by unfold pCount; rw [HB.out]; exact if_pos (by rw [hl]; exact hn)) (by rw [List.length_drop]; omega) (hg.ahead HK2.out)⟩
    · have g1 : decide (s.length - p2 < n) = false := decide_eq_false hn
      go_wp2_with (first | (with_reducible refine wp_region_text (by kernel_rfl) (by kernel_rfl) ?_) | (with_reducible refine text_fin (by kernel_rfl) ?_))
      go_ret
      exact done (by unfold pCount; rw [HB.out]; exact if_neg (by rw [hl]; exact hn)) ⟨rfl, by omega⟩ rfl ⟨HR2.out.1.drew, HR2.out.2⟩ HK2.out.drew
set_option maxRecDepth 100000 in
set_option maxHeartbeats 800000 in
theorem rtext_any {w : World} {b : Nat} {v : Value} {s : List UInt8} {p : Nat} (h : RdAt w b v s p) :
    Calls Tryd.prog 39 #[.pointer (some ⟨b, 0, none⟩)] w (RdPost w b v s (pText (s.drop p)) fun x u => u = .string x) := by
  have H := Lib.hid h
  clear h
  go_enter Tryd.func39, Tryd.ntmps39
  go_wp2_with (first | (go_at_call 40; refine Stop.out ?_))
  refine ⟨(rcount_any H.out).mono ?_⟩
  intro e w2 hr
  rcases hr.split with ⟨l, c, k, E, hb, rfl, hg⟩ | ⟨n, u, p2, hb, rfl, ⟨rfl, hns⟩, hr2, hk2⟩
  · exact ⟨rfl, gave (by unfold pText; rw [hb]) rfl hg⟩
  · obtain ⟨hc1, _, hc3⟩ := pCount_back hb
    rw [List.length_drop] at hc3
    have hne : s ≠ [] := by
      rintro rfl
      rw [List.drop_nil] at hc1
      have := congrArg List.length hc1
      have h1 : 0 < (encN n).length := by rw [encN]; split <;> simp
      simp at this
      omega
    obtain ⟨x0, hx0⟩ : ∃ x0, s[0]? = some x0 := by
      cases s with
      | nil => exact absurd rfl hne
      | cons x _ => exact ⟨x, rfl⟩
    obtain ⟨a, c, rfl, hcap, hcm, hcs⟩ := hr2.2.1
    obtain ⟨g, rfl, _, _⟩ := hcs 0 x0 hx0
    have hgb : g ≠ b := hr2.2.2.2.2 g rfl
    have d2 : w2.cell? ⟨b, 1, none⟩ = some (.int .i64 p2) := hr2.1.cell (i := 1) rfl
    have d3 : w2.cell? ⟨b, 0, none⟩ = some (.slice (some ⟨g, 0, none⟩) s.length c) := hr2.1.cell (i := 0) rfl
    have hp2 := hr2.2.2.1
    have hm := hr2.2.2.2.1
    have hm2 : s.length ≤ 9223372036854775807 := by unfold maxLen at hm; omega
    have hcm2 : c ≤ 9223372036854775807 := by unfold maxLen at hcm; omega
    have g2 : wrap64 ((p2 : Int) + n) = ((p2 : Int) + n) := by unfold wrap64; omega
    have g3 : wrap64 (((p2 : Int) + n) - n) = (p2 : Int) := by unfold wrap64; omega
    have hb2 := hr2.1.set 1 (.int .i64 ((p2 : Int) + n))
    have e0 : (w2.setCell ⟨b, 1, none⟩ (.int .i64 ((p2 : Int) + n))).cell? ⟨b, 0, none⟩ = some (.slice (some ⟨g, 0, none⟩) s.length c) := hb2.cell (i := 0) rfl
    have e1 : (w2.setCell ⟨b, 1, none⟩ (.int .i64 ((p2 : Int) + n))).cell? ⟨b, 1, none⟩ = some (.int .i64 ((p2 : Int) + n)) := hb2.cell (i := 1) rfl
    have HB2 := Lib.hid hb2
    have hfz : w2.frozen? ⟨b, 1, none⟩ = false := hr2.1.free 1
    have HKS : Hid (Keeps (fun y => y = b) w (w2.setCell ⟨b, 1, none⟩ (.int .i64 ((p2 : Int) + n)))) := Lib.hid (hk2.trans (Keeps.put w2 ⟨b, 1, none⟩ _) fun _ _ h => h)
    have HR2 := Lib.hid hr2
    have HS2 : Hid (BsAt (w2.setCell ⟨b, 1, none⟩ (.int .i64 ((p2 : Int) + n))) (.slice (some ⟨g, 0, none⟩) s.length c) s) := Lib.hid (hr2.2.1.keeps (Keeps.put w2 ⟨b, 1, none⟩ _) hr2.2.2.2.2)
    have HB := Lib.hid hb
    have HN := Lib.hid hc3
    have hpn : p2 + n ≤ c := by omega
    clear hr2 hk2 hb hr hm hcm hcs hc1 hb2 hc3 hne hx0
    have hlen : (⟨((s.drop p2).take n).toArray⟩ : ByteArray).size = n := by
      show ((s.drop p2).take n).toArray.size = n
      simp
      have := HN.out
      omega
    have hcell : ∀ j u, (byteCells ⟨((s.drop p2).take n).toArray⟩)[j]? = some u → (w2.setCell ⟨b, 1, none⟩ (.int .i64 ((p2 : Int) + n))).drew.cell? ⟨g, p2 + j, none⟩ = some u := by
      intro j u hu
      unfold byteCells at hu
      rw [List.getElem?_map] at hu
      obtain ⟨y, hy, rfl⟩ := Option.map_eq_some_iff.1 hu
      have hjn : j < n := by
        have := (List.getElem?_eq_some_iff.1 hy).1
        simp at this
        omega
      have hy2 : s[p2 + j]? = some y := by
        simp only [List.toList_toArray] at hy
        rw [List.getElem?_take_of_lt hjn, List.getElem?_drop] at hy
        exact hy
      obtain ⟨a2, c2, e2, _, _, hx⟩ := HS2.out
      obtain ⟨g2, e3, _, hx2⟩ := hx _ _ hy2
      simp only [Value.slice.injEq] at e2
      rw [← e2.1] at e3
      cases e3
      exact hx2
    have HC := Lib.hid hcell
    have HL := Lib.hid hlen
    clear hcell hlen
    have fin : RdPost w b (.slice (some ⟨g, 0, none⟩) s.length c) s (pText (s.drop p)) (fun x u => u = .string x) (.returned (.string ⟨((s.drop p2).take n).toArray⟩)) (w2.setCell ⟨b, 1, none⟩ (.int .i64 ((p2 : Int) + n))).drew := by
      refine done (p := p2 + n) (by unfold pText; rw [HB.out]) rfl (List.drop_drop ..) ⟨?_, HS2.out.keeps (Keeps.refl (fun _ => False) _).drew fun _ _ h => h, by have := HN.out; omega, HR2.out.2.2.2.1, HR2.out.2.2.2.2⟩ HKS.out.drew
      have := HB2.out.drew
      simpa using this
    have FIN := Lib.hid fin
    clear fin
    by_cases hcp : c = p2
    · obtain rfl : n = 0 := by omega
      have kc : (convert 26 9 (.slice (some ⟨g, 0, none⟩) 0 0)).run Tryd.prog (w2.setCell ⟨b, 1, none⟩ (.int .i64 (p2 : Int))).drew = .ok (.string ⟨#[]⟩) _ := conv_none _ _ Tryd.underlying26 Tryd.underlying5 Tryd.underlying9
      go_wp2_with (first | (with_reducible refine wp_region_text (by kernel_rfl) (by kernel_rfl) ?_) | (with_reducible refine text_fin (by kernel_rfl) ?_))
      go_ret
      have := FIN.out
      simpa using this
    · have kc : (convert 26 9 (.slice (some ⟨g, p2, none⟩) n (c - p2))).run Tryd.prog (w2.setCell ⟨b, 1, none⟩ (.int .i64 ((p2 : Int) + n))).drew = .ok (.string ⟨((s.drop p2).take n).toArray⟩) _ :=
        conv_bytes ⟨((s.drop p2).take n).toArray⟩ Tryd.underlying26 Tryd.underlying5 Tryd.underlying9 HL.out.symm fun _ => ⟨g, p2, rfl, HC.out⟩
      go_wp2_with (first | (with_reducible refine wp_region_text (by kernel_rfl) (by kernel_rfl) ?_) | (with_reducible refine text_fin (by kernel_rfl) ?_))
      go_ret
      exact FIN.out
end Go.Proofs.YtgmieehheoknbaaDoor
end

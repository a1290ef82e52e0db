import Derived.Test.YtgmieehheoknbaaDoorGb
import Derived.Test.YtgmieehheoknbaaDoorGe
section
/-
  A module's bytes, as plain data: how numbers are written.
-/
namespace Go.Tx
open Go Go.RowKit
/-- a number's groups of seven bits -/
def encN (n : Nat) : List UInt8 := if _h : n < 128 then [UInt8.ofNat n] else UInt8.ofNat (n % 128 + 128) :: encN (n / 128)
termination_by n
decreasing_by omega
theorem encN_small {n : Nat} (h : n < 128) : encN n = [UInt8.ofNat n] := by rw [encN, dif_pos h]
theorem encN_great {n : Nat} (h : ¬ n < 128) : encN n = UInt8.ofNat (n % 128 + 128) :: encN (n / 128) := by rw [encN, dif_neg h]
theorem encN_len : ∀ (k n : Nat), n < 128 ^ (k + 1) → (encN n).length ≤ k + 1
  | 0, n, h => by rw [encN_small (by simpa using h)]; simp
  | k + 1, n, h => by
    by_cases hn : n < 128
    · rw [encN_small hn]; simp
    · rw [encN_great hn, List.length_cons]
      have : n / 128 < 128 ^ (k + 1) := by
        rw [Nat.div_lt_iff_lt_mul (by decide)]
        rw [Nat.pow_succ] at h
        exact h
      have := encN_len k (n / 128) this
      omega
theorem encN_ten {n : Nat} (h : n < 18446744073709551616) : (encN n).length ≤ 10 := encN_len 9 n (Nat.lt_of_lt_of_le h (by decide))
/-- a signed number's -/
def zig (v : Int) : Nat := (if v < 0 then -(v + 1) * 2 + 1 else v * 2).toNat
def encS (v : Int) : List UInt8 := encN (zig v)
theorem zig_lt {v : Int} (h1 : -9223372036854775808 ≤ v) (h2 : v ≤ 9223372036854775807) : zig v < 18446744073709551616 := by
  unfold zig
  split <;> omega
def encB (s : ByteArray) : List UInt8 := encN s.size ++ s.data.toList
end Go.Tx
end
section
/-
  Reading a module's bytes, as plain data: numbers.
-/
namespace Go.Tx
open Go Go.RowKit
/-- why a reader gave up: how many bytes were left at that place, around what -/
abbrev PErr := Nat × List (ByteArray × Int) × Int
abbrev PR (α : Type) := Except PErr (α × List UInt8)
/-- groups of seven bits: so many may still come; so many were read, and make n -/
def pBits (len0 : Nat) : Nat → Nat → Nat → List UInt8 → PR Nat
  | 0, _, _, _ => .error (len0, [], 10)
  | _ + 1, _, _, [] => .error (0, [], 10)
  | k + 1, i, n, v :: r =>
    if (v.toNat = 0 ∧ 0 < i) ∨ (i = 9 ∧ 1 < v.toNat) then .error (len0, [], 10)
    else if v.toNat < 128 then .ok (n + v.toNat * 128 ^ i, r)
    else pBits len0 k (i + 1) (n + (v.toNat % 128) * 128 ^ i) r
theorem u8_small {n : Nat} (h : n < 256) : (UInt8.ofNat n).toNat = n := by
  rw [UInt8.toNat_ofNat']
  exact Nat.mod_eq_of_lt h
/-- what is written as a number is read as it -/
theorem pBits_enc (len0 : Nat) : ∀ (k i n x : Nat) (r : List UInt8), 0 < k → x < 128 ^ k → (0 < i → 0 < x) → (k + i = 10 ∨ i + k < 10) → x * 128 ^ i < 18446744073709551616 →
    pBits len0 k i n (encN x ++ r) = .ok (n + x * 128 ^ i, r)
  | 0, _, _, _, _, hk0, _, _, _, _ => absurd hk0 (Nat.lt_irrefl _)
  | k + 1, i, n, x, r, _, h, hx, hk, hb => by
    by_cases hn : x < 128
    · rw [encN_small hn]
      have h0 : ¬ ((x = 0 ∧ 0 < i) ∨ (i = 9 ∧ 1 < x)) := by
        rintro (⟨h1, h2⟩ | ⟨h1, h2⟩)
        · have := hx h2; omega
        · subst h1
          have : 2 * 128 ^ 9 ≤ x * 128 ^ 9 := Nat.mul_le_mul_right _ h2
          omega
      simp only [List.singleton_append, pBits, u8_small (show x < 256 by omega), if_neg h0, if_pos hn]
    · rw [encN_great hn]
      have hv : x % 128 + 128 < 256 := by omega
      have hi : i < 9 := by
        rcases Nat.lt_or_ge i 9 with h | h
        · exact h
        · have h1 : 128 ^ 9 ≤ 128 ^ i := Nat.pow_le_pow_right (by decide) h
          have h2 : 128 * 128 ^ 9 ≤ x * 128 ^ i := Nat.mul_le_mul (by omega) h1
          omega
      have h0 : ¬ ((x % 128 + 128 = 0 ∧ 0 < i) ∨ (i = 9 ∧ 1 < x % 128 + 128)) := by
        rintro (⟨h1, h2⟩ | ⟨h1, h2⟩) <;> omega
      have hd : x = x % 128 + 128 * (x / 128) := by omega
      have hp : 128 ^ (i + 1) = 128 * 128 ^ i := by rw [Nat.pow_succ, Nat.mul_comm]
      have hmul : x / 128 * 128 ^ (i + 1) ≤ x * 128 ^ i := by
        rw [hp, ← Nat.mul_assoc]
        exact Nat.mul_le_mul_right _ (by omega)
      have ih := pBits_enc len0 k (i + 1) (n + x % 128 * 128 ^ i) (x / 128) r (by
        rcases Nat.eq_zero_or_pos k with e | e
        · subst e; simp at h; omega
        · exact e) (by
        rw [Nat.div_lt_iff_lt_mul (by decide)]; rw [Nat.pow_succ] at h; exact h) (fun _ => by omega) (by omega) (by omega)
      have hm : (x % 128 + 128) % 128 = x % 128 := by omega
      simp only [List.cons_append, pBits, u8_small hv, if_neg h0, if_neg (show ¬ x % 128 + 128 < 128 by omega), hm]
      rw [ih]
      have : x % 128 * 128 ^ i + x / 128 * 128 ^ (i + 1) = x * 128 ^ i := by
        rw [hp, ← Nat.mul_assoc, ← Nat.add_mul]
        congr 1
        omega
      rw [Nat.add_assoc, this]
theorem top_bound {i y x : Nat} (hi : i ≤ 8) (hy : y < 128) (h : 128 * x * 128 ^ i < 18446744073709551616) : (y + 128 * x) * 128 ^ i < 18446744073709551616 := by
  have key : ∀ j, j ≤ 8 → 128 ^ j * (128 * (2 ^ (57 - 7 * j))) = 18446744073709551616 := by
    intro j hj
    have hc : j = 0 ∨ j = 1 ∨ j = 2 ∨ j = 3 ∨ j = 4 ∨ j = 5 ∨ j = 6 ∨ j = 7 ∨ j = 8 := by omega
    rcases hc with rfl | rfl | rfl | rfl | rfl | rfl | rfl | rfl | rfl <;> rfl
  have hk := key i hi
  have hpos : 0 < 128 ^ i := Nat.pow_pos (by decide)
  rw [← hk, Nat.mul_comm (128 * x)] at h
  rw [← hk, Nat.mul_comm (y + 128 * x)]
  have h1 : 128 * x < 128 * 2 ^ (57 - 7 * i) := Nat.lt_of_mul_lt_mul_left h
  exact Nat.mul_lt_mul_of_pos_left (by omega) hpos
/-- what is read as a number is a number's bytes -/
theorem pBits_back (len0 : Nat) : ∀ (k i n m : Nat) (s r : List UInt8), (k + i = 10 ∨ i + k < 10) → pBits len0 k i n s = .ok (m, r) →
    ∃ x, s = encN x ++ r ∧ m = n + x * 128 ^ i ∧ 0 < k ∧ x < 128 ^ k ∧ (0 < i → 0 < x) ∧ (i ≤ 9 → x * 128 ^ i < 18446744073709551616)
  | 0, _, _, _, _, _, _, h => by cases h
  | k + 1, _, _, _, [], _, _, h => by cases h
  | k + 1, i, n, m, v :: s, r, hk, h => by
    unfold pBits at h
    split at h
    · cases h
    · next h0 =>
      have hv := v.toNat_lt
      split at h
      · next hs =>
        cases h
        refine ⟨v.toNat, ?_, rfl, Nat.succ_pos _, ?_, fun hi => ?_, fun hi => ?_⟩
        · rw [encN_small hs]
          simp
        · exact Nat.lt_of_lt_of_le hs (Nat.le_self_pow (Nat.succ_ne_zero _) _)
        · rcases Nat.eq_zero_or_pos v.toNat with e | e
          · exact absurd (.inl ⟨e, hi⟩) h0
          · exact e
        · rcases Nat.lt_or_ge i 9 with h9 | h9
          · have h1 : 128 ^ i ≤ 128 ^ 8 := Nat.pow_le_pow_right (by decide) (by omega)
            have h2 : v.toNat * 128 ^ i ≤ 128 * 128 ^ 8 := Nat.mul_le_mul (by omega) h1
            omega
          · obtain rfl : i = 9 := by omega
            have h1 : v.toNat ≤ 1 := by
              rcases Nat.lt_or_ge 1 v.toNat with e | e
              · exact absurd (.inr ⟨rfl, e⟩) h0
              · exact e
            have h2 : v.toNat * 128 ^ 9 ≤ 1 * 128 ^ 9 := Nat.mul_le_mul_right _ h1
            omega
      · next hs =>
        obtain ⟨x, hx, hm, hk0, hxk, hx0, hxb⟩ := pBits_back len0 k (i + 1) _ m s r (by omega) h
        have hxp := hx0 (Nat.succ_pos _)
        have hp : 128 ^ (i + 1) = 128 * 128 ^ i := by rw [Nat.pow_succ, Nat.mul_comm]
        have hxv : v.toNat % 128 + 128 * x = v.toNat - 128 + 128 * x := by omega
        refine ⟨v.toNat % 128 + 128 * x, ?_, ?_, Nat.succ_pos _, ?_, fun _ => by omega, fun hi => ?_⟩
        · have h1 : ¬ v.toNat % 128 + 128 * x < 128 := by omega
          have h2 : (v.toNat % 128 + 128 * x) % 128 + 128 = v.toNat := by omega
          have h3 : (v.toNat % 128 + 128 * x) / 128 = x := by omega
          rw [encN_great h1, h2, h3, hx]
          simp
        · rw [hm, hp, Nat.add_mul, Nat.add_assoc]
          congr 2
          rw [← Nat.mul_assoc, Nat.mul_comm x 128]
        · rw [Nat.pow_succ]
          omega
        · have h1 : i + 1 ≤ 9 := by omega
          have h2 := hxb h1
          rw [hp, ← Nat.mul_assoc, Nat.mul_comm x 128] at h2
          rw [Nat.add_mul]
          rw [← Nat.add_mul]
          exact top_bound (by omega) (by omega) h2
end Go.Tx
end
section
/-
  Reading a module's bytes, as plain data: signed numbers, operands, counts, texts.
-/
namespace Go.Tx
open Go Go.RowKit
def unzig (n : Nat) : Int := if n % 2 = 0 then ((n / 2 : Nat) : Int) else -((n / 2 : Nat) : Int) - 1
theorem unzig_zig (v : Int) : unzig (zig v) = v := by
  unfold unzig zig
  split <;> split at * <;> omega
theorem zig_unzig (n : Nat) : zig (unzig n) = n := by
  unfold unzig zig
  split <;> split <;> omega
theorem unzig_range {n : Nat} (h : n < 18446744073709551616) : -9223372036854775808 ≤ unzig n ∧ unzig n ≤ 9223372036854775807 := by
  unfold unzig
  split <;> omega
def pNumber (s : List UInt8) : PR Nat := match pBits s.length 6 0 0 s with
  | .ok (n, r) => if 1099511627776 < n then .error (s.length, [], 10) else .ok (n, r)
  | .error e => .error e
def pSign (s : List UInt8) : PR Int := match pBits s.length 10 0 0 s with
  | .ok (n, r) => .ok (unzig n, r)
  | .error e => .error e
def pOperand (s : List UInt8) : PR Int := match pSign s with
  | .ok (v, r) => if v < -549755813888 ∨ 549755813888 < v then .error (s.length, [], 10) else .ok (v, r)
  | .error e => .error e
def pCount (s : List UInt8) : PR Nat := match pNumber s with
  | .ok (n, r) => if r.length < n then .error (s.length, [], 10) else .ok (n, r)
  | .error e => .error e
def pText (s : List UInt8) : PR ByteArray := match pCount s with
  | .ok (n, r) => .ok (⟨(r.take n).toArray⟩, r.drop n)
  | .error e => .error e
theorem pNumber_enc {x : Nat} (h : x ≤ 1099511627776) (r : List UInt8) : pNumber (encN x ++ r) = .ok (x, r) := by
  unfold pNumber
  rw [pBits_enc _ 6 0 0 x r (by decide) (Nat.lt_of_le_of_lt h (by decide)) (fun h => absurd h (Nat.lt_irrefl _)) (by decide) (by omega)]
  simp only [Nat.pow_zero, Nat.mul_one, Nat.zero_add]
  rw [if_neg (by omega)]
theorem pNumber_back {s r : List UInt8} {n : Nat} (h : pNumber s = .ok (n, r)) : s = encN n ++ r ∧ n ≤ 1099511627776 := by
  unfold pNumber at h
  split at h
  · next m q hb =>
    split at h
    · cases h
    · next hm =>
      cases h
      obtain ⟨x, hx, hm2, _⟩ := pBits_back _ 6 0 0 _ _ _ (by decide) hb
      simp only [Nat.pow_zero, Nat.mul_one, Nat.zero_add] at hm2
      subst hm2
      exact ⟨hx, by omega⟩
  · cases h
theorem pSign_enc {v : Int} (h1 : -9223372036854775808 ≤ v) (h2 : v ≤ 9223372036854775807) (r : List UInt8) : pSign (encS v ++ r) = .ok (v, r) := by
  unfold pSign encS
  have hz := zig_lt h1 h2
  rw [pBits_enc _ 10 0 0 (zig v) r (by decide) (Nat.lt_of_lt_of_le hz (by decide)) (fun h => absurd h (Nat.lt_irrefl _)) (by decide) (by omega)]
  simp only [Nat.pow_zero, Nat.mul_one, Nat.zero_add, unzig_zig]
theorem pSign_back {s r : List UInt8} {v : Int} (h : pSign s = .ok (v, r)) : s = encS v ++ r ∧ -9223372036854775808 ≤ v ∧ v ≤ 9223372036854775807 := by
  unfold pSign at h
  split at h
  · next m q hb =>
    cases h
    obtain ⟨x, hx, hm2, _, _, _, hb2⟩ := pBits_back _ 10 0 0 _ _ _ (by decide) hb
    have hb3 := hb2 (by decide)
    simp only [Nat.pow_zero, Nat.mul_one, Nat.zero_add] at hm2 hb3
    subst hm2
    unfold encS
    rw [zig_unzig]
    exact ⟨hx, unzig_range hb3⟩
  · cases h
theorem pOperand_enc {v : Int} (h1 : -549755813888 ≤ v) (h2 : v ≤ 549755813888) (r : List UInt8) : pOperand (encS v ++ r) = .ok (v, r) := by
  unfold pOperand
  rw [pSign_enc (by omega) (by omega)]
  simp only
  rw [if_neg (by omega)]
theorem pOperand_back {s r : List UInt8} {v : Int} (h : pOperand s = .ok (v, r)) : s = encS v ++ r ∧ -549755813888 ≤ v ∧ v ≤ 549755813888 := by
  unfold pOperand at h
  split at h
  · next m q hb =>
    split at h
    · cases h
    · next hm =>
      cases h
      exact ⟨(pSign_back hb).1, by omega, by omega⟩
  · cases h
theorem pCount_enc {x : Nat} (h : x ≤ 1099511627776) {r : List UInt8} (hr : x ≤ r.length) : pCount (encN x ++ r) = .ok (x, r) := by
  unfold pCount
  rw [pNumber_enc h]
  simp only
  rw [if_neg (by omega)]
theorem pCount_back {s r : List UInt8} {n : Nat} (h : pCount s = .ok (n, r)) : s = encN n ++ r ∧ n ≤ 1099511627776 ∧ n ≤ r.length := by
  unfold pCount at h
  split at h
  · next m q hb =>
    split at h
    · cases h
    · next hm =>
      cases h
      exact ⟨(pNumber_back hb).1, (pNumber_back hb).2, by omega⟩
  · cases h
theorem pText_enc {t : ByteArray} (h : t.size ≤ 1099511627776) (r : List UInt8) : pText (encB t ++ r) = .ok (t, r) := by
  unfold pText encB
  rw [List.append_assoc, pCount_enc h (by simp)]
  have e : t.size = t.data.toList.length := by simp
  simp only [e, List.take_left, List.drop_left, Array.toArray_toList]
theorem pText_back {s r : List UInt8} {t : ByteArray} (h : pText s = .ok (t, r)) : s = encB t ++ r ∧ t.size ≤ 1099511627776 := by
  unfold pText at h
  split at h
  · next m q hb =>
    cases h
    obtain ⟨h1, h2, h3⟩ := pCount_back hb
    have hs : (⟨(q.take m).toArray⟩ : ByteArray).size = m := by
      show (q.take m).toArray.size = m
      simp
      omega
    refine ⟨?_, by rw [hs]; exact h2⟩
    unfold encB
    rw [hs, h1, List.append_assoc]
    congr 1
    show q = (q.take m).toArray.toList ++ q.drop m
    rw [List.toList_toArray, List.take_append_drop]
  · cases h
end Go.Tx
end
section
/-
  A module's bytes, as plain data: numbers, texts.
-/
namespace Go.Tx
open Go Go.RowKit
/-- bytes as cells -/
def byteV (l : List UInt8) : List Value := l.map fun c => Value.int .u8 c.toNat
theorem byteV_length (l : List UInt8) : (byteV l).length = l.length := by simp [byteV]
theorem byteV_append (l r : List UInt8) : byteV (l ++ r) = byteV l ++ byteV r := by simp [byteV]
theorem byteV_cells (s : ByteArray) : byteV s.data.toList = byteCells s := rfl
theorem byteV_one (l : List UInt8) : ∀ u ∈ byteV l, u.oneCell' = true := by
  intro u hu
  simp only [byteV, List.mem_map] at hu
  obtain ⟨c, _, rfl⟩ := hu
  rfl
/-- v' is v with something behind it -/
structure Grown (w w' : World) (v v' : Value) : Prop where
  keeps : Keeps (Own v) w w'
  own : v'.ownBlock = v.ownBlock ∨ ∀ g, v'.ownBlock = some g → w.heap.size ≤ g
theorem Grown.refl (w : World) (v : Value) : Grown w w v v := ⟨Keeps.refl _ _, .inl rfl⟩
theorem Grown.still {w w1 w2 : World} {v v1 : Value} (h : Grown w w1 v v1) (k : Keeps (fun _ => False) w1 w2) : Grown w w2 v v1 := ⟨h.keeps.trans k fun _ _ h => h.elim, h.own⟩
theorem Grown.ahead {w w1 w2 : World} {v v1 : Value} (k : Keeps (fun _ => False) w w1) (h : Grown w1 w2 v v1) : Grown w w2 v v1 :=
  ⟨(k.mono fun _ _ h => h.elim).trans h.keeps fun _ _ h => h, h.own.imp id fun h g hg => Nat.le_trans k.size (h g hg)⟩
theorem Grown.trans {w w1 w2 : World} {v v1 v2 : Value} (h : Grown w w1 v v1) (k : Grown w1 w2 v1 v2) : Grown w w2 v v2 := by
  have hs := h.keeps.size
  refine ⟨h.keeps.trans k.keeps fun b hb ho => ?_, ?_⟩
  · rcases h.own with e | e
    · unfold Own at *; rw [← e]; exact ho
    · have := e b ho; omega
  · rcases k.own with e | e
    · rcases h.own with e2 | e2
      · exact .inl (e.trans e2)
      · exact .inr fun g hg => e2 g (e ▸ hg)
    · exact .inr fun g hg => Nat.le_trans hs (e g hg)
theorem Grown.of {w w' : World} {e : TypeId} {n : Nat} {v v' : Value} {xs : List Value} (h : Appended w w' e 1 v v' n xs) : Grown w w' v v' :=
  ⟨h.keeps, h.own.imp id fun h g hg => by rw [h.1] at hg; have := Option.some.inj hg; omega⟩
/-- a slice of bytes at the head of its own block -/
def Bytes (w : World) (v : Value) (q : List UInt8) : Prop := Row w 5 1 v q.length (byteV q)
theorem Bytes.form {w : World} {v : Value} {q : List UInt8} (h : Bytes w v q) : ∃ a c, v = .slice a q.length c := by
  obtain ⟨a, c, e, _⟩ := Row.len h
  exact ⟨a, c, e⟩
theorem Bytes.still {w w' : World} {v : Value} {q : List UInt8} (h : Bytes w v q) (k : Keeps (fun _ => False) w w') : Bytes w' v q := Row.keeps h k fun _ _ h => h
/-- behind a call that appends -/
def AppPost (l ext : List UInt8) (v : Value) (w : World) (e : Ending) (w' : World) : Prop :=
  ∃ v' q, e = .returned v' ∧ q = l ++ ext ∧ Bytes w' v' q ∧ Grown w w' v v'
theorem Bytes.push {W w4 : World} {v v' : Value} {q ext : List UInt8} {n : Nat} {news : List Value} (ha : Appended W w4 5 1 v v' n (byteV q ++ news)) (hn : n = q.length + ext.length) (he : news = byteV ext) : Bytes w4 v' (q ++ ext) := by
  subst hn he
  have h := ha.row
  rw [← byteV_append] at h
  unfold Bytes
  rw [List.length_append]
  exact h
theorem or_u8 (x : Int) (h0 : 0 ≤ x) (h1 : x < 256) : bits BinOp.or IntKind.u8 x 128 = x % 128 + 128 := by
  have h : ∀ k : Fin 256, bits BinOp.or IntKind.u8 ((k.val : Nat) : Int) 128 = ((k.val : Nat) : Int) % 128 + 128 := by decide +kernel
  have := h ⟨x.toNat, by omega⟩
  simpa [Int.toNat_of_nonneg h0] using this
theorem wrap_u8 (n : Int) : IntKind.u8.wrap n = n % 256 := by simp [IntKind.wrap, IntKind.signed, IntKind.bits]
/-- .. or one without room, whatever its block's marks are -/
def BytesF (w : World) (v : Value) (q : List UInt8) : Prop := Bytes w v q ∨ ∃ g, v = .slice (some ⟨g, 0, none⟩) q.length q.length ∧ ∀ j u, (byteV q)[j]? = some u → w.cell? ⟨g, j, none⟩ = some u
theorem BytesF.form {w : World} {v : Value} {q : List UInt8} (h : BytesF w v q) : ∃ a c, v = .slice a q.length c := by
  rcases h with h | ⟨g, e, _⟩
  · exact h.form
  · exact ⟨_, _, e⟩
theorem BytesF.still {w w' : World} {v : Value} {q : List UInt8} (h : BytesF w v q) (k : Keeps (fun _ => False) w w') : BytesF w' v q := by
  rcases h with h | ⟨g, e, h⟩
  · exact .inl (h.still k)
  · exact .inr ⟨g, e, fun j u hu => k.cell (h j u hu) fun h => h⟩
/-- THE WALK's LAW for 'append' of bytes. -/
theorem wpList_append_bytes {P : Program} {w : World} {ops : Array Oper} {rest : List Oper} {o : Oper} {a : Act} {Q : Exit → Act → World → Prop} (hgd : o.guard = none) (s x : Operand) (t t2 : TypeId)
    (ho : o.op = .call { callee := .builtin .append, args := #[s, x], argTypes := #[t, t2] })
    (d2 : TypeDesc) (hinfo : (P.info? 5).map (fun i => (i.zero, i.size, i.bytes)) = some (some (.int .u8 0), 1, 1))
    (ht : P.underlying t = some (.slice 5)) (ht2 : P.underlying t2 = some d2) (hd2 : ∀ k, d2 ≠ .int k)
    (v : Value) (q : List UInt8) (hs : a.eval s = v) (hrow : BytesF w v q)
    (xv : Value) (news : List Value) (ext : List UInt8) (he : news = byteV ext) (hext : 0 < ext.length) (hx : a.eval x = xv) (hlen : ∀ W, (Builtin.lenOf xv).run P W = .ok ext.length W)
    (hfc : ∀ W : World, W.heap = w.heap → (Builtin.firstCells 1 ext.length xv).run P W = .ok news.toArray W) (h63 : q.length + ext.length ≤ 140737488355328)
    (h : ∀ v' w' q2, q2 = q ++ ext → Bytes w' v' q2 → Grown w w' v v' → wpList P ops Q rest (a.put o.dst v') w') : wpList P ops Q (o :: rest) a w := by
  subst he
  rcases hrow with hrow | ⟨g, e, hc⟩
  · exact wpList_append_row w hgd s x t t2 ho 5 d2 1 1 (.int .u8 0) hinfo ht ht2 hd2 rfl v q.length (byteV q) hs hrow xv ext.length (byteV ext) hx (by rw [byteV_length, Nat.mul_one]) hlen hfc (byteV_one ext) (by unfold maxLen; omega) (by omega)
      fun v' w' ha => h v' w' _ rfl (Bytes.push ha rfl rfl) (Grown.of ha)
  · subst e
    exact wpList_append_full hgd s x t t2 ho 5 d2 1 1 (.int .u8 0) hinfo ht ht2 hd2 rfl g q.length (byteV q) hs (by rw [byteV_length, Nat.mul_one]) hc xv ext.length (byteV ext) hx (by rw [byteV_length, Nat.mul_one]) hlen hfc hext (by unfold maxLen; omega) (by omega)
      fun v' w' ha => h v' w' _ rfl (Bytes.push ha rfl rfl) ⟨ha.keeps.mono fun b _ hb => by simp [Own, Value.ownBlock] at hb, by
        rcases ha.own with hh | hh
        · exact .inr fun g hg => by rw [hh] at hg; simp [Value.ownBlock] at hg
        · exact .inr fun g hg => by rw [hh.1] at hg; have := Option.some.inj hg; omega⟩
/-- so much of a number is written -/
def NumAt (l : List UInt8) (x : Nat) (v : Value) (w : World) (b n : Value) (wr : World) : Prop :=
  ∃ (m : Nat) (pre q : List UInt8), n = .int .u64 m ∧ m ≤ x ∧ encN x = pre ++ encN m ∧ q = l ++ pre ∧ BytesF wr b q ∧ Grown w wr v b
theorem byte_small {m : Nat} (h : m < 128) : [Value.int .u8 m] = byteV (encN m) := by
  rw [encN_small h]
  simp only [byteV, List.map_cons, List.map_nil, UInt8.toNat_ofNat']
  congr 2
  omega
theorem byte_great (m : Nat) : [Value.int .u8 (bits BinOp.or IntKind.u8 ((m : Int) % 256) 128)] = byteV [UInt8.ofNat (m % 128 + 128)] := by
  rw [or_u8 _ (by omega) (by omega)]
  simp only [byteV, List.map_cons, List.map_nil, UInt8.toNat_ofNat']
  congr 2
  omega
end Go.Tx
namespace Go.Proofs.YtgmieehheoknbaaDoor
open Go.RowKit Go.Tx
set_option maxRecDepth 100000 in
set_option maxHeartbeats 800000 in
theorem number_full {w : World} {v : Value} {l : List UInt8} (x : Nat) (hx : x < 18446744073709551616) (h : BytesF w v l) (hl : l.length ≤ 70368744177664) :
    Calls Tryd.prog 16 #[v, .int .u64 x] w (AppPost l (encN x) v w) := by
  have HX := Lib.hid hx
  have H := Lib.hid h
  clear h hx
  go_enter Tryd.func16, Tryd.ntmps16
  go_wp2
  go_loopw [0, 1] (fun b n wr => NumAt l x v w b n wr) (fun _ n _ => (intOf n).toNat)
  case atStart => exact ⟨x, [], l, rfl, Nat.le_refl _, rfl, by simp, H.out, Grown.refl _ _⟩
  case round =>
    obtain ⟨m, pre, q, rfl, hm, he, hq, hrow, hg⟩ := hrel
    have HE := Lib.hid he
    have HQ := Lib.hid hq
    have HR := Lib.hid hrow
    have HG := Lib.hid hg
    obtain ⟨a, c, rfl⟩ := hrow.form
    clear he hrow hg hq
    have hpl : q.length ≤ 70368744177680 := by
      have h1 := encN_ten HX.out
      rw [HE.out, List.length_append] at h1
      rw [HQ.out, List.length_append]
      omega
    by_cases h128 : m < 128
    · have g1 : decide (128 ≤ m) = false := decide_eq_false (by omega)
      go_wp2_with (first | (at_builtin; go_must (refine wpList_append_bytes rfl _ _ 26 26 rfl (.slice 5) info_u8 Tryd.underlying26 Tryd.underlying26 (by intro k h; cases h) (.slice a q.length c) q rfl (HR.out.still ((Keeps.refl _ wr).alloc _)) _ [.int .u8 m] (encN m) (byte_small h128) (by rw [encN_small h128]; exact Nat.succ_pos _) rfl (by rw [encN_small h128]; exact lenOf_slice _ _ _) (by rw [encN_small h128]; exact firstCells_at _ rfl (cells_newAt rfl)) (by rw [encN_small h128]; simp only [List.length_cons, List.length_nil]; omega) ?_); intro v' w4 q4 hq4 hb4 hg4; obtain ⟨va, vc, rfl⟩ := hb4.form; have HB4 := Lib.hid hb4; have HG4 := Lib.hid (hg4.ahead ((Keeps.refl _ wr).alloc _)); have HQ4 := Lib.hid hq4; clear hb4 hg4 hq4))
      go_ret
      refine ⟨_, q4, rfl, ?_, HB4.out, HG.out.trans HG4.out⟩
      rw [HQ4.out, HE.out, HQ.out, List.append_assoc]
    · have g1 : decide (128 ≤ m) = true := decide_eq_true (by omega)
      go_wp2_with (first | (at_builtin; go_must (refine wpList_append_bytes rfl _ _ 26 26 rfl (.slice 5) info_u8 Tryd.underlying26 Tryd.underlying26 (by intro k h; cases h) (.slice a q.length c) q rfl (HR.out.still ((Keeps.refl _ wr).alloc _)) _ [.int .u8 (bits BinOp.or IntKind.u8 ((m : Int) % 256) 128)] [UInt8.ofNat (m % 128 + 128)] (byte_great m) (Nat.succ_pos _) rfl (lenOf_slice _ _ _) (firstCells_at _ rfl (cells_newAt rfl)) (by simp only [List.length_cons, List.length_nil]; omega) ?_); intro v' w4 q4 hq4 hb4 hg4; obtain ⟨va, vc, rfl⟩ := hb4.form; have HB4 := Lib.hid hb4; have HG4 := Lib.hid (hg4.ahead ((Keeps.refl _ wr).alloc _)); have HQ4 := Lib.hid hq4; clear hb4 hg4 hq4))
      refine ⟨⟨m / 128, pre ++ [UInt8.ofNat (m % 128 + 128)], q4, by go_num, by omega, ?_, ?_, .inl HB4.out, HG.out.trans HG4.out⟩, ?_⟩
      · rw [HE.out, encN_great h128]; simp
      · rw [HQ4.out, HQ.out]; simp
      · simp [intOf]; omega
theorem number_any {w : World} {v : Value} {l : List UInt8} (x : Nat) (hx : x < 18446744073709551616) (h : Bytes w v l) (hl : l.length ≤ 70368744177664) :
    Calls Tryd.prog 16 #[v, .int .u64 x] w (AppPost l (encN x) v w) := number_full x hx (.inl h) hl
end Go.Proofs.YtgmieehheoknbaaDoor
end
section
/-
  A module's bytes: signed numbers, texts; the document's numbers: what the Go code does.
-/
namespace Go.Tx
open Go Go.RowKit
theorem xor_zero (a : Int) (h0 : 0 ≤ a) (h1 : a < 18446744073709551616) : bits BinOp.xor IntKind.u64 a 0 = a := by
  show IntKind.u64.wrap ((BitVec.ofInt 64 a ^^^ BitVec.ofInt 64 0).toNat : Int) = a
  have h : BitVec.ofInt 64 0 = 0#64 := rfl
  rw [h, BitVec.xor_zero, BitVec.toNat_ofInt]
  have hw : ∀ n, IntKind.u64.wrap n = n % 18446744073709551616 := fun n => by simp [IntKind.wrap, IntKind.signed, IntKind.bits]
  rw [hw]
  omega
theorem xor_ones (a : Int) (h0 : 0 ≤ a) (h1 : a < 18446744073709551616) : bits BinOp.xor IntKind.u64 a 18446744073709551615 = 18446744073709551615 - a := by
  show IntKind.u64.wrap ((BitVec.ofInt 64 a ^^^ BitVec.ofInt 64 18446744073709551615).toNat : Int) = _
  have h : BitVec.ofInt 64 18446744073709551615 = BitVec.allOnes 64 := rfl
  rw [h, BitVec.xor_allOnes, BitVec.toNat_not, BitVec.toNat_ofInt]
  have hw : ∀ n, IntKind.u64.wrap n = n % 18446744073709551616 := fun n => by simp [IntKind.wrap, IntKind.signed, IntKind.bits]
  rw [hw]
  omega
theorem zig_pos {x : Int} (h0 : 0 ≤ x) (h1 : x ≤ 9223372036854775807) : bits BinOp.xor IntKind.u64 (x * 2) 0 = (zig x : Nat) := by
  rw [xor_zero _ (by omega) (by omega)]
  unfold zig
  rw [if_neg (by omega)]
  omega
theorem zig_neg {x : Int} (h0 : x < 0) (h1 : -9223372036854775808 ≤ x) : bits BinOp.xor IntKind.u64 (IntKind.u64.wrap (IntKind.u64.wrap x * 2)) (IntKind.u64.wrap (-1)) = (zig x : Nat) := by
  have hw : ∀ n, IntKind.u64.wrap n = n % 18446744073709551616 := fun n => by simp [IntKind.wrap, IntKind.signed, IntKind.bits]
  rw [hw, hw, hw, show (-1 : Int) % 18446744073709551616 = 18446744073709551615 by decide, xor_ones _ (by omega) (by omega)]
  unfold zig
  rw [if_pos h0]
  omega
end Go.Tx
namespace Go.Proofs.YtgmieehheoknbaaDoor
open Go.RowKit Go.Tx
set_option maxRecDepth 100000 in
set_option maxHeartbeats 800000 in
theorem sign_pos {w : World} {v : Value} {l : List UInt8} (x : Int) (h0 : 0 ≤ x) (h1 : x ≤ 9223372036854775807) (h : Bytes w v l) (hl : l.length ≤ 70368744177664) :
    Calls Tryd.prog 22 #[v, .int .i64 x] w (AppPost l (encS x) v w) := by
  have e1 : x / 9223372036854775808 = 0 := by omega
  have H := Lib.hid h
  obtain ⟨a, c, rfl⟩ := h.form
  clear h
  go_enter Tryd.func22, Tryd.ntmps22
  go_wp2_with (first | (go_at_call 16; refine Stop.out ?_))
  refine ⟨?_⟩
  rw [zig_pos h0 h1]
  refine (number_any (zig x) (zig_lt (by omega) (by omega)) H.out hl).mono ?_
  rintro e w2 ⟨v', q, rfl, hq, h2, h3⟩
  have H2 := Lib.hid h2
  have H3 := Lib.hid h3
  have HQ := Lib.hid hq
  clear h2 h3 hq
  go_wp2
  go_ret
  exact ⟨_, q, rfl, HQ.out, H2.out, H3.out⟩
set_option maxRecDepth 100000 in
set_option maxHeartbeats 800000 in
theorem sign_neg {w : World} {v : Value} {l : List UInt8} (x : Int) (h0 : x < 0) (h1 : -9223372036854775808 ≤ x) (h : Bytes w v l) (hl : l.length ≤ 70368744177664) :
    Calls Tryd.prog 22 #[v, .int .i64 x] w (AppPost l (encS x) v w) := by
  have e1 : x / 9223372036854775808 = -1 := by omega
  have H := Lib.hid h
  obtain ⟨a, c, rfl⟩ := h.form
  clear h
  go_enter Tryd.func22, Tryd.ntmps22
  go_wp2_with (first | (go_at_call 16; refine Stop.out ?_))
  refine ⟨?_⟩
  rw [zig_neg h0 h1]
  refine (number_any (zig x) (zig_lt (by omega) (by omega)) H.out hl).mono ?_
  rintro e w2 ⟨v', q, rfl, hq, h2, h3⟩
  have H2 := Lib.hid h2
  have H3 := Lib.hid h3
  have HQ := Lib.hid hq
  clear h2 h3 hq
  go_wp2
  go_ret
  exact ⟨_, q, rfl, HQ.out, H2.out, H3.out⟩
set_option maxRecDepth 100000 in
set_option maxHeartbeats 800000 in
theorem text_full {w : World} {v : Value} {l : List UInt8} (s : ByteArray) (hs : s.size ≤ 70368744177664) (h : BytesF w v l) (hl : l.length ≤ 70368744177600) (hls : l.length + s.size ≤ 70368744177600) :
    Calls Tryd.prog 17 #[v, .string s] w (AppPost l (encB s) v w) := by
  have H := Lib.hid h
  obtain ⟨a, c, rfl⟩ := h.form
  clear h
  go_enter Tryd.func17, Tryd.ntmps17
  go_wp2_with (first | (go_at_call 16; refine Stop.out ?_))
  refine ⟨?_⟩
  refine (number_full s.size (by omega) H.out (by omega)).mono ?_
  rintro e w2 ⟨v', q, rfl, hq, h2, h3⟩
  have hql : q.length ≤ l.length + 10 := by
    have := encN_ten (n := s.size) (by omega)
    rw [hq, List.length_append]
    omega
  obtain ⟨a2, c2, rfl⟩ := h2.form
  have H2 := Lib.hid h2
  have H3 := Lib.hid h3
  have HQ := Lib.hid hq
  clear h2 h3 hq
  go_wp2_with (first | (at_builtin; go_must (refine wpList_append_row _ rfl _ _ 26 9 rfl 5 .string 1 1 (.int .u8 0) info_u8 Tryd.underlying26 Tryd.underlying9 (by intro k h; cases h) rfl (.slice a2 q.length c2) q.length (byteV q) rfl H2.out _ s.size (byteCells s) rfl (by rw [byteCells_length, Nat.mul_one]) (lenOf_string _) (fun W _ => firstCells_string _ W) (byteV_one s.data.toList) (by unfold maxLen; omega) (by omega) ?_); intro v' w4 ha; obtain ⟨va, vc, rfl, _, _⟩ := ha.row.len; have HA := Lib.hid ha; clear ha))
  go_ret
  refine ⟨_, _, rfl, ?_, Bytes.push (ext := s.data.toList) HA.out (by rw [Array.length_toList]; rfl) (byteV_cells s).symm, H3.out.trans (Grown.of HA.out)⟩
  rw [HQ.out, encB, List.append_assoc]
theorem text_any {w : World} {v : Value} {l : List UInt8} (s : ByteArray) (hs : s.size ≤ 70368744177664) (h : Bytes w v l) (hl : l.length ≤ 70368744177600) (hls : l.length + s.size ≤ 70368744177600) :
    Calls Tryd.prog 17 #[v, .string s] w (AppPost l (encB s) v w) := text_full s hs (.inl h) hl hls
end Go.Proofs.YtgmieehheoknbaaDoor
end

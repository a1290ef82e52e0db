/-
  Decimal texts: what trouperef02.Dec does.
-/
import Derived.Test.YtnmhodejffpblaaDc
namespace Go.Tx
open Go Go.RowKit
def DecAt (n : Nat) (w : World) (u s : Value) (wr : World) : Prop :=
  ∃ (m : Nat) (t : List UInt8), u = .int .u64 m ∧ s = .string ⟨t.toArray⟩ ∧ m ≤ n ∧ ((t = [] ∧ m = n) ∨ (t ≠ [] ∧ (if m = 0 then t else decL m ++ t) = decL n)) ∧ wr = w
theorem dig_at : ∀ d, d < 10 → (⟨#[48, 49, 50, 51, 52, 53, 54, 55, 56, 57]⟩ : ByteArray).extract d (d + 1) = ⟨#[UInt8.ofNat (48 + d)]⟩ := by decide +kernel
theorem dig_cat (x : UInt8) (t : List UInt8) : (⟨#[x]⟩ : ByteArray) ++ ⟨t.toArray⟩ = ⟨(x :: t).toArray⟩ := by
  apply ByteArray.ext
  simp
theorem dec_step {n m : Nat} {t : List UInt8} (h : decL m ++ t = decL n) : (if m / 10 = 0 then UInt8.ofNat (48 + m % 10) :: t else decL (m / 10) ++ UInt8.ofNat (48 + m % 10) :: t) = decL n := by
  rw [← h]
  by_cases hm : m < 10
  · rw [if_pos (by omega), decL_small hm, Nat.mod_eq_of_lt hm]
    rfl
  · rw [if_neg (by omega), decL_great hm, List.append_assoc]
    rfl
theorem dec_round {n m : Nat} {t : List UInt8} {w : World} (hm : m ≤ n) (h : decL m ++ t = decL n) (v : Value) (hv : v = .int .u64 ((m / 10 : Nat) : Int)) : DecAt n w v (.string ((⟨#[48, 49, 50, 51, 52, 53, 54, 55, 56, 57]⟩ : ByteArray).extract (m % 10) (m % 10 + 1) ++ ⟨t.toArray⟩)) w := by
  refine ⟨m / 10, UInt8.ofNat (48 + m % 10) :: t, hv, ?_, by omega, .inr ⟨by simp, dec_step h⟩, rfl⟩
  rw [dig_at _ (Nat.mod_lt _ (by decide)), dig_cat]
def strLen : Value → Nat
  | .string b => b.size
  | _ => 0
end Go.Tx
namespace Go.Proofs.Ytnmhodejffpblaa
open Go.RowKit Go.Tx
set_option maxRecDepth 100000 in
set_option maxHeartbeats 1600000 in
theorem dec_any (n : Nat) (hn : n < 10000) (w : World) : Calls Try.prog 20 #[.int .i64 n] w fun e w' => e = .returned (.string ⟨(decL n).toArray⟩) ∧ w' = w := by
  have g0 : decide ((n : Int) < 0) = false := decide_eq_false (by omega)
  go_enter Try.func20, Try.ntmps20
  go_wp2
  go_loopw [3, 4] (fun u s wr => DecAt n w u s wr) (fun u s _ => (intOf u).toNat * 2 + (if strLen s = 0 then 1 else 0))
  case atStart => exact ⟨n, [], rfl, rfl, Nat.le_refl _, .inl ⟨rfl, rfl⟩, rfl⟩
  case round =>
    obtain ⟨m, t, rfl, rfl, hmn, hcase, rfl⟩ := hrel
    have hlen := decL_len hn
    by_cases h1 : 0 < m
    · have g1 : decide (0 < (m : Int)) = true := decide_eq_true (by omega)
      have hd : decL m ++ t = decL n := by
        rcases hcase with ⟨rfl, rfl⟩ | ⟨_, h⟩
        · simp
        · rwa [if_neg (by omega)] at h
      have htl : t.length ≤ 4 := by rw [← hd, List.length_append] at hlen; omega
      have HD := Lib.hid hd
      clear hd hcase hlen
      go_wp2
      refine ⟨dec_round hmn HD.out _ (congrArg (Value.int .u64) (by omega)), ?_⟩
      rw [dig_at _ (Nat.mod_lt _ (by decide)), dig_cat, if_neg (by simp [strLen, ByteArray.size])]
      have e1 : (intOf (Value.int IntKind.u64 ((m : Int) / 10))).toNat = m / 10 := by show ((m : Int) / 10).toNat = m / 10; omega
      have e2 : (intOf (Value.int IntKind.u64 (m : Int))).toNat = m := by show (m : Int).toNat = m; omega
      rw [e1, e2]
      omega
    · obtain rfl : m = 0 := by omega
      rcases hcase with ⟨rfl, rfl⟩ | ⟨ht, h⟩
      · go_wp2
        refine ⟨dec_round (t := []) (Nat.le_refl _) (by simp) _ rfl, ?_⟩
        decide +kernel
      · rw [if_pos rfl] at h
        subst h
        have HT := Lib.hid ht
        have hte : (decL n).isEmpty = false := by cases hx : decL n with | nil => exact absurd hx ht | cons a l => rfl
        go_wp2
        go_ret
        exact ⟨rfl, rfl⟩
end Go.Proofs.Ytnmhodejffpblaa

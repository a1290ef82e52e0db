/-
  Decimal texts: unlike numbers have unlike texts; a table of so many names.
-/
import Derived.Test.YtnmhodejffpblaaWp
namespace Go.Tx
open Go Go.RowKit
/-- the digits of a number -/
def decL (n : Nat) : List UInt8 := if n < 10 then [UInt8.ofNat (48 + n)] else decL (n / 10) ++ [UInt8.ofNat (48 + n % 10)]
termination_by n
decreasing_by omega
theorem decL_small {n : Nat} (h : n < 10) : decL n = [UInt8.ofNat (48 + n)] := by rw [decL, if_pos h]
theorem decL_great {n : Nat} (h : ¬ n < 10) : decL n = decL (n / 10) ++ [UInt8.ofNat (48 + n % 10)] := by rw [decL, if_neg h]
theorem decL_ne (n : Nat) : decL n ≠ [] := by
  by_cases h : n < 10
  · rw [decL_small h]; simp
  · rw [decL_great h]; simp
theorem digit_inj {a b : Nat} (ha : a < 10) (hb : b < 10) (h : UInt8.ofNat (48 + a) = UInt8.ofNat (48 + b)) : a = b := by
  have := congrArg UInt8.toNat h
  rw [UInt8.toNat_ofNat', UInt8.toNat_ofNat'] at this
  omega
theorem decL_inj : ∀ (n m : Nat), decL n = decL m → n = m := by
  intro n
  induction n using Nat.strongRecOn with
  | ind n ih =>
    intro m h
    by_cases hn : n < 10
    · by_cases hm : m < 10
      · rw [decL_small hn, decL_small hm] at h
        exact digit_inj hn hm (List.cons.inj h).1
      · rw [decL_small hn, decL_great hm] at h
        have := congrArg List.length h
        have h1 := List.length_pos_iff.2 (decL_ne (m / 10))
        simp only [List.length_append, List.length_cons, List.length_nil] at this
        omega
    · by_cases hm : m < 10
      · rw [decL_great hn, decL_small hm] at h
        have := congrArg List.length h
        have h1 := List.length_pos_iff.2 (decL_ne (n / 10))
        simp only [List.length_append, List.length_cons, List.length_nil] at this
        omega
      · rw [decL_great hn, decL_great hm] at h
        obtain ⟨h1, h2⟩ := List.append_inj' h rfl
        have e1 := ih (n / 10) (by omega) (m / 10) h1
        have e2 := digit_inj (Nat.mod_lt _ (by decide)) (Nat.mod_lt _ (by decide)) (List.cons.inj h2).1
        omega
theorem decL_len {n : Nat} (h : n < 10000) : (decL n).length ≤ 4 := by
  by_cases h1 : n < 10
  · rw [decL_small h1]; simp
  rw [decL_great h1]
  by_cases h2 : n / 10 < 10
  · rw [decL_small h2]; simp
  rw [decL_great h2]
  by_cases h3 : n / 10 / 10 < 10
  · rw [decL_small h3]; simp
  rw [decL_great h3]
  by_cases h4 : n / 10 / 10 / 10 < 10
  · rw [decL_small h4]; simp
  · omega
/-- the name with a number -/
def numName (n : Nat) : ByteArray := ⟨(97 :: decL n).toArray⟩
theorem numName_inj {n m : Nat} (h : numName n = numName m) : n = m := by
  unfold numName at h
  have := congrArg (fun b => b.data.toList) h
  simp at this
  exact decL_inj n m this
theorem numName_size {n : Nat} (h : n < 10000) : 2 ≤ (numName n).size ∧ (numName n).size ≤ 5 := by
  have h1 := decL_len h
  have h2 := List.length_pos_iff.2 (decL_ne n)
  have h3 : (numName n).size = (decL n).length + 1 := by simp [numName, ByteArray.size]
  omega
/-- a table of so many -/
def numTab (n : Nat) : List ByteArray := (List.range n).map numName
theorem numTab_succ (n : Nat) : numTab (n + 1) = numTab n ++ [numName n] := by simp [numTab, List.range_succ]
theorem numTab_length (n : Nat) : (numTab n).length = n := by simp [numTab]
theorem numTab_none {n m : Nat} (h : n ≤ m) : placeOf (numName m) (numTab n) = none := by
  rw [placeOf_none]
  intro hm
  simp only [numTab, List.mem_map, List.mem_range] at hm
  obtain ⟨k, hk, he⟩ := hm
  have := numName_inj he
  omega
theorem numTab_some {n m : Nat} (h : m < n) : placeOf (numName m) (numTab n) = some m := by
  refine placeOf_at ?_ (by simp [numTab, h])
  intro hm
  rw [numTab, ← List.map_take, List.take_range, List.mem_map] at hm
  obtain ⟨k, hk, he⟩ := hm
  have := numName_inj he
  rw [List.mem_range] at hk
  omega
theorem ask_next {n : Nat} (h : n < 1024) : askName (numTab n) (numName n) = ((n : Int), none, numTab (n + 1)) := by
  have hs := numName_size (n := n) (by omega)
  unfold askName
  rw [if_neg (by omega), numTab_none (Nat.le_refl n), numTab_length, numTab_succ]
  simp only [show ¬ 1024 ≤ n from by omega, if_false]
theorem ask_old {n m : Nat} (h : m < n) (hn : n ≤ 1024) : askName (numTab n) (numName m) = ((m : Int), none, numTab n) := by
  have hs := numName_size (n := m) (by omega)
  unfold askName
  rw [if_neg (by omega), numTab_some h]
theorem ask_b : askName (numTab 1024) ⟨#[98]⟩ = (-1, some ([(⟨#[97, 116, 111, 109]⟩, 1)], 2), numTab 1024) := by
  have hp : placeOf ⟨#[98]⟩ (numTab 1024) = none := by
    rw [placeOf_none]
    intro hm
    simp only [numTab, List.mem_map] at hm
    obtain ⟨k, _, he⟩ := hm
    have := congrArg (fun b => b.data.toList) he
    simp [numName] at this
  unfold askName
  rw [if_neg (by decide), hp, numTab_length]
  simp only [Nat.le_refl, if_true]
  rfl
end Go.Tx

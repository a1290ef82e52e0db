/-
  Modules: as plain data; where they lie in memory; whether a function may be written: what the Go code does (code.right).
-/
import Derived.Test.YtgmieehheoknbaaEt0
namespace Go.Tx
open Go Go.RowKit
/-- a function: its name, arguments, slots, instructions -/
structure Fnc where
  name : ByteArray
  args : Int
  slots : Int
  code : List (Int × Int × Int × Int)
/-- a module -/
structure Md where
  name : ByteArray
  lits : List Tm
  funcs : List Fnc
def insOkI (p : Int × Int × Int × Int) : Prop := (-9223372036854775808 ≤ p.1 ∧ p.1 ≤ 9223372036854775807) ∧ (-9223372036854775808 ≤ p.2.1 ∧ p.2.1 ≤ 9223372036854775807) ∧ (-9223372036854775808 ≤ p.2.2.1 ∧ p.2.2.1 ≤ 9223372036854775807) ∧ (-9223372036854775808 ≤ p.2.2.2 ∧ p.2.2.2 ≤ 9223372036854775807)
/-- a slice of instructions -/
def InsD (w : World) (S : Nat → Prop) (v : Value) (l : List (Int × Int × Int × Int)) : Prop :=
  l.length ≤ 1099511627776 ∧ ∃ a cap, v = .slice a l.length cap ∧ l.length ≤ cap ∧ cap ≤ maxLen ∧ ∀ i p, l[i]? = some p → insOkI p ∧ ∃ b o, a = some ⟨b, o, none⟩ ∧ S b ∧
    (w.cell? ⟨b, o + i * 4, none⟩ = some (.int .i64 p.1) ∧ w.cell? ⟨b, o + i * 4 + 1, none⟩ = some (.int .i64 p.2.1) ∧ w.cell? ⟨b, o + i * 4 + 2, none⟩ = some (.int .i64 p.2.2.1) ∧ w.cell? ⟨b, o + i * 4 + 3, none⟩ = some (.int .i64 p.2.2.2))
def Fnc.val (f : Fnc) (vc : Value) : Value := .agg #[.string f.name, .int .i64 f.args, .int .i64 f.slots, vc]
structure Fnc.fine (f : Fnc) : Prop where
  a1 : -9223372036854775808 ≤ f.args
  a2 : f.args ≤ 9223372036854775807
  s1 : -9223372036854775808 ≤ f.slots
  s2 : f.slots ≤ 9223372036854775807
  n1 : f.name.size ≤ 1099511627776
/-- a slice of functions -/
def FnsD (w : World) (S : Nat → Prop) (v : Value) (l : List Fnc) : Prop :=
  l.length ≤ 1099511627776 ∧ ∃ a cap, v = .slice a l.length cap ∧ l.length ≤ cap ∧ cap ≤ maxLen ∧ ∀ i f, l[i]? = some f → f.fine ∧ ∃ b o vc, a = some ⟨b, o, none⟩ ∧ S b ∧
    (w.cell? ⟨b, o + i * 4, none⟩ = some (.string f.name) ∧ w.cell? ⟨b, o + i * 4 + 1, none⟩ = some (.int .i64 f.args) ∧ w.cell? ⟨b, o + i * 4 + 2, none⟩ = some (.int .i64 f.slots) ∧ w.cell? ⟨b, o + i * 4 + 3, none⟩ = some vc) ∧ InsD w S vc f.code
def MdD (w : World) (S : Nat → Prop) (d : Nat) (v : Value) (m : Md) : Prop :=
  ∃ vl vf, v = .agg #[.string m.name, vl, vf] ∧ m.name.size ≤ 1099511627776 ∧ RowD w S (TmD w S d) vl m.lits ∧ FnsD w S vf m.funcs
theorem InsD.keeps {w w' : World} {S T : Nat → Prop} {v : Value} {l : List (Int × Int × Int × Int)} (h : InsD w S v l) (hk : Keeps T w w') (hs : ∀ g, S g → ¬ T g) : InsD w' S v l := by
  obtain ⟨h0, a, cap, h1, h2, h3, h4⟩ := h
  refine ⟨h0, a, cap, h1, h2, h3, fun i p hp => ?_⟩
  obtain ⟨h5, b, o, e, hb, c0, c1, c2, c3⟩ := h4 i p hp
  exact ⟨h5, b, o, e, hb, hk.cell c0 (hs _ hb), hk.cell c1 (hs _ hb), hk.cell c2 (hs _ hb), hk.cell c3 (hs _ hb)⟩
theorem FnsD.keeps {w w' : World} {S T : Nat → Prop} {v : Value} {l : List Fnc} (h : FnsD w S v l) (hk : Keeps T w w') (hs : ∀ g, S g → ¬ T g) : FnsD w' S v l := by
  obtain ⟨h0, a, cap, h1, h2, h3, h4⟩ := h
  refine ⟨h0, a, cap, h1, h2, h3, fun i f hf => ?_⟩
  obtain ⟨h5, b, o, vc, e, hb, ⟨c0, c1, c2, c3⟩, hi⟩ := h4 i f hf
  exact ⟨h5, b, o, vc, e, hb, ⟨hk.cell c0 (hs _ hb), hk.cell c1 (hs _ hb), hk.cell c2 (hs _ hb), hk.cell c3 (hs _ hb)⟩, hi.keeps hk hs⟩
theorem InsD.form {w : World} {S : Nat → Prop} {v : Value} {l : List (Int × Int × Int × Int)} (h : InsD w S v l) : ∃ a c, v = .slice a l.length c := by
  obtain ⟨_, a, c, rfl, _⟩ := h
  exact ⟨a, c, rfl⟩
theorem FnsD.form {w : World} {S : Nat → Prop} {v : Value} {l : List Fnc} (h : FnsD w S v l) : ∃ a c, v = .slice a l.length c := by
  obtain ⟨_, a, c, rfl, _⟩ := h
  exact ⟨a, c, rfl⟩
/-- an operand that may be -/
def half (n : Int) : Bool := decide (-549755813888 ≤ n ∧ n ≤ 549755813888)
def insOk (p : Int × Int × Int × Int) : Bool := decide (0 ≤ p.1 ∧ p.1 ≤ 255) && (half p.2.1 && half p.2.2.1 && half p.2.2.2)
/-- may a function be written? -/
def headOk (f : Fnc) : Bool := decide (0 ≤ f.args ∧ f.args ≤ 1099511627776 ∧ 0 ≤ f.slots ∧ f.slots ≤ 1099511627776)
def fnOk (f : Fnc) : Bool := headOk f && f.code.all insOk
/-- an instruction's bytes, a function's, a module's -/
def encI (p : Int × Int × Int × Int) : List UInt8 := UInt8.ofNat p.1.toNat :: (encS p.2.1 ++ (encS p.2.2.1 ++ encS p.2.2.2))
def encIs : List (Int × Int × Int × Int) → List UInt8
  | [] => []
  | p :: l => encI p ++ encIs l
def encH (f : Fnc) : List UInt8 := encB f.name ++ (encN f.args.toNat ++ (encN f.slots.toNat ++ encN f.code.length))
def encF (f : Fnc) : List UInt8 := encH f ++ encIs f.code
def encFs : List Fnc → List UInt8
  | [] => []
  | f :: l => encF f ++ encFs l
def magic : List UInt8 := [84, 82, 80, 69]
def encM (m : Md) : List UInt8 := magic ++ (encB m.name ++ (encN m.lits.length ++ (encTs m.lits ++ (encN m.funcs.length ++ encFs m.funcs))))
theorem encIs_append (l r : List (Int × Int × Int × Int)) : encIs (l ++ r) = encIs l ++ encIs r := by
  induction l with
  | nil => simp [encIs]
  | cons t l ih => simp [encIs, ih]
theorem encIs_take {l : List (Int × Int × Int × Int)} {i : Nat} {t : Int × Int × Int × Int} (h : l[i]? = some t) : encIs (l.take (i + 1)) = encIs (l.take i) ++ encI t := by
  rw [List.take_add_one, h, encIs_append]
  simp [encIs]
theorem encIs_next {l : List (Int × Int × Int × Int)} {i : Nat} {t : Int × Int × Int × Int} (h : l[i]? = some t) : (encIs (l.take i)).length + (encI t).length ≤ (encIs l).length := by
  have e : encIs l = encIs (l.take (i + 1)) ++ encIs (l.drop (i + 1)) := by rw [← encIs_append, List.take_append_drop]
  rw [e, List.length_append, encIs_take h, List.length_append]
  omega
theorem encFs_append (l r : List Fnc) : encFs (l ++ r) = encFs l ++ encFs r := by
  induction l with
  | nil => simp [encFs]
  | cons t l ih => simp [encFs, ih]
theorem encFs_take {l : List Fnc} {i : Nat} {t : Fnc} (h : l[i]? = some t) : encFs (l.take (i + 1)) = encFs (l.take i) ++ encF t := by
  rw [List.take_add_one, h, encFs_append]
  simp [encFs]
theorem encFs_next {l : List Fnc} {i : Nat} {t : Fnc} (h : l[i]? = some t) : (encFs (l.take i)).length + (encF t).length ≤ (encFs l).length := by
  have e : encFs l = encFs (l.take (i + 1)) ++ encFs (l.drop (i + 1)) := by rw [← encFs_append, List.take_append_drop]
  rw [e, List.length_append, encFs_take h, List.length_append]
  omega
end Go.Tx
namespace Go.Proofs.Ytgmieehheoknbaa
open Go.RowKit Go.Tx
set_option maxRecDepth 100000 in
set_option maxHeartbeats 400000 in
theorem out_any (w : World) (n : Int) : Calls Try.prog 34 #[.int .i64 n] w fun e w' => e = .returned (.bool (!half n)) ∧ w' = w := by
  by_cases h1 : n < -549755813888
  · have e : half n = false := by unfold half; exact decide_eq_false (by omega)
    rw [e]
    go_enter Try.func34, Try.ntmps34
    go_wp2
    go_ret
    exact ⟨rfl, rfl⟩
  · by_cases h2 : 549755813888 < n
    · have e : half n = false := by unfold half; exact decide_eq_false (by omega)
      rw [e]
      go_enter Try.func34, Try.ntmps34
      go_wp2
      go_ret
      exact ⟨rfl, rfl⟩
    · have e : half n = true := by unfold half; exact decide_eq_true (by omega)
      rw [e]
      go_enter Try.func34, Try.ntmps34
      go_wp2
      go_ret
      exact ⟨rfl, rfl⟩
end Go.Proofs.Ytgmieehheoknbaa

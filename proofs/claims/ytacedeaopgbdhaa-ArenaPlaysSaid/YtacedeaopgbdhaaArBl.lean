/-
  The arena: the names of all blocks: what the Go code does.
-/
import Derived.Test.YtacedeaopgbdhaaArF
import Derived.Test.YtacedeaopgbdhaaArAgP
import Derived.Test.YtacedeaopgbdhaaSrt
import Derived.Test.YtacedeaopgbdhaaSh
import Derived.Deep.LoopGhost
import Derived.Deep.DeepMust
namespace Go.Tx
open Go Go.RowKit
def nums (l : List Int) : List Value := l.map (Value.int .i64)
theorem nums_snoc (l : List Int) (x : Int) : nums l ++ [.int .i64 x] = nums (l ++ [x]) := by simp [nums]
theorem mergeI_perm (l : List Int) : (l.mergeSort fun x y => decide (x ≤ y)).Perm l := List.mergeSort_perm _ _
theorem mergeI_pairwise (l : List Int) : (l.mergeSort fun x y => decide (x ≤ y)).Pairwise (· ≤ ·) := by
  have := List.pairwise_mergeSort (le := fun x y : Int => decide (x ≤ y)) (by intro a b c h1 h2; simp at *; omega) (by intro a b; simp; omega) l
  exact this.imp fun h => by simpa using h
theorem perm_erase {K : Type} {l : List K} {j : Nat} {p : K} (h : l[j]? = some p) : (p :: l.eraseIdx j).Perm l := by
  obtain ⟨hj, rfl⟩ := List.getElem?_eq_some_iff.1 h
  have e : l.take j ++ l[j] :: l.drop (j + 1) = l := by rw [← List.drop_eq_getElem_cons hj]; exact List.take_append_drop j l
  rw [List.eraseIdx_eq_take_drop_succ]
  conv => rhs; rw [← e]
  exact List.perm_middle.symm
theorem erase_len {K : Type} {l : List K} {j : Nat} {p : K} (h : l[j]? = some p) : (l.eraseIdx j).length < l.length := by
  obtain ⟨hj, _⟩ := List.getElem?_eq_some_iff.1 h
  rw [List.length_eraseIdx]; rw [if_pos hj]; omega
theorem keys_step {left : List (Int × Value)} {acc : List Int} {kv : List (Int × Value)} {j : Nat} {p : Int × Value} (h : left[j]? = some p) (hp : (acc ++ left.map (·.1)).Perm (kv.map (·.1))) : ((acc ++ [p.1]) ++ (left.eraseIdx j).map (·.1)).Perm (kv.map (·.1)) := by
  refine List.Perm.trans ?_ hp
  have h1 := (perm_erase h).map (fun p => p.1)
  rw [List.map_cons] at h1
  rw [List.append_assoc]
  exact List.Perm.append_left acc h1
theorem keys_len {left : List (Int × Value)} {acc : List Int} {kv : List (Int × Value)} {j : Nat} {p : Int × Value} (h : left[j]? = some p) (hp : (acc ++ left.map (·.1)).Perm (kv.map (·.1))) : acc.length + 1 ≤ kv.length := by
  have h1 := (keys_step h hp).length_eq
  simp only [List.length_append, List.length_cons, List.length_nil, List.length_map] at h1
  omega
theorem rowKeep {w wr w0 w4 : World} {lv v' : Value} {e : TypeId} {n : Nat} {xs : List Value} (hk : Keeps (fun _ => False) w wr) (hown : ∀ g, lv.ownBlock = some g → w.heap.size < g) (hsz : w.heap.size < wr.heap.size) (k0 : Keeps (fun _ => False) wr w0) (ha : Appended w0 w4 e 1 lv v' n xs) :
    Keeps (fun _ => False) w w4 ∧ w.heap.size < w4.heap.size ∧ (∀ g, v'.ownBlock = some g → w.heap.size < g) ∧ Keeps (fun g => w.heap.size < g) wr w4 := by
  have h1 : Keeps (fun _ => False) w w0 := hk.trans k0 fun _ _ h => h
  have s0 := k0.size
  have s4 := ha.keeps.size
  refine ⟨h1.trans ha.keeps fun g hg ho => ?_, by omega, fun g hg => ?_, (k0.mono (T := fun g => w.heap.size < g) fun _ _ h => h.elim).trans ha.keeps fun g _ ho => hown g ho⟩
  · have := hown g ho; omega
  · rcases ha.own with ho | ⟨ho, _⟩
    · rw [ho] at hg; exact hown g hg
    · rw [ho] at hg; simp at hg; subst hg; omega
/-- before each round: so many names were read -/
def BlocksAt (w : World) (mb : Nat) (kv : List (Int × Value)) (k : Nat) (lv : Value) (wr : World) : Prop :=
  ∃ (left : List (Int × Value)) (acc : List Int), k = left.length ∧ IterIs Go.Tx.intKey wr w.heap.size mb kv left ∧ Row wr 3 1 lv acc.length (nums acc) ∧ (acc ++ left.map (·.1)).Perm (kv.map (·.1)) ∧ Keeps (fun _ => False) w wr ∧ w.heap.size < wr.heap.size ∧ ∀ g, lv.ownBlock = some g → w.heap.size < g
/-- the names, rising -/
def BlocksPost (A : AM) (b : Nat) (S : Nat → Prop) (w : World) (e : Ending) (w' : World) : Prop :=
  ∃ (lv : Value) (ns : List Int), e = .returned lv ∧ ns.Perm (A.taken.map fun t => (t.1 : Int)) ∧ ns.Pairwise (· ≤ ·) ∧ Row w' 3 1 lv ns.length (nums ns) ∧ IsArena w' b A S ∧ Keeps (fun _ => False) w w'
end Go.Tx
namespace Go.Proofs.Ytacedeaopgbdhaa
open Go.RowKit Go.Tx
theorem sort_row {w : World} {v : Value} {zs : List Int} {n : Nat} (h : Row w 3 1 v n (nums zs)) (hl : zs.length < 4611686018427387904) :
    Calls Try.prog 30 #[v] w fun e w' => e = .returned (.tuple #[]) ∧ Row w' 3 1 v n (nums (zs.mergeSort fun x y => decide (x ≤ y))) ∧ Keeps (Own v) w w' := by
  have hn : zs.length = n := by have := h.1; simpa [nums] using this
  by_cases h0 : n = 0
  · subst h0
    obtain rfl : zs = [] := List.eq_nil_of_length_eq_zero hn
    obtain ⟨a, cap, rfl, _, _⟩ := h.len
    refine (Try.sort_int_none a cap w).mono ?_
    rintro e w' ⟨rfl, rfl⟩
    exact ⟨rfl, by simpa using h, Keeps.refl _ _⟩
  · obtain ⟨g, cap, rfl, hc, hm⟩ := h.form (by omega)
    have hg : g < w.heap.size := h.lt rfl
    have hc := Try.sort_int g 0 cap zs w (row_holds h) hg hl
    rw [hn] at hc
    refine hc.mono ?_
    rintro e w' ⟨rfl, k, os, rfl⟩
    have := row_sorted h (ds := zs.mergeSort fun x y => decide (x ≤ y)) (by rw [List.length_mergeSort]; exact hn) k os
    exact ⟨rfl, this.1, this.2.mono fun b _ hb => by subst hb; rfl⟩

set_option maxRecDepth 100000 in
set_option maxHeartbeats 800000 in
theorem blocks_any {w : World} {b : Nat} {A : AM} {S : Nat → Prop} (h : IsArena w b A S) (hA : A.Ok) :
    Calls Try.prog 19 #[.pointer (some ⟨b, 0, none⟩)] w (BlocksPost A b S w) := by
  have HN := Lib.hid h
  obtain ⟨pv, mb, fv, h⟩ := h
  have h25 : w.cell? ⟨b, 25, none⟩ = some (.map (some mb)) := h.blk.cell (arenaCells_taken A pv mb fv)
  have hmw : mb < w.heap.size := h.lt _ h.sm
  have HMP := Lib.hid h.mp
  have HKL : Hid ((kvOf A.taken).length ≤ 1048576) := Lib.hid (by have := AM.taken_len hA; simpa [kvOf] using this)
  have HKE : Hid ((kvOf A.taken).map (·.1) = A.taken.map fun t => (t.1 : Int)) := Lib.hid (by simp [kvOf, Function.comp_def])
  clear h
  go_enter Try.func19, Try.ntmps19
  go_wp2_with (at_range; refine Stop.out ?_)
  refine ⟨?_⟩
  refine wpList_range_kv rfl _ 63 rfl 3 69 Try.underlying63 mb rfl HMP.out ?_
  intro w1 hi1 hk1 hs1
  have HI := Lib.hid hi1
  have HK := Lib.hid hk1
  have HS := Lib.hid hs1
  clear hi1 hk1 hs1
  go_simp
  go_wp2
  go_loopg [3] (kvOf A.taken).length (fun k lv wr => BlocksAt w mb (kvOf A.taken) k lv wr)
  case atStart => exact ⟨_, [], rfl, HI.out, World.ownsRow_nil _ _ _ _, by simp, HK.out, by rw [HS.out]; omega, fun g hg => by simp [Value.ownBlock] at hg⟩
  case round =>
    obtain ⟨left, acc, rfl, hit, hr, hperm, hkp, hsz, hown⟩ := hrel
    have HIt := Lib.hid hit
    have HR := Lib.hid hr
    have HP := Lib.hid hperm
    have HKp := Lib.hid hkp
    have HO := Lib.hid hown
    have HSz := Lib.hid hsz
    clear hit hr hperm hkp hown hsz
    go_wp2_with (at_next; refine Stop.out ?_)
    refine ⟨?_⟩
    refine wpList_next_kv rfl _ rfl w.heap.size mb rfl HIt.out ?_ ?_
    · intro hl
      subst hl
      go_wp2_with (go_at_call 30; refine Stop.out ?_)
      have hp : acc.Perm (A.taken.map fun t => (t.1 : Int)) := by
        have := HP.out
        rw [HKE.out] at this
        simpa using this
      refine ⟨(sort_row HR.out (by have h1 := hp.length_eq; rw [List.length_map] at h1; have h2 := AM.taken_len hA; omega)).mono ?_⟩
      rintro e w2 ⟨rfl, hr2, hk2⟩
      have hk3 : Keeps (fun _ => False) w w2 := HKp.out.trans hk2 fun g hg ho => by have := HO.out g ho; omega
      have HFin : Hid (BlocksPost A b S w (.returned u3) w2) := Lib.hid ⟨_, acc.mergeSort fun x y => decide (x ≤ y), rfl, (mergeI_perm acc).trans hp, mergeI_pairwise acc, by rw [List.length_mergeSort]; exact hr2, HN.out.keeps hk3 fun _ _ h => h, hk3⟩
      clear hr2 hk2 hk3 hp
      go_wp2
      go_ret
      exact HFin.out
    · intro j p w2 hj hi2 hk2 hs2 hen
      have HJ := Lib.hid hj
      have HI2 := Lib.hid hi2
      have HEN := Lib.hid hen
      have hsz2 : w.heap.size < w2.heap.size := by rw [hs2]; exact HSz.out
      have HK2 : Hid (Keeps (fun _ => False) w w2) := Lib.hid (HKp.out.trans hk2 fun g hg e => by omega)
      have HR2 : Hid (Row w2 3 1 u3 acc.length (nums acc)) := Lib.hid (HR.out.keeps hk2 fun g hg e => by have := HO.out g hg; omega)
      clear hj hi2 hk2 hs2 hen
      have hal := keys_len HJ.out HP.out
      have hal2 := HKL.out
      obtain ⟨r, pv2⟩ := p
      go_wp2_with (first | (show wpList _ _ _ (⟨_, Op.entry _, _, _, _, _⟩ :: _) _ _; refine wpList_entry_kv rfl _ rfl w.heap.size (r, pv2) rfl HEN.out ?_; simp only [Go.Tx.intKey]) | (at_builtin; go_must (refine wpList_append_row _ rfl _ _ 40 40 rfl 3 (.slice 3) 1 8 (.int .i64 0) info_int Try.underlying40 Try.underlying40 (by intro k h; cases h) rfl u3 acc.length (nums acc) rfl (HR2.out.keeps (S := fun _ => False) (by repeat (first | with_reducible exact Keeps.refl _ _ | with_reducible apply Keeps.drew | with_reducible apply Keeps.alloc)) (fun _ _ h => h)) _ 1 [.int .i64 r] rfl rfl (lenOf_slice _ _ _) (firstCells_at _ rfl (one_newAt rfl)) (by intro u hu; simp at hu; subst hu; rfl) (by unfold maxLen; omega) (by omega) ?_); intro v' w4 ha; obtain ⟨va, vc, rfl, _, _⟩ := ha.row.len; obtain ⟨g1, g2, g3, g4⟩ := rowKeep HK2.out HO.out hsz2 (by repeat (first | with_reducible exact Keeps.refl _ _ | with_reducible apply Keeps.drew | with_reducible apply Keeps.alloc)) ha; have HIT : Hid (IterIs Go.Tx.intKey w4 w.heap.size mb (kvOf A.taken) (left.eraseIdx j)) := Lib.hid (HI2.out.keeps g4 (fun hm => by have : w.heap.size < mb := hm; omega) (Nat.lt_irrefl _)); have G1 := Lib.hid g1; have G2 := Lib.hid g2; have G3 := Lib.hid g3; have G5 := Lib.hid ha.row; clear g1 g2 g3 g4 ha))
      go_roundg (left.eraseIdx j).length
      case measure => exact erase_len HJ.out
      case rel => exact ⟨left.eraseIdx j, acc ++ [r], rfl, HIT.out, by have := G5.out; rw [nums_snoc] at this; simpa using this, keys_step HJ.out HP.out, G1.out, G2.out, G3.out⟩
end Go.Proofs.Ytacedeaopgbdhaa

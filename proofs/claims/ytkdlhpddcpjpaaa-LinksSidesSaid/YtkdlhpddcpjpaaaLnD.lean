/-
  Links: the library's sort of a row; who watches: what the Go code does.
-/
import Derived.Test.YtkdlhpddcpjpaaaLnC
import Derived.Test.YtkdlhpddcpjpaaaSrt
import Derived.Test.YtkdlhpddcpjpaaaSh
import Derived.Deep.LoopGhost
import Derived.Deep.DeepMust
namespace Go.Tx
open Go Go.RowKit
theorem oneAt {w0 : World} {u : Value} {e : TypeId} {g : Nat} (hg : g = w0.heap.size) : ∀ j v, [u][j]? = some v → (w0.alloc (.cells #[u] e)).cell? ((⟨g, 0, none⟩ : Addr).add j) = some v := hg ▸ one_new
def longs (l : List Int) : List Value := l.map (Value.int .i64)
theorem longs_snoc (l : List Int) (x : Int) : longs l ++ [.int .i64 x] = longs (l ++ [x]) := by simp [longs]
theorem longs_length (l : List Int) : (longs l).length = l.length := by simp [longs]
/-- a row of numbers that a call has made: the blocks that were there are as they were -/
def LongsPost (w : World) (b : Nat) (N : NM) (S : Nat → Prop) (l : List Int) (e : Ending) (w' : World) : Prop :=
  ∃ v, e = .returned v ∧ Row w' 2 1 v l.length (longs l) ∧ IsNet w' b N S ∧ Keeps (fun _ => False) w w' ∧ ∀ g, v.ownBlock = some g → w.heap.size ≤ g
/-- before each round: so many entries were read -/
def CollAt {K : Type} (enc : K → Value) (f : K × Value → Option Int) (w : World) (mv : Value) (kv : List (K × Value)) (k : Nat) (lv : Value) (wr : World) : Prop :=
  ∃ (left : List (K × Value)) (acc : List Int), k = left.length ∧ IterO enc wr w.heap.size mv kv left ∧ Row wr 2 1 lv acc.length (longs acc) ∧ (acc ++ left.filterMap f).Perm (kv.filterMap f) ∧ (∀ p ∈ left, p ∈ kv) ∧ Keeps (fun _ => False) w wr ∧ w.heap.size < wr.heap.size ∧ ∀ g, lv.ownBlock = some g → w.heap.size < g
theorem perm_erase {K : Type} {l : List K} {j : Nat} {p : K} (h : l[j]? = some p) : (p :: l.eraseIdx j).Perm l := by
  obtain ⟨hj, rfl⟩ := List.getElem?_eq_some_iff.1 h
  have e : l.take j ++ l[j] :: l.drop (j + 1) = l := by rw [← List.drop_eq_getElem_cons hj]; exact List.take_append_drop j l
  rw [List.eraseIdx_eq_take_drop_succ]
  conv => rhs; rw [← e]
  exact List.perm_middle.symm
theorem coll_some {K : Type} {f : K × Value → Option Int} {left : List (K × Value)} {acc : List Int} {kv : List (K × Value)} {j : Nat} {p : K × Value} {x : Int} (h : left[j]? = some p) (hf : f p = some x) (hp : (acc ++ left.filterMap f).Perm (kv.filterMap f)) : ((acc ++ [x]) ++ (left.eraseIdx j).filterMap f).Perm (kv.filterMap f) := by
  refine List.Perm.trans ?_ hp
  have h1 := (perm_erase h).filterMap f
  rw [List.filterMap_cons, hf] at h1
  rw [List.append_assoc]
  exact (List.Perm.append_left acc h1)
theorem coll_none {K : Type} {f : K × Value → Option Int} {left : List (K × Value)} {acc : List Int} {kv : List (K × Value)} {j : Nat} {p : K × Value} (h : left[j]? = some p) (hf : f p = none) (hp : (acc ++ left.filterMap f).Perm (kv.filterMap f)) : (acc ++ (left.eraseIdx j).filterMap f).Perm (kv.filterMap f) := by
  refine List.Perm.trans ?_ hp
  have h1 := (perm_erase h).filterMap f
  rw [List.filterMap_cons, hf] at h1
  exact (List.Perm.append_left acc h1)
theorem coll_len {K : Type} {f : K × Value → Option Int} {left : List (K × Value)} {acc : List Int} {kv : List (K × Value)} {j : Nat} {p : K × Value} {x : Int} (h : left[j]? = some p) (hf : f p = some x) (hp : (acc ++ left.filterMap f).Perm (kv.filterMap f)) : acc.length + 1 ≤ kv.length := by
  have h1 := (coll_some h hf hp).length_eq
  simp only [List.length_append, List.length_cons, List.length_nil] at h1
  have h2 := List.length_filterMap_le f kv
  omega
theorem erase_len {K : Type} {l : List K} {j : Nat} {p : K} (h : l[j]? = some p) : (l.eraseIdx j).length < l.length := by
  obtain ⟨hj, _⟩ := List.getElem?_eq_some_iff.1 h
  rw [List.length_eraseIdx]; rw [if_pos hj]; omega
theorem erase_sub {K : Type} {l m : List K} {j : Nat} (h : ∀ p ∈ l, p ∈ m) : ∀ p ∈ l.eraseIdx j, p ∈ m := fun p hp => h p ((List.eraseIdx_sublist _ _).subset hp)
theorem rowKeep {w wr w0 w4 : World} {lv v' : Value} {e : TypeId} {n : Nat} {xs : List Value} (hk : Keeps (fun _ => False) w wr) (hown : ∀ g, lv.ownBlock = some g → w.heap.size < g) (hsz : w.heap.size < wr.heap.size) (k0 : Keeps (fun _ => False) wr w0) (ha : Appended w0 w4 e 1 lv v' n xs) :
    Keeps (fun _ => False) w w4 ∧ w.heap.size < w4.heap.size ∧ (∀ g, v'.ownBlock = some g → w.heap.size < g) ∧ Keeps (fun g => w.heap.size < g) wr w4 := by
  have h1 : Keeps (fun _ => False) w w0 := hk.trans k0 fun _ _ h => h
  have s0 := k0.size
  have s4 := ha.keeps.size
  refine ⟨h1.trans ha.keeps fun g hg ho => ?_, by omega, fun g hg => ?_, (k0.mono (T := fun g => w.heap.size < g) fun _ _ h => h.elim).trans ha.keeps fun g _ ho => hown g ho⟩
  · have := hown g ho; omega
  · rcases ha.own with ho | ⟨ho, _⟩
    · rw [ho] at hg; exact hown g hg
    · rw [ho] at hg; simp at hg; subst hg; omega
end Go.Tx
namespace Go.Proofs.Ytkdlhpddcpjpaaa
open Go.RowKit Go.Tx
theorem info_i64 : (Try.prog.info? 2).map (fun i => (i.zero, i.size, i.bytes)) = some (some (.int .i64 0), 1, 8) := by kernel_rfl
theorem sort_row {w : World} {v : Value} {zs : List Int} {n : Nat} (h : Row w 2 1 v n (longs zs)) (hl : zs.length < 4611686018427387904) :
    Calls Try.prog 18 #[v] w fun e w' => e = .returned (.tuple #[]) ∧ Row w' 2 1 v n (longs (sortI zs)) ∧ Keeps (Own v) w w' := by
  have hn : zs.length = n := by have := h.1; simpa [longs] using this
  by_cases h0 : n = 0
  · subst h0
    obtain rfl : zs = [] := List.eq_nil_of_length_eq_zero hn
    obtain ⟨a, cap, rfl, _, _⟩ := h.len
    refine (Try.sort_int64_none a cap w).mono ?_
    rintro e w' ⟨rfl, rfl⟩
    exact ⟨rfl, by simpa [sortI] using h, Keeps.refl _ _⟩
  · obtain ⟨g, cap, rfl, hc, hm⟩ := h.form (by omega)
    have hg : g < w.heap.size := h.lt rfl
    have hc := Try.sort_int64 g 0 cap zs w (row_holds h) hg hl
    rw [hn] at hc
    refine hc.mono ?_
    rintro e w' ⟨rfl, k, os, rfl⟩
    have := row_sorted h (ds := zs.mergeSort fun x y => decide (x ≤ y)) (by rw [List.length_mergeSort]; exact hn) k os
    exact ⟨rfl, this.1, this.2.mono fun b _ hb => by subst hb; rfl⟩

set_option maxRecDepth 100000 in
set_option maxHeartbeats 800000 in
theorem watchers_any {w : World} {b : Nat} {N : NM} {S : Nat → Prop} (h : IsNet w b N S) (hlen : N.ws.length ≤ 8796093022208) (a : Int) :
    Calls Try.prog 10 #[.pointer (some ⟨b, 0, none⟩), .int .i64 a] w (LongsPost w b N S (N.watchers a)) := by
  have HN := Lib.hid h
  obtain ⟨lv, wv, h⟩ := h
  obtain ⟨o, rfl⟩ := h.mw.form
  have hbs := h.lt b h.sb
  have c1 : w.cell? ⟨b, 1, none⟩ = some (.map o) := h.blk.cell (i := 1) rfl
  have HM := Lib.hid h.mw
  obtain ⟨F, hF⟩ : ∃ F : Int × Value → Option Int, F = fun p => match p.2 with | .agg ⟨[_, .int _ m]⟩ => if m = a then some p.1 else none | _ => none := ⟨_, rfl⟩
  have HF : Hid (∀ r x y, F (r, .agg #[.int .i64 x, .int .i64 y]) = if y = a then some r else none) := Lib.hid fun r x y => by rw [hF]
  have HW : Hid ((wsKV N.ws).filterMap F = N.ws.filterMap (NM.seen a)) := Lib.hid (by
    unfold wsKV
    rw [List.filterMap_map]
    congr 1
    funext t
    rw [hF]
    rfl)
  have HB : Hid (∀ p ∈ wsKV N.ws, ∃ r x y, p = (r, .agg #[.int .i64 x, .int .i64 y])) := Lib.hid fun p hp => by
    obtain ⟨t, _, rfl⟩ := List.mem_map.1 hp
    exact ⟨_, _, _, rfl⟩
  have HL : Hid ((wsKV N.ws).length ≤ 8796093022208) := Lib.hid (by rw [wsKV_length]; exact hlen)
  have HL2 : Hid (∀ acc : List Int, acc.Perm ((wsKV N.ws).filterMap F) → acc.length < 4611686018427387904) := Lib.hid fun acc hp => by
    have h1 := hp.length_eq
    have h2 := List.length_filterMap_le F (wsKV N.ws)
    rw [wsKV_length] at h2
    omega
  clear h hlen hF
  go_enter Try.func10, Try.ntmps10
  go_wp2_with (at_range; refine Stop.out ?_)
  refine ⟨?_⟩
  refine wpList_range_o rfl _ 25 rfl 2 51 Try.underlying25 (.map o) rfl HM.out ?_
  intro w1 hi1 hk1 hs1
  have HI := Lib.hid hi1
  have HK := Lib.hid hk1
  have HS := Lib.hid hs1
  clear hi1 hk1 hs1
  go_simp
  go_wp2
  go_loopg [5] (wsKV N.ws).length (fun k lv wr => CollAt longKey F w (.map o) (wsKV N.ws) k lv wr)
  case atStart => exact ⟨_, [], rfl, HI.out, World.ownsRow_nil _ _ _ _, by simp, fun _ h => h, HK.out, by rw [HS.out]; omega, fun g hg => by simp [Value.ownBlock] at hg⟩
  case round =>
    obtain ⟨left, acc, rfl, hit, hr, hperm, hsub, hkp, hsz, hown⟩ := hrel
    have HIt := Lib.hid hit
    have HR := Lib.hid hr
    have HP := Lib.hid hperm
    have HKp := Lib.hid hkp
    have HO := Lib.hid hown
    have HSub := Lib.hid hsub
    have HSz := Lib.hid hsz
    clear hit hr hperm hkp hown hsub hsz
    go_wp2_with (at_next; refine Stop.out ?_)
    refine ⟨?_⟩
    refine wpList_next_o rfl _ rfl w.heap.size (.map o) rfl HIt.out ?_ ?_
    · intro hl
      subst hl
      go_wp2_with (go_at_call 18; refine Stop.out ?_)
      have hp : acc.Perm (N.ws.filterMap (NM.seen a)) := by
        have := HP.out
        rw [HW.out] at this
        simpa using this
      refine ⟨(sort_row HR.out (HL2.out acc (by have := HP.out; simpa using this))).mono ?_⟩
      rintro e w2 ⟨rfl, hr2, hk2⟩
      rw [sortI_of_perm hp] at hr2
      have hlen : acc.length = (N.watchers a).length := by rw [hp.length_eq]; exact (sortI_length _).symm
      rw [hlen] at hr2
      have hk3 : Keeps (fun _ => False) w w2 := HKp.out.trans hk2 fun g hg ho => by have := HO.out g ho; omega
      have HFin : Hid (LongsPost w b N S (N.watchers a) (.returned u5) w2) := Lib.hid ⟨_, rfl, hr2, HN.out.keeps hk3 fun _ _ h => h, hk3, fun g hg => Nat.le_of_lt (HO.out g hg)⟩
      clear hr2 hk2 hk3 hp hlen
      go_wp2
      go_ret
      exact HFin.out
    · intro j p w2 hj hi2 hk2 hs2 hen
      obtain ⟨r, x, y, rfl⟩ := HB.out p (HSub.out p (List.mem_of_getElem? hj))
      have HJ := Lib.hid hj
      have HI2 := Lib.hid hi2
      have HEN := Lib.hid hen
      have hsz2 : w.heap.size < w2.heap.size := by rw [hs2]; exact HSz.out
      have HK2 : Hid (Keeps (fun _ => False) w w2) := Lib.hid (HKp.out.trans hk2 fun g hg e => by omega)
      have HR2 : Hid (Row w2 2 1 u5 acc.length (longs acc)) := Lib.hid (HR.out.keeps hk2 fun g hg e => by have := HO.out g hg; omega)
      clear hj hi2 hk2 hs2 hen
      have hfx := HF.out r x y
      by_cases hy : y = a
      · subst hy
        rw [if_pos rfl] at hfx
        have HFX := Lib.hid hfx
        have hal := coll_len HJ.out hfx HP.out
        have hal2 := HL.out
        clear hfx
        go_wp2_with (first | (show wpList _ _ _ (⟨_, Op.entry _, _, _, _, _⟩ :: _) _ _; refine wpList_entry_kv rfl _ rfl w.heap.size (r, .agg #[.int .i64 x, .int .i64 y]) rfl HEN.out ?_; simp only [longKey]) | (at_builtin; go_must (refine wpList_append_row _ rfl _ _ 33 33 rfl 2 (.slice 2) 1 8 (.int .i64 0) info_i64 Try.underlying33 Try.underlying33 (by intro k h; cases h) rfl u5 acc.length (longs acc) rfl (HR2.out.keeps (S := fun _ => False) (by repeat (first | with_reducible exact Keeps.refl _ _ | with_reducible apply Keeps.drew | with_reducible apply Keeps.alloc)) (fun _ _ h => h)) _ 1 [.int .i64 r] rfl rfl (lenOf_slice _ _ _) (firstCells_at _ rfl (oneAt (World.size_alloc ..).symm)) (by intro u hu; simp at hu; subst hu; rfl) (by unfold maxLen; omega) (by omega) ?_); intro v' w4 ha; obtain ⟨va, vc, rfl, _, _⟩ := ha.row.len; obtain ⟨g1, g2, g3, g4⟩ := rowKeep HK2.out HO.out hsz2 (by repeat (first | with_reducible exact Keeps.refl _ _ | with_reducible apply Keeps.drew | with_reducible apply Keeps.alloc)) ha; have HIT : Hid (IterO longKey w4 w.heap.size (.map o) (wsKV N.ws) (left.eraseIdx j)) := Lib.hid (HI2.out.keeps g4 (fun m hm => by have := HM.out.lt hm; omega) (Nat.lt_irrefl _)); have G1 := Lib.hid g1; have G2 := Lib.hid g2; have G3 := Lib.hid g3; have G5 := Lib.hid ha.row; clear g1 g2 g3 g4 ha))
        go_roundg (left.eraseIdx j).length
        case measure => exact erase_len HJ.out
        case rel => exact ⟨left.eraseIdx j, acc ++ [r], rfl, HIT.out, by have := G5.out; rw [longs_snoc] at this; simpa using this, coll_some HJ.out HFX.out HP.out, erase_sub HSub.out, G1.out, G2.out, G3.out⟩
      · rw [if_neg hy] at hfx
        have HFX := Lib.hid hfx
        have hy2 : (y == a) = false := by simpa using hy
        clear hfx
        go_wp2_with (show wpList _ _ _ (⟨_, Op.entry _, _, _, _, _⟩ :: _) _ _; refine wpList_entry_kv rfl _ rfl w.heap.size (r, .agg #[.int .i64 x, .int .i64 y]) rfl HEN.out ?_; simp only [longKey])
        go_roundg (left.eraseIdx j).length
        case measure => exact erase_len HJ.out
        case rel => exact ⟨left.eraseIdx j, acc, rfl, HI2.out.keeps (S := fun _ => False) (by repeat (first | with_reducible exact Keeps.refl _ _ | with_reducible apply Keeps.drew | with_reducible apply Keeps.alloc)) (fun _ _ h => h) (fun h => h), HR2.out.keeps (S := fun _ => False) (by repeat (first | with_reducible exact Keeps.refl _ _ | with_reducible apply Keeps.drew | with_reducible apply Keeps.alloc)) (fun _ _ h => h), coll_none HJ.out HFX.out HP.out, erase_sub HSub.out, HK2.out.trans (T := fun _ => False) (by repeat (first | with_reducible exact Keeps.refl _ _ | with_reducible apply Keeps.drew | with_reducible apply Keeps.alloc)) (fun _ _ h => h), by simp; omega, HO.out⟩
end Go.Proofs.Ytkdlhpddcpjpaaa

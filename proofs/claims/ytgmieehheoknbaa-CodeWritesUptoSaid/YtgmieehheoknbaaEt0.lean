/-
  A term's bytes, as plain data.
-/
import Derived.Test.YtgmieehheoknbaaEn
import Derived.Test.YtgmieehheoknbaaCq
namespace Go.Tx
open Go Go.RowKit
mutual
/-- a term's bytes -/
def encT : Tm → List UInt8
  | .mk k n s is rs bs => UInt8.ofNat k.toNat :: (if k = 1 ∨ k = 3 ∨ k = 4 then encS n else if k = 2 then encB s else if k = 8 then encB bs else if k = 6 then []
      else encN is.length ++ encTs is ++ (if k = 7 then encN rs.length ++ encTs rs else []))
def encTs : List Tm → List UInt8
  | [] => []
  | t :: l => encT t ++ encTs l
end
theorem encTs_append (l r : List Tm) : encTs (l ++ r) = encTs l ++ encTs r := by
  induction l with
  | nil => simp [encTs]
  | cons t l ih => simp [encTs, ih]
theorem encTs_take {l : List Tm} {i : Nat} {t : Tm} (h : l[i]? = some t) : encTs (l.take (i + 1)) = encTs (l.take i) ++ encT t := by
  rw [List.take_add_one, h, encTs_append]
  simp [encTs]
theorem encTs_take_le (l : List Tm) (i : Nat) : (encTs (l.take i)).length ≤ (encTs l).length := by
  have h : encTs l = encTs (l.take i) ++ encTs (l.drop i) := by rw [← encTs_append, List.take_append_drop]
  rw [h, List.length_append]
  omega
mutual
/-- each part has just the fields that its kind has -/
def okT : Tm → Prop
  | .mk k n s is rs bs => (Tm.mk k n s is rs bs).okB = true ∧ okTs is ∧ okTs rs
def okTs : List Tm → Prop
  | [] => True
  | t :: l => okT t ∧ okTs l
end
theorem okTs_mem : ∀ {l : List Tm}, okTs l → ∀ x ∈ l, okT x
  | _ :: _, h, x, hx => by
    rcases List.mem_cons.1 hx with rfl | hx
    · exact h.1
    · exact okTs_mem h.2 x hx
mutual
theorem chk_okT : ∀ (t : Tm) (dep : Int) (st st' : Int × Int), chk t dep st = .ok st' → okT t
  | .mk k n s is rs bs, dep, st, st', h => by
    unfold chk at h
    dsimp only at h
    split at h
    · cases h
    · split at h
      · cases h
      · next h1 =>
        cases hc : chks is (dep + 1) (st.1 + 1, st.2 + (Tm.mk k n s is rs bs).binSize) with
        | error y => rw [hc] at h; cases h
        | ok st2 =>
          rw [hc] at h
          exact ⟨by simpa using h1, chks_okT is _ _ _ hc, chks_okT rs _ _ _ h⟩
theorem chks_okT : ∀ (l : List Tm) (dep : Int) (st st' : Int × Int), chks l dep st = .ok st' → okTs l
  | [], _, _, _, _ => True.intro
  | t :: l, dep, st, st', h => by
    unfold chks at h
    cases hc : chk t dep st with
    | error y => rw [hc] at h; cases h
    | ok st2 =>
      rw [hc] at h
      exact ⟨chk_okT t _ _ _ hc, chks_okT l _ _ _ h⟩
end
theorem right_okT {t : Tm} (h : rightTm t = none) : okT t := by
  unfold rightTm at h
  cases hc : chk t 1 (0, 0) with
  | error x => rw [hc] at h; cases h
  | ok st => exact chk_okT t _ _ _ hc
theorem encT_five (n : Int) (s bs : ByteArray) (is rs : List Tm) : encT (.mk 5 n s is rs bs) = UInt8.ofNat 5 :: (encN is.length ++ encTs is) := by
  rw [encT]
  simp
theorem encT_seven (n : Int) (s bs : ByteArray) (is rs : List Tm) : encT (.mk 7 n s is rs bs) = UInt8.ofNat 7 :: (encN is.length ++ encTs is ++ (encN rs.length ++ encTs rs)) := by
  rw [encT]
  simp
theorem encTs_next {l : List Tm} {i : Nat} {t : Tm} (h : l[i]? = some t) : (encTs (l.take i)).length + (encT t).length ≤ (encTs l).length := by
  have := encTs_take_le l (i + 1)
  rw [encTs_take h, List.length_append] at this
  exact this
theorem okT_rest {n : Int} {s bs : ByteArray} {is rs : List Tm} (h : okT (.mk 7 n s is rs bs)) : rs.length ≤ 1 := by
  have h := h.1
  unfold Tm.okB okF at h
  simp [Tm.kind, Tm.rest] at h
  omega
theorem Grown.notS {w w' : World} {v v' : Value} {S : Nat → Prop} (h : Grown w w' v v') (hS : ∀ x, S x → x < w.heap.size) (hv : ∀ g, v.ownBlock = some g → ¬ S g) : ∀ g, v'.ownBlock = some g → ¬ S g := fun g hg hs => by
  rcases h.own with e | e
  · exact hv g (e ▸ hg) hs
  · have := e g hg
    have := hS g hs
    omega
theorem byte_len {n : Nat} (h : n ≤ 1) : [Value.int .u8 (n : Int)] = byteV (encN n) := byte_small (by omega)
theorem TmD.slices {w : World} {S : Nat → Prop} {d : Nat} {t : Tm} {vi vr vb : Value} (h : TmD w S d (t.val vi vr vb) t) : ∃ a3 k3 a4 k4 a5 k5, vi = .slice a3 t.items.length k3 ∧ vr = .slice a4 t.rest.length k4 ∧ vb = .slice a5 t.bytes.size k5 := by
  cases d with
  | zero => exact h.elim
  | succ d =>
    obtain ⟨y3, y4, y5, e, _, _, h3, h4, h5⟩ := h
    have e' : vi = y3 ∧ vr = y4 ∧ vb = y5 := by simpa [Tm.val] using e
    obtain ⟨rfl, rfl, rfl⟩ := e'
    obtain ⟨_, _, rfl⟩ := h3.form
    obtain ⟨_, _, rfl⟩ := h4.form
    obtain ⟨_, _, rfl⟩ := h5.form
    exact ⟨_, _, _, _, _, _, rfl, rfl, rfl⟩
theorem okB_kinds {t : Tm} (h : t.okB = true) : t.kind = 1 ∨ t.kind = 2 ∨ t.kind = 3 ∨ t.kind = 4 ∨ t.kind = 5 ∨ t.kind = 6 ∨ t.kind = 7 ∨ t.kind = 8 := by
  unfold Tm.okB okF at h
  split at h
  · omega
  split at h
  · omega
  split at h
  · omega
  split at h
  · omega
  split at h
  · omega
  split at h
  · omega
  split at h
  · omega
  split at h
  · omega
  · cases h
theorem wrap_u8k (K : Int) (h0 : 0 ≤ K) (h1 : K < 256) : IntKind.u8.wrap K = K := by rw [wrap_u8]; omega
end Go.Tx

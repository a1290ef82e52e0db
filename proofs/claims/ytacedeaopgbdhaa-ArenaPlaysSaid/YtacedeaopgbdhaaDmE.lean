import Derived.Test.YtacedeaopgbdhaaDbG
import Derived.Test.YtacedeaopgbdhaaDmC
import Derived.Test.YtacedeaopgbdhaaPl
section
/-
  The arena and the document's side by side: what the law's loop holds of; SameInts: what the Go code does.
-/
namespace Go.Tx
open Go Go.RowKit
theorem Like.small {A : AM} {D : DM} (h : Like A D) (hA : A.Ok) : D.Small := by
  have e1 := h.half.size
  have e2 := h.half.quota
  have e3 := h.half.top
  have e4 := h.half.used
  have a1 := hA.size
  have a2 := hA.quota
  have a3 := hA.top
  have a4 := hA.usedq
  have hmem : ∀ x ∈ D.taken, (x.pos + 1, x.cls, x.len) ∈ A.taken := fun x hx => h.perm.mem_iff.1 (List.mem_map.2 ⟨x, hx, rfl⟩)
  refine ⟨by omega, by omega, by omega, by omega, fun k hk => h.half.free.high k hk, fun k p hp => ?_, fun k => ?_, ?_, fun x hx => ?_, fun x hx => ?_, fun x hx => ?_⟩
  · by_cases hk : k < 22
    · rw [h.half.free.low k hk, List.mem_reverse] at hp
      have := hA.free k hk p hp
      omega
    · rw [h.half.free.high k (by omega)] at hp
      cases hp
  · by_cases hk : k < 22
    · rw [h.half.free.low k hk, List.length_reverse]
      have := AM.len_le A k hk
      have := hA.sum
      omega
    · rw [h.half.free.high k (by omega)]
      simp
  · have := h.perm.length_eq
    rw [List.length_map] at this
    have := AM.taken_len hA
    omega
  · have := hA.taken _ (hmem x hx)
    simp only at this
    omega
  · have := hA.taken _ (hmem x hx)
    simp only at this
    omega
  · have h1 := hA.taken _ (hmem x hx)
    have h2 := (AM.give_ok hA (hmem x hx)).2
    have hu2 : pw x.cls ≤ A.used := Nat.le.intro ((Nat.add_comm _ _).trans h2)
    exact ⟨h1.2.1, by rw [e4]; exact hu2⟩
theorem nums_get {l : List Int} {i : Nat} {x : Int} (h : l[i]? = some x) : (nums l)[i]? = some (.int .i64 x) := by simp [nums, h]
def SIntsAt (w : World) (n : Nat) (v : Value) (wr : World) : Prop := ∃ i : Nat, v = .int .i64 i ∧ i ≤ n ∧ Keeps (fun _ => False) w wr
/-- the law's arenas and its row of names -/
structure Play (w : World) (o b d : Nat) (rv : Value) (ns : List Nat) (A : AM) (D : DM) (S T : Nat → Prop) (wr : World) : Prop where
  on : Blk wr o 57 [.pointer (some ⟨b, 0, none⟩), .pointer (some ⟨d, 0, none⟩), rv]
  ar : IsArena wr b A S
  doc : IsDoc wr d D T
  row : Row wr 3 1 rv ns.length (ints ns)
  st : ∀ g, S g → ¬ T g
  so : ¬ S o
  to : ¬ T o
  sr : ∀ g, rv.ownBlock = some g → ¬ S g ∧ ¬ T g
  new : ∀ g, S g ∨ T g ∨ g = o ∨ rv.ownBlock = some g → w.heap.size ≤ g
  keep : Keeps (fun _ => False) w wr
section
variable {w wr w' : World} {o b d : Nat} {rv : Value} {ns : List Nat} {A B : AM} {D E : DM} {S T : Nat → Prop}
theorem Play.read (h : Play w o b d rv ns A D S T wr) (k : Keeps (fun _ => False) wr w') : Play w o b d rv ns A D S T w' :=
  ⟨h.on.keeps k id, h.ar.keeps k fun _ _ h => h, h.doc.keeps k fun _ _ h => h, h.row.keeps k fun _ _ h => h, h.st, h.so, h.to, h.sr, h.new, h.keep.trans k fun _ _ h => h⟩
/-- a call at the arena -/
theorem Play.arena (h : Play w o b d rv ns A D S T wr) (ha : IsArena w' b B (Ext S wr w')) (k : Keeps S wr w') : Play w o b d rv ns B D (Ext S wr w') T w' := by
  have ho := h.on.lt
  have k1 := h.keep.size
  have hr : ∀ g, rv.ownBlock = some g → g < wr.heap.size := fun g hg => h.row.lt hg
  refine ⟨h.on.keeps k h.so, ha, h.doc.keeps k fun g hg hs => h.st g hs hg, h.row.keeps k fun g hg => (h.sr g hg).1, fun g hg ht => ?_, fun hs => ?_, h.to, fun g hg => ⟨fun hs => ?_, (h.sr g hg).2⟩, fun g hg => ?_, h.keep.trans k fun g hg hs => by have := h.new g (.inl hs); omega⟩
  · rcases hg with hg | hg
    · exact h.st g hg ht
    · have := h.doc.lt g ht; have := hg.1; omega
  · rcases hs with hs | hs
    · exact h.so hs
    · have := hs.1; omega
  · rcases hs with hs | hs
    · exact (h.sr g hg).1 hs
    · have := hr g hg; have := hs.1; omega
  · rcases hg with (hg | hg) | hg
    · exact h.new g (.inl hg)
    · have := hg.1; omega
    · exact h.new g (.inr hg)
/-- a call at the document's -/
theorem Play.docs (h : Play w o b d rv ns A D S T wr) (hd : IsDoc w' d E (Ext T wr w')) (k : Keeps T wr w') : Play w o b d rv ns A E S (Ext T wr w') w' := by
  have ho := h.on.lt
  have k1 := h.keep.size
  have hr : ∀ g, rv.ownBlock = some g → g < wr.heap.size := fun g hg => h.row.lt hg
  refine ⟨h.on.keeps k h.to, h.ar.keeps k fun g hg ht => h.st g hg ht, hd, h.row.keeps k fun g hg => (h.sr g hg).2, fun g hg ht => ?_, h.so, fun hs => ?_, fun g hg => ⟨(h.sr g hg).1, fun hs => ?_⟩, fun g hg => ?_, h.keep.trans k fun g hg hs => by have := h.new g (.inr (.inl hs)); omega⟩
  · rcases ht with ht | ht
    · exact h.st g hg ht
    · have := h.ar.lt g hg; have := ht.1; omega
  · rcases hs with hs | hs
    · exact h.to hs
    · have := hs.1; omega
  · rcases hs with hs | hs
    · exact (h.sr g hg).2 hs
    · have := hr g hg; have := hs.1; omega
  · rcases hg with hg | (hg | hg) | hg
    · exact h.new g (.inl hg)
    · exact h.new g (.inr (.inl hg))
    · have := hg.1; omega
    · exact h.new g (.inr (.inr hg))
/-- no block is new -/
theorem Play.same (h : Play w o b d rv ns A D S T wr) (ha : IsArena w' b B S) (k : Keeps S wr w') : Play w o b d rv ns B D S T w' :=
  ⟨h.on.keeps k h.so, ha, h.doc.keeps k fun g hg hs => h.st g hs hg, h.row.keeps k fun g hg => (h.sr g hg).1, h.st, h.so, h.to, h.sr, h.new, h.keep.trans k fun g hg hs => by have := h.new g (.inl hs); omega⟩
theorem Play.sameD (h : Play w o b d rv ns A D S T wr) (hd : IsDoc w' d E T) (k : Keeps T wr w') : Play w o b d rv ns A E S T w' :=
  ⟨h.on.keeps k h.to, h.ar.keeps k fun g hg ht => h.st g hg ht, hd, h.row.keeps k fun g hg => (h.sr g hg).2, h.st, h.so, h.to, h.sr, h.new, h.keep.trans k fun g hg hs => by have := h.new g (.inr (.inl hs)); omega⟩
/-- the row of names is turned -/
theorem Play.names (h : Play w o b d rv ns A D S T wr) {w1 : World} {v : Value} {ms : List Nat} (k : Keeps (Own rv) wr w1) (hr : Row w1 3 1 v ms.length (ints ms)) (hv : ∀ g, v.ownBlock = some g → rv.ownBlock = some g ∨ wr.heap.size ≤ g) :
    Play w o b d v ms A D S T (w1.setCell ⟨o, 2, none⟩ v) ∧ w1.cell? ⟨o, 2, none⟩ = some rv ∧ w1.frozen? ⟨o, 2, none⟩ = false := by
  have ho := h.on.lt
  have hro : ∀ g, rv.ownBlock = some g → o ≠ g := fun g hg => h.on.ne_row h.row (by decide) hg
  have on1 := h.on.keeps k fun hg => hro o hg rfl
  have hvo : ∀ g, v.ownBlock = some g → g ≠ o := fun g hg e => (on1.ne_row hr (by decide) hg) e.symm
  have K : Keeps (fun x => x = o) w1 (w1.setCell ⟨o, 2, none⟩ v) := Keeps.setCell (Keeps.refl (fun x => x = o) w1) (p := ⟨o, 2, none⟩) (fun _ => rfl) _
  refine ⟨⟨on1.set 2 v, (h.ar.keeps k fun g hg hs => (h.sr g hs).1 hg).keeps K fun g hg e => h.so (e ▸ hg), (h.doc.keeps k fun g hg hs => (h.sr g hs).2 hg).keeps K fun g hg e => h.to (e ▸ hg), hr.keeps K hvo, h.st, h.so, h.to, fun g hg => ?_, fun g hg => ?_, (h.keep.trans k fun g hg hs => by have := h.new g (.inr (.inr (.inr hs))); omega).trans K fun g hg e => by have := h.new o (.inr (.inr (.inl rfl))); omega⟩, on1.cell (i := 2) rfl, on1.free 2⟩
  · rcases hv g hg with hg | hg
    · exact h.sr g hg
    · exact ⟨fun hs => by have := h.ar.lt g hs; omega, fun hs => by have := h.doc.lt g hs; omega⟩
  · rcases hg with hg | hg | hg | hg
    · exact h.new g (.inl hg)
    · exact h.new g (.inr (.inl hg))
    · exact h.new g (.inr (.inr (.inl hg)))
    · rcases hv g hg with hg | hg
      · exact h.new g (.inr (.inr (.inr hg)))
      · have := h.keep.size; omega
end
/-- both arenas, alike -/
def Plays (w : World) (o n : Nat) (wr : World) : Prop := ∃ b d rv ns A D S T, Play w o b d rv ns A D S T wr ∧ Like A D ∧ A.Ok ∧ ns.length ≤ n
end Go.Tx
namespace Go.Proofs.Ytacedeaopgbdhaa
open Go.RowKit Go.Tx
set_option maxRecDepth 100000 in
set_option maxHeartbeats 400000 in
theorem sameInts_eq {w : World} {x y : Value} {l : List Int} {n : Nat} (hx : Row w 3 1 x n (nums l)) (hy : Row w 3 1 y n (nums l)) :
    Calls Try.prog 41 #[x, y] w fun e w' => e = .returned (.bool true) ∧ Keeps (fun _ => False) w w' := by
  obtain ⟨a, c, rfl, hc, hmc⟩ := hx.len
  obtain ⟨a', c', rfl, hc', hmc'⟩ := hy.len
  have hn : l.length = n := by have := hx.1; simpa [nums] using this
  have HX := Lib.hid hx
  have HY := Lib.hid hy
  have HN := Lib.hid hn
  unfold maxLen at hmc hmc'
  clear hx hy hn
  go_enter Try.func41, Try.ntmps41
  go_wp2
  go_loopw [5] (fun v wr => SIntsAt w n v wr) (fun v _ => n - (intOf v).toNat)
  case atStart => exact ⟨0, rfl, Nat.zero_le _, Keeps.refl _ _⟩
  case round =>
    obtain ⟨i, rfl, hi, hk⟩ := hrel
    have HK := Lib.hid hk
    by_cases hil : i < n
    · obtain ⟨t, hti⟩ : ∃ t, l[i]? = some t := ⟨l[i]'(by rw [HN.out]; exact hil), by simp⟩
      obtain ⟨g, c1, e1, _, _⟩ := HX.out.form (by omega)
      obtain ⟨g', c2, e2, _, _⟩ := HY.out.form (by omega)
      obtain ⟨rfl, rfl⟩ : a = some ⟨g, 0, none⟩ ∧ c = c1 := by cases e1; exact ⟨rfl, rfl⟩
      obtain ⟨rfl, rfl⟩ : a' = some ⟨g', 0, none⟩ ∧ c' = c2 := by cases e2; exact ⟨rfl, rfl⟩
      have x0 := (HX.out.keeps hk (fun _ _ h => h)).cell (nums_get hti)
      have y0 := (HY.out.keeps hk (fun _ _ h => h)).cell (nums_get hti)
      clear e1 e2 hk hti
      go_wp2_with (first | (with_reducible refine wp_region_text (by kernel_rfl) (by kernel_rfl) ?_) | (with_reducible refine text_fin (by kernel_rfl) ?_))
      go_roundw
      case rel => exact ⟨i + 1, by go_num, by omega, HK.out.drew⟩
      case measure => simp [intOf]; omega
    · clear hk
      go_wp2
      go_ret
      exact ⟨rfl, HK.out⟩
end Go.Proofs.Ytacedeaopgbdhaa
end
section
/-
  The law's On: pick; errors alike: what the Go code does.
-/
namespace Go.Tx
open Go Go.RowKit
/-- a call of a script -/
structure OpV where
  kind : Int
  a : Int
  b : Int
  w : Int
  raw : Bool
def opCells (x : OpV) : List Value := [.int .i64 x.kind, .int .i64 x.a, .int .i64 x.b, .int .u64 x.w, .bool x.raw]
def opVal (x : OpV) : Value := .agg #[.int .i64 x.kind, .int .i64 x.a, .int .i64 x.b, .int .u64 x.w, .bool x.raw]
def PickPost (w : World) (e : Ending) (w' : World) : Prop := ∃ p : Int, e = .returned (.int .i64 p) ∧ Keeps (fun _ => False) w w'
/-- the numbers are the machine's -/
structure OpV.In (x : OpV) : Prop where
  k1 : -9223372036854775808 ≤ x.kind
  k2 : x.kind ≤ 9223372036854775807
  a1 : -9223372036854775808 ≤ x.a
  a2 : x.a ≤ 9223372036854775807
end Go.Tx
namespace Go.Proofs.Ytacedeaopgbdhaa
open Go.RowKit Go.Tx
theorem ref_same {w : World} {E E' : Nat → Prop} {v u : Value} {l : List (ByteArray × Int)} {k : Int} (h : IsErr w E v l k) (h' : IsX w E' u l k) (hk : k ≠ 0) (hl : l.length ≤ 9000) :
    Calls Try.prog 32 #[v, u] w fun e w' => e = .returned (.bool true) ∧ Keeps (fun _ => False) w w' := by
  refine (ref_any (o := some (l, k)) (o' := some (l, k)) ⟨h, hl⟩ ⟨h', hl⟩).mono ?_
  rintro e w' ⟨rfl, hk2⟩
  refine ⟨?_, hk2⟩
  simp [fineO, hk]
theorem ref_nil (w : World) : Calls Try.prog 32 #[.nilIface, .pointer none] w fun e w' => e = .returned (.bool true) ∧ Keeps (fun _ => False) w w' := by
  refine (ref_any (w := w) (E := fun _ => False) (E' := fun _ => False) (o := none) (o' := none) rfl rfl).mono ?_
  rintro e w' ⟨rfl, hk2⟩
  exact ⟨rfl, hk2⟩
set_option maxRecDepth 100000 in
set_option maxHeartbeats 800000 in
theorem pick_any {w : World} {o b d : Nat} {rv : Value} {ns : List Nat} (h : Blk w o 57 [.pointer (some ⟨b, 0, none⟩), .pointer (some ⟨d, 0, none⟩), rv]) (hr : Row w 3 1 rv ns.length (ints ns)) (hn : ns.length ≤ 8796093022208) (x : OpV) (hx : x.In) :
    Calls Try.prog 33 #[.pointer (some ⟨o, 0, none⟩), opVal x] w (PickPost w) := by
  obtain ⟨kind, xa, xb, xw, raw⟩ := x
  obtain ⟨_, _, a1, a2⟩ := hx
  simp only at a1 a2
  unfold opVal
  simp only
  obtain ⟨ra, rc, rfl, hc, hm⟩ := hr.len
  have c2 : w.cell? ⟨o, 2, none⟩ = some (.slice ra ns.length rc) := h.cell (i := 2) rfl
  unfold maxLen at hm
  cases raw with
  | true =>
    clear h hr
    go_enter Try.func33, Try.ntmps33
    go_wp2_with (first | (with_reducible refine wp_region_text (by kernel_rfl) (by kernel_rfl) ?_) | (with_reducible refine text_fin (by kernel_rfl) ?_))
    go_ret
    exact ⟨xa, rfl, (by repeat (first | with_reducible exact Keeps.refl _ _ | with_reducible apply Keeps.drew | with_reducible apply Keeps.alloc))⟩
  | false =>
    by_cases h0 : ns.length = 0
    · rw [h0] at c2
      have c3 : ∀ ob, (w.alloc ob).cell? ⟨o, 2, none⟩ = some (.slice ra 0 rc) := fun ob => Keeps.cell ((Keeps.refl (fun _ => False) w).alloc ob) c2 id
      clear h hr
      go_enter Try.func33, Try.ntmps33
      go_wp2_with (first | (with_reducible refine wp_region_text (by kernel_rfl) (by kernel_rfl) ?_) | (with_reducible refine text_fin (by kernel_rfl) ?_))
      go_ret
      exact ⟨xa, rfl, (by repeat (first | with_reducible exact Keeps.refl _ _ | with_reducible apply Keeps.drew | with_reducible apply Keeps.alloc))⟩
    · have hpos : (0 : Int) < (ns.length : Nat) := by omega
      have m1 := Int.emod_lt_of_pos xa hpos
      have m2 := Int.emod_nonneg xa (Int.ne_of_gt hpos)
      obtain ⟨j, hj⟩ : ∃ j : Nat, xa % ((ns.length : Nat) : Int) = (j : Nat) := ⟨(xa % ((ns.length : Nat) : Int)).toNat, by omega⟩
      have hjl : j < ns.length := by omega
      obtain ⟨q, hq⟩ : ∃ q, ns[j]? = some q := ⟨ns[j]'hjl, by simp⟩
      obtain ⟨g, rc2, e, _, _⟩ := hr.form (by omega)
      obtain ⟨rfl, rfl⟩ : ra = some ⟨g, 0, none⟩ ∧ rc = rc2 := by cases e; exact ⟨rfl, rfl⟩
      have cj : w.cell? ⟨g, j, none⟩ = some (.int .i64 (q : Nat)) := hr.cell (by simp [ints, hq])
      have HHo : Hid (∀ V, Keeps (fun _ => False) w V → V.cell? ⟨o, 2, none⟩ = some (.slice (some ⟨g, 0, none⟩) ns.length rc)) := Lib.hid fun V hk => hk.cell c2 id
      have HPL : Hid (∀ W, Calls Try.prog 9 #[.int .i64 xa, .int .i64 (ns.length : Nat)] W fun e w' => e = .returned (.int .i64 (j : Nat)) ∧ W = w') := Lib.hid fun W => (place_any xa (ns.length : Nat) hpos (by omega) a1 a2 W).mono fun e w' ⟨h1, h2⟩ => ⟨by rw [h1, hj], h2⟩
      have c3 : ∀ ob, (w.alloc ob).cell? ⟨o, 2, none⟩ = some (.slice (some ⟨g, 0, none⟩) ns.length rc) := fun ob => Keeps.cell ((Keeps.refl (fun _ => False) w).alloc ob) c2 id
      have c4 : ∀ ob, (w.alloc ob).cell? ⟨g, j, none⟩ = some (.int .i64 (q : Nat)) := fun ob => Keeps.cell ((Keeps.refl (fun _ => False) w).alloc ob) cj id
      clear h hr m1 m2 hj hq e
      go_enter Try.func33, Try.ntmps33
      go_wp2_with (first | (show Code.wp _ (Code.region 3 _ _) _ _ _; refine Stop.out ?_) | (with_reducible refine wp_region_text (by kernel_rfl) (by kernel_rfl) ?_) | (with_reducible refine text_fin (by kernel_rfl) ?_))
      refine ⟨?_⟩
      refine Tc.wp_region_held_text (fun V => V.cell? ⟨o, 2, none⟩ = some (.slice (some ⟨g, 0, none⟩) ns.length rc)) [3] (by kernel_rfl) (by kernel_rfl) (HHo.out _ (by repeat (first | with_reducible exact Keeps.refl _ _ | with_reducible apply Keeps.drew | with_reducible apply Keeps.alloc))) ?_
      go_wp2_with (first | (refine Tc.wpH_load rfl _ _ rfl _ rfl rfl _ _ rfl (fun _ h => h) (HHo.out _ (by repeat (first | with_reducible exact Keeps.refl _ _ | with_reducible apply Keeps.drew | with_reducible apply Keeps.alloc))) ?_) | (refine Tc.wpH_walk rfl rfl ?_) | (refine Tc.held_last rfl ?_) | (refine Tc.held_fin (HHo.out _ (by repeat (first | with_reducible exact Keeps.refl _ _ | with_reducible apply Keeps.drew | with_reducible apply Keeps.alloc))) ?_) | (refine Tc.wpH_nil ?_) | (with_reducible refine Tc.text_fin (by kernel_rfl) ?_) | (go_at_call 9; refine (HPL.out _).mono ?_; rintro e x1 ⟨rfl, rfl⟩))
      go_ret
      exact ⟨_, rfl, (by repeat (first | with_reducible exact Keeps.refl _ _ | with_reducible apply Keeps.drew | with_reducible apply Keeps.alloc))⟩
end Go.Proofs.Ytacedeaopgbdhaa
end
section
/-
  A call at both arenas: they tell alike.
-/
namespace Go.Tx
open Go Go.RowKit
/-- a call at the arena that tells an error, or none -/
def ACall (f : Value → Value) (A : AM) (b : Nat) (S : Nat → Prop) (L : ErrO) (w : World) (e : Ending) (w' : World) : Prop := ∃ v, e = .returned (f v) ∧ IsErrO w' (Fresh w w') v L ∧ IsArena w' b A (Ext S w w') ∧ Keeps S w w'
def DCall (f : Value → Value) (D : DM) (d : Nat) (T : Nat → Prop) (L : ErrO) (w : World) (e : Ending) (w' : World) : Prop := ∃ v, e = .returned (f v) ∧ IsXO w' (Fresh w w') v L ∧ IsDoc w' d D (Ext T w w') ∧ Keeps T w w'
section
variable {A : AM} {D : DM} {w w' : World} {b d : Nat} {S T : Nat → Prop}
theorem IsArena.startA (h : IsArena w b A S) (hl : ∀ g, S g → g < w.heap.size) (h2 : IsArena w' b A S) (k : w.heap.size ≤ w'.heap.size) : IsArena w' b A (Ext S w w') :=
  h2.wider (fun _ h => .inl h) fun g hg => hg.elim (fun hg => Nat.lt_of_lt_of_le (hl g hg) k) fun hg => hg.2
theorem ErrPost.call {f : Value → Value} {l : List (ByteArray × Int)} {k : Int} {e : Ending} (h : IsArena w b A S) (hl : l.length ≤ 9000) (he : ErrPost f l k (fun w' => IsArena w' b A S) w e w') : ACall f A b S (some (l, k)) w e w' := by
  obtain ⟨E, rfl, h1, h2, h3⟩ := he
  exact ⟨E, rfl, ⟨h1, hl⟩, h.startA h.lt h2 h3.size, h3.mono fun _ _ h => h.elim⟩
theorem ACall.none {f : Value → Value} {B : AM} (hl : ∀ g, S g → g < w.heap.size) (h2 : IsArena w' b B S) (k : Keeps S w w') : ACall f B b S .none w (.returned (f .nilIface)) w' :=
  ⟨_, rfl, rfl, h2.wider (fun _ h => .inl h) fun g hg => hg.elim (fun hg => Nat.lt_of_lt_of_le (hl g hg) k.size) fun hg => hg.2, k⟩
theorem XTold.call {f : Value → Value} {l : List (ByteArray × Int)} {k : Int} {v : Value} (h : IsDoc w d D T) (hl : l.length ≤ 9000) (he : XTold w w' v l k) : DCall f D d T (some (l, k)) w (.returned (f v)) w' :=
  ⟨v, rfl, ⟨he.1, hl⟩, h.start he.2, he.2.mono fun _ _ h => h.elim⟩
theorem DCall.none {f : Value → Value} {E : DM} (hl : ∀ g, T g → g < w.heap.size) (h2 : IsDoc w' d E T) (k : Keeps T w w') : DCall f E d T .none w (.returned (f (.pointer none))) w' :=
  ⟨_, rfl, rfl, h2.wider (fun _ h => .inl h) fun g hg => hg.elim (fun hg => Nat.lt_of_lt_of_le (hl g hg) k.size) fun hg => hg.2, k⟩
theorem Like.unique (h : Like A D) {i j : Nat} {x y : DB} (hi : D.taken[i]? = some x) (hj : D.taken[j]? = some y) (e : x.pos = y.pos) : i = j ∧ x = y := by
  have hnd := h.nodup
  have q1 : (D.taken.map fun b => b.pos + 1)[i]? = some (x.pos + 1) := by simp [hi]
  have q2 : (D.taken.map fun b => b.pos + 1)[j]? = some (x.pos + 1) := by simp [hj, e]
  have hil : i < (D.taken.map fun b => b.pos + 1).length := by simpa using (List.getElem?_eq_some_iff.1 hi).1
  have hij := (List.getElem?_inj hil hnd).1 (q1.trans q2.symm)
  subst hij
  rw [hi] at hj
  exact ⟨rfl, Option.some.inj hj⟩
theorem AM.wrong_look {op : ByteArray} {p i : Int} {l : List (ByteArray × Int)} {k : Int} (h : A.wrong op p i = some (l, k)) : (A.look p = .none ∧ l = [(op, p)] ∧ k = 3) ∨ ∃ c m, A.look p = some (c, m) ∧ ¬ (0 ≤ i ∧ i < m) ∧ l = [(op, p), (txtIndex, i)] ∧ k = 12 := by
  unfold AM.wrong at h
  cases hl : A.look p with
  | none =>
    rw [hl] at h
    simp at h
    exact .inl ⟨rfl, h.1.symm, h.2.symm⟩
  | some t =>
    obtain ⟨c, m⟩ := t
    rw [hl] at h
    simp only at h
    by_cases hi : 0 ≤ i ∧ i < m
    · rw [if_pos hi] at h; cases h
    · rw [if_neg hi] at h
      simp only [Option.some.injEq, Prod.mk.injEq] at h
      exact .inr ⟨c, m, rfl, hi, h.1.symm, h.2.symm⟩
/-- the same is wrong -/
theorem Like.wrong (h : Like A D) (hA : A.Ok) {op : ByteArray} {p i : Int} {l l' : List (ByteArray × Int)} {k k' : Int} (hw : A.wrong op p i = some (l, k)) (hd : DWrong D op p i l' k') : l' = l ∧ k' = k := by
  rcases AM.wrong_look hw with ⟨hl, rfl, rfl⟩ | ⟨c, m, hl, hi, rfl, rfl⟩
  · rcases hd with ⟨_, rfl, rfl⟩ | ⟨x, hx, hp, _⟩
    · exact ⟨rfl, rfl⟩
    · exact absurd hp (h.none hl x hx)
  · rcases hd with ⟨hno, _⟩ | ⟨x, hx, hp, _, rfl, rfl⟩
    · obtain ⟨j, y, hj, hy, _⟩ := h.look hA hl
      exact absurd hy.symm (hno y (List.mem_of_getElem? hj))
    · exact ⟨rfl, rfl⟩
theorem Like.right (h : Like A D) (hA : A.Ok) {op : ByteArray} {p i : Int} {l' : List (ByteArray × Int)} {k' : Int} (hw : A.wrong op p i = .none) (hd : DWrong D op p i l' k') : False := by
  obtain ⟨c, m, hl, h0, him⟩ := AM.wrong_none hw
  obtain ⟨j, y, hj, hy, _, hm⟩ := h.look hA hl
  rcases hd with ⟨hno, _⟩ | ⟨x, hx, hp, hi, _⟩
  · exact hno y (List.mem_of_getElem? hj) hy.symm
  · obtain ⟨j2, hj2⟩ := List.mem_iff_getElem?.1 hx
    obtain ⟨_, e⟩ := h.unique hj hj2 (by omega)
    subst e
    omega
/-- what is wrong is there -/
theorem Like.bad (h : Like A D) (hA : A.Ok) {op : ByteArray} {p i : Int} {l : List (ByteArray × Int)} {k : Int} (hw : A.wrong op p i = some (l, k)) {j m : Nat} {x : DB} (hj : D.taken[j]? = some x) (hp : ((x.pos + 1 : Nat) : Int) = p) (hi : i = (m : Nat)) (hm : m < x.len) : False := by
  rcases AM.wrong_look hw with ⟨hl, _⟩ | ⟨c, n, hl, hni, _⟩
  · exact h.none hl x (List.mem_of_getElem? hj) hp
  · obtain ⟨j2, y, hj2, hy, _, hn⟩ := h.look hA hl
    obtain ⟨_, e⟩ := h.unique hj hj2 (by omega)
    subst e
    omega
end
/-- two errors are the same, and told -/
def Both (A : AM) (D : DM) (L : ErrO) : Prop := Like A D ∧ A.Ok ∧ fineO L = true
end Go.Tx
namespace Go.Proofs.Ytacedeaopgbdhaa
open Go.RowKit Go.Tx
theorem free_both {A : AM} {D : DM} (hL : Like A D) (hA : A.Ok) (p : Int) : ∃ A' D' L, Both A' D' L ∧
    (∀ V S b, IsArena V b A S → Calls Try.prog 12 #[.pointer (some ⟨b, 0, none⟩), .int .i64 p] V (ACall (fun v => v) A' b S L V)) ∧
    (∀ V T d, IsDoc V d D T → Calls Try.prog 35 #[.pointer (some ⟨d, 0, none⟩), .int .i64 p] V (DCall (fun v => v) D' d T L V)) := by
  have hs := hL.small hA
  rcases hl : A.look p with _ | ⟨c, m⟩
  · refine ⟨A, D, some ([(txtFree, p)], 3), ⟨hL, hA, rfl⟩, fun V S b hV => (free_none hV p hl).mono fun e w' he => ErrPost.call (f := fun E => E) hV (by simp) he, fun V T d hV => (dgive_any hV hs p).mono fun e w' he => ?_⟩
    rcases he with ⟨i, x, rfl, hi, hx, _⟩ | ⟨g, rfl, hno, ht⟩
    · exact absurd hx (hL.none hl x (List.mem_of_getElem? hi))
    · exact XTold.call (f := fun v => v) hV (by simp) ht
  · obtain ⟨i, x, hi, rfl, rfl, rfl⟩ := hL.look hA hl
    have hm := hL.mem hi
    refine ⟨A.give (x.pos + 1) x.cls, D.give i x, none, ⟨hL.give hA hi, (AM.give_ok hA hm).1, rfl⟩, fun V S b hV => (free_some hV hA _ _ _ hm).mono fun e w' he => ⟨_, he.1, rfl, he.2.1, he.2.2⟩, fun V T d hV => (dgive_any hV hs _).mono fun e w' he => ?_⟩
    rcases he with ⟨j, y, rfl, hj, hy, hd, hk⟩ | ⟨g, rfl, hno, ht⟩
    · obtain ⟨rfl, rfl⟩ := hL.unique hi hj (by omega)
      exact ⟨_, rfl, rfl, hd, hk⟩
    · exact absurd rfl (hno x (List.mem_of_getElem? hi))
theorem set_both {A : AM} {D : DM} (hL : Like A D) (hA : A.Ok) (p i x : Int) : ∃ A' D' L, Both A' D' L ∧
    (∀ V S b, IsArena V b A S → Calls Try.prog 18 #[.pointer (some ⟨b, 0, none⟩), .int .i64 p, .int .i64 i, .int .u64 x] V (ACall (fun v => v) A' b S L V)) ∧
    (∀ V T d, IsDoc V d D T → Calls Try.prog 36 #[.pointer (some ⟨d, 0, none⟩), .int .i64 p, .int .i64 i, .int .u64 x] V (DCall (fun v => v) D' d T L V)) := by
  have hs := hL.small hA
  rcases hw : A.wrong txtSet p i with _ | ⟨l, k⟩
  · obtain ⟨c, m, hl, h0, him⟩ := AM.wrong_none hw
    obtain ⟨j, y, hj, rfl, rfl, rfl⟩ := hL.look hA hl
    obtain ⟨n, rfl⟩ : ∃ n : Nat, i = (n : Nat) := ⟨i.toNat, by omega⟩
    have e1 : (((y.pos + 1 : Nat) : Int) + ((n : Nat) : Int)).toNat = y.pos + 1 + n := by omega
    have hlike := hL.set hA hj (k := n) (by omega) x
    refine ⟨A.setWord (y.pos + 1 + n) x, D.setWord j y n x, none, ⟨hlike, AM.setWord_ok hA _ _, rfl⟩, fun V S b hV => (set_some hV hA _ _ x _ _ hl h0 him).mono fun e w' he => ?_, fun V T d hV => (dset_any hV hs.count hs.pos hs.len _ _ x).mono fun e w' he => ?_⟩
    · obtain ⟨rfl, h1, h2⟩ := he
      rw [e1] at h1
      exact ACall.none (f := fun v => v) hV.lt h1 h2
    · rcases he with ⟨j2, n2, z, rfl, hj2, hz, hn2, _, hd, hk⟩ | ⟨g, l, k, rfl, hwr, ht⟩
      · obtain ⟨rfl, rfl⟩ := hL.unique hj hj2 (by omega)
        obtain rfl : n = n2 := by omega
        exact DCall.none (f := fun v => v) hV.lt hd hk
      · exact (hL.right hA hw hwr).elim
  · obtain ⟨n, l', hl'⟩ := AM.wrong_some hw
    have hlen : l.length ≤ 9000 := by rcases AM.wrong_look hw with ⟨_, rfl, _⟩ | ⟨_, _, _, _, rfl, _⟩ <;> simp
    have hfin : fineO (some (l, k)) = true := by rcases AM.wrong_look hw with ⟨_, _, rfl⟩ | ⟨_, _, _, _, _, rfl⟩ <;> rfl
    refine ⟨A, D, some (l, k), ⟨hL, hA, hfin⟩, fun V S b hV => (set_wrong hV p i x hw).mono fun e w' he => ErrPost.call (f := fun E => E) hV hlen he, fun V T d hV => (dset_any hV hs.count hs.pos hs.len p i x).mono fun e w' he => ?_⟩
    rcases he with ⟨j2, n2, z, rfl, hj2, hz, hn2, hlt, hd, hk⟩ | ⟨g, l2, k2, rfl, hwr, ht⟩
    · exact (hL.bad hA hw hj2 hz hn2 hlt).elim
    · obtain ⟨rfl, rfl⟩ := hL.wrong hA hw hwr
      exact XTold.call (f := fun v => v) hV hlen ht
theorem get_both {A : AM} {D : DM} (hL : Like A D) (hA : A.Ok) (p i : Int) : ∃ x L, Both A D L ∧
    (∀ V S b, IsArena V b A S → Calls Try.prog 17 #[.pointer (some ⟨b, 0, none⟩), .int .i64 p, .int .i64 i] V (ACall (fun v => .tuple #[.int .u64 x, v]) A b S L V)) ∧
    (∀ V T d, IsDoc V d D T → Calls Try.prog 37 #[.pointer (some ⟨d, 0, none⟩), .int .i64 p, .int .i64 i] V (DCall (fun v => .tuple #[.int .u64 x, v]) D d T L V)) := by
  have hs := hL.small hA
  rcases hw : A.wrong txtGet p i with _ | ⟨l, k⟩
  · obtain ⟨c, m, hl, h0, him⟩ := AM.wrong_none hw
    obtain ⟨j, y, hj, rfl, rfl, rfl⟩ := hL.look hA hl
    obtain ⟨n, rfl⟩ : ∃ n : Nat, i = (n : Nat) := ⟨i.toNat, by omega⟩
    have e1 : (((y.pos + 1 : Nat) : Int) + ((n : Nat) : Int)).toNat = y.pos + 1 + n := by omega
    have e2 := (hL.words y (List.mem_of_getElem? hj)).2 n (by omega)
    refine ⟨A.words.getD (y.pos + 1 + n) 0, none, ⟨hL, hA, rfl⟩, fun V S b hV => (get_some hV hA _ _ _ _ hl h0 him).mono fun e w' he => ?_, fun V T d hV => (dget_any hV hs.count hs.pos hs.len _ _).mono fun e w' he => ?_⟩
    · obtain ⟨rfl, h1, h2⟩ := he
      rw [e1]
      exact ACall.none (f := fun v => .tuple #[.int .u64 (A.words.getD (y.pos + 1 + n) 0), v]) hV.lt h1 (h2.mono fun _ _ h => h.elim)
    · rcases he with ⟨j2, n2, z, rfl, hj2, hz, hn2, _, rfl⟩ | ⟨g, l, k, rfl, hwr, ht⟩
      · obtain ⟨rfl, rfl⟩ := hL.unique hj hj2 (by omega)
        obtain rfl : n = n2 := by omega
        rw [e2]
        exact DCall.none (f := fun v => .tuple #[.int .u64 (A.words.getD (y.pos + 1 + n) 0), v]) hV.lt hV (Keeps.refl _ _)
      · exact (hL.right hA hw hwr).elim
  · have hlen : l.length ≤ 9000 := by rcases AM.wrong_look hw with ⟨_, rfl, _⟩ | ⟨_, _, _, _, rfl, _⟩ <;> simp
    have hfin : fineO (some (l, k)) = true := by rcases AM.wrong_look hw with ⟨_, _, rfl⟩ | ⟨_, _, _, _, _, rfl⟩ <;> rfl
    refine ⟨0, some (l, k), ⟨hL, hA, hfin⟩, fun V S b hV => (get_wrong hV p i hw).mono fun e w' he => ErrPost.call (f := fun v => .tuple #[.int .u64 0, v]) hV hlen he, fun V T d hV => (dget_any hV hs.count hs.pos hs.len p i).mono fun e w' he => ?_⟩
    rcases he with ⟨j2, n2, z, rfl, hj2, hz, hn2, hlt, rfl⟩ | ⟨g, l2, k2, rfl, hwr, ht⟩
    · exact (hL.bad hA hw hj2 hz hn2 hlt).elim
    · obtain ⟨rfl, rfl⟩ := hL.wrong hA hw hwr
      exact XTold.call (f := fun v => .tuple #[.int .u64 0, v]) hV hlen ht
theorem len_both {A : AM} {D : DM} (hL : Like A D) (hA : A.Ok) (p : Int) : ∃ x L, Both A D L ∧
    (∀ V S b, IsArena V b A S → Calls Try.prog 20 #[.pointer (some ⟨b, 0, none⟩), .int .i64 p] V (ACall (fun v => .tuple #[.int .i64 x, v]) A b S L V)) ∧
    (∀ V T d, IsDoc V d D T → Calls Try.prog 38 #[.pointer (some ⟨d, 0, none⟩), .int .i64 p] V (DCall (fun v => .tuple #[.int .i64 x, v]) D d T L V)) := by
  have hs := hL.small hA
  rcases hl : A.look p with _ | ⟨c, m⟩
  · refine ⟨0, some ([(txtLen, p)], 3), ⟨hL, hA, rfl⟩, fun V S b hV => (len_none hV p hl).mono fun e w' he => ErrPost.call (f := fun v => .tuple #[.int .i64 0, v]) hV (by simp) he, fun V T d hV => (dlen_any hV hs.count hs.pos p).mono fun e w' he => ?_⟩
    rcases he with ⟨i, x, rfl, hi, hx, _⟩ | ⟨v, rfl, hno, ht⟩
    · exact absurd hx (hL.none hl x (List.mem_of_getElem? hi))
    · exact XTold.call (f := fun v => .tuple #[.int .i64 0, v]) hV (by simp) ht
  · obtain ⟨i, x, hi, rfl, rfl, rfl⟩ := hL.look hA hl
    refine ⟨(x.len : Nat), none, ⟨hL, hA, rfl⟩, fun V S b hV => (len_some hV _ _ _ hl).mono fun e w' he => ?_, fun V T d hV => (dlen_any hV hs.count hs.pos _).mono fun e w' he => ?_⟩
    · obtain ⟨rfl, h1, h2⟩ := he
      exact ACall.none (f := fun v => .tuple #[.int .i64 (x.len : Nat), v]) hV.lt h1 (h2.mono fun _ _ h => h.elim)
    · rcases he with ⟨j, y, rfl, hj, hy, rfl⟩ | ⟨v, rfl, hno, ht⟩
      · obtain ⟨rfl, rfl⟩ := hL.unique hi hj (by omega)
        exact DCall.none (f := fun v => .tuple #[.int .i64 (x.len : Nat), v]) hV.lt hV (Keeps.refl _ _)
      · exact absurd rfl (hno x (List.mem_of_getElem? hi))
theorem alloc_both {A : AM} {D : DM} (hL : Like A D) (hA : A.Ok) (n : Int) : ∃ (q : Nat) (A' : AM) (D' : DM) (L : ErrO), Both A' D' L ∧ (∀ l k, L = some (l, k) → l ≠ []) ∧
    (∀ V S b, IsArena V b A S → Calls Try.prog 11 #[.pointer (some ⟨b, 0, none⟩), .int .i64 n] V (ACall (fun v => .tuple #[.int .i64 (q : Nat), v]) A' b S L V)) ∧
    (∀ V T d, IsDoc V d D T → Calls Try.prog 34 #[.pointer (some ⟨d, 0, none⟩), .int .i64 n] V (DCall (fun v => .tuple #[.int .i64 (q : Nat), v]) D' d T L V)) := by
  have hs := hL.small hA
  by_cases hn : n < 0 ∨ 1048576 < n
  · refine ⟨0, A, D, some ([(txtAlloc, n)], 1), ⟨hL, hA, rfl⟩, (fun l k e => by cases e; simp), fun V S b hV => (alloc_bad hV n hn).mono fun e w' he => ErrPost.call (f := fun v => .tuple #[.int .i64 ((0 : Nat) : Int), v]) hV (by simp) he, fun V T d hV => (dalloc_bad (b := d) n hn).mono fun e w' he => ?_⟩
    obtain ⟨g, rfl, ht⟩ := he
    exact XTold.call (f := fun v => .tuple #[.int .i64 ((0 : Nat) : Int), v]) hV (by simp) ht
  · obtain ⟨m, rfl⟩ : ∃ m : Nat, n = (m : Nat) := ⟨n.toNat, by omega⟩
    have hm : m ≤ 1048576 := by omega
    rcases ha : A.alloc m with _ | ⟨q, B⟩
    · have hd := hL.full hm ha
      refine ⟨0, A, D, some ([(txtAlloc, (m : Nat))], 2), ⟨hL, hA, rfl⟩, (fun l k e => by cases e; simp), fun V S b hV => (alloc_any hV hA m hm).mono fun e w' he => ?_, fun V T d hV => (dalloc_any hV hs hm).mono fun e w' he => ?_⟩
      · unfold AllocPost at he
        rw [ha] at he
        obtain ⟨E, rfl, h1, h2, h3⟩ := he
        exact ⟨E, rfl, ⟨h1, by simp⟩, hV.startA hV.lt h2 h3.size, h3.mono fun _ _ h => h.elim⟩
      · unfold DAllocPost at he
        rw [hd] at he
        obtain ⟨g, rfl, h1, h2, h3⟩ := he
        exact ⟨_, rfl, ⟨h3, by simp⟩, h1, h2⟩
    · obtain ⟨E, hd, hlk⟩ := hL.alloc hA hm ha
      refine ⟨q, B, E, none, ⟨hlk, (AM.alloc_ok hA hm ha).1, rfl⟩, (fun l k e => by cases e), fun V S b hV => (alloc_any hV hA m hm).mono fun e w' he => ?_, fun V T d hV => (dalloc_any hV hs hm).mono fun e w' he => ?_⟩
      · unfold AllocPost at he
        rw [ha] at he
        obtain ⟨rfl, h1, h2⟩ := he
        exact ⟨_, rfl, rfl, h1, h2⟩
      · unfold DAllocPost at he
        rw [hd] at he
        obtain ⟨rfl, h1, h2⟩ := he
        exact ⟨_, rfl, rfl, h1, h2⟩
end Go.Proofs.Ytacedeaopgbdhaa
end

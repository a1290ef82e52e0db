import Derived.Test.YtgmieehheoknbaaDoorGg
/-
  Copies of modules: what troupelaw00.CopyModule does.
-/
namespace Go.Tx
open Go Go.RowKit
def icells (p : Int × Int × Int × Int) : List Value := [.int .i64 p.1, .int .i64 p.2.1, .int .i64 p.2.2.1, .int .i64 p.2.2.2]
def insRow (l : List (Int × Int × Int × Int)) : List Value := l.flatMap icells
def fcells (p : Fnc × Value) : List Value := [.string p.1.name, .int .i64 p.1.args, .int .i64 p.1.slots, p.2]
def fnRow (l : List (Fnc × Value)) : List Value := l.flatMap fcells
theorem four_length {α : Type} {f : α → List Value} (hf : ∀ x, (f x).length = 4) (l : List α) : (l.flatMap f).length = l.length * 4 := by
  induction l with
  | nil => rfl
  | cons t l ih => rw [List.flatMap_cons, List.length_append, ih, hf, List.length_cons]; omega
theorem four_get {α : Type} {f : α → List Value} (hf : ∀ x, (f x).length = 4) : ∀ (l : List α) (i : Nat) (p : α), l[i]? = some p → ∀ j u, (f p)[j]? = some u → (l.flatMap f)[i * 4 + j]? = some u := by
  intro l
  induction l with
  | nil => intro i t h; simp at h
  | cons q l ih =>
    intro i p h j u hu
    rw [List.flatMap_cons]
    cases i with
    | zero =>
      simp at h
      subst h
      have hj := (List.getElem?_eq_some_iff.1 hu).1
      rw [List.getElem?_append_left (by omega)]
      simpa using hu
    | succ i =>
      simp at h
      rw [List.getElem?_append_right (by rw [hf]; omega), hf, show (i + 1) * 4 + j - 4 = i * 4 + j by omega]
      exact ih i p h j u hu
theorem ins_row {w : World} {T : TypeId} {S : Nat → Prop} {v : Value} {l : List (Int × Int × Int × Int)} (h : Row w T 4 v l.length (insRow l)) (hb : l.length ≤ 1099511627776) (hi : ∀ p ∈ l, insOkI p) (ho : ∀ g, v.ownBlock = some g → S g) : InsD w S v l := by
  obtain ⟨a, cap, rfl, h1, h2⟩ := h.len
  refine ⟨hb, a, cap, rfl, h1, h2, fun i p hp => ⟨hi p (List.mem_of_getElem? hp), ?_⟩⟩
  have hil : i < l.length := (List.getElem?_eq_some_iff.1 hp).1
  obtain ⟨g, c2, e, _, _⟩ := h.form (by omega)
  cases e
  have hc : ∀ j u, (icells p)[j]? = some u → w.cell? ⟨g, 0 + i * 4 + j, none⟩ = some u := fun j u hu => by
    rw [Nat.zero_add]
    exact h.cell3 (four_get (fun _ => rfl) l i p hp j u hu)
  exact ⟨g, 0, rfl, ho g rfl, hc 0 _ rfl, hc 1 _ rfl, hc 2 _ rfl, hc 3 _ rfl⟩
/-- so many functions copied -/
def FnCopyAt (T : TypeId) (B : Nat) (funcs : List Fnc) (w1 : World) (v c : Value) (wr : World) : Prop :=
  ∃ (i : Nat) (ps : List (Fnc × Value)), c = .int .i64 i ∧ i ≤ funcs.length ∧ ps.map (·.1) = funcs.take i ∧ Row wr T 4 v i (fnRow ps) ∧
    (∀ p ∈ ps, p.1.fine ∧ InsD wr (fun g => B ≤ g ∧ g < wr.heap.size ∧ v.ownBlock ≠ some g) p.2 p.1.code) ∧ (∀ g, v.ownBlock = some g → w1.heap.size ≤ g) ∧ Keeps (fun _ => False) w1 wr
theorem InsD.mono {w w' : World} {S S' : Nat → Prop} {v : Value} {l : List (Int × Int × Int × Int)} (h : InsD w S v l) (hs : ∀ b, S b → S' b) (hc : ∀ b o v, S b → w.cell? ⟨b, o, none⟩ = some v → w'.cell? ⟨b, o, none⟩ = some v) : InsD w' S' v l := by
  obtain ⟨h0, a, cap, h1, h2, h3, h4⟩ := h
  refine ⟨h0, a, cap, h1, h2, h3, fun i p hp => ?_⟩
  obtain ⟨h5, b, o, e, hb, c0, c1, c2, c3⟩ := h4 i p hp
  exact ⟨h5, b, o, e, hs b hb, hc _ _ _ hb c0, hc _ _ _ hb c1, hc _ _ _ hb c2, hc _ _ _ hb c3⟩
theorem FnsD.wide {w : World} {S S' : Nat → Prop} {v : Value} {l : List Fnc} (h : FnsD w S v l) (hs : ∀ b, S b → S' b) : FnsD w S' v l := by
  obtain ⟨h0, a, cap, h1, h2, h3, h4⟩ := h
  refine ⟨h0, a, cap, h1, h2, h3, fun i f hf => ?_⟩
  obtain ⟨h5, b, o, vc, e, hb, hc, hi⟩ := h4 i f hf
  exact ⟨h5, b, o, vc, e, hs b hb, hc, hi.mono hs fun _ _ _ _ h => h⟩
theorem InsD.ints {w : World} {S : Nat → Prop} {v : Value} {l : List (Int × Int × Int × Int)} (h : InsD w S v l) : ∀ p ∈ l, insOkI p := by
  obtain ⟨_, _, _, _, _, _, h4⟩ := h
  intro p hp
  obtain ⟨i, hi, rfl⟩ := List.getElem_of_mem hp
  exact (h4 i _ (List.getElem?_eq_getElem hi)).1
theorem fnCopy_done {T : TypeId} {B : Nat} {funcs : List Fnc} {wr : World} {va : Option Addr} {vc : Nat} {ps : List (Fnc × Value)} {E : Nat → Prop} (hl : funcs.length ≤ 1099511627776)
    (hps : ps.map (·.1) = funcs) (hrow : Row wr T 4 (.slice va funcs.length vc) funcs.length (fnRow ps))
    (hts : ∀ p ∈ ps, p.1.fine ∧ InsD wr (fun g => B ≤ g ∧ g < wr.heap.size ∧ (Value.slice va funcs.length vc).ownBlock ≠ some g) p.2 p.1.code)
    (hown : ∀ g, (Value.slice va funcs.length vc).ownBlock = some g → B ≤ g) (hE : ∀ g, B ≤ g → g < wr.heap.size → E g) : FnsD wr E (.slice va funcs.length vc) funcs := by
  obtain ⟨a, cap, e, h1, h2⟩ := hrow.len
  cases e
  refine ⟨hl, va, vc, rfl, h1, h2, fun i t ht => ?_⟩
  have hi : i < funcs.length := (List.getElem?_eq_some_iff.1 ht).1
  obtain ⟨g, c2, e, _, _⟩ := hrow.form (by omega)
  cases e
  have hlen : ps.length = funcs.length := by rw [← hps, List.length_map]
  obtain ⟨p, hp⟩ : ∃ p, ps[i]? = some p := ⟨ps[i], by simp⟩
  have hpt : p.1 = t := by
    have h := ht
    rw [← hps, List.getElem?_map, hp] at h
    simpa using h
  subst hpt
  have hc : ∀ j u, (fcells p)[j]? = some u → wr.cell? ⟨g, 0 + i * 4 + j, none⟩ = some u := fun j u hu => by
    rw [Nat.zero_add]
    exact hrow.cell3 (four_get (fun _ => rfl) ps i p hp j u hu)
  have hg : g < wr.heap.size := hrow.lt rfl
  obtain ⟨hf, hins⟩ := hts p (List.mem_of_getElem? hp)
  exact ⟨hf, g, 0, p.2, rfl, hE g (hown g rfl) hg, ⟨hc 0 _ rfl, hc 1 _ rfl, hc 2 _ rfl, hc 3 _ rfl⟩, hins.mono (fun g h => hE g h.1 h.2.1) fun _ _ _ _ h => h⟩
theorem fnCopy_next {T : TypeId} {B : Nat} {funcs : List Fnc} {w1 wr w2 w4 : World} {va va' : Option Addr} {vc vc' i : Nat} {ps : List (Fnc × Value)} {f : Fnc} {y : Value} {o : Obj} (hB : B ≤ w1.heap.size)
    (hps : ps.map (·.1) = funcs.take i) (hti : funcs[i]? = some f) (hrow : Row wr T 4 (.slice va i vc) i (fnRow ps))
    (hts : ∀ p ∈ ps, p.1.fine ∧ InsD wr (fun g => B ≤ g ∧ g < wr.heap.size ∧ (Value.slice va i vc).ownBlock ≠ some g) p.2 p.1.code)
    (hk : Keeps (fun _ => False) w1 wr)
    (hf : f.fine) (h2 : InsD w2 (Fresh wr w2) y f.code) (hk2 : Keeps (fun _ => False) wr w2)
    (ha : Appended (w2.alloc o) w4 T 4 (.slice va i vc) (.slice va' (i + 1) vc') (i + 1) (fnRow ps ++ fcells (f, y))) (hw1 : ∀ g, (Value.slice va i vc).ownBlock = some g → w1.heap.size ≤ g) :
    FnCopyAt T B funcs w1 (.slice va' (i + 1) vc') (.int .i64 ((i : Int) + 1)) w4 := by
  have hi : i < funcs.length := (List.getElem?_eq_some_iff.1 hti).1
  have hk3 : Keeps (fun _ => False) w2 (w2.alloc o) := (Keeps.refl _ _).alloc _
  have hk4 : Keeps (Own (.slice va i vc)) wr w4 := ((hk2.trans hk3 fun _ _ h => h).mono fun _ _ h => h.elim).trans ha.keeps fun _ _ h => h
  have z1 := hk.size
  have z2 := hk2.size
  have z4 := ha.keeps.size
  rw [World.size_alloc] at z4
  have hlt : ∀ g, (Value.slice va i vc).ownBlock = some g → g < wr.heap.size := fun g hg => hrow.lt hg
  have hnew : ∀ g, g < w2.heap.size → (Value.slice va i vc).ownBlock ≠ some g → (Value.slice va' (i + 1) vc').ownBlock ≠ some g := fun g hg hn he => by
    rcases ha.own with h | ⟨h, _⟩
    · rw [h] at he; exact hn he
    · rw [h, World.size_alloc] at he
      have := Option.some.inj he
      omega
  have hown1 : ∀ g, (Value.slice va' (i + 1) vc').ownBlock = some g → w1.heap.size ≤ g := fun g hg => by
    rcases ha.own with h | ⟨h, _⟩
    · rw [h] at hg; exact hw1 g hg
    · rw [h, World.size_alloc] at hg
      have := Option.some.inj hg
      omega
  refine ⟨i + 1, ps ++ [(f, y)], by go_num, by omega, ?_, ?_, ?_, hown1, ?_⟩
  · rw [List.map_append, hps, List.take_add_one, hti]; rfl
  · have e : fnRow (ps ++ [(f, y)]) = fnRow ps ++ fcells (f, y) := by simp [fnRow]
    rw [e]; exact ha.row
  · intro p hp
    rcases List.mem_append.1 hp with hp | hp
    · exact ⟨(hts p hp).1, (hts p hp).2.mono (fun g h => ⟨h.1, by omega, hnew g (by omega) h.2.2⟩) fun b o v hb hc => hk4.cell hc hb.2.2⟩
    · simp only [List.mem_singleton] at hp
      subst hp
      have hn : ∀ g, Fresh wr w2 g → (Value.slice va i vc).ownBlock ≠ some g := fun g hg he => by
        have := hlt g he
        have := hg.1
        omega
      exact ⟨hf, h2.mono (fun g h => ⟨by have := h.1; omega, by have := h.2; omega, hnew g h.2 (hn g h)⟩) fun b o v hb hc => ha.keeps.cell (hk3.cell hc fun h => h) (hn b hb)⟩
  · exact hk.trans hk4 fun b hb h => by have := hw1 b h; omega
end Go.Tx
namespace Go.Proofs.YtgmieehheoknbaaDoor
open Go.RowKit Go.Tx
theorem info_ins : (Tryd.prog.info? 48).map (fun i => (i.zero, i.size, i.bytes)) = some (some (.agg #[.int .i64 0, .int .i64 0, .int .i64 0, .int .i64 0]), 4, 32) := by kernel_rfl
theorem info_fn : (Tryd.prog.info? 51).map (fun i => (i.zero, i.size, i.bytes)) = some (some (.agg #[.string ByteArray.empty, .int .i64 0, .int .i64 0, .slice none 0 0]), 4, 56) := by kernel_rfl
theorem first_ins {w W : World} {S : Nat → Prop} {a : Option Addr} {cap : Nat} {l : List (Int × Int × Int × Int)} (h : InsD w S (.slice a l.length cap) l) (hW : W.heap = w.heap) : (Builtin.firstCells 4 l.length (.slice a l.length cap)).run Tryd.prog W = .ok (insRow l).toArray W := by
  obtain ⟨_, a', cap', e, _, _, hc⟩ := h
  cases e
  by_cases h0 : 0 < l.length
  · obtain ⟨_, b, o, rfl, _⟩ := hc 0 l[0] (by simp)
    refine firstCells_at (w := w) (four_length (fun _ => rfl) l) (fun j u hu => ?_) W hW
    rw [Go.WideShapes.add_plain]
    have hj := (List.getElem?_eq_some_iff.1 hu).1
    rw [four_length (f := icells) (fun _ => rfl)] at hj
    obtain ⟨p, hp⟩ : ∃ p, l[j / 4]? = some p := ⟨l[j / 4]'(by omega), by simp⟩
    obtain ⟨_, b', o', e, _, c0, c1, c2, c3⟩ := hc (j / 4) p hp
    cases e
    have h4 : j % 4 = 0 ∨ j % 4 = 1 ∨ j % 4 = 2 ∨ j % 4 = 3 := by omega
    rcases h4 with h4 | h4 | h4 | h4
    · have hjk : j = j / 4 * 4 + 0 := by omega
      have h1 := four_get (f := icells) (fun _ => rfl) l (j / 4) p hp 0 _ rfl
      rw [← hjk] at h1
      have h2 : (l.flatMap icells)[j]? = some u := hu
      rw [h1] at h2
      cases h2
      rw [show o + j = o + j / 4 * 4 + 0 by omega]
      exact c0
    · have hjk : j = j / 4 * 4 + 1 := by omega
      have h1 := four_get (f := icells) (fun _ => rfl) l (j / 4) p hp 1 _ rfl
      rw [← hjk] at h1
      have h2 : (l.flatMap icells)[j]? = some u := hu
      rw [h1] at h2
      cases h2
      rw [show o + j = o + j / 4 * 4 + 1 by omega]
      exact c1
    · have hjk : j = j / 4 * 4 + 2 := by omega
      have h1 := four_get (f := icells) (fun _ => rfl) l (j / 4) p hp 2 _ rfl
      rw [← hjk] at h1
      have h2 : (l.flatMap icells)[j]? = some u := hu
      rw [h1] at h2
      cases h2
      rw [show o + j = o + j / 4 * 4 + 2 by omega]
      exact c2
    · have hjk : j = j / 4 * 4 + 3 := by omega
      have h1 := four_get (f := icells) (fun _ => rfl) l (j / 4) p hp 3 _ rfl
      rw [← hjk] at h1
      have h2 : (l.flatMap icells)[j]? = some u := hu
      rw [h1] at h2
      cases h2
      rw [show o + j = o + j / 4 * 4 + 3 by omega]
      exact c3
  · have e0 : l.length = 0 := by omega
    have e1 : l = [] := List.length_eq_zero_iff.1 e0
    subst e1
    cases a with
    | none => exact firstCells_nil ..
    | some ad => exact firstCells_at (w := w) (news := []) rfl (fun j u hu => by simp at hu) W hW
theorem sizeMd : (Tryd.prog.info? 25).map (·.size) = some 3 := by kernel_rfl
theorem load_md {w : World} {g : Nat} {x0 x1 x2 : Value} (hb : Blk w g 25 [x0, x1, x2]) : (loadVar 25 ⟨g, 0, none⟩).run Tryd.prog w = .ok (.agg #[x0, x1, x2]) w := by
  cases hi : Tryd.prog.info? 25 with
  | none => have := sizeMd; rw [hi] at this; cases this
  | some i =>
    have hs : i.size = 3 := by have := sizeMd; rw [hi] at this; simpa using this
    unfold loadVar loadCells
    simp [loadCellsFrom, isAgg, sizeOf, typeInfo, Tryd.underlying25, hi, hs, addN, hb.cell (i := 0) rfl, hb.cell (i := 1) rfl, hb.cell (i := 2) rfl]
set_option maxRecDepth 100000 in
set_option maxHeartbeats 1600000 in
theorem copyModule_any {w : World} {S : Nat → Prop} {d : Nat} {v : Value} (m : Md) (h : MdD w S d v m) (hbig : m.lits.length * 104 ≤ 140737488355328) (hsl : ∀ x ∈ m.lits, Slim d x) (hS : ∀ x, S x → x < w.heap.size) :
    Calls Tryd.prog 9 #[v] w fun e w' => ∃ v', e = .returned v' ∧ MdD w' (Fresh w w') d v' m ∧ Keeps (fun _ => False) w w' := by
  obtain ⟨nm, lits, funcs⟩ := m
  obtain ⟨vl, vf, rfl, hn, h1, h2⟩ := h
  simp only at hn h1 h2 hbig hsl ⊢
  have HS := Lib.hid hS
  have HSL := Lib.hid hsl
  have H1 := Lib.hid h1
  have H2 := Lib.hid h2
  obtain ⟨al, cl, rfl⟩ := h1.form
  obtain ⟨af, cf, rfl⟩ := h2.form
  have hfl := h2.1
  clear hS h1 h2 hsl
  go_enter Tryd.func9, Tryd.ntmps9
  go_wp2_with (first | (go_at_call 23; refine Stop.out ?_))
  refine ⟨((copy_both d).2 _ S _ lits (H1.out.keeps (T := fun _ => False) (by repeat (first | with_reducible exact Keeps.refl _ _ | with_reducible apply Keeps.drew | with_reducible apply Keeps.alloc)) fun _ _ h => h) hbig HSL.out (fun x hx => by have := HS.out x hx; simp; omega)).mono ?_⟩
  rintro e w2 ⟨v1, rfl, hc1, hk1⟩
  obtain ⟨a1, c1, rfl⟩ := hc1.form
  have hb1 : Blk w2 w.heap.size 25 [.string nm, .slice al lits.length cl, .slice af funcs.length cf] := ((Blk.new w _ _).alloc _).keeps hk1 fun h => h
  have hb2 : Blk w2 (w.heap.size + 1) 25 [.string ⟨#[]⟩, .slice none 0 0, .slice none 0 0] := by
    refine Blk.keeps (S := fun _ => False) ?_ hk1 fun h => h
    have := Blk.new (w.alloc (.cells #[.string nm, .slice al lits.length cl, .slice af funcs.length cf] 25)) [.string ⟨#[]⟩, .slice none 0 0, .slice none 0 0] 25
    rwa [World.size_alloc] at this
  have hk2 : Keeps (fun _ => False) w w2 := (((Keeps.refl _ w).alloc _).alloc _).trans hk1 fun _ _ h => h
  have hsz : w.heap.size + 1 < w2.heap.size := hb2.lt
  have x1 : w2.cell? ⟨w.heap.size, 1, none⟩ = some (.slice al lits.length cl) := hb1.cell (i := 1) rfl
  have y1 := hb1.free 1
  have HB1 := Lib.hid hb1
  have HB2 := Lib.hid hb2
  have HK2 := Lib.hid hk2
  have HC1 := Lib.hid hc1
  clear hc1 hk1 hb1 hb2 hk2
  go_wp2
  obtain ⟨w3, hw3⟩ : ∃ w3, w3 = w2.setCell ⟨w.heap.size, 1, none⟩ (.slice a1 lits.length c1) := ⟨_, rfl⟩
  rw [← hw3]
  have HK3 : Hid (Keeps (fun _ => False) w w3) := Lib.hid (by rw [hw3]; exact HK2.out.setCell (by simp) _)
  have HZ3 : Hid (w3.heap.size = w2.heap.size) := Lib.hid (by rw [hw3, World.size_setCell])
  have HM1 : Hid (Blk w3 w.heap.size 25 [.string nm, .slice a1 lits.length c1, .slice af funcs.length cf]) := Lib.hid (by rw [hw3]; exact HB1.out.set 1 _)
  have HM2 : Hid (Blk w3 (w.heap.size + 1) 25 [.string ⟨#[]⟩, .slice none 0 0, .slice none 0 0]) := Lib.hid (by rw [hw3]; exact HB2.out.set_other (by simp) _)
  have HC3 : Hid (RowD w3 (fun b => w.heap.size + 2 ≤ b ∧ b < w2.heap.size) (TmD w3 (fun b => w.heap.size + 2 ≤ b ∧ b < w2.heap.size) d) (.slice a1 lits.length c1) lits) := Lib.hid (by
    rw [hw3]
    exact HC1.out.put ⟨w.heap.size, 1, none⟩ _ fun g hg => by
      have h1 := hg.1
      rw [World.size_alloc, World.size_alloc] at h1
      exact ⟨⟨h1, hg.2⟩, by show g ≠ w.heap.size; omega⟩)
  clear hw3 x1 y1
  go_loopw [3, 4] (fun v c wr => FnCopyAt 51 (w.heap.size + 2) funcs w3 v c wr) (fun _ c _ => funcs.length - (intOf c).toNat)
  case atStart => exact ⟨0, [], rfl, Nat.zero_le _, rfl, World.ownsRow_nil _ _ _ _, fun p hp => by simp at hp, fun g hg => by simp [Value.ownBlock] at hg, Keeps.refl _ _⟩
  case round =>
    obtain ⟨i, ps, rfl, hi, hps, hrow, hts, hown, hk⟩ := hrel
    have HK := Lib.hid hk
    have HROW := Lib.hid hrow
    have HPS := Lib.hid hps
    have HTS := Lib.hid hts
    have HOWN := Lib.hid hown
    obtain ⟨va, vc, rfl, hvc, hvm⟩ := hrow.len
    have hks := hk.size
    have hzz := HZ3.out
    have hmb := HM1.out.keeps hk fun h => h
    have m2 : wr.cell? ⟨w.heap.size, 2, none⟩ = some (.slice af funcs.length cf) := hmb.cell (i := 2) rfl
    have hwl : w.heap.size + 1 < wr.heap.size := by omega
    unfold maxLen at hvm
    clear hrow hps hts hown hmb hzz
    by_cases hlt : i < funcs.length
    · obtain ⟨f, hfi⟩ : ∃ f, funcs[i]? = some f := ⟨funcs[i], by simp⟩
      obtain ⟨_, _, _, e, _, hcm, hel⟩ := H2.out.keeps (HK3.out.trans hk fun _ _ h => h) (fun _ _ h => h)
      cases e
      obtain ⟨hff, b, o, vc2, rfl, hSb, ⟨e0, e1, e2, e3⟩, hcd⟩ := hel i f hfi
      obtain ⟨fn, fa, fs, cd⟩ := f
      obtain ⟨ac, cc, rfl⟩ := hcd.form
      simp only at e0 e1 e2 e3
      have HFI := Lib.hid hfi
      have HFF := Lib.hid hff
      have HCD := Lib.hid hcd
      have hbr : b < wr.heap.size := by have := HS.out b hSb; omega
      have hcdl := hcd.1
      simp only at hcdl
      unfold maxLen at hcm
      clear hfi hff hcd hel hk
      go_wp2_with (first | (at_builtin; refine Stop.out ?_))
      refine ⟨?_⟩
      refine wpList_append_row _ rfl _ _ 49 49 rfl 48 (.slice 48) 4 32 (.agg #[.int .i64 0, .int .i64 0, .int .i64 0, .int .i64 0]) info_ins Tryd.underlying49 Tryd.underlying49 (by intro k h; cases h) rfl (.slice none 0 0) 0 [] rfl (World.ownsRow_nil _ _ _ _) _ cd.length (insRow cd) rfl (four_length (fun _ => rfl) cd) (lenOf_slice _ _ _) (fun W hW => first_ins (HCD.out.keeps ((Keeps.refl (fun _ => False) wr).alloc _) fun _ _ h => h) hW) (by intro u hu; simp only [insRow, List.mem_flatMap, icells] at hu; obtain ⟨p, _, hu⟩ := hu; simp at hu; rcases hu with rfl | rfl | rfl | rfl <;> rfl) (by unfold maxLen; omega) (by omega) ?_
      intro v4 w4 ha4
      have hn4 : 0 + cd.length = cd.length := Nat.zero_add _
      rw [hn4, List.nil_append] at ha4
      obtain ⟨yc, yk, rfl, _, _⟩ := ha4.row.len
      have hk4 : Keeps (fun _ => False) (wr.alloc (.cells #[.string fn, .int .i64 fa, .int .i64 fs, .slice ac cd.length cc] 51)) w4 := ha4.keeps.mono fun g _ hg => by simp [Own, Value.ownBlock] at hg
      have hb4 := (Blk.new wr [.string fn, .int .i64 fa, .int .i64 fs, .slice ac cd.length cc] 51).keeps hk4 fun h => h
      have hy4 : InsD w4 (Fresh (wr.alloc (.cells #[.string fn, .int .i64 fa, .int .i64 fs, .slice ac cd.length cc] 51)) w4) (.slice yc cd.length yk) cd := ins_row ha4.row (by omega) HCD.out.ints fun g hg => by
        rcases ha4.own with e | ⟨e, hs⟩
        · rw [e] at hg; simp [Value.ownBlock] at hg
        · rw [e] at hg; cases hg; exact ⟨Nat.le_refl _, by omega⟩
      have d0 : w4.cell? ⟨wr.heap.size, 0, none⟩ = some (.string fn) := hb4.cell (i := 0) rfl
      have d1 : w4.cell? ⟨wr.heap.size, 1, none⟩ = some (.int .i64 fa) := hb4.cell (i := 1) rfl
      have d2 : w4.cell? ⟨wr.heap.size, 2, none⟩ = some (.int .i64 fs) := hb4.cell (i := 2) rfl
      have d3 : w4.cell? ⟨wr.heap.size, 3, none⟩ = some (.slice ac cd.length cc) := hb4.cell (i := 3) rfl
      have z3 := hb4.free 3
      have hlt4 : wr.heap.size < w4.heap.size := hb4.lt
      have HB4 := Lib.hid hb4
      have HK4 := Lib.hid hk4
      have HY4 := Lib.hid hy4
      have HROW5 : Hid (Row (w4.setCell ⟨wr.heap.size, 3, none⟩ (.slice yc cd.length yk) |>.alloc (.cells (fcells (⟨fn, fa, fs, cd⟩, .slice yc cd.length yk)).toArray 51)) 51 4 (.slice va i vc) i (fnRow ps)) := Lib.hid (((((HROW.out.keeps ((Keeps.refl (fun _ => False) wr).alloc _) fun _ _ h => h).keeps hk4 fun _ _ h => h).keeps (Keeps.put w4 ⟨wr.heap.size, 3, none⟩ (.slice yc cd.length yk)) fun g hg h => by have := Row.lt HROW.out hg; simp at h; omega)).keeps ((Keeps.refl (fun _ => False) _).alloc _) fun _ _ h => h)
      have HK5 : Hid (Keeps (fun _ => False) wr (w4.setCell ⟨wr.heap.size, 3, none⟩ (.slice yc cd.length yk))) := Lib.hid ((((Keeps.refl _ wr).alloc _).trans hk4 fun _ _ h => h).setCell (by simp) _)
      have HY5 : Hid (InsD (w4.setCell ⟨wr.heap.size, 3, none⟩ (.slice yc cd.length yk)) (Fresh wr (w4.setCell ⟨wr.heap.size, 3, none⟩ (.slice yc cd.length yk))) (.slice yc cd.length yk) cd) := Lib.hid (hy4.mono (fun g hg => by have h1 := hg.1; rw [World.size_alloc] at h1; exact ⟨by omega, by rw [World.size_setCell]; exact hg.2⟩) fun g o v hg hc => (Keeps.put w4 ⟨wr.heap.size, 3, none⟩ _).cell hc fun h => by have h1 := hg.1; rw [World.size_alloc] at h1; simp at h; omega)
      clear ha4 hk4 hb4 hy4 e0 e1 e2 e3 hn4
      go_wp2_with (first | (at_builtin; go_must (refine wpList_append_row _ rfl _ _ 23 23 rfl 51 (.slice 51) 4 56 (.agg #[.string ByteArray.empty, .int .i64 0, .int .i64 0, .slice none 0 0]) info_fn Tryd.underlying23 Tryd.underlying23 (by intro k h; cases h) rfl (.slice va i vc) i (fnRow ps) rfl HROW5.out _ 1 (fcells (⟨fn, fa, fs, cd⟩, .slice yc cd.length yk)) rfl rfl (lenOf_slice _ _ _) (firstCells_at _ rfl (cells_newAt (by first | rfl | rw [World.size_setCell] | simp))) (by intro u hu; simp [fcells] at hu; rcases hu with rfl | rfl | rfl | rfl <;> rfl) (by unfold maxLen; omega) (by omega) ?_); intro v6 w6 ha; obtain ⟨va', vc', rfl, _, _⟩ := ha.row.len; have HA := Lib.hid ha; clear ha))
      exact ⟨fnCopy_next (by have := HZ3.out; omega) HPS.out HFI.out HROW.out HTS.out HK.out HFF.out HY5.out HK5.out HA.out HOWN.out, by simp [intOf]; omega⟩
    · obtain rfl : i = funcs.length := by omega
      have hmb := HM1.out.keeps hk fun h => h
      have hmr := HM2.out.keeps hk fun h => h
      have m0 : wr.cell? ⟨w.heap.size, 0, none⟩ = some (.string nm) := hmb.cell (i := 0) rfl
      have m1 : wr.cell? ⟨w.heap.size, 1, none⟩ = some (.slice a1 lits.length c1) := hmb.cell (i := 1) rfl
      have y2 := hmb.free 2
      have n0 : wr.cell? ⟨w.heap.size + 1, 0, none⟩ = some (.string ⟨#[]⟩) := hmr.cell (i := 0) rfl
      have n1 : wr.cell? ⟨w.heap.size + 1, 1, none⟩ = some (.slice none 0 0) := hmr.cell (i := 1) rfl
      have n2 : wr.cell? ⟨w.heap.size + 1, 2, none⟩ = some (.slice none 0 0) := hmr.cell (i := 2) rfl
      have z0 := hmr.free 0
      have z1 := hmr.free 1
      have z2 := hmr.free 2
      have HMB := Lib.hid hmb
      have HMR := Lib.hid hmr
      clear hmb hmr hk
      go_wp2
      have h7 := Keeps.put wr ⟨w.heap.size, 2, none⟩ (.slice va funcs.length vc)
      have hb8 := (((HMR.out.set_other (a := ⟨w.heap.size, 2, none⟩) (by simp) (.slice va funcs.length vc)).set 0 (.string nm)).set 1 (.slice a1 lits.length c1)).set 2 (.slice va funcs.length vc)
      have h9 : Keeps (fun g => g = w.heap.size ∨ g = w.heap.size + 1) wr _ := Keeps.setCell (S := fun g => g = w.heap.size ∨ g = w.heap.size + 1) (Keeps.setCell (S := fun g => g = w.heap.size ∨ g = w.heap.size + 1) (Keeps.setCell (S := fun g => g = w.heap.size ∨ g = w.heap.size + 1) (h7.mono fun _ _ h => Or.inl h) (p := ⟨w.heap.size + 1, 0, none⟩) (fun _ => Or.inr rfl) (.string nm)) (p := ⟨w.heap.size + 1, 1, none⟩) (fun _ => Or.inr rfl) (.slice a1 lits.length c1)) (p := ⟨w.heap.size + 1, 2, none⟩) (fun _ => Or.inr rfl) (.slice va funcs.length vc)
      have hz9 := h9.size
      have hz3 := HZ3.out
      refine bodyPost_ret (results_cell1 rfl _ ⟨w.heap.size + 1, 0, none⟩ rfl _ (load_md hb8)) rfl ⟨_, rfl, ⟨_, _, rfl, hn, ?_, ?_⟩, (HK3.out.trans HK.out fun _ _ h => h).trans h9 fun b hb h => by omega⟩
      · exact (HC3.out.later HK.out fun _ h => h).laterN h9 fun g hg => ⟨⟨by have := hg.1; omega, by have := hg.2; omega⟩, by have := hg.1; omega⟩
      · have hd : FnsD wr (fun g => w.heap.size + 2 ≤ g ∧ g < wr.heap.size) (.slice va funcs.length vc) funcs := fnCopy_done hfl (by rw [HPS.out, List.take_length]) HROW.out HTS.out (fun g hg => by have := HOWN.out g hg; omega) (fun g h1 h2 => ⟨h1, h2⟩)
        have hd2 := hd.keeps h9 fun g hg => by have := hg.1; omega
        exact hd2.wide fun g hg => ⟨by have := hg.1; omega, by have := hg.2; omega⟩
end Go.Proofs.YtgmieehheoknbaaDoor

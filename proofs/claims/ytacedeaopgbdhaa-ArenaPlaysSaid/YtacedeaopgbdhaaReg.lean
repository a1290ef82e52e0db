/-
  A region that draws its order may be walked in the order of its text, if a closed check over its operations holds and the operands of its comparisons and sums are plain values.
-/
import Derived.Still
import Derived.Tactics
import Derived.KernelRfl
import Derived.Deep.Draws
namespace Go.Tx
open Go

section
variable {P : Program}

/-! ## How an operation's run hangs on the world -/

/-- success leaves the world, and is the same in each world -/
def Calm (P : Program) {α : Type} (s : Sem α) : Prop := ∀ w n w', s.run P w = .ok n w' → w' = w ∧ ∀ w2, s.run P w2 = .ok n w2
/-- success leaves the world, and is the same with one block more -/
def Loads (P : Program) {α : Type} (s : Sem α) : Prop := ∀ w n w', s.run P w = .ok n w' → w' = w ∧ ∀ o, s.run P (w.alloc o) = .ok n (w.alloc o)
/-- success adds one block -/
def Makes (P : Program) {α : Type} (s : Sem α) : Prop := ∀ w n w', s.run P w = .ok n w' → ∃ o, w' = w.alloc o
/-- never a success -/
def Never (P : Program) {α : Type} (s : Sem α) : Prop := ∀ w n w', s.run P w ≠ .ok n w'

theorem Calm.loads {α : Type} {s : Sem α} (h : Calm P s) : Loads P s := fun w n w' hr => ⟨(h w n w' hr).1, fun _ => (h w n w' hr).2 _⟩
theorem Never.calm {α : Type} {s : Sem α} (h : Never P s) : Calm P s := fun w n w' hr => absurd hr (h w n w')
theorem Never.makes {α : Type} {s : Sem α} (h : Never P s) : Makes P s := fun w n w' hr => absurd hr (h w n w')

theorem calm_pure {α : Type} (a : α) : Calm P (Pure.pure a : Sem α) := fun w n w' h => by
  simp at h; obtain ⟨rfl, rfl⟩ := h; exact ⟨rfl, fun _ => rfl⟩
theorem calm_program : Calm P program := fun w n w' h => by
  simp at h; obtain ⟨rfl, rfl⟩ := h; exact ⟨rfl, fun _ => rfl⟩
theorem never_stuck {α : Type} (s : String) : Never P (stuck s : Sem α) := fun w n w' h => by simp at h
theorem never_unsupported {α : Type} (u : Unsupported) : Never P (unsupported u : Sem α) := fun w n w' h => by simp at h
theorem never_goPanic {α : Type} (v : Value) : Never P (goPanic v : Sem α) := fun w n w' h => by simp at h

theorem bind_ok {α β : Type} {s : Sem α} {f : α → Sem β} {w : World} {n : β} {w' : World} (h : (s >>= f).run P w = .ok n w') : ∃ a w1, s.run P w = .ok a w1 ∧ (f a).run P w1 = .ok n w' := by
  rw [Sem.run_bind] at h
  cases hr : s.run P w with
  | halt x w1 => rw [hr] at h; cases h
  | ok a w1 => rw [hr] at h; exact ⟨a, w1, rfl, h⟩

theorem calm_bind {α β : Type} {s : Sem α} {f : α → Sem β} (hs : Calm P s) (hf : ∀ a, Calm P (f a)) : Calm P (s >>= f) := by
  intro w n w' h
  obtain ⟨a, w1, h1, h2⟩ := bind_ok h
  obtain ⟨rfl, e1⟩ := hs w a w1 h1
  obtain ⟨rfl, e2⟩ := hf a w1 n w' h2
  exact ⟨rfl, fun w2 => by rw [Sem.run_bind, e1 w2]; exact e2 w2⟩
theorem loads_bind {α β : Type} {s : Sem α} {f : α → Sem β} (hs : Loads P s) (hf : ∀ a, Loads P (f a)) : Loads P (s >>= f) := by
  intro w n w' h
  obtain ⟨a, w1, h1, h2⟩ := bind_ok h
  obtain ⟨rfl, e1⟩ := hs w a w1 h1
  obtain ⟨rfl, e2⟩ := hf a w1 n w' h2
  exact ⟨rfl, fun o => by rw [Sem.run_bind, e1 o]; exact e2 o⟩
theorem makes_bind_calm {α β : Type} {s : Sem α} {f : α → Sem β} (hs : Calm P s) (hf : ∀ a, Makes P (f a)) : Makes P (s >>= f) := by
  intro w n w' h
  obtain ⟨a, w1, h1, h2⟩ := bind_ok h
  obtain ⟨rfl, e1⟩ := hs w a w1 h1
  exact hf a _ _ _ h2
theorem makes_bind {α β : Type} {s : Sem α} {f : α → Sem β} (hs : Makes P s) (hf : ∀ a, Calm P (f a)) : Makes P (s >>= f) := by
  intro w n w' h
  obtain ⟨a, w1, h1, h2⟩ := bind_ok h
  obtain ⟨o, rfl⟩ := hs w a w1 h1
  obtain ⟨rfl, _⟩ := hf a _ _ _ h2
  exact ⟨o, rfl⟩
theorem never_bind {α β : Type} {s : Sem α} {f : α → Sem β} (hf : ∀ a, Never P (f a)) : Never P (s >>= f) := by
  intro w n w' h
  obtain ⟨a, w1, h1, h2⟩ := bind_ok h
  exact hf a _ _ _ h2
theorem makes_newObj (o : Obj) : Makes P (newObj o) := fun w n w' h => by
  simp at h; exact ⟨o, h.2.symm⟩

theorem never_runtimePanic {α : Type} (e : RuntimeError) : Never P (runtimePanic e : Sem α) := by
  unfold runtimePanic
  refine never_bind fun p => ?_
  cases e <;> simp only [] <;> first | exact never_goPanic _ | (refine never_bind fun _ => ?_; first | exact never_goPanic _ | (refine never_bind fun _ => ?_; exact never_goPanic _))
theorem never_boundsPanic {α : Type} (k : IntKind) (x y : Int) (c : BoundsCode) : Never P (boundsPanic k x y c : Sem α) := by
  unfold boundsPanic
  dsimp only
  split <;> exact never_bind fun _ => never_runtimePanic _

theorem calm_underlying (t : TypeId) : Calm P (underlying t) := by
  unfold underlying
  refine calm_bind calm_program fun p => ?_
  split
  · exact calm_pure _
  · exact (never_stuck _).calm
theorem calm_typeInfo (t : TypeId) : Calm P (typeInfo t) := by
  unfold typeInfo
  refine calm_bind calm_program fun p => ?_
  split
  · exact calm_pure _
  · exact (never_stuck _).calm
theorem calm_sizeOf (t : TypeId) : Calm P (sizeOf t) := calm_bind (calm_typeInfo t) fun _ => calm_pure _
theorem calm_zeroValue (t : TypeId) : Calm P (zeroValue t) := by
  unfold zeroValue
  refine calm_bind (calm_typeInfo t) fun i => ?_
  split
  · exact calm_pure _
  · exact (never_unsupported _).calm
theorem calm_isAgg (t : TypeId) : Calm P (isAgg t) := by
  unfold isAgg
  refine calm_bind (calm_underlying t) fun d => ?_
  split <;> exact calm_pure _
theorem calm_part (t : TypeId) (cs : Array Value) (off : Nat) : Calm P (part t cs off) := by
  unfold part
  refine calm_bind (calm_isAgg t) fun b => ?_
  split
  · exact calm_bind (calm_sizeOf t) fun _ => calm_pure _
  · split
    · exact calm_pure _
    · exact (never_stuck _).calm
theorem calm_asBool (v : Value) : Calm P (asBool v) := by
  unfold asBool; split
  · exact calm_pure _
  · exact (never_stuck _).calm
theorem calm_asIntOf (v : Value) : Calm P (asIntOf v) := by
  unfold asIntOf; split
  · exact calm_pure _
  · exact (never_unsupported _).calm
  · exact (never_stuck _).calm
theorem calm_sureAddr (v : Value) : Calm P (Instr.sureAddr v) := by
  unfold Instr.sureAddr; split
  · exact calm_pure _
  · exact (never_stuck _).calm
theorem calm_asAddr (v : Value) : Calm P (asAddr v) := by
  unfold asAddr; split
  · exact calm_pure _
  · exact (never_runtimePanic _).calm
  · exact (never_stuck _).calm

theorem farLoad_alloc {w : World} {a : Addr} {m : Bool} {r : Value × List Addr} (h : w.farLoad P a m = .ok r) (o : Obj) : (w.alloc o).farLoad P a m = .ok r := by
  unfold World.farLoad at *
  cases hb : w.heap[a.block]? with
  | none => rw [hb] at h; simp at h
  | some x =>
    have hlt : a.block < w.heap.size := (Array.getElem?_eq_some_iff.1 hb).1
    have hb' : (w.alloc o).heap[a.block]? = some x := by
      simp only [World.alloc, Array.getElem?_push]; rw [if_neg (by omega)]; exact hb
    rw [hb] at h; rw [hb']
    cases x <;> simp only [] at h ⊢ <;> first | (simp at h; done) | skip
    rename_i at_ u
    have hseen : (w.alloc o).viewLoad P at_ u a m = w.viewLoad P at_ u a m ∨ ∃ e, w.viewLoad P at_ u a m = .error e := by
      cases hc : w.heap[at_.block]? with
      | none =>
        right
        unfold World.viewLoad World.seen
        simp only [hc]
        by_cases hs : (a.spot.isSome || at_.spot.isSome) = true
        · simp only [hs, if_true]; exact ⟨_, rfl⟩
        · simp only [hs]
          cases plainCell P P.depth u a.off with
          | none => exact ⟨_, rfl⟩
          | some like =>
            cases hl : like.bytes? with
            | none => simp [hl]; exact ⟨_, rfl⟩
            | some bs =>
              cases hbc : byteOfCell P P.depth u a.off with
              | none => simp [hl]; exact ⟨_, rfl⟩
              | some b => simp [hl]; exact ⟨_, rfl⟩
      | some y =>
        left
        have hlt2 : at_.block < w.heap.size := (Array.getElem?_eq_some_iff.1 hc).1
        have hc' : (w.alloc o).heap[at_.block]? = some y := by
          simp only [World.alloc, Array.getElem?_push]; rw [if_neg (by omega)]; exact hc
        unfold World.viewLoad World.seen
        simp only [hc, hc']
    rcases hseen with hs | ⟨e, he⟩
    · rw [hs]; exact h
    · rw [he] at h; simp at h

theorem loads_load (a : Addr) : Loads P (load a) := by
  intro w n w' h
  rw [run_load] at h
  cases hc : w.cell? a with
  | some v =>
    rw [hc] at h; simp at h; obtain ⟨rfl, rfl⟩ := h
    refine ⟨rfl, fun o => ?_⟩
    rw [run_load, World.cell?_alloc_lt w o a (World.block_lt_of_cell? w a hc), hc]
  | none =>
    rw [hc] at h
    cases hf : w.farLoad P a (Mode.plain == Mode.atomic) with
    | error x => simp only [hf] at h; cases h
    | ok r =>
      simp only [hf] at h
      obtain ⟨v, l⟩ := r
      simp at h; obtain ⟨rfl, rfl⟩ := h
      refine ⟨rfl, fun o => ?_⟩
      have hlt : a.block < w.heap.size := by
        unfold World.farLoad at hf
        cases hb : w.heap[a.block]? with
        | none => rw [hb] at hf; simp at hf
        | some x => exact (Array.getElem?_eq_some_iff.1 hb).1
      rw [run_load, World.cell?_alloc_lt w o a hlt, hc]
      simp only [farLoad_alloc hf o]
theorem loads_loadCellsFrom (a : Addr) : ∀ (n i : Nat) (acc : Array Value), Loads P (loadCellsFrom a i n acc)
  | 0, _, _ => (calm_pure _).loads
  | n + 1, i, _ => loads_bind (loads_load _) fun _ => loads_loadCellsFrom a n (i + 1) _
theorem loads_loadVar (t : TypeId) (a : Addr) : Loads P (loadVar t a) := by
  unfold loadVar
  refine loads_bind (calm_isAgg t).loads fun b => ?_
  split
  · exact loads_bind (calm_sizeOf t).loads fun n => loads_bind (loads_loadCellsFrom _ _ _ _) fun _ => (calm_pure _).loads
  · exact loads_load a

/-! ## Classes of operations -/

/-- plain: a number, a Boolean, a text -/
def isPlain : Value → Value → Bool
  | .int .., .int .. => true
  | .bool _, .bool _ => true
  | .string _, .string _ => true
  | _, _ => false
def isNil : Value → Bool
  | .pointer none => true
  | .nilIface => true
  | .slice none _ _ => true
  | .map none => true
  | .nilFunc => true
  | _ => false
def isEq : BinOp → Bool
  | .eql => true
  | .neq => true
  | _ => false
def isPlain1 : Value → Bool
  | .int .. => true
  | .bool _ => true
  | _ => false
def isRow : Value → Bool
  | .slice .. => true
  | .string _ => true
  | _ => false
def isInt : Value → Bool
  | .int .. => true
  | _ => false

/-- are the operands plain? (asked of class 1) -/
def plainAt (ρ : Operand → Value) : Op → Bool
  | .binOp op _ x y _ => isPlain (ρ x) (ρ y) || (isEq op && (isNil (ρ x) || isNil (ρ y)))
  | .unOp _ _ x => isPlain1 (ρ x)
  | .convert _ _ x => isInt (ρ x)
  | .call { args, .. } => isRow (ρ (args.getD 0 (.const undef)))
  | _ => false

/-- of the operations that yield a value: each success is one -/
def Vals (P : Program) (s : Sem Next) : Prop := ∀ w n w', s.run P w = .ok n w' → ∃ v, n = .value v
theorem vals_v (s : Sem Value) : Vals P (do pure (.value (← s))) := fun w n w' h => by
  obtain ⟨a, w1, h1, h2⟩ := bind_ok h
  simp at h2; exact ⟨a, h2.1.symm⟩
theorem vals_pure (v : Value) : Vals P (pure (.value v)) := fun w n w' h => by
  simp at h; exact ⟨v, h.1.symm⟩
theorem Never.vals {s : Sem Next} (h : Never P s) : Vals P s := fun w n w' hr => absurd hr (h w n w')

theorem calm_sliceBound (x : Value) (y : Nat) (c : BoundsCode) : Calm P (Instr.sliceBound x y c) := by
  unfold Instr.sliceBound
  refine calm_bind (calm_asIntOf x) fun ⟨k, i⟩ => ?_
  dsimp only
  split
  · exact calm_pure _
  · exact (never_boundsPanic _ _ _ _).calm
theorem calm_sliceBounds (s : Bool) (l c : Nat) (x y z : Option Value) : Calm P (Instr.sliceBounds s l c x y z) := by
  have hs : ∀ (a : Value) (b : Nat) (c : BoundsCode), Calm P (Instr.sliceBound a b c) := calm_sliceBound
  have hb : ∀ {α β : Type} (s : Sem α) (f : α → Sem β), Calm P s → (∀ a, Calm P (f a)) → Calm P (s >>= f) := fun s f h1 h2 => calm_bind h1 h2
  unfold Instr.sliceBounds
  cases x <;> cases y <;> cases z <;> dsimp only <;>
    (repeat first | exact calm_pure _ | exact (never_stuck _).calm | exact (never_bind fun _ => never_stuck _).calm | exact calm_sliceBound _ _ _ | (refine calm_bind ?_ fun _ => ?_))

theorem calm_mapM_sizes (l : List Field) : Calm P (l.mapM fun f => do pure (f.offset, ← sizeOf f.type)) := by
  induction l with
  | nil => exact calm_pure _
  | cons f l ih =>
    rw [List.mapM_cons]
    exact calm_bind (calm_bind (calm_sizeOf _) fun _ => calm_pure _) fun _ => calm_bind ih fun _ => calm_pure _

theorem calm_build (t : TypeId) (ps : Array (Nat × Value)) : Calm P (Instr.build t ps) := by
  unfold Instr.build
  refine calm_bind (calm_zeroValue t) fun z => calm_bind (calm_underlying t) fun d => ?_
  split
  · rename_i fields
    refine calm_bind ?_ fun places => ?_
    · rw [← Array.toArray_toList (xs := fields), List.mapM_toArray]
      exact calm_bind (calm_mapM_sizes _) fun _ => calm_pure _
    · split
      · exact calm_pure _
      · exact (never_stuck _).calm
  · refine calm_bind (calm_sizeOf _) fun _ => ?_
    split
    · exact calm_pure _
    · exact (never_stuck _).calm
  · exact (never_stuck _).calm

theorem calm_slice (t : TypeId) (x : Value) (l h m : Option Value) : Calm P (Instr.slice t x l h m) := by
  unfold Instr.slice
  refine calm_bind (calm_underlying t) fun d => ?_
  split
  · dsimp only
    split
    · exact calm_bind (never_stuck _).calm fun _ => calm_bind (calm_sliceBounds _ _ _ _ _ _) fun ⟨_, _, _⟩ => calm_pure _
    · exact calm_bind (calm_sliceBounds _ _ _ _ _ _) fun ⟨_, _, _⟩ => calm_pure _
  · exact calm_bind (calm_sliceBounds _ _ _ _ _ _) fun ⟨_, _, _⟩ => calm_bind (calm_sizeOf _) fun _ => calm_pure _
  · refine calm_bind (calm_asAddr _) fun _ => calm_bind (calm_underlying _) fun d => ?_
    split
    · exact calm_bind (calm_sliceBounds _ _ _ _ _ _) fun ⟨_, _, _⟩ => calm_bind (calm_sizeOf _) fun _ => calm_pure _
    · exact (never_stuck _).calm
  · exact (never_stuck _).calm

theorem calm_sliceAt (t : TypeId) (x : Value) (l h m : Option Value) : Calm P (Instr.sliceAt t x l h m) := by
  unfold Instr.sliceAt
  refine calm_bind (calm_underlying t) fun d => ?_
  split
  · exact calm_bind (calm_sureAddr _) fun _ => calm_bind (calm_sliceBounds _ _ _ _ _ _) fun ⟨_, _, _⟩ => calm_bind (calm_sizeOf _) fun _ => calm_pure _
  · exact calm_slice _ _ _ _ _

/-- a field of at least one cell -/
def bigField (P : Program) (s : TypeId) (n : Nat) : Bool :=
  match P.underlying s with
  | some (.struct fields) => match fields[n]? with
    | some f => match P.info? f.type with
      | some i => i.size != 0
      | none => true
    | none => true
  | _ => true
/-- of an argument's types: a map's alone -/
def isMapT (P : Program) (ts : Array TypeId) : Bool :=
  match ts with
  | ⟨[t]⟩ => match P.underlying t with | some (.map _ _) => true | _ => false
  | _ => false
/-- 0: calm · 1: calm where its operands are plain · 2: it loads · 3: it makes a block · 4: any other -/
def opCls (P : Program) : Op → Nat
  | .fieldAddr s _ n => if bigField P s n then 0 else 4
  | .move _ | .assign _ | .pick .. | .nilCheck _ | .indexAddr .. | .extract .. | .field .. | .index .. | .build .. | .slice .. => 0
  | .makeInterface .. => 0
  | .binOp _ t _ _ _ => match P.underlying t with | some (.struct _) | some (.array _ _) => 4 | _ => 1
  | .unOp .. => 1
  | .convert _ dst _ => match P.underlying dst with | some (.int _) => 1 | _ => 4
  | .call { callee := .builtin .len, args, argTypes } => if args.size = 1 then (if isMapT P argTypes then 2 else 1) else 4
  | .call { callee := .builtin .cap, args, .. } => if args.size = 1 then 1 else 4
  | .load .. => 2
  | .box .. | .buildSlice .. | .alloc .. => 3
  | _ => 4

theorem calm_fieldAt (s : TypeId) (a : Value) (n : Nat) (hb : bigField P s n = true) : Calm P (Instr.fieldAt s a n) := by
  intro w v w' h
  unfold Instr.fieldAt at h
  obtain ⟨d, w1, h1, h2⟩ := bind_ok h
  obtain ⟨rfl, e1⟩ := calm_underlying s w d w1 h1
  have hd : P.underlying s = some d := by
    unfold underlying at h1
    obtain ⟨p, w2, h3, h4⟩ := bind_ok h1
    simp at h3; obtain ⟨rfl, rfl⟩ := h3
    cases hu : P.underlying s with
    | none => rw [hu] at h4; simp at h4
    | some d' => rw [hu] at h4; simp at h4; rw [h4]
  cases d <;> simp only [] at h2 <;> try exact absurd h2 (never_stuck _ _ _ _)
  rename_i fields
  cases hf : fields[n]? with
  | none => rw [hf] at h2; exact absurd h2 (never_stuck _ _ _ _)
  | some f =>
    rw [hf] at h2
    simp only [] at h2
    obtain ⟨ad, w2, h3, h4⟩ := bind_ok h2
    obtain ⟨rfl, e3⟩ := calm_sureAddr a _ _ _ h3
    obtain ⟨q, w3, h5, h6⟩ := bind_ok h4
    simp at h6; obtain ⟨rfl, rfl⟩ := h6
    have hc : Calm P (fieldPlace ad f) := by
      unfold fieldPlace
      cases hi : P.info? f.type with
      | none =>
        refine (Never.calm fun w n w' hr => ?_)
        obtain ⟨z, w4, h7, _⟩ := bind_ok hr
        unfold sizeOf typeInfo at h7
        simp [hi] at h7
      | some i =>
        have hz : ¬ i.size = 0 := by simpa [bigField, hd, hf, hi] using hb
        intro w n w' hr
        have hsz : ∀ w, (sizeOf f.type).run P w = .ok i.size w := fun w => by unfold sizeOf typeInfo; simp [hi]
        rw [Sem.run_bind, hsz] at hr
        simp [hz] at hr
        obtain ⟨rfl, rfl⟩ := hr
        exact ⟨rfl, fun w2 => by rw [Sem.run_bind, hsz]; simp [hz]⟩
    obtain ⟨rfl, e5⟩ := hc _ _ _ h5
    refine ⟨rfl, fun w2 => ?_⟩
    unfold Instr.fieldAt
    rw [Sem.run_bind, e1 w2]
    simp only [Result.andThen_ok, hf]
    rw [Sem.run_bind, e3 w2]
    simp only [Result.andThen_ok]
    rw [Sem.run_bind, e5 w2]
    rfl
theorem calm_indexAt (t : TypeId) (x i : Value) : Calm P (Instr.indexAt t x i) := by
  unfold Instr.indexAt
  refine calm_bind (calm_asIntOf i) fun ⟨k, n⟩ => ?_
  dsimp only
  refine calm_bind (calm_underlying t) fun d => ?_
  have tail : ∀ (b : Option Addr) (l : Nat) (e : TypeId) (tiny : Bool), Calm P (match b with
      | some a => if 0 ≤ n ∧ n < (l : Int) then do
          let s ← sizeOf e
          pure (Value.pointer (some (a.add (n.toNat * s))))
        else if tiny = true then unsupported (.noEntry "op/indexAddr.an index out of range at an array of length 0 or 1 (ledger 616)")
        else boundsPanic k n l .index
      | none => boundsPanic k n 0 .index) := by
    intro b l e tiny
    cases b with
    | none => exact (never_boundsPanic _ _ _ _).calm
    | some a =>
      dsimp only
      split
      · exact calm_bind (calm_sizeOf _) fun _ => calm_pure _
      · split
        · exact (never_unsupported _).calm
        · exact (never_boundsPanic _ _ _ _).calm
  split
  · exact calm_bind (calm_sureAddr _) fun _ => calm_bind (calm_pure _) fun _ => calm_bind (calm_underlying t) fun _ => tail _ _ _ _
  · exact calm_bind (calm_pure _) fun _ => calm_bind (calm_underlying t) fun _ => tail _ _ _ _
  · exact calm_bind (never_stuck _).calm fun _ => calm_bind (calm_underlying t) fun _ => tail _ _ _ _
theorem calm_index (t : TypeId) (x i : Value) : Calm P (Instr.index t x i) := by
  unfold Instr.index
  refine calm_bind (calm_asIntOf i) fun ⟨k, n⟩ => ?_
  dsimp only
  refine calm_bind (calm_underlying t) fun d => ?_
  split
  · split
    · exact calm_bind (calm_sizeOf _) fun _ => calm_part _ _ _
    · exact (never_boundsPanic _ _ _ _).calm
  · split
    · exact calm_pure _
    · exact (never_boundsPanic _ _ _ _).calm
  · exact (never_stuck _).calm
theorem calm_asAgg (v : Value) : Calm P (asAgg v) := by
  unfold asAgg; split
  · exact calm_pure _
  · exact (never_stuck _).calm
theorem calm_field (t : TypeId) (x : Value) (n : Nat) : Calm P (Instr.field t x n) := by
  unfold Instr.field
  refine calm_bind (calm_underlying t) fun d => ?_
  split
  · split
    · exact calm_bind (calm_asAgg _) fun _ => calm_part _ _ _
    · exact (never_stuck _).calm
  · exact (never_stuck _).calm
theorem calm_extract (x : Value) (n : Nat) : Calm P (Instr.extract x n) := by
  unfold Instr.extract
  split
  · split
    · exact calm_pure _
    · exact (never_stuck _).calm
  · exact (never_stuck _).calm
theorem calm_makeInterface (t : TypeId) (x : Value) : Calm P (Instr.makeInterface t x) := by
  unfold Instr.makeInterface
  refine calm_bind (calm_underlying t) fun d => ?_
  split
  · exact (never_stuck _).calm
  · exact calm_pure _
theorem calm_followBlind : ∀ (l : List FieldStep) (t : TypeId) (x : Option Value), Calm P (followBlind l t x)
  | [], _, _ => calm_pure _
  | s :: rest, t, x => by
    unfold followBlind
    refine calm_bind (calm_underlying _) fun d => ?_
    split
    · split
      · split
        · exact calm_pure _
        · exact calm_followBlind _ _ _
        · exact (never_stuck _).calm
        · exact calm_pure _
        · exact calm_bind (calm_part _ _ _) fun _ => calm_followBlind _ _ _
        · exact (never_stuck _).calm
        · exact calm_followBlind _ _ _
      · exact (never_stuck _).calm
    · exact (never_stuck _).calm
theorem calm_nilAhead : ∀ (n : Nat) (t : TypeId) (v : Value) (s : String), Calm P (nilAhead n t v s)
  | 0, _, _, _ => calm_pure _
  | n + 1, t, v, s => by
    unfold nilAhead
    refine calm_bind (calm_typeInfo _) fun d => ?_
    split
    · refine calm_bind (calm_followBlind _ _ _) fun r => ?_
      split
      · exact calm_pure _
      · split
        · exact calm_nilAhead _ _ _ _
        · exact calm_pure _
        · exact (never_stuck _).calm
        · exact calm_pure _
        · exact calm_pure _
        · refine calm_bind (calm_underlying _) fun d => ?_
          split <;> exact calm_pure _
    · exact (never_stuck _).calm

theorem calm_intArith (op : BinOp) (k : IntKind) (x y : Int) : Calm P (Op.intArith op k x y) := by
  unfold Op.intArith; split <;> first | exact calm_pure _ | exact (never_stuck _).calm
theorem calm_intDiv (op : BinOp) (k : IntKind) (x y : Int) : Calm P (Op.intDiv op k x y) := by
  unfold Op.intDiv; split
  · exact (never_runtimePanic _).calm
  · split <;> first | exact calm_pure _ | exact (never_stuck _).calm
theorem calm_intBits (op : BinOp) (k : IntKind) (x y : Int) : Calm P (Op.intBits op k x y) := by
  unfold Op.intBits; dsimp only; split <;> first | exact calm_pure _ | exact (never_stuck _).calm
theorem calm_intCmp (op : BinOp) (x y : Int) : Calm P (Op.intCmp op x y) := by
  unfold Op.intCmp; split <;> first | exact calm_pure _ | exact (never_stuck _).calm
theorem calm_shift (op : BinOp) (k : IntKind) (x : Int) (k2 : IntKind) (y : Int) : Calm P (Op.shift op k x k2 y) := by
  unfold Op.shift; split
  · exact (never_runtimePanic _).calm
  · dsimp only; split <;> first | exact calm_pure _ | exact (never_stuck _).calm
theorem calm_stringOp (op : BinOp) (x y : ByteArray) : Calm P (Op.stringOp op x y) := by
  unfold Op.stringOp; dsimp only; split
  · split
    · exact (never_unsupported _).calm
    · exact calm_pure _
  all_goals first | exact calm_pure _ | exact (never_stuck _).calm
theorem calm_unary (op : UnOp) (x : Value) (hx : isPlain1 x = true) : Calm P (Op.unary op x) := by
  unfold Op.unary
  split <;> first | exact calm_intArith _ _ _ _ | exact calm_intBits _ _ _ _ | exact calm_pure _ | exact (never_unsupported _).calm | exact (never_stuck _).calm
theorem calm_equalIn_nil (n : Nat) (t : TypeId) (x y : Value) (h : isNil x = true ∨ isNil y = true) : Calm P (Op.equalIn n t x y) := by
  cases n with
  | zero => exact (never_unsupported _).calm
  | succ n =>
    unfold Op.equalIn
    refine calm_bind (calm_underlying t) fun d => ?_
    split <;> first
      | exact calm_pure _
      | exact (never_stuck _).calm
      | exact (never_unsupported _).calm
      | (split <;> first | exact calm_pure _ | exact (never_stuck _).calm)
      | (simp [isNil] at h; done)
      | skip
    rename_i a b
    unfold samePointer
    cases a <;> cases b <;> first | exact calm_pure _ | (simp [isNil] at h; done)
theorem calm_equalIn_bool (n : Nat) (t : TypeId) (x y : Bool) : Calm P (Op.equalIn n t (.bool x) (.bool y)) := by
  cases n with
  | zero => exact (never_unsupported _).calm
  | succ n =>
    unfold Op.equalIn
    refine calm_bind (calm_underlying t) fun d => ?_
    cases d <;> first | exact calm_pure _ | exact (never_stuck _).calm
theorem calm_eqGuardIn_nil (n : Nat) (t : TypeId) : Calm P (Op.eqGuardIn n t .nilIface .nilIface) := by
  cases n with
  | zero => exact (never_unsupported _).calm
  | succ n =>
    unfold Op.eqGuardIn
    refine calm_bind (calm_underlying t) fun d => ?_
    cases d <;> exact calm_pure _
theorem calm_eqGuard (op : BinOp) (t : TypeId) (x y : Operand) (a b : Value) (h : isPlain a b = true ∨ (isEq op = true ∧ (isNil a = true ∨ isNil b = true))) : Calm P (eqGuard op t x y a b) := by
  unfold eqGuard
  repeat' first
    | exact calm_pure _
    | exact (never_unsupported _).calm
    | (refine calm_bind (calm_eqGuardIn_nil _ _) fun _ => ?_)
    | (exfalso; rcases h with h | ⟨_, h | h⟩ <;> simp [isPlain, isNil] at h; done)
    | split
theorem calm_binOp (op : BinOp) (t : TypeId) (a b : Value) (h : isPlain a b = true ∨ (isEq op = true ∧ (isNil a = true ∨ isNil b = true))) : Calm P (binOp op t a b) := by
  unfold binOp
  rcases h with h | ⟨ho, h⟩
  · cases a <;> cases b <;> simp only [isPlain, Bool.false_eq_true] at h <;> cases op <;> dsimp only <;>
      first
        | exact calm_shift _ _ _ _ _
        | exact calm_stringOp _ _ _
        | exact (never_stuck _).calm
        | exact calm_bind (calm_equalIn_bool _ _ _ _) fun _ => calm_pure _
        | (split <;> first | exact (never_stuck _).calm | exact calm_intArith _ _ _ _ | exact calm_intDiv _ _ _ _ | exact calm_intBits _ _ _ _ | exact calm_intCmp _ _ _)
  · have hq : ∀ n, Calm P (Op.equalIn n t a b) := fun n => calm_equalIn_nil n t a b h
    cases op <;> simp only [isEq, Bool.false_eq_true] at ho
    all_goals
      split <;> first
        | (simp_all [isNil]; done)
        | exact calm_bind (hq _) fun _ => calm_pure _
        | exact (never_stuck _).calm
        | exact (never_unsupported _).calm
        | skip
theorem calm_len (ts : Array TypeId) (t : TypeId) (x : Value) (h : isRow x = true) : Calm P (Builtin.len_ ts t #[x]) := by
  unfold Builtin.len_
  cases ts[0]? with
  | none => exact (never_stuck _).calm
  | some t0 =>
    show Calm P (underlying t0 >>= _)
    refine calm_bind (calm_underlying t0) fun d => ?_
    cases x <;> simp only [isRow, Bool.false_eq_true] at h <;> split <;> first
      | exact calm_pure _
      | exact (never_stuck _).calm
      | (simp at *; done)
      | (refine calm_bind (calm_underlying _) fun d => ?_; split <;> first | exact calm_pure _ | exact (never_stuck _).calm)
theorem calm_cap (ts : Array TypeId) (t : TypeId) (x : Value) (h : isRow x = true) : Calm P (Builtin.cap_ ts t #[x]) := by
  unfold Builtin.cap_
  cases ts[0]? with
  | none => exact (never_stuck _).calm
  | some t0 =>
    show Calm P (underlying t0 >>= _)
    refine calm_bind (calm_underlying t0) fun d => ?_
    cases x <;> simp only [isRow, Bool.false_eq_true] at h <;> split <;> first
      | exact calm_pure _
      | exact (never_stuck _).calm
      | (simp at *; done)
      | (refine calm_bind (calm_underlying _) fun d => ?_; split <;> first | exact calm_pure _ | exact (never_stuck _).calm)
theorem calm_convert (s d : TypeId) (k k2 : IntKind) (n : Int) (hd : P.underlying d = some (.int k)) : Calm P (convert s d (.int k2 n)) := by
  have hdu : ∀ w, (underlying d).run P w = .ok (.int k) w := fun w => by unfold underlying; simp [hd]
  intro w v w' h
  unfold convert at h
  obtain ⟨ds, w1, h1, h2⟩ := bind_ok h
  obtain ⟨rfl, e1⟩ := calm_underlying s w ds w1 h1
  obtain ⟨dd, w2, h3, h4⟩ := bind_ok h2
  rw [hdu] at h3
  cases h3
  have h5 : (Conv.intToInt k n).run P w1 = .ok v w' := by cases ds <;> exact h4
  unfold Conv.intToInt at h5
  rw [Sem.run_pure] at h5
  cases h5
  refine ⟨rfl, fun w3 => ?_⟩
  unfold convert
  rw [Sem.run_bind, e1 w3]
  simp only [Result.andThen_ok]
  rw [Sem.run_bind, hdu]
  simp only [Result.andThen_ok]
  cases ds <;> rfl

/-! ## The operations, by class -/

theorem calm_op (o : Oper) (ρ : Operand → Value) (h : opCls P o.op = 0 ∨ (opCls P o.op = 1 ∧ plainAt ρ o.op = true)) : Calm P (execOp ρ o) ∧ Vals P (execOp ρ o) := by
  have v : ∀ (s : Sem Value), Calm P s → Calm P (do pure (Next.value (← s))) ∧ Vals P (do pure (Next.value (← s))) := fun s hs => ⟨calm_bind hs fun _ => calm_pure _, vals_v s⟩
  obtain ⟨dst, op, type, pos, after, guard⟩ := o
  cases op <;> (try (rcases h with h | ⟨h, _⟩ <;> simp [opCls] at h; done)) <;> simp only [execOp]
  case move x => exact ⟨calm_pure _, vals_pure _⟩
  case assign x => exact ⟨calm_pure _, vals_pure _⟩
  case pick c a b => exact ⟨calm_bind (calm_asBool _) fun _ => calm_pure _, fun w n w' h => by obtain ⟨b, w1, _, h2⟩ := bind_ok h; simp at h2; exact ⟨_, h2.1.symm⟩⟩
  case build t ps => exact v _ (calm_build _ _)
  case nilCheck x =>
    split
    · exact ⟨(never_runtimePanic _).calm, (never_runtimePanic _).vals⟩
    · exact ⟨(never_runtimePanic _).calm, (never_runtimePanic _).vals⟩
    · exact ⟨(never_runtimePanic _).calm, (never_runtimePanic _).vals⟩
    · split
      · exact ⟨(never_runtimePanic _).calm, (never_runtimePanic _).vals⟩
      · refine ⟨calm_bind calm_program fun _ => calm_bind (calm_nilAhead _ _ _ _) fun r => ?_, fun w n w' h => ?_⟩
        · split
          · exact calm_bind (never_unsupported _).calm fun _ => calm_pure _
          · exact calm_pure _
        · obtain ⟨p, w1, _, h2⟩ := bind_ok h
          obtain ⟨r, w2, _, h3⟩ := bind_ok h2
          split at h3
          · obtain ⟨_, _, h4, _⟩ := bind_ok h3
            simp at h4
          · simp at h3; exact ⟨_, h3.1.symm⟩
      · exact ⟨calm_pure _, vals_pure _⟩
    · exact ⟨calm_pure _, vals_pure _⟩
  case binOp op t x y yt =>
    have hp : isPlain (ρ x) (ρ y) = true ∨ (isEq op = true ∧ (isNil (ρ x) = true ∨ isNil (ρ y) = true)) := by
      rcases h with h | ⟨_, h⟩
      · exfalso; revert h; simp only [opCls]; split <;> simp
      · simpa [plainAt] using h
    exact v _ (calm_bind (calm_eqGuard _ _ _ _ _ _ hp) fun _ => calm_binOp _ _ _ _ hp)
  case unOp op t x =>
    rcases h with h | ⟨_, h⟩
    · simp [opCls] at h
    · exact v _ (calm_unary _ _ h)
  case convert s d x =>
    cases hd : P.underlying d with
    | none => rcases h with h | ⟨h, _⟩ <;> simp [opCls, hd] at h
    | some dd =>
      cases dd <;> (try (rcases h with h | ⟨h, _⟩ <;> simp [opCls, hd] at h; done))
      rename_i k
      rcases h with h | ⟨_, h⟩
      · simp [opCls, hd] at h
      · simp only [plainAt] at h
        cases hx : ρ x <;> simp only [hx, isInt, Bool.false_eq_true] at h
        exact v _ (calm_convert s d k _ _ hd)
  case makeInterface t x => exact v _ (calm_makeInterface _ _)
  case slice t x l h m => exact v _ (calm_sliceAt _ _ _ _ _)
  case fieldAddr t x n =>
    rcases h with h | ⟨h, _⟩
    · have hb : bigField P t n = true := by
        cases hb : bigField P t n <;> simp [opCls, hb] at h
        rfl
      exact v _ (calm_fieldAt _ _ _ hb)
    · exfalso; revert h; simp only [opCls]; split <;> simp
  case field t x n => exact v _ (calm_field _ _ _)
  case indexAddr t x i => exact v _ (calm_indexAt _ _ _)
  case index t x i => exact v _ (calm_index _ _ _)
  case extract x n => exact v _ (calm_extract _ _)
  case call c =>
    obtain ⟨callee, args, ts⟩ := c
    cases callee <;> (try (rcases h with h | ⟨h, _⟩ <;> simp [opCls] at h; done))
    rename_i b
    cases b <;> (try (rcases h with h | ⟨h, _⟩ <;> simp [opCls] at h; done))
    all_goals
      have hs : args.size = 1 := by
        rcases h with h | ⟨h, _⟩
        · simp only [opCls] at h; split at h <;> simp_all
        · simp only [opCls] at h; split at h <;> simp_all
      rcases h with h | ⟨_, h⟩
      · simp only [opCls, hs, if_true] at h; first | (cases h; done) | (split at h <;> cases h)
      · match args, hs with
        | ⟨[x]⟩, _ =>
          simp only [plainAt] at h
          have h' : isRow (ρ x) = true := h
          simp only [resolve, pure_bind, invoke, builtin, List.map_toArray, List.map_cons, List.map_nil]
          first
            | exact v _ (calm_len _ _ _ h')
            | exact v _ (calm_cap _ _ _ h')

theorem opCls_call (c : Call) : opCls P (.call c) = 1 ∨ opCls P (.call c) = 4 ∨ (opCls P (.call c) = 2 ∧ ∃ x t, c = { callee := .builtin .len, args := #[x], argTypes := #[t] } ∧ ∃ k e, P.underlying t = some (.map k e)) := by
  obtain ⟨callee, args, ts⟩ := c
  cases callee <;> (try exact .inr (.inl rfl))
  rename_i b
  cases b <;> (try exact .inr (.inl rfl)) <;> simp only [opCls]
  · split
    · exact .inl rfl
    · exact .inr (.inl rfl)
  · split
    · rename_i hs
      split
      · rename_i hm
        refine .inr (.inr ⟨rfl, ?_⟩)
        match args, hs with
        | ⟨[x]⟩, _ =>
          unfold isMapT at hm
          split at hm
          · rename_i t
            split at hm
            · rename_i k e hu
              exact ⟨x, t, rfl, k, e, hu⟩
            · cases hm
          · cases hm
      · exact .inl rfl
    · exact .inr (.inl rfl)
theorem loads_getObj (r : Nat) : Loads P (getObj r) := by
  intro w n w' h
  cases hc : w.heap[r]? with
  | none => simp [getObj, Sem.run, hc] at h
  | some o =>
    have hlt := (Array.getElem?_eq_some_iff.1 hc).1
    have h2 : ∀ o2, (w.alloc o2).heap[r]? = some o := fun o2 => by
      simp only [World.alloc, Array.getElem?_push]; rw [if_neg (by omega)]; exact hc
    cases o <;> (first | (simp [getObj, Sem.run, hc] at h; done) | (simp [getObj, Sem.run, hc] at h; obtain ⟨rfl, rfl⟩ := h; exact ⟨rfl, fun o2 => by simp [getObj, Sem.run, h2 o2]⟩))
theorem loads_len (t : TypeId) (ts : TypeId) (x : Value) {k e : TypeId} (ht : P.underlying t = some (.map k e)) : Loads P (Builtin.len_ #[t] ts #[x]) := by
  intro w n w' h
  cases x <;> (try (simp [Builtin.len_, run_underlying ht] at h; done))
  rename_i o
  cases o with
  | none =>
    simp [Builtin.len_, run_underlying ht] at h ⊢
    exact ⟨h.2.symm, h.1⟩
  | some r =>
    have e : ∀ w, (Builtin.len_ #[t] ts #[.map (some r)]).run P w = ((getObj r).run P w).andThen fun o w => (match o with | .map entries _ => (pure (goInt entries.size) : Sem Value) | _ => stuck "len: map expected").run P w := fun w => by
      simp only [Builtin.len_, Sem.run_bind]
      simp [run_underlying ht]
      rfl
    rw [e] at h
    cases hg : (getObj r).run P w with
    | halt y w1 => rw [hg] at h; cases h
    | ok ob w1 =>
      obtain ⟨rfl, hm⟩ := loads_getObj r w ob w1 hg
      rw [hg] at h
      cases ob <;> simp at h
      obtain ⟨rfl, rfl⟩ := h
      refine ⟨rfl, fun o2 => ?_⟩
      rw [e, hm o2]
      simp
theorem loads_op (o : Oper) (ρ : Operand → Value) (h : opCls P o.op = 2) : Loads P (execOp ρ o) ∧ Vals P (execOp ρ o) := by
  obtain ⟨dst, op, type, pos, after, guard⟩ := o
  cases op <;> first
    | (simp [opCls] at h; done)
    | (exfalso; revert h; simp only [opCls]; split <;> simp; done)
    | (exfalso; revert h; simp only [opCls]; split <;> (try split) <;> simp; done)
    | skip
  case load t a => exact ⟨loads_bind (loads_bind (calm_sureAddr _).loads fun _ => loads_loadVar _ _) fun _ => (calm_pure _).loads, vals_v _⟩
  case call c =>
    rcases opCls_call (P := P) c with h' | h' | ⟨_, x, t, rfl, k, e, ht⟩
    · rw [h'] at h; cases h
    · rw [h'] at h; cases h
    · simp only [execOp, resolve, pure_bind, invoke, builtin, List.map_toArray, List.map_cons, List.map_nil]
      exact ⟨loads_bind (loads_len _ _ _ ht) fun _ => (calm_pure _).loads, vals_v _⟩

theorem makes_op (o : Oper) (ρ : Operand → Value) (h : opCls P o.op = 3) : Makes P (execOp ρ o) ∧ Vals P (execOp ρ o) := by
  obtain ⟨dst, op, type, pos, after, guard⟩ := o
  have nv : ∀ (t : TypeId) (x : Value), Makes P (newVar t x) := fun t x => makes_bind (makes_newObj _) fun _ => calm_pure _
  cases op <;> first
    | (simp [opCls] at h; done)
    | (exfalso; revert h; simp only [opCls]; split <;> simp; done)
    | (exfalso; revert h; simp only [opCls]; split <;> (try split) <;> simp; done)
    | (exfalso; rcases opCls_call (P := P) ‹Call› with h' | h' | ⟨h', _⟩ <;> simp [h'] at h; done)
    | skip
  case alloc t =>
    refine ⟨makes_bind (makes_bind_calm (calm_zeroValue _) fun z => ?_) fun _ => calm_pure _, vals_v _⟩
    exact makes_bind (nv _ _) fun _ => calm_pure _
  case box t x => exact ⟨makes_bind (makes_bind (nv _ _) fun _ => calm_pure _) fun _ => calm_pure _, vals_v _⟩
  case buildSlice t n ps =>
    refine ⟨makes_bind ?_ fun _ => calm_pure _, vals_v _⟩
    unfold Instr.buildSlice
    refine makes_bind_calm (calm_underlying _) fun d => ?_
    have fin : ∀ (e : TypeId) (c : Array Value), Makes P (do
        let s ← newRow e c
        pure (Value.slice (some s) n n)) := fun e c => makes_bind (nv e (.agg c)) fun _ => calm_pure _
    have rest : ∀ (e : TypeId) (sz : Nat), Makes P (do
        let zero ← if n * sz = 0 then pure #[] else do pure (← zeroValue e).cells
        let some cells := Instr.fill (fun i => some (i * sz, sz)) ((Array.range (n * sz)).map (zero[· % zero.size]!)) (ps.map fun (i, x) => (i, ρ x)).toList
          | stuck "buildSlice: a part of the wrong size"
        pure (.slice (some (← newRow e cells)) n n) : Sem Value) := by
      intro e sz
      have jp : ∀ (zero : Array Value), Makes P (match Instr.fill (fun i => some (i * sz, sz)) ((Array.range (n * sz)).map (zero[· % zero.size]!)) (ps.map fun (i, x) => (i, ρ x)).toList with
          | some cells => do
            let a ← newRow e cells
            pure (Value.slice (some a) n n)
          | _ => stuck "buildSlice: a part of the wrong size") := by
        intro zero
        split
        · exact fin _ _
        · exact (never_stuck _).makes
      dsimp only
      by_cases h0 : n * sz = 0
      · rw [if_pos h0]; exact makes_bind_calm (calm_pure _) jp
      · rw [if_neg h0]; exact makes_bind_calm (calm_zeroValue _) fun _ => makes_bind_calm (calm_pure _) jp
    split
    · refine makes_bind_calm (calm_sizeOf _) fun sz => ?_
      dsimp only
      split
      · exact makes_bind_calm (never_unsupported _).calm fun _ => rest _ _
      · exact rest _ _
    · exact (never_stuck _).makes

end
end Go.Tx

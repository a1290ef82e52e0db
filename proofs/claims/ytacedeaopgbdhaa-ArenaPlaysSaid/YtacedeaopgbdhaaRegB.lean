/-
  A region that draws its order may be walked in the order of its text: the theorem.
-/
import Derived.Test.YtacedeaopgbdhaaReg
namespace Go.Tx
open Go

section
variable {P : Program} {ops : Array Oper} {Q : Exit → Act → World → Prop}

/-- nothing but a normal end -/
structure Only (Q : Exit → Act → World → Prop) : Prop where
  pan : ∀ c a w, ¬ Q (.panic c) a w
  out : ∀ a w, ¬ Q .outgrown a w

/-- what an operation yields, and the world behind it -/
def YAt (P : Program) (ops : Array Oper) (o : Oper) (v : Value) (a : Act) (w w' : World) : Prop :=
  (Region.wanted o (yielded ops a.tmps) = true ∧ (execOp a.eval o).run P w = .ok (.value v) w') ∨ (Region.wanted o (yielded ops a.tmps) = false ∧ v = undef ∧ w' = w)

theorem YAt.wpOp {i : Nat} {o : Oper} {v : Value} {a : Act} {w w' : World} (hi : ops[i]? = some o) (hy : YAt P ops o v a w w') {K : Act → World → Prop} (h : K (a.put o.dst v) w') : wpOp P ops Q i K a w := by
  unfold Go.wpOp
  simp only [hi]
  rcases hy with ⟨hw, hv⟩ | ⟨hw, rfl, rfl⟩
  · simp only [hw, if_true, Oper.wp, hv, Oper.upon]; exact .inl h
  · simp only [hw, Bool.false_eq_true, if_false]; exact h

theorem wpOp_value {i : Nat} {o : Oper} {a : Act} {w : World} {K : Act → World → Prop} (hi : ops[i]? = some o) (hQ : Only Q) (hv : Vals P (execOp a.eval o)) (h : wpOp P ops Q i K a w) :
    ∃ v w', YAt P ops o v a w w' ∧ K (a.put o.dst v) w' := by
  unfold Go.wpOp at h
  simp only [hi] at h
  by_cases hw : Region.wanted o (yielded ops a.tmps) = true
  · simp only [hw, if_true] at h
    rcases h with h | ⟨_, a0, w0, h0⟩
    · unfold Oper.wp at h
      cases hr : (execOp a.eval o).run P w with
      | ok n w' =>
        obtain ⟨v, rfl⟩ := hv w n w' hr
        rw [hr] at h
        exact ⟨v, w', .inl ⟨hw, hr⟩, h⟩
      | halt x w' =>
        rw [hr] at h
        cases x <;> first | exact h.elim | exact (hQ.pan _ _ _ h).elim
    · exact (hQ.out _ _ h0).elim
  · have hw' : Region.wanted o (yielded ops a.tmps) = false := by simpa using hw
    simp only [hw', Bool.false_eq_true, if_false] at h
    exact ⟨undef, w, .inr ⟨hw', rfl, rfl⟩, h⟩

/-- the acts behind an operation -/
def Behind (o : Oper) (a a' : Act) : Prop := ∃ u ds, a' = (Act.mk a.tmps ds).put o.dst u

theorem wpOp_shape {i : Nat} {o : Oper} {a : Act} {w : World} {K : Act → World → Prop} (hi : ops[i]? = some o) (h : wpOp P ops Q i K a w) :
    wpOp P ops Q i (fun a' w' => K a' w' ∧ Behind o a a') a w := by
  have self : ∀ u, Behind o a (a.put o.dst u) := fun u => ⟨u, a.defers, rfl⟩
  unfold Go.wpOp at *
  simp only [hi] at *
  split
  · rename_i hw
    simp only [hw, if_true] at h
    refine h.imp (fun h => ?_) id
    unfold Oper.wp at *
    generalize (execOp a.eval o).run P w = r at *
    cases r with
    | ok n w' =>
      cases n <;> simp only [Oper.upon] at h ⊢
      case value => exact ⟨h, self _⟩
      case skip => exact ⟨h, self _⟩
      case defer d => exact ⟨h, _, _, rfl⟩
      case enter f args => exact Calls.mono h fun e w'' he => by cases e <;> first | exact ⟨he, self _⟩ | exact he
      case row r args => exact Rows.mono h fun v w'' he => ⟨he, self _⟩
    | halt x w' => cases x <;> simp only [Oper.upon] at h ⊢ <;> exact h
  · rename_i hw
    simp only [hw] at h
    exact ⟨h, self _⟩

theorem wpOp_inh {i : Nat} {o : Oper} {a : Act} {w : World} {K : Act → World → Prop} (hi : ops[i]? = some o) (hQ : Only Q) (h : wpOp P ops Q i K a w) : ∃ a' w', K a' w' := by
  unfold Go.wpOp at h
  simp only [hi] at h
  split at h
  · rcases h with h | ⟨_, a0, w0, h0⟩
    · unfold Oper.wp at h
      generalize (execOp a.eval o).run P w = r at *
      cases r with
      | ok n w' =>
        cases n <;> simp only [Oper.upon] at h
        case value v => exact ⟨_, _, h⟩
        case skip => exact ⟨_, _, h⟩
        case defer d => exact ⟨_, _, h⟩
        case enter f args =>
          obtain ⟨e, w'', fr, hR, _⟩ := h []
          cases e with
          | returned v => exact ⟨_, _, hR⟩
          | panicked c => exact (hQ.pan _ _ _ hR).elim
          | outgrown => obtain ⟨a0, w0, h0⟩ := hR; exact (hQ.out _ _ h0).elim
        case row r args =>
          obtain ⟨v, w'', hR, _⟩ := h default []
          exact ⟨_, _, hR⟩
      | halt x w' => cases x <;> simp only [Oper.upon] at h <;> exact (hQ.pan _ _ _ h).elim
    · exact (hQ.out _ _ h0).elim
  · exact ⟨_, _, h⟩

theorem Behind.put {o o2 : Oper} {a a' : Act} (h : Behind o a a') (hs : ∀ cs b, o2.op ≠ .select cs b) (hd : ∀ d, o.dst = some d → d ∉ o2.looksAt ops) :
    execOp a'.eval o2 = execOp a.eval o2 ∧ Region.wanted o2 (yielded ops a'.tmps) = Region.wanted o2 (yielded ops a.tmps) := by
  obtain ⟨u, ds, rfl⟩ := h
  refine ⟨?_, ?_⟩
  · rw [execOp_put o2 hs _ _ _ hd]; rfl
  · rw [wanted_put o2 _ _ _ hd]

theorem YAt.behind {o o2 : Oper} {a a' : Act} {v : Value} {w w' : World} (hb : Behind o a a') (hs : ∀ cs b, o2.op ≠ .select cs b) (hd : ∀ d, o.dst = some d → d ∉ o2.looksAt ops) :
    YAt P ops o2 v a' w w' ↔ YAt P ops o2 v a w w' := by
  obtain ⟨h1, h2⟩ := hb.put (ops := ops) hs hd
  unfold YAt
  rw [h1, h2]

/-- an operation behind another's store into its slot -/
theorem wpOp_put_rev {i : Nat} {oi : Oper} {d : Option Tmp} {u : Value} {a : Act} {w : World} {K : Act → World → Prop} (hi : ops[i]? = some oi) (hsi : ∀ cs b, oi.op ≠ .select cs b) (hQ : Only Q)
    (hl : ∀ t, d = some t → t ∉ oi.looksAt ops) (hd : ∀ t, d = some t → oi.dst ≠ some t)
    (h : wpOp P ops Q i (fun a' w' => K (a'.put d u) w') a w) : wpOp P ops Q i K (a.put d u) w := by
  unfold Go.wpOp at *
  simp only [hi] at *
  rw [wanted_put oi a d u hl]
  split
  · rename_i hw
    simp only [hw, if_true] at h
    rcases h with h | ⟨_, a0, w0, h0⟩
    · refine .inl ?_
      unfold Oper.wp at *
      rw [execOp_put oi hsi a d u hl]
      generalize (execOp a.eval oi).run P w = r at *
      cases r with
      | ok n w' =>
        cases n <;> simp only [Oper.upon] at h ⊢
        case value v => rw [Act.put_comm a u v hd]; exact h
        case skip => rw [Act.put_comm a u _ hd]; exact h
        case defer dd => rw [Act.put_defers, Act.put_comm _ u _ hd]; exact h
        case enter f args =>
          exact Calls.mono h fun e w'' he => by
            cases e with
            | returned v => show K ((a.put d u).put oi.dst v) w''; rw [Act.put_comm a u v hd]; exact he
            | panicked c => exact (hQ.pan _ _ _ he).elim
            | outgrown => exact he
        case row r args => exact Rows.mono h fun v w'' he => by rw [Act.put_comm a u v hd]; exact he
      | halt x w' => cases x <;> simp only [Oper.upon] at h ⊢ <;> exact (hQ.pan _ _ _ h).elim
    · exact (hQ.out _ _ h0).elim
  · rename_i hw
    simp only [hw] at h
    rw [Act.put_comm a u _ hd]; exact h


/-- what an operation yields it does yield -/
theorem wpOp_at {i : Nat} {o : Oper} {v : Value} {a : Act} {w w' : World} {K : Act → World → Prop} (hi : ops[i]? = some o) (hQ : Only Q) (hy : YAt P ops o v a w w') (h : wpOp P ops Q i K a w) : K (a.put o.dst v) w' := by
  unfold Go.wpOp at h
  simp only [hi] at h
  rcases hy with ⟨hw, hv⟩ | ⟨hw, rfl, rfl⟩
  · simp only [hw, if_true, Oper.wp, hv, Oper.upon] at h
    rcases h with h | ⟨_, a0, w0, h0⟩
    · exact h
    · exact (hQ.out _ _ h0).elim
  · simp only [hw, Bool.false_eq_true, if_false] at h; exact h

/-! ## Two operations that may change places -/

/-- a step of the text: the operation's own; the invariant H holds behind it; its operands are plain where its class asks it; and if it is one of those that are held (hl): it yields one value in every world of H -/
def stp (H : World → Prop) (hl : List Nat) (P : Program) (ops : Array Oper) (Q : Exit → Act → World → Prop) (i : Nat) (K : Act → World → Prop) (a : Act) (w : World) : Prop :=
  wpOp P ops Q i (fun a' w' => H w' ∧ K a' w') a w ∧ (∀ o, ops[i]? = some o → opCls P o.op = 1 → Region.wanted o (yielded ops a.tmps) = true → plainAt a.eval o.op = true) ∧
    (hl.contains i = true → ∀ o, ops[i]? = some o → ∃ v, ∀ w, H w → YAt P ops o v a w w)

variable {H : World → Prop} {hl : List Nat}

theorem stp_mono {i : Nat} {a : Act} {w : World} {K K' : Act → World → Prop} (h : ∀ a w, H w → K a w → K' a w) (hh : stp H hl P ops Q i K a w) : stp H hl P ops Q i K' a w :=
  ⟨wpOp_mono (fun a w hk => ⟨hk.1, h a w hk.1 hk.2⟩) hh.1, hh.2⟩

def calmB (c : Nat) : Bool := c == 0 || c == 1
def quietB (c : Nat) : Bool := c == 0 || c == 1 || c == 2

/-- may the second (number j) go ahead of the first (number i)? -/
def commB (hl : List Nat) (P : Program) (ops : Array Oper) (i : Nat) (x : Oper) (j : Nat) (y : Oper) : Bool :=
  x.apart ops y && (calmB (opCls P x.op) || calmB (opCls P y.op) || hl.contains i || hl.contains j || (quietB (opCls P x.op) && quietB (opCls P y.op)) || (quietB (opCls P x.op) && opCls P y.op == 3))

theorem plain_same {o : Oper} {ρ ρ' : Operand → Value} (h : ∀ x ∈ o.op.operands, ρ x = ρ' x) : opCls P o.op = 1 → plainAt ρ o.op = plainAt ρ' o.op := by
  obtain ⟨dst, op, type, pos, after, guard⟩ := o
  intro hc
  cases op <;> simp only [Op.operands] at h <;> simp only [plainAt]
  case binOp op t x y yt => rw [h x (by simp), h y (by simp)]
  case unOp op t x => rw [h x (by simp)]
  case convert s d x => rw [h x (by simp)]
  case call c =>
    obtain ⟨callee, args, ts⟩ := c
    have hs : args.size = 1 := by
      cases callee <;> (try (simp [opCls] at hc; done))
      rename_i b
      cases b <;> (try (simp [opCls] at hc; done)) <;> (simp only [opCls] at hc; split at hc <;> simp_all)
    match args, hs with
    | ⟨[x]⟩, _ =>
      have hx := h x (by simp [Call.operands])
      show isRow (ρ x) = isRow (ρ' x)
      rw [hx]

theorem eval_behind {o : Oper} {a a' : Act} (h : Behind o a a') {o2 : Oper} (hd : ∀ d, o.dst = some d → d ∉ o2.looksAt ops) : ∀ x ∈ o2.op.operands, a'.eval x = a.eval x := by
  obtain ⟨u, ds, rfl⟩ := h
  intro x hx
  rw [Act.eval_put]
  · rfl
  · intro d hdd hxd
    refine hd d hdd ?_
    subst hxd
    exact List.mem_append_left _ (List.mem_filterMap.2 ⟨.tmp d, by simpa using hx, rfl⟩)

theorem stp_behind {i : Nat} {oi oj : Oper} {a a' : Act} (hi : ops[i]? = some oi) (hb : Behind oj a a') (hs : ∀ cs b, oi.op ≠ .select cs b) (hd : ∀ d, oj.dst = some d → d ∉ oi.looksAt ops)
    (h : (∀ o, ops[i]? = some o → opCls P o.op = 1 → Region.wanted o (yielded ops a.tmps) = true → plainAt a.eval o.op = true) ∧ (hl.contains i = true → ∀ o, ops[i]? = some o → ∃ v, ∀ w, H w → YAt P ops o v a w w)) :
    (∀ o, ops[i]? = some o → opCls P o.op = 1 → Region.wanted o (yielded ops a'.tmps) = true → plainAt a'.eval o.op = true) ∧ (hl.contains i = true → ∀ o, ops[i]? = some o → ∃ v, ∀ w, H w → YAt P ops o v a' w w) := by
  refine ⟨fun o ho hc hw => ?_, fun hh o ho => ?_⟩
  · have : o = oi := Option.some.inj (ho.symm.trans hi)
    subst this
    rw [(hb.put (ops := ops) hs hd).2] at hw
    rw [plain_same (eval_behind hb hd) hc]
    exact h.1 o ho hc hw
  · have : o = oi := Option.some.inj (ho.symm.trans hi)
    subst this
    obtain ⟨v, hv⟩ := h.2 hh o ho
    exact ⟨v, fun w hw => (YAt.behind hb hs hd).2 (hv w hw)⟩

theorem stp_front {i : Nat} {oi oj : Oper} {a a' : Act} (hi : ops[i]? = some oi) (hb : Behind oj a a') (hs : ∀ cs b, oi.op ≠ .select cs b) (hd : ∀ d, oj.dst = some d → d ∉ oi.looksAt ops)
    (h : (∀ o, ops[i]? = some o → opCls P o.op = 1 → Region.wanted o (yielded ops a'.tmps) = true → plainAt a'.eval o.op = true) ∧ (hl.contains i = true → ∀ o, ops[i]? = some o → ∃ v, ∀ w, H w → YAt P ops o v a' w w)) :
    (∀ o, ops[i]? = some o → opCls P o.op = 1 → Region.wanted o (yielded ops a.tmps) = true → plainAt a.eval o.op = true) ∧ (hl.contains i = true → ∀ o, ops[i]? = some o → ∃ v, ∀ w, H w → YAt P ops o v a w w) := by
  refine ⟨fun o ho hc hw => ?_, fun hh o ho => ?_⟩
  · have : o = oi := Option.some.inj (ho.symm.trans hi)
    subst this
    rw [← (hb.put (ops := ops) hs hd).2] at hw
    rw [← plain_same (eval_behind hb hd) hc]
    exact h.1 o ho hc hw
  · have : o = oi := Option.some.inj (ho.symm.trans hi)
    subst this
    obtain ⟨v, hv⟩ := h.2 hh o ho
    exact ⟨v, fun w hw => (YAt.behind hb hs hd).1 (hv w hw)⟩

theorem calm_at {i : Nat} {o : Oper} {a : Act} (hi : ops[i]? = some o) (hc : calmB (opCls P o.op) = true) (hw : Region.wanted o (yielded ops a.tmps) = true)
    (hpl : ∀ o, ops[i]? = some o → opCls P o.op = 1 → Region.wanted o (yielded ops a.tmps) = true → plainAt a.eval o.op = true) : Calm P (execOp a.eval o) ∧ Vals P (execOp a.eval o) := by
  refine calm_op o a.eval ?_
  simp only [calmB, Bool.or_eq_true, beq_iff_eq] at hc
  exact hc.imp id fun h => ⟨h, hpl o hi h hw⟩

/-- what a calm operation yields, in whatever world; what a held one yields, in whatever world of H -/
theorem calm_yields {i : Nat} {o : Oper} {a : Act} {w : World} {K : Act → World → Prop} (hi : ops[i]? = some o) (hQ : Only Q) (hH : H w) (hc : (calmB (opCls P o.op) || hl.contains i) = true) (h : stp H hl P ops Q i K a w) :
    ∃ v, (∀ w, H w → YAt P ops o v a w w) ∧ K (a.put o.dst v) w := by
  by_cases hh : hl.contains i = true
  · obtain ⟨v, hv⟩ := h.2.2 hh o hi
    exact ⟨v, hv, (wpOp_at hi hQ (hv w hH) h.1).2⟩
  · have hc' : calmB (opCls P o.op) = true := by rw [Bool.or_eq_true] at hc; exact hc.resolve_right hh
    by_cases hw : Region.wanted o (yielded ops a.tmps) = true
    · obtain ⟨hcalm, hvals⟩ := calm_at hi hc' hw h.2.1
      obtain ⟨v, w', hy, hk⟩ := wpOp_value hi hQ hvals h.1
      rcases hy with ⟨_, hr⟩ | ⟨hw', _, _⟩
      · obtain ⟨rfl, he⟩ := hcalm _ _ _ hr
        exact ⟨v, fun w2 _ => .inl ⟨hw, he w2⟩, hk.2⟩
      · rw [hw] at hw'; cases hw'
    · have hw' : Region.wanted o (yielded ops a.tmps) = false := by simpa using hw
      have h1 := h.1
      unfold Go.wpOp at h1
      simp only [hi, hw', Bool.false_eq_true, if_false] at h1
      exact ⟨undef, fun w2 _ => .inr ⟨hw', rfl, rfl⟩, h1.2⟩

theorem quiet_yields {i : Nat} {o : Oper} {a : Act} {w : World} {K : Act → World → Prop} (hi : ops[i]? = some o) (hQ : Only Q) (hc : quietB (opCls P o.op) = true) (h : stp H hl P ops Q i K a w) :
    ∃ v, YAt P ops o v a w w ∧ (∀ ob, YAt P ops o v a (w.alloc ob) (w.alloc ob)) ∧ K (a.put o.dst v) w := by
  by_cases hw : Region.wanted o (yielded ops a.tmps) = true
  · by_cases hcc : calmB (opCls P o.op) = true
    · obtain ⟨hcalm, hvals⟩ := calm_at hi hcc hw h.2.1
      obtain ⟨v, w', hy, hk⟩ := wpOp_value hi hQ hvals h.1
      rcases hy with ⟨_, hr⟩ | ⟨hw', _, _⟩
      · obtain ⟨rfl, he⟩ := hcalm _ _ _ hr
        exact ⟨v, .inl ⟨hw, hr⟩, fun ob => .inl ⟨hw, he _⟩, hk.2⟩
      · rw [hw] at hw'; cases hw'
    · have h2 : opCls P o.op = 2 := by
        simp only [quietB, calmB, Bool.or_eq_true, beq_iff_eq] at hc hcc
        omega
      obtain ⟨hl, hvals⟩ := loads_op (P := P) o a.eval h2
      obtain ⟨v, w', hy, hk⟩ := wpOp_value hi hQ hvals h.1
      rcases hy with ⟨hw, hr⟩ | ⟨hw', rfl, rfl⟩
      · obtain ⟨rfl, he⟩ := hl _ _ _ hr
        exact ⟨v, .inl ⟨hw, hr⟩, fun ob => .inl ⟨hw, he ob⟩, hk.2⟩
      · exact ⟨undef, .inr ⟨hw', rfl, rfl⟩, fun ob => .inr ⟨hw', rfl, rfl⟩, hk.2⟩
  · have hw' : Region.wanted o (yielded ops a.tmps) = false := by simpa using hw
    have h1 := h.1
    unfold Go.wpOp at h1
    simp only [hi, hw', Bool.false_eq_true, if_false] at h1
    exact ⟨undef, .inr ⟨hw', rfl, rfl⟩, fun ob => .inr ⟨hw', rfl, rfl⟩, h1.2⟩

theorem makes_yields {i : Nat} {o : Oper} {a : Act} {w : World} {K : Act → World → Prop} (hi : ops[i]? = some o) (hQ : Only Q) (hc : opCls P o.op = 3) (h : stp H hl P ops Q i K a w) :
    ∃ v w', YAt P ops o v a w w' ∧ (w' = w ∨ ∃ ob, w' = w.alloc ob) ∧ H w' ∧ K (a.put o.dst v) w' := by
  obtain ⟨hm, hvals⟩ := makes_op (P := P) o a.eval hc
  obtain ⟨v, w', hy, hk⟩ := wpOp_value hi hQ hvals h.1
  refine ⟨v, w', hy, ?_, hk⟩
  rcases hy with ⟨_, hr⟩ | ⟨_, _, rfl⟩
  · obtain ⟨ob, rfl⟩ := hm _ _ _ hr
    exact .inr ⟨ob, rfl⟩
  · exact .inl rfl

theorem YAt.same {o : Oper} {v u : Value} {a : Act} {w w1 w2 : World} (h : YAt P ops o v a w w1) (k : YAt P ops o u a w w2) : v = u ∧ w1 = w2 := by
  rcases h with ⟨h1, h2⟩ | ⟨h1, rfl, rfl⟩ <;> rcases k with ⟨k1, k2⟩ | ⟨k1, rfl, rfl⟩
  · rw [h2] at k2; cases k2; exact ⟨rfl, rfl⟩
  · rw [h1] at k1; cases k1
  · rw [h1] at k1; cases k1
  · exact ⟨rfl, rfl⟩

/-- first i, then j: so j may go first -/
theorem swap {i j : Nat} {oi oj : Oper} (hi : ops[i]? = some oi) (hj : ops[j]? = some oj) (hsi : ∀ cs b, oi.op ≠ .select cs b) (hsj : ∀ cs b, oj.op ≠ .select cs b) (hQ : Only Q)
    (hc : commB hl P ops i oi j oj = true) {K : Act → World → Prop} {a : Act} {w : World} (hH : H w) (h : stp H hl P ops Q i (fun a' w' => stp H hl P ops Q j K a' w') a w) :
    stp H hl P ops Q j (fun a' w' => stp H hl P ops Q i K a' w') a w := by
  simp only [commB, Bool.and_eq_true] at hc
  obtain ⟨hap, hc⟩ := hc
  obtain ⟨l1, l2, l3⟩ := Oper.apart_spec hap
  have l2' : ∀ d, oj.dst = some d → oi.dst ≠ some d := fun d hd he => l2 d he hd
  have hsh := wpOp_shape hi h.1
  obtain ⟨a0, w0, ⟨hH0, hst0⟩, hb0⟩ := wpOp_inh hi hQ hsh
  have jp := stp_front (H := H) (hl := hl) hj hb0 hsj l1 hst0.2
  refine ⟨?_, jp⟩
  have istep : ∀ (a2 : Act) w2, Behind oj a a2 → wpOp P ops Q i (fun a' w' => H w' ∧ K a' w') a2 w2 → stp H hl P ops Q i K a2 w2 := fun a2 w2 hb hwp => ⟨hwp, stp_behind hi hb hsi l3 h.2⟩
  by_cases hcj : (calmB (opCls P oj.op) || hl.contains j) = true
  · -- j is calm, or held
    obtain ⟨u, hyu, _⟩ := calm_yields hj hQ hH0 hcj hst0
    have hyu' : ∀ w, H w → YAt P ops oj u a w w := fun w hw => (YAt.behind hb0 hsj l1).1 (hyu w hw)
    refine YAt.wpOp hj (hyu' w hH) ⟨hH, istep _ _ ⟨u, a.defers, rfl⟩ ?_⟩
    refine wpOp_put_rev hi hsi hQ l3 l2' ?_
    refine wpOp_mono (fun a' w' hh => ?_) hsh
    obtain ⟨⟨hH', hst⟩, hb⟩ := hh
    obtain ⟨u', hy', hk⟩ := calm_yields hj hQ hH' hcj hst
    have := YAt.same ((YAt.behind hb hsj l1).1 (hy' w' hH')) (hyu' w' hH')
    rw [this.1] at hk
    exact ⟨hH', hk⟩
  · by_cases hci : (calmB (opCls P oi.op) || hl.contains i) = true
    · -- i is calm, or held
      obtain ⟨v, hyv, hk⟩ := calm_yields hi hQ hH hci h
      have h2 := wpOp_shape hj hk.1
      -- j behind i's store: so j at a itself
      have h3 : wpOp P ops Q j (fun a' w' => H w' ∧ K (a'.put oi.dst v) w') a w := by
        have key : ∀ {K' : Act → World → Prop}, wpOp P ops Q j K' (a.put oi.dst v) w → wpOp P ops Q j (fun a' w' => K' (a'.put oi.dst v) w') a w := by
          intro K' hh
          unfold Go.wpOp at *
          simp only [hj] at *
          rw [wanted_put oj a oi.dst v l1] at hh
          split
          · rename_i hw
            simp only [hw, if_true] at hh
            rcases hh with hh | ⟨_, a0, w0, h0⟩
            · refine .inl ?_
              unfold Oper.wp at *
              rw [execOp_put oj hsj a oi.dst v l1] at hh
              generalize (execOp a.eval oj).run P w = r at *
              cases r with
              | ok n w' =>
                cases n <;> simp only [Oper.upon] at hh ⊢
                case value u => rw [← Act.put_comm a v u l2]; exact hh
                case skip => rw [← Act.put_comm a v undef l2]; exact hh
                case defer d => rw [← Act.put_comm _ v undef l2, ← Act.put_defers]; exact hh
                case enter f args =>
                  exact Calls.mono hh fun e w'' he => by
                    cases e with
                    | returned u => show K' ((a.put oj.dst u).put oi.dst v) w''; rw [← Act.put_comm a v u l2]; exact he
                    | panicked c => exact (hQ.pan _ _ _ he).elim
                    | outgrown => exact he
                case row row args => exact Rows.mono hh fun u w'' he => by rw [← Act.put_comm a v u l2]; exact he
              | halt x w' => cases x <;> simp only [Oper.upon] at hh ⊢ <;> exact (hQ.pan _ _ _ hh).elim
            · exact (hQ.out _ _ h0).elim
          · rename_i hw
            simp only [hw] at hh
            rw [← Act.put_comm a v undef l2]; exact hh
        exact key hk.1
      refine wpOp_mono (fun a' w' hh => ?_) (wpOp_shape hj h3)
      obtain ⟨⟨hH', hk'⟩, hb⟩ := hh
      refine ⟨hH', istep _ _ hb (YAt.wpOp hi ((YAt.behind hb hsi l3).2 (hyv w' hH')) ⟨hH', hk'⟩)⟩
    · have hc' : (quietB (opCls P oi.op) && quietB (opCls P oj.op)) = true ∨ (quietB (opCls P oi.op) && opCls P oj.op == 3) = true := by
        simp only [Bool.or_eq_true] at hc hcj hci
        rcases hc with ((((hc | hc) | hc) | hc) | hc) | hc
        · exact absurd (.inl hc) hci
        · exact absurd (.inl hc) hcj
        · exact absurd (.inr hc) hci
        · exact absurd (.inr hc) hcj
        · exact .inl hc
        · exact .inr hc
      rcases hc' with hc' | hc' <;> (rw [Bool.and_eq_true] at hc'; obtain ⟨hc1, hc2⟩ := hc')
      · obtain ⟨v, hyv, _, hk⟩ := quiet_yields hi hQ hc1 h
        obtain ⟨u, hyu, _, hk2⟩ := quiet_yields hj hQ hc2 hk
        have hyu' : YAt P ops oj u a w w := (YAt.behind ⟨v, a.defers, rfl⟩ hsj l1).1 hyu
        refine YAt.wpOp hj hyu' ⟨hH, istep _ _ ⟨u, a.defers, rfl⟩ ?_⟩
        have hyv' : YAt P ops oi v (a.put oj.dst u) w w := (YAt.behind ⟨u, a.defers, rfl⟩ hsi l3).2 hyv
        refine YAt.wpOp hi hyv' ⟨hH, ?_⟩
        rw [← Act.put_comm a v u l2]; exact hk2
      · obtain ⟨v, hyv, hyva, hk⟩ := quiet_yields hi hQ hc1 h
        obtain ⟨u, w1, hyu, hw1, hH1, hk2⟩ := makes_yields hj hQ (by simpa using hc2) hk
        have hyu' : YAt P ops oj u a w w1 := (YAt.behind ⟨v, a.defers, rfl⟩ hsj l1).1 hyu
        refine YAt.wpOp hj hyu' ⟨hH1, istep _ _ ⟨u, a.defers, rfl⟩ ?_⟩
        have hyv' : YAt P ops oi v (a.put oj.dst u) w1 w1 := (YAt.behind ⟨u, a.defers, rfl⟩ hsi l3).2 (by
          rcases hw1 with rfl | ⟨ob, rfl⟩
          · exact hyv
          · exact hyva ob)
        refine YAt.wpOp hi hyv' ⟨hH1, ?_⟩
        rw [← Act.put_comm a v u l2]; exact hk2

/-! ## All orders -/

/-- as wpAny, but each step is one of 'stp' -/
def anyF (H : World → Prop) (hl : List Nat) (P : Program) (ops : Array Oper) (Q : Exit → Act → World → Prop) : Nat → Array Bool → Act → World → Prop
  | 0, listed, a, w => Region.ready .any ops listed = [] ∧ Q .normal a w
  | fuel + 1, listed, a, w => (Region.ready .any ops listed = [] → Q .normal a w) ∧ ∀ i ∈ Region.ready .any ops listed, stp H hl P ops Q i (anyF H hl P ops Q fuel (listed.setIfInBounds i true)) a w

theorem wpAny_of_anyF : ∀ (fuel : Nat) (listed : Array Bool) (a : Act) (w : World), anyF H hl P ops Q fuel listed a w → wpAny P .any ops Q fuel listed a w
  | 0, _, _, _, h => h
  | fuel + 1, _, _, _, h => ⟨h.1, fun i hi => wpOp_mono (fun a' w' hk => wpAny_of_anyF fuel _ a' w' hk.2) (h.2 i hi).1⟩

/-- what is listed has all that it waits for listed -/
def Closed (ops : Array Oper) (listed : Array Bool) : Prop := ∀ j oj, ops[j]? = some oj → listed.getD j false = true → ∀ e ∈ oj.after, Region.binds .any e = true → listed.getD e.on false = true

theorem Closed.set {i : Nat} {listed : Array Bool} (hc : Closed ops listed) (hi : i ∈ Region.ready .any ops listed) : Closed ops (listed.setIfInBounds i true) := by
  obtain ⟨_, oi, hoi, hall⟩ := mem_ready.1 hi
  intro j oj hj hl e he hb
  by_cases hij : i = j
  · subst hij
    have : oj = oi := Option.some.inj (hj.symm.trans hoi)
    subst this
    exact getD_set_true (hall e he hb)
  · rw [getD_set_ne false hij] at hl
    exact getD_set_true (hc j oj hj hl e he hb)

/-- those for which an operation waits, over whatever others, as bits -/
def ancMask (acc : Array Nat) : List Edge → Nat
  | [] => 0
  | e :: l => if Region.binds .any e then (2 ^ e.on ||| acc.getD e.on 0) ||| ancMask acc l else ancMask acc l
def ancs : List Oper → Array Nat → Array Nat
  | [], acc => acc
  | o :: l, acc => ancs l (acc.push (ancMask acc o.after.toList))
/-- does j wait for i? -/
def waits (ops : Array Oper) (j i : Nat) : Bool := ((ancs ops.toList #[]).getD j 0).testBit i

theorem ancMask_bit (acc : Array Nat) (i : Nat) : ∀ l : List Edge, (ancMask acc l).testBit i = true → ∃ e ∈ l, Region.binds .any e = true ∧ (e.on = i ∨ (acc.getD e.on 0).testBit i = true)
  | [], h => by simp [ancMask] at h
  | e :: l, h => by
    unfold ancMask at h
    by_cases hb : Region.binds .any e = true
    · rw [if_pos hb, Nat.testBit_or, Nat.testBit_or, Nat.testBit_two_pow] at h
      simp only [Bool.or_eq_true, decide_eq_true_eq] at h
      rcases h with (h | h) | h
      · exact ⟨e, by simp, hb, .inl h⟩
      · exact ⟨e, by simp, hb, .inr h⟩
      · obtain ⟨e', he', h'⟩ := ancMask_bit acc i l h
        exact ⟨e', by simp [he'], h'⟩
    · rw [if_neg hb] at h
      obtain ⟨e', he', h'⟩ := ancMask_bit acc i l h
      exact ⟨e', by simp [he'], h'⟩
def AncOk (ops : Array Oper) (acc : Array Nat) : Prop := ∀ j oj i, j < acc.size → ops[j]? = some oj → (acc.getD j 0).testBit i = true → ∀ listed : Array Bool, Closed ops listed →
  (∀ e ∈ oj.after, Region.binds .any e = true → listed.getD e.on false = true) → listed.getD i false = true
theorem AncOk.push {acc : Array Nat} (h : AncOk ops acc) {o : Oper} (ho : ops[acc.size]? = some o) : AncOk ops (acc.push (ancMask acc o.after.toList)) := by
  intro j oj i hj hoj hb listed hc hall
  by_cases hlt : j < acc.size
  · have : (acc.push (ancMask acc o.after.toList)).getD j 0 = acc.getD j 0 := by
      simp only [Array.getD_eq_getD_getElem?, Array.getElem?_push, show ¬ j = acc.size from by omega, if_false]
    rw [this] at hb
    exact h j oj i hlt hoj hb listed hc hall
  · have he : j = acc.size := by simp at hj; omega
    subst he
    have : oj = o := Option.some.inj (hoj.symm.trans ho)
    subst this
    have hg : (acc.push (ancMask acc oj.after.toList)).getD acc.size 0 = ancMask acc oj.after.toList := by simp
    rw [hg] at hb
    obtain ⟨e, hem, heb, h1⟩ := ancMask_bit acc i _ hb
    have hl := hall e (by simpa using hem) heb
    rcases h1 with h1 | h1
    · rw [← h1]; exact hl
    · by_cases hon : e.on < acc.size
      · have hsz : acc.size < ops.size := (Array.getElem?_eq_some_iff.1 ho).1
        have hk : ops[e.on]? = some ops[e.on] := by simp [show e.on < ops.size from by omega]
        exact h e.on _ i hon hk h1 listed hc (fun e' he' hb' => hc e.on _ hk hl e' he' hb')
      · have : acc.getD e.on 0 = 0 := by simp only [Array.getD_eq_getD_getElem?, Array.getElem?_eq_none (Nat.le_of_not_lt hon)]; rfl
        rw [this] at h1; simp at h1
theorem ancs_ok : ∀ (l : List Oper) (acc : Array Nat), (∀ j, l[j]? = ops[acc.size + j]?) → AncOk ops acc → AncOk ops (ancs l acc)
  | [], _, _, h => h
  | o :: l, acc, hl, h => ancs_ok l _ (fun j => by have := hl (j + 1); simpa [Nat.add_assoc, Nat.add_comm 1 j] using this) (h.push (by simpa using (hl 0).symm))
theorem waits_listed {listed : Array Bool} (hc : Closed ops listed) (j i : Nat) (oj : Oper) (hj : ops[j]? = some oj) (h : waits ops j i = true)
    (hall : ∀ e ∈ oj.after, Region.binds .any e = true → listed.getD e.on false = true) : listed.getD i false = true := by
  have hok : AncOk ops (ancs ops.toList #[]) := ancs_ok ops.toList #[] (by simp) (fun j oj i hj => by simp at hj)
  unfold waits at h
  by_cases hlt : j < (ancs ops.toList #[]).size
  · exact hok j oj i hlt hj h listed hc hall
  · have : (ancs ops.toList #[]).getD j 0 = 0 := by simp only [Array.getD_eq_getD_getElem?, Array.getElem?_eq_none (Nat.le_of_not_lt hlt)]; rfl
    rw [this] at h; simp at h

theorem getD_false {listed : Array Bool} {i : Nat} (h : listed.getD i true = false) : listed.getD i false = false := by
  rcases Nat.lt_or_ge i listed.size with h' | h'
  · simp [h'] at h ⊢; exact h
  · simp [Array.getElem?_eq_none h'] at h

theorem first_any {i : Nat} {oi : Oper} (hi : ops[i]? = some oi) (hns : Region.noSelect ops = true) (hQ : Only Q) :
    ∀ (fuel : Nat) (listed : Array Bool) (a : Act) (w : World), Closed ops listed →
      (∀ j oj, ops[j]? = some oj → j ≠ i → listed.getD j true = false → waits ops j i = true ∨ commB hl P ops i oi j oj = true) →
      i ∈ Region.ready .any ops listed → H w → stp H hl P ops Q i (anyF H hl P ops Q fuel (listed.setIfInBounds i true)) a w → anyF H hl P ops Q (fuel + 1) listed a w := by
  intro fuel
  induction fuel with
  | zero =>
    intro listed a w _ _ hr hH0 Hs
    refine ⟨fun h => (by rw [h] at hr; cases hr), fun j hj => ?_⟩
    by_cases hji : j = i
    · subst hji; exact Hs
    · have := ready_mono hj hji
      obtain ⟨a', w', hk⟩ := wpOp_inh hi hQ Hs.1
      rw [hk.2.1] at this
      cases this
  | succ fuel ih =>
    intro listed a w hcl hfree hr hH0 Hs
    refine ⟨fun h => (by rw [h] at hr; cases hr), fun j hj => ?_⟩
    by_cases hji : j = i
    · subst hji; exact Hs
    · obtain ⟨hjun, oj, hoj, hall⟩ := mem_ready.1 hj
      have hc : commB hl P ops i oi j oj = true := by
        rcases hfree j oj hoj hji hjun with hw | h
        · have h1 := waits_listed hcl j i oj hoj hw hall
          have h0 := getD_false (mem_ready.1 hr).1
          rw [h1] at h0; cases h0
        · exact h
      have h1 : stp H hl P ops Q i (fun a' w' => stp H hl P ops Q j (anyF H hl P ops Q fuel ((listed.setIfInBounds i true).setIfInBounds j true)) a' w') a w :=
        stp_mono (fun a' w' _ h => h.2 j (ready_mono hj hji)) Hs
      have h2 := swap hi hoj (Region.noSelect_spec hns i oi · · hi) (Region.noSelect_spec hns j oj · · hoj) hQ hc hH0 h1
      refine stp_mono (fun a' w' hH' h3 => ih (listed.setIfInBounds j true) a' w' (hcl.set hj) ?_ (ready_mono hr (Ne.symm hji)) hH' ?_) h2
      · intro k ok hk hki hun
        refine hfree k ok hk hki ?_
        by_cases hjk : j = k
        · subst hjk; exact hjun
        · rw [getD_set_ne true hjk] at hun; exact hun
      · rw [Array.setIfInBounds_comm _ _ hji]; exact h3

/-! ## The text's order -/

def textL (H : World → Prop) (hl : List Nat) (P : Program) (ops : Array Oper) (Q : Exit → Act → World → Prop) : List Oper → Nat → Act → World → Prop
  | [], _, a, w => Q .normal a w
  | _ :: l, k, a, w => stp H hl P ops Q k (textL H hl P ops Q l (k + 1)) a w

/-- may the text's order stand for all orders? Each operation waits for earlier ones alone; of two of which neither waits for the other the later may go first -/
def pairB (hl : List Nat) (P : Program) (ops : Array Oper) (k : Nat) : Bool :=
  match ops[k]? with
  | none => false
  | some o => o.after.all (fun e => !Region.binds .any e || decide (e.on < k)) &&
    (List.range ops.size).all fun j => decide (j ≤ k) || waits ops j k || (match ops[j]? with | some oj => commB hl P ops k o j oj | none => true)
/-- an operation that asks for plain operands: nothing is stored into their slots from it on -/
def stableB (P : Program) (ops : Array Oper) (k : Nat) : Bool :=
  match ops[k]? with
  | none => false
  | some o => opCls P o.op != 1 || (o.looksAt ops).all fun t => (List.range ops.size).all fun m => decide (m < k) || match ops[m]? with | some om => om.dst != some t | none => true
def textHB (hl : List Nat) (P : Program) (ops : Array Oper) : Bool :=
  Region.noSelect ops && (List.range ops.size).all fun k => pairB hl P ops k && stableB P ops k
def textB (P : Program) (ops : Array Oper) : Bool := textHB [] P ops

/-- the operations before number k are listed -/
def Prefix (n k : Nat) (listed : Array Bool) : Prop := listed.size = n ∧ ∀ j, j < n → (listed[j]? = some (decide (j < k)))

theorem Prefix.start (n : Nat) : Prefix n 0 (Array.replicate n false) := ⟨by simp, fun j hj => by simp [hj]⟩
theorem Prefix.next {n k : Nat} {listed : Array Bool} (h : Prefix n k listed) (hk : k < n) : Prefix n (k + 1) (listed.setIfInBounds k true) := by
  refine ⟨by simp [h.1], fun j hj => ?_⟩
  rw [Array.getElem?_setIfInBounds]
  by_cases hjk : k = j
  · subst hjk; simp [h.1, hk]
  · rw [if_neg hjk, h.2 j hj]
    congr 1
    simp only [decide_eq_decide]
    omega
theorem Prefix.get {n k : Nat} {listed : Array Bool} (h : Prefix n k listed) {j : Nat} (hj : j < n) (d : Bool) : listed.getD j d = decide (j < k) := by
  simp [h.2 j hj]

theorem any_of_text (hB : textHB hl P ops = true) (hQ : Only Q) : ∀ (l : List Oper) (k : Nat) (listed : Array Bool) (a : Act) (w : World), (∀ j, l[j]? = ops[k + j]?) → Prefix ops.size k listed → H w →
    textL H hl P ops Q l k a w → anyF H hl P ops Q l.length listed a w := by
  simp only [textHB, Bool.and_eq_true, List.all_eq_true, List.mem_range] at hB
  obtain ⟨hns, hall⟩ := hB
  intro l
  induction l with
  | nil =>
    intro k listed a w hll hp _ h
    refine ⟨?_, h⟩
    rw [List.eq_nil_iff_forall_not_mem]
    intro i hi
    obtain ⟨h0, o, ho, _⟩ := mem_ready.1 hi
    have hlt : i < ops.size := (Array.getElem?_eq_some_iff.1 ho).1
    have hks : ops.size ≤ k := by
      have := hll 0
      simp at this
      exact this
    rw [hp.get hlt] at h0
    simp at h0
    omega
  | cons o l ih =>
    intro k listed a w hll hp hH h
    have h0 : ops[k]? = some o := by simpa using (hll 0).symm
    have hk : k < ops.size := (Array.getElem?_eq_some_iff.1 h0).1
    have hpair := (hall k hk).1
    simp only [pairB, h0, Bool.and_eq_true, List.all_eq_true, List.mem_range] at hpair
    have hafter : ∀ e ∈ o.after, Region.binds .any e = true → e.on < k := fun e he hb => by
      have := Array.all_eq_true_iff_forall_mem.1 hpair.1 e he
      simpa [hb] using this
    refine first_any h0 hns hQ l.length listed a w ?_ ?_ ?_ hH ?_
    · intro j oj hj hlj e he hb
      have hjs : j < ops.size := (Array.getElem?_eq_some_iff.1 hj).1
      rw [hp.get hjs] at hlj
      have hjk : j < k := by simpa using hlj
      have hpj := (hall j hjs).1
      simp only [pairB, hj, Bool.and_eq_true] at hpj
      have hej : e.on < j := by
        have := Array.all_eq_true_iff_forall_mem.1 hpj.1 e he
        simpa [hb] using this
      rw [hp.get (by omega)]
      simp; omega
    · intro j oj hj hjk hun
      have hjs : j < ops.size := (Array.getElem?_eq_some_iff.1 hj).1
      rw [hp.get hjs] at hun
      have hle : ¬ j ≤ k := by
        have : ¬ j < k := by simpa using hun
        omega
      have := hpair.2 j hjs
      simp only [hj, Bool.or_eq_true, decide_eq_true_eq, hle, false_or] at this
      exact this
    · refine mem_ready.2 ⟨by rw [hp.get hk]; simp, o, h0, fun e he hb => ?_⟩
      have := hafter e he hb
      rw [hp.get (by omega)]
      simpa using this
    · exact stp_mono (fun a' w' hH' h' => ih (k + 1) _ a' w' (fun j => by have := hll (j + 1); simpa [Nat.add_assoc, Nat.add_comm 1 j] using this) (hp.next hk) hH' h') h

/-! ## From a walk in the text's order -/

/-- at the end: of each operation that asks for it the operands are plain -/
def chkAct (P : Program) (ops : Array Oper) (a : Act) : Bool :=
  ops.toList.all fun o => opCls P o.op != 1 || !Region.wanted o (yielded ops a.tmps) || plainAt a.eval o.op

/-- the walk in the text's order: behind each operation H; of a held one the value in every world of H -/
def wpListH (H : World → Prop) (hl : List Nat) (P : Program) (ops : Array Oper) (Q : Exit → Act → World → Prop) : List Oper → Nat → Act → World → Prop
  | [], _, a, w => Q .normal a w
  | o :: l, k, a, w => (if Region.wanted o (yielded ops a.tmps) then o.wp P a w (fun a' w' => H w' ∧ wpListH H hl P ops Q l (k + 1) a' w') Q else wpListH H hl P ops Q l (k + 1) (a.put o.dst undef) w) ∧
      (hl.contains k = true → ∃ v, ∀ w, H w → YAt P ops o v a w w)

theorem wpListH_cons {i : Nat} {o : Oper} {l : List Oper} {a : Act} {w : World} (hi : ops[i]? = some o) (hH : H w) (h : wpListH H hl P ops Q (o :: l) i a w) : wpOp P ops Q i (fun a' w' => H w' ∧ wpListH H hl P ops Q l (i + 1) a' w') a w := by
  unfold Go.wpOp
  simp only [hi]
  have h1 := h.1
  split
  · rename_i hw; rw [if_pos hw] at h1; exact .inl h1
  · rename_i hw; rw [if_neg hw] at h1; exact ⟨hH, h1⟩

theorem Behind.tmps {o : Oper} {a a' : Act} (h : Behind o a a') {t : Nat} (ht : o.dst ≠ some t) : a'.tmps[t]? = a.tmps[t]? := by
  obtain ⟨u, ds, rfl⟩ := h
  unfold Act.put
  cases hd : o.dst with
  | none => rfl
  | some d =>
    have : d ≠ t := fun e => ht (by rw [hd, e])
    simp [Array.getElem?_setIfInBounds_ne this]

theorem list_end (hQ : Only Q) : ∀ (l : List Oper) (k : Nat) (a : Act) (w : World), (∀ j, l[j]? = ops[k + j]?) → H w → wpListH H hl P ops Q l k a w →
    ∃ an wn, Q .normal an wn ∧ ∀ t, (∀ m om, k ≤ m → ops[m]? = some om → om.dst ≠ some t) → an.tmps[t]? = a.tmps[t]? := by
  intro l
  induction l with
  | nil => exact fun k a w _ _ h => ⟨a, w, h, fun _ _ => rfl⟩
  | cons o l ih =>
    intro k a w hll hH h
    have h0 : ops[k]? = some o := by simpa using (hll 0).symm
    obtain ⟨a', w', ⟨hH', hk⟩, hb⟩ := wpOp_inh h0 hQ (wpOp_shape h0 (wpListH_cons h0 hH h))
    obtain ⟨an, wn, hq, hs⟩ := ih (k + 1) a' w' (fun j => by have := hll (j + 1); simpa [Nat.add_assoc, Nat.add_comm 1 j] using this) hH' hk
    refine ⟨an, wn, hq, fun t ht => ?_⟩
    rw [hs t fun m om hm ho => ht m om (by omega) ho]
    exact hb.tmps (ht k o (Nat.le_refl _) h0)

theorem looks_same {o : Oper} {a a' : Act} (h : ∀ t ∈ o.looksAt ops, a'.tmps[t]? = a.tmps[t]?) : (∀ x ∈ o.op.operands, a'.eval x = a.eval x) ∧ Region.wanted o (yielded ops a'.tmps) = Region.wanted o (yielded ops a.tmps) := by
  refine ⟨fun x hx => ?_, ?_⟩
  · cases x with
    | tmp t =>
      have := h t (List.mem_append_left _ (List.mem_filterMap.2 ⟨.tmp t, by simpa using hx, rfl⟩))
      simp only [Act.eval, Array.getD_eq_getD_getElem?, this]
    | _ => rfl
  · unfold Region.wanted
    cases hg : o.guard with
    | none => rfl
    | some gw =>
      obtain ⟨g, want⟩ := gw
      have hy : yielded ops a'.tmps g = yielded ops a.tmps g := by
        unfold yielded
        cases ht : (ops[g]?).bind (·.dst) with
        | none => rfl
        | some t =>
          have := h t (List.mem_append_right _ (by simp [hg, ht]))
          simp only [Option.bind_some, this]
      simp only [hy]

theorem text_of_list (hB : textHB hl P ops = true) (hQ : Only Q) (hchk : ∀ a w, Q .normal a w → chkAct P ops a = true) :
    ∀ (l : List Oper) (k : Nat) (a : Act) (w : World), (∀ j, l[j]? = ops[k + j]?) → H w → wpListH H hl P ops Q l k a w → textL H hl P ops Q l k a w := by
  simp only [textHB, Bool.and_eq_true, List.all_eq_true, List.mem_range] at hB
  intro l
  induction l with
  | nil => exact fun k a w _ _ h => h
  | cons o l ih =>
    intro k a w hll hH h
    have h0 : ops[k]? = some o := by simpa using (hll 0).symm
    have hks : k < ops.size := (Array.getElem?_eq_some_iff.1 h0).1
    refine ⟨wpOp_mono (fun a' w' hk => ⟨hk.1, ih (k + 1) a' w' (fun j => by have := hll (j + 1); simpa [Nat.add_assoc, Nat.add_comm 1 j] using this) hk.1 hk.2⟩) (wpListH_cons h0 hH h), ?_, ?_⟩
    · intro o' ho' hc hw
      have : o' = o := Option.some.inj (ho'.symm.trans h0)
      subst this
      obtain ⟨an, wn, hq, hs⟩ := list_end hQ _ k a w hll hH h
      have hst := (hB.2 k hks).2
      simp only [stableB, h0, hc, Bool.or_eq_true, List.all_eq_true, List.mem_range, decide_eq_true_eq] at hst
      have hst' := hst.resolve_left (by simp)
      obtain ⟨h1, h2⟩ := looks_same (ops := ops) (o := o') (a := a) (a' := an) fun t ht => hs t fun m om hm hom hd => by
        have := hst' t ht m (Array.getElem?_eq_some_iff.1 hom).1
        rcases this with this | this
        · omega
        · simp [hom, hd] at this
      have := List.all_eq_true.1 (hchk an wn hq) o' (Array.mem_toList_iff.2 (Array.mem_of_getElem? h0))
      rw [hc, h2, hw] at this
      simp at this
      rw [← plain_same h1 hc]
      exact this
    · intro hh o' ho'
      have : o' = o := Option.some.inj (ho'.symm.trans h0)
      subst this
      exact h.2 hh

/-- what a region's walk in the text's order is to reach -/
def TextEnd (P : Program) (ops : Array Oper) (Q : Exit → Act → World → Prop) (a : Act) (w : World) : Prop := chkAct P ops a = true ∧ Q .normal a w
/-- nothing but a normal end -/
abbrev textQ (P : Program) (ops : Array Oper) (Q : Exit → Act → World → Prop) : Exit → Act → World → Prop := Exit.then (TextEnd P ops Q) (fun _ _ _ => False)

/-- A REGION THAT DRAWS ITS ORDER, WALKED IN THE ORDER OF ITS TEXT, with operations (hl) that are held: whatever the others do (so long as H holds) they yield the same. -/
theorem wp_region_held_text {id : Nat} {Q : Exit → Act → World → Prop} {a : Act} {w : World} {l : List Oper} (H : World → Prop) (hl : List Nat) (hm : P.follows .mixedOrders = true) (hB : textHB hl P l.toArray = true) (hH : H w.drew)
    (h : wpListH H hl P l.toArray (textQ P l.toArray Q) l 0 a w.drew) : (Code.region id l.toArray true).wp P Q a w := by
  have hQ : Only (textQ P l.toArray Q) := ⟨fun _ _ _ h => h, fun _ _ h => h⟩
  have h1 := text_of_list hB hQ (fun a w h => h.1) l 0 a w.drew (by simp) hH h
  have h2 := any_of_text hB hQ l 0 (Array.replicate l.toArray.size false) a w.drew (by simp) (Prefix.start _) hH h1
  refine Code.wp_mono ?_ (wp_region_any (Q := textQ P l.toArray Q) hm ?_)
  · intro e a w hq
    cases e <;> first | exact hq.2 | exact hq.elim
  · have := wpAny_of_anyF _ _ _ _ h2
    simpa using this

theorem wpListH_of_wpList (hQ : Only Q) : ∀ (l : List Oper) (k : Nat) (a : Act) (w : World), wpList P ops Q l a w → wpListH (fun _ => True) [] P ops Q l k a w
  | [], _, _, _, h => h
  | o :: l, k, a, w, h => by
    refine ⟨?_, fun hh => by simp at hh⟩
    unfold wpList at h
    split
    · rename_i hw
      rw [if_pos hw] at h
      rcases h with h | ⟨_, a0, w0, h0⟩
      · exact Oper.wp_mono (fun a w hk => ⟨trivial, wpListH_of_wpList hQ l (k + 1) a w hk⟩) h
      · exact (hQ.out _ _ h0).elim
    · rename_i hw
      rw [if_neg hw] at h
      exact wpListH_of_wpList hQ l (k + 1) _ w h

/-- A REGION THAT DRAWS ITS ORDER, WALKED IN THE ORDER OF ITS TEXT. -/
theorem wp_region_text {id : Nat} {Q : Exit → Act → World → Prop} {a : Act} {w : World} {l : List Oper} (hm : P.follows .mixedOrders = true) (hB : textB P l.toArray = true)
    (h : wpList P l.toArray (textQ P l.toArray Q) l a w.drew) : (Code.region id l.toArray true).wp P Q a w :=
  wp_region_held_text (fun _ => True) [] hm hB trivial (wpListH_of_wpList ⟨fun _ _ _ h => h, fun _ _ h => h⟩ l 0 a w.drew h)

/-- the end of such a walk -/
theorem text_end {l : Array Oper} {Q : Exit → Act → World → Prop} {a : Act} {w : World} (h1 : chkAct P l a = true) (h2 : Q .normal a w) : TextEnd P l Q a w := ⟨h1, h2⟩

theorem text_fin {l : Array Oper} {Q : Exit → Act → World → Prop} {a : Act} {w : World} (h1 : chkAct P l a = true) (h2 : Q .normal a w) : textQ P l Q .normal a w := ⟨h1, h2⟩

/-! ## The steps of a walk with held operations -/

theorem wpH_nil {k : Nat} {a : Act} {w : World} (h : Q .normal a w) : wpListH H hl P ops Q [] k a w := h
/-- an operation that is not held -/
theorem wpH_step {k : Nat} {o : Oper} {l : List Oper} {a : Act} {w : World} (hk : hl.contains k = false)
    (h : ∀ K : Act → World → Prop, (∀ a w, H w ∧ wpListH H hl P ops Q l (k + 1) a w → K a w) → if Region.wanted o (yielded ops a.tmps) then o.wp P a w K Q else wpListH H hl P ops Q l (k + 1) (a.put o.dst undef) w) :
    wpListH H hl P ops Q (o :: l) k a w := by
  refine ⟨?_, fun hh => by rw [hk] at hh; cases hh⟩
  have := h _ (fun _ _ h => h)
  exact this
/-- .. without a guard -/
theorem wpH_plain {k : Nat} {o : Oper} {l : List Oper} {a : Act} {w : World} (hg : o.guard = none) (hk : hl.contains k = false)
    (h : ∀ K : Act → World → Prop, (∀ a w, H w ∧ wpListH H hl P ops Q l (k + 1) a w → K a w) → o.wp P a w K Q) : wpListH H hl P ops Q (o :: l) k a w :=
  wpH_step hk fun K hK => by simp only [Region.wanted, hg, if_true]; exact h K hK
/-- an operation that leaves the world as it is: by a walk of its own ('wpList' of that operation alone) -/
theorem wpH_same {k : Nat} {o : Oper} {l : List Oper} {a : Act} {w : World} (hg : o.guard = none) (hk : hl.contains k = false) (hH : H w) (v : Value) (hr : (execOp a.eval o).run P w = .ok (.value v) w)
    (h : wpListH H hl P ops Q l (k + 1) (a.put o.dst v) w) : wpListH H hl P ops Q (o :: l) k a w :=
  wpH_plain hg hk fun K hK => by unfold Oper.wp; rw [hr]; exact hK _ _ ⟨hH, h⟩
/-- a load of one cell that is held -/
theorem wpH_load {k : Nat} {o : Oper} {l : List Oper} {a : Act} {w : World} (hg : o.guard = none) (t : TypeId) (x : Operand) (ho : o.op = .load t x) (d : TypeDesc) (ht : P.underlying t = some d)
    (hagg : (match d with | .struct _ | .array _ _ => false | _ => true) = true) (p : Addr) (v : Value) (hx : a.eval x = .pointer (some p)) (hc : ∀ w, H w → w.cell? p = some v) (hH : H w)
    (h : wpListH H hl P ops Q l (k + 1) (a.put o.dst v) w) : wpListH H hl P ops Q (o :: l) k a w := by
  have hw : Region.wanted o (yielded ops a.tmps) = true := by simp [Region.wanted, hg]
  have hr : ∀ w, H w → (execOp a.eval o).run P w = .ok (.value v) w := by
    intro w hHw
    have hag : (isAgg t).run P w = .ok false w := by
      unfold isAgg
      rw [Sem.run_bind, run_underlying ht]
      cases d <;> first | rfl | cases hagg
    unfold execOp
    simp only [ho, Instr.loadAt, Sem.run_bind, hx, Instr.sureAddr, Sem.run_pure, Result.andThen_ok, loadVar, hag]
    simp [hc w hHw]
  refine ⟨?_, fun _ => ⟨v, fun w hHw => .inl ⟨hw, hr w hHw⟩⟩⟩
  rw [if_pos hw]
  unfold Oper.wp
  rw [hr w hH]
  exact ⟨hH, h⟩
end
end Go.Tx

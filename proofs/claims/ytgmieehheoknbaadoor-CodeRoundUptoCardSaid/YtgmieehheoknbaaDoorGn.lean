import Derived.Test.YtgmieehheoknbaaDoorGm
import Derived.Defers
import Derived.Recover
import Derived.Laws.Pointers
section
/-
  code.Read: the deferred closure; the whole function.
-/
namespace Go.Tx
open Go Go.RowKit
/-- code that returns, in a world such as R says -/
def RetQ (R : World → Prop) : Exit → Act → World → Prop
  | .ret, a, w => a.defers = [] ∧ R w
  | _, _, _ => False
def CatchR (bm be : Nat) (T : TypeId) (e0 : Addr) (w w' : World) : Prop :=
  Blk w' bm 25 [.string ⟨#[]⟩, .slice none 0 0, .slice none 0 0] ∧ Blk w' be T [.iface 40 (.pointer (some e0))] ∧ Keeps (fun x => x = bm ∨ x = be) w w'
end Go.Tx
namespace Go.Proofs.YtgmieehheoknbaaDoor
open Go.RowKit Go.Tx
set_option maxRecDepth 100000 in
set_option maxHeartbeats 1600000 in
theorem read_idle (p q : Addr) (w : World) :
    CallsD Tryd.prog 24 #[.pointer (some p), .pointer (some q)] .returning w fun e u' w' => e = .returned (.tuple #[]) ∧ u' = .returning ∧ w' = w := by
  refine callsD_of_wpS Tryd.func24 rfl fun c₀ cs hu => ?_
  apply wpS_seq
  apply wpS_region
  simp [wpOpsS, go_sem, recoverD, hu, Tryd.ntmps24, Exit.thenS]
  apply wpS_seq
  apply wpS_region
  simp [wpOpsS, go_sem, Exit.thenS]
  refine wpS_cond (t := false) (by simp [Act.eval, Array.replicate]) ?_
  simp only [Bool.false_eq_true, if_false]
  refine wpS_of_wp (wp_skip ?_)
  cases c₀
  simp_all [bodyPostS, results, Tryd.results24]
theorem has_error (v : Value) (xT : TypeId) (w : World) : (Instr.typeAssert (.iface 40 v) xT 28 true).run Tryd.prog w = .ok (.tuple #[.iface 40 v, .bool true]) w := run_typeAssert_hasB Tryd.underlying28 (by kernel_rfl) v xT w
set_option maxRecDepth 100000 in
set_option maxHeartbeats 1600000 in
theorem read_catch {w : World} {bm be : Nat} {T : TypeId} {x0 x1 x2 y : Value} (e0 : Addr) (older : List PanicEntry) (hg : ErrorType w) (hm : Blk w bm 25 [x0, x1, x2]) (he : Blk w be T [y]) (hne : bm ≠ be) (hgm : 0 ≠ bm) :
    CallsD Tryd.prog 24 #[.pointer (some ⟨bm, 0, none⟩), .pointer (some ⟨be, 0, none⟩)] (.panicking ({ v := .iface 40 (.pointer (some e0)), recovered := false } :: older)) w fun e u' w' =>
      e = .returned (.tuple #[]) ∧ u' = .panicking ({ v := .iface 40 (.pointer (some e0)), recovered := true } :: older) ∧ Blk w' bm 25 [.string ⟨#[]⟩, .slice none 0 0, .slice none 0 0] ∧ Blk w' be T [.iface 40 (.pointer (some e0))] ∧ Keeps (fun x => x = bm ∨ x = be) w w' := by
  refine callsD_of_wpS Tryd.func24 rfl fun c₀ cs hu => ?_
  apply wpS_seq
  apply wpS_region
  simp [wpOpsS, go_sem, recoverD, hu, Tryd.ntmps24, Exit.thenS]
  apply wpS_seq
  apply wpS_region
  simp [wpOpsS, go_sem, Exit.thenS]
  refine wpS_cond (t := true) (by simp [Act.eval, Array.replicate]) ?_
  simp only [if_true]
  refine wpS_of_wp ?_
  have m0 : w.cell? ⟨bm, 0, none⟩ = some x0 := hm.cell (i := 0) rfl
  have m1 : w.cell? ⟨bm, 1, none⟩ = some x1 := hm.cell (i := 1) rfl
  have m2 : w.cell? ⟨bm, 2, none⟩ = some x2 := hm.cell (i := 2) rfl
  have f0 := hm.free 0
  have f1 := hm.free 1
  have f2 := hm.free 2
  have HM := Lib.hid hm
  have HE := Lib.hid he
  have HG := Lib.hid hg
  have hE := has_error
  clear hm he hg
  refine Code.wp_mono (Q := RetQ (CatchR bm be T e0 w)) ?_ ?_
  · intro e a w' hq
    cases e <;> first | exact hq.elim | skip
    obtain ⟨hd, h1, h2, h3⟩ := hq
    exact ⟨hd, _, rfl, _, results_none rfl _ _ _, rfl, rfl, h1, h2, h3⟩
  · have ef : (#[.pointer (some ⟨bm, 0, none⟩), .pointer (some ⟨be, 0, none⟩)] ++ ((((Array.replicate 22 undef).setIfInBounds 4 (.iface 40 (.pointer (some e0)))).setIfInBounds 0 (.iface 40 (.pointer (some e0)))).setIfInBounds 5 (.iface 40 (.pointer (some e0)))).setIfInBounds 6 (.bool true) : Array Value) = #[.pointer (some ⟨bm, 0, none⟩), .pointer (some ⟨be, 0, none⟩), .iface 40 (.pointer (some e0)), undef, undef, undef, .iface 40 (.pointer (some e0)), .iface 40 (.pointer (some e0)), .bool true, undef, undef, undef, undef, undef, undef, undef, undef, undef, undef, undef, undef, undef, undef, undef] := by
      apply Array.toList_inj.1
      simp [List.replicate, List.set]
    rw [ef]
    clear ef
    go_wp2_with (first | (go_at_call 25; refine Stop.out ?_))
    have hb3 := Blk.three HM.out (.string ⟨#[]⟩) (.slice none 0 0) (.slice none 0 0)
    have k3 := Keeps.three w bm (.string ⟨#[]⟩) (.slice none 0 0) (.slice none 0 0)
    have hbl : bm < w.heap.size := HM.out.lt
    have hel : be < w.heap.size := HE.out.lt
    have hz3 : w.heap.size = (((w.setCell ⟨bm, 0, none⟩ (.string ⟨#[]⟩)).setCell ⟨bm, 1, none⟩ (.slice none 0 0)).setCell ⟨bm, 2, none⟩ (.slice none 0 0)).heap.size := by simp
    have ht : Blk ((((w.setCell ⟨bm, 0, none⟩ (.string ⟨#[]⟩)).setCell ⟨bm, 1, none⟩ (.slice none 0 0)).setCell ⟨bm, 2, none⟩ (.slice none 0 0)).alloc (.cells #[.pointer none] 40)) w.heap.size 40 [.pointer none] := by
      have := Blk.new (((w.setCell ⟨bm, 0, none⟩ (.string ⟨#[]⟩)).setCell ⟨bm, 1, none⟩ (.slice none 0 0)).setCell ⟨bm, 2, none⟩ (.slice none 0 0)) [.pointer none] 40
      rwa [← hz3] at this
    have k4 := k3.alloc (.cells #[.pointer none] 40)
    have hg4 : ErrorType _ := k4.cell HG.out hgm
    have he4 := HE.out.keeps k4 hne.symm
    have hm4 := hb3.alloc (.cells #[.pointer none] 40)
    refine ⟨(asF e0 ⟨w.heap.size, 0, none⟩ (.pointer none) _ hg4 (ht.cell (i := 0) rfl) (ht.free 0)).mono ?_⟩
    rintro ev w5 ⟨rfl, w0, hk0, rfl⟩
    have ht5 := (ht.keeps hk0 fun h => h).set 0 (.pointer (some e0))
    have he5 := (he4.keeps hk0 fun h => h).set_other (a := ⟨w.heap.size, 0, none⟩) (Nat.ne_of_lt hel) (.pointer (some e0))
    have hm5 := (hm4.keeps hk0 fun h => h).set_other (a := ⟨w.heap.size, 0, none⟩) (Nat.ne_of_lt hbl) (.pointer (some e0))
    have k5 : Keeps (fun x => x = bm) w (w0.setCell ⟨w.heap.size, 0, none⟩ (.pointer (some e0))) := (k4.trans hk0 fun _ _ h => h.elim).setCell (fun h => absurd h (Nat.lt_irrefl _)) _
    have y5 : (w0.setCell ⟨w.heap.size, 0, none⟩ (.pointer (some e0))).cell? ⟨w.heap.size, 0, none⟩ = some (.pointer (some e0)) := ht5.cell (i := 0) rfl
    have z5 : (w0.setCell ⟨w.heap.size, 0, none⟩ (.pointer (some e0))).cell? ⟨be, 0, none⟩ = some y := he5.cell (i := 0) rfl
    have q5 := he5.free 0
    have HE5 := Lib.hid he5
    have HM5 := Lib.hid hm5
    have K5 := Lib.hid k5
    clear hb3 k3 ht k4 hg4 he4 hm4 hk0 ht5 he5 hm5 k5 hz3 m0 m1 m2 f0 f1 f2 hE
    go_wp2
    exact ⟨rfl, HM5.out.set_other (fun e => hne e) _, HE5.out.set 0 _, (K5.out.mono fun _ _ h => .inl h).setCell (fun _ => .inr rfl) _⟩
end Go.Proofs.YtgmieehheoknbaaDoor
end
section
/-
  code.Read: the whole function, at any bytes.
-/
namespace Go.Tx
open Go Go.RowKit
/-- what Read hands back -/
def ReadR (w : World) (s : List UInt8) (e : Ending) (w' : World) : Prop := Keeps (fun _ => False) w w' ∧ match pMod (s.length + 1) s with
  | .ok (m, _) => ∃ u, e = .returned (.tuple #[u, .nilIface]) ∧ MdR w m u w'
  | .error (l, c, k) => ∃ E, e = .returned (.tuple #[.agg #[.string ⟨#[]⟩, .slice none 0 0, .slice none 0 0], E]) ∧ IsErr w' (Fresh w w') E ((⟨#[114, 101, 97, 100]⟩, ((s.length - l : Nat) : Int)) :: c) k
theorem MdR.form {w w' : World} {m : Md} {u : Value} (h : MdR w m u w') : ∃ a c a2 c2, u = .agg #[.string m.name, .slice a m.lits.length c, .slice a2 m.funcs.length c2] := by
  obtain ⟨d, vl, vf, rfl, _, hl, hf⟩ := h
  obtain ⟨a, c, rfl⟩ := hl.form
  obtain ⟨a2, c2, rfl⟩ := hf.form
  exact ⟨_, _, _, _, rfl⟩
theorem MdD.mono {w w' : World} {S S' : Nat → Prop} {d : Nat} {v : Value} {m : Md} (h : MdD w S d v m) (hs : ∀ b, S b → S' b) (hc : ∀ b o v, S b → w.cell? ⟨b, o, none⟩ = some v → w'.cell? ⟨b, o, none⟩ = some v) : MdD w' S' d v m := by
  obtain ⟨vl, vf, e, h1, h2, h3, a, cap, e2, h4, h5, h6⟩ := h
  refine ⟨vl, vf, e, h1, h2.mono hs hc fun _ _ h => h.mono hs hc, h3, a, cap, e2, h4, h5, fun i f hf => ?_⟩
  obtain ⟨h7, b, o, vc, e3, hb, ⟨c0, c1, c2, c3⟩, hi⟩ := h6 i f hf
  exact ⟨h7, b, o, vc, e3, hs b hb, ⟨hc _ _ _ hb c0, hc _ _ _ hb c1, hc _ _ _ hb c2, hc _ _ _ hb c3⟩, hi.mono hs hc⟩
theorem MdR.later {w W w2 w' : World} {m : Md} {u : Value} (h : MdR W m u w2) (k : Keeps (fun x => x = w.heap.size ∨ x = w.heap.size + 1) w2 w') (hW : W.heap.size = w.heap.size + 3) : MdR w m u w' := by
  obtain ⟨d, hd⟩ := h
  exact ⟨d, hd.mono (fun b hb => ⟨by have := hb.1; omega, Nat.lt_of_lt_of_le hb.2 k.size⟩) fun b o v hb hc => k.cell hc (by have := hb.1; show ¬ (b = _ ∨ b = _); omega)⟩
theorem results_cc {P : Program} {fn : Func} {c d : Tmp} {t t2 : TypeId} {w : World} (h : fn.results = #[.cell c t, .cell d t2]) (tmps : Array Value) (p q : Addr) (hp : tmps.getD c undef = .pointer (some p)) (hq : tmps.getD d undef = .pointer (some q)) (x y : Value) (hl : (loadVar t p).run P w = .ok x w) (hl2 : (loadVar t2 q).run P w = .ok y w) :
    (results fn tmps).run P w = .ok (.tuple #[x, y]) w := by
  have hp' : tmps[c]?.getD undef = .pointer (some p) := by rw [← Array.getD_eq_getD_getElem?]; exact hp
  have hq' : tmps[d]?.getD undef = .pointer (some q) := by rw [← Array.getD_eq_getD_getElem?]; exact hq
  simp [results, h, asAddr, hp', hq', hl, hl2]
end Go.Tx
namespace Go.Proofs.YtgmieehheoknbaaDoor
open Go.RowKit Go.Tx
theorem load_err {w : World} {g : Nat} {v : Value} (h : w.cell? ⟨g, 0, none⟩ = some v) : (loadVar 28 ⟨g, 0, none⟩).run Tryd.prog w = .ok v w := by
  unfold loadVar
  simp [isAgg, Tryd.underlying28, h]
set_option maxRecDepth 100000 in
set_option maxHeartbeats 1600000 in
theorem read_any {w : World} {v : Value} {s : List UInt8} (hs : BsAt w v s) (hv : ∀ x, v.ownBlock = some x → x < w.heap.size) (hN : s.length ≤ 1099511627776) (hg : ErrorType w) :
    Calls Tryd.prog 10 #[v] w (ReadR w s) := by
  have hmf : ∀ (fn : Fn) (first cap : Array Value) (w : World), (Instr.makeFunc fn first cap).run Tryd.prog w = .ok (.func fn first cap) w := fun _ _ _ _ => rfl
  have HS := Lib.hid hs
  have HV := Lib.hid hv
  have HN := Lib.hid hN
  have HG := Lib.hid hg
  obtain ⟨a, c, rfl, hc1, hc2, _⟩ := hs
  clear hv hN hg
  go_enter_defers Tryd.func10, Tryd.ntmps10
  go_wp2_with (first | (go_at_call 26; refine Stop.out ?_))
  have hbm : Blk (((w.alloc (.cells zeroM.toArray 25)).alloc (.cells #[.nilIface] 28)).alloc (.cells #[.slice a s.length c, .int .i64 0] 70)) w.heap.size 25 zeroM := ((Blk.new w zeroM _).alloc _).alloc _
  have hbe : Blk (((w.alloc (.cells zeroM.toArray 25)).alloc (.cells #[.nilIface] 28)).alloc (.cells #[.slice a s.length c, .int .i64 0] 70)) (w.heap.size + 1) 28 [.nilIface] := by
    have := (Blk.new (w.alloc (.cells zeroM.toArray 25)) [.nilIface] 28).alloc (.cells #[.slice a s.length c, .int .i64 0] 70)
    rwa [World.size_alloc] at this
  have hbr : Blk (((w.alloc (.cells zeroM.toArray 25)).alloc (.cells #[.nilIface] 28)).alloc (.cells #[.slice a s.length c, .int .i64 0] 70)) (w.heap.size + 1 + 1) 70 [.slice a s.length c, .int .i64 (0 : Nat)] := by
    have := Blk.new ((w.alloc (.cells zeroM.toArray 25)).alloc (.cells #[.nilIface] 28)) [.slice a s.length c, .int .i64 0] 70
    rwa [World.size_alloc, World.size_alloc] at this
  have kW : Keeps (fun _ => False) w (((w.alloc (.cells zeroM.toArray 25)).alloc (.cells #[.nilIface] 28)).alloc (.cells #[.slice a s.length c, .int .i64 0] 70)) := (((Keeps.refl (fun _ => False) w).alloc _).alloc _).alloc _
  have hvW : ∀ x, (Value.slice a s.length c).ownBlock = some x → x < (((w.alloc (.cells zeroM.toArray 25)).alloc (.cells #[.nilIface] 28)).alloc (.cells #[.slice a s.length c, .int .i64 0] 70)).heap.size := fun x hx => Nat.lt_of_lt_of_le (HV.out x hx) kW.size
  have hrd : RdAt (((w.alloc (.cells zeroM.toArray 25)).alloc (.cells #[.nilIface] 28)).alloc (.cells #[.slice a s.length c, .int .i64 0] 70)) (w.heap.size + 1 + 1) (.slice a s.length c) s 0 := ⟨hbr, HS.out.keeps kW fun _ _ h => h, Nat.zero_le _, Nat.le_trans hc1 hc2, fun x hx => by have := HV.out x hx; omega⟩
  refine ⟨(rmodule_any hrd hvW HN.out).mono ?_⟩
  intro e w2 hr
  rcases hr.split with ⟨l, c9, k, E, hb, rfl, ⟨E2, he2, hE, hk⟩⟩ | ⟨m, u, p2, hb, rfl, hmr, hr2, hk2⟩
  · have he3 : E = E2 := by
      have := congrArg (fun e => match e with | Ending.panicked [x] => x.v | _ => undef) he2
      exact this
    subst he3
    have hgl : 0 < w.heap.size := lt_cell HG.out
    obtain ⟨g, u, rfl, _, _, _⟩ := id hE
    have hm2 := hbm.keeps hk (by omega)
    have he2' := hbe.keeps hk (by omega)
    have hg2 : ErrorType w2 := (hk.cell (kW.cell HG.out fun h => h) (by show ¬ 0 = w.heap.size + 1 + 1; omega))
    refine leaves_cons (f := 24) (args := #[.pointer (some ⟨w.heap.size, 0, none⟩), .pointer (some ⟨w.heap.size + 1, 0, none⟩)]) (by simp) (by simp [go_sem]) ?_
    refine (read_catch ⟨g, 0, none⟩ [] hg2 hm2 he2' (by omega) (by omega)).mono ?_
    rintro e u' w3 ⟨rfl, rfl, h1, h2, h3⟩
    have hf : Keeps (fun _ => False) w w3 := ((kW.mono (T := fun _ => False) fun _ _ h => h).trans hk fun x hx e => by omega).trans h3 fun x hx e => by omega
    have hWs : (((w.alloc (.cells zeroM.toArray 25)).alloc (.cells #[.nilIface] 28)).alloc (.cells #[.slice a s.length c, .int .i64 0] 70)).heap.size = w.heap.size + 3 := by rw [World.size_alloc, World.size_alloc, World.size_alloc]
    have hE3 := (hE.keeps h3 fun x hx e => by have := hx.1; omega).mono (T := Fresh w w3) fun x hx => ⟨by have := hx.1; omega, Nat.lt_of_lt_of_le hx.2 h3.size⟩
    show Leaves _ _ _ _ _ .returning w3
    refine ⟨_, results_cc rfl _ ⟨w.heap.size, 0, none⟩ ⟨w.heap.size + 1, 0, none⟩ rfl rfl _ _ (load_md h1) (load_err (h2.cell (i := 0) rfl)), hf, ?_⟩
    rw [hb]
    exact ⟨_, rfl, hE3⟩
  · obtain ⟨a3, c3, a4, c4, rfl⟩ := hmr.form
    have hm2 := hbm.keeps hk2 (by omega)
    have he2 := hbe.keeps hk2 (by omega)
    have m0 : w2.cell? ⟨w.heap.size, 0, none⟩ = some (.string ⟨#[]⟩) := hm2.cell (i := 0) rfl
    have m1 : w2.cell? ⟨w.heap.size, 1, none⟩ = some (.slice none 0 0) := hm2.cell (i := 1) rfl
    have m2 : w2.cell? ⟨w.heap.size, 2, none⟩ = some (.slice none 0 0) := hm2.cell (i := 2) rfl
    have e0 : w2.cell? ⟨w.heap.size + 1, 0, none⟩ = some .nilIface := he2.cell (i := 0) rfl
    have q0 := hm2.free 0
    have q1 := hm2.free 1
    have q2 := hm2.free 2
    have r0 := he2.free 0
    have HM2 := Lib.hid hm2
    have HE2 := Lib.hid he2
    have HMR := Lib.hid hmr
    have HB := Lib.hid hb
    have HK2 := Lib.hid hk2
    have KW := Lib.hid kW
    clear hm2 he2 hmr hb hk2 kW hrd hvW hbm hbe hbr hr2 hr
    go_wp2
    refine leaves_cons (f := 24) (args := #[.pointer (some ⟨w.heap.size, 0, none⟩), .pointer (some ⟨w.heap.size + 1, 0, none⟩)]) (by simp) (by simp [go_sem]) ?_
    refine (read_idle ⟨w.heap.size, 0, none⟩ ⟨w.heap.size + 1, 0, none⟩ _).mono ?_
    rintro e u' w3 ⟨rfl, rfl, rfl⟩
    have hb8 := Blk.three HM2.out (.string m.name) (.slice a3 m.lits.length c3) (.slice a4 m.funcs.length c4)
    have h8 := Keeps.three w2 w.heap.size (.string m.name) (.slice a3 m.lits.length c3) (.slice a4 m.funcs.length c4)
    have hb9 := hb8.set_other (a := ⟨w.heap.size + 1, 0, none⟩) (by show w.heap.size ≠ w.heap.size + 1; omega) .nilIface
    have he8 := (HE2.out.keeps h8 (by omega)).set 0 .nilIface
    have hWs : (((w.alloc (.cells zeroM.toArray 25)).alloc (.cells #[.nilIface] 28)).alloc (.cells #[.slice a s.length c, .int .i64 0] 70)).heap.size = w.heap.size + 3 := by rw [World.size_alloc, World.size_alloc, World.size_alloc]
    have h9 := (h8.mono (T := fun x => x = w.heap.size ∨ x = w.heap.size + 1) fun _ _ h => .inl h).setCell (p := ⟨w.heap.size + 1, 0, none⟩) (fun _ => .inr rfl) .nilIface
    have hf := (KW.out.trans HK2.out fun x hx e => by omega).trans h9 fun x hx e => by omega
    show Leaves _ _ _ _ _ .returning _
    refine ⟨_, results_cc rfl _ ⟨w.heap.size, 0, none⟩ ⟨w.heap.size + 1, 0, none⟩ rfl rfl _ _ (load_md hb9) (load_err (he8.cell (i := 0) rfl)), hf, ?_⟩
    rw [HB.out]
    exact ⟨_, rfl, HMR.out.later h9 hWs⟩
end Go.Proofs.YtgmieehheoknbaaDoor
end
section
/-
  Reading what was written, as plain data: modules.
-/
namespace Go.Tx
open Go Go.RowKit
theorem pLit_wrong2 {F : Nat} {s r : List UInt8} {t : Tm} {c : List (ByteArray × Int)} {k : Int} (h : pTerm F s = .ok (t, r)) (ht : rightTm t = some (c, k)) : pLit F s = .error (s.length, c, k) := by
  unfold pLit
  rw [h, then_ok, ht]
theorem pMod_magic2 {F : Nat} {s r0 : List UInt8} (h : pMagic magic s = .ok ((), r0)) : pMod F s = PR.then (pText r0) fun nm r1 => PR.then (pCount r1) fun n r2 => PR.then (pMany (pLit F) n r2) fun ls r3 => PR.then (pCount r3) fun m r4 => PR.then (pMany pFn m r4) fun fs r5 => pEnd { name := nm, lits := ls, funcs := fs } r5 := by
  unfold pMod pBody
  rw [h]
  simp only [then_then, then_ok]
theorem pMagic_ok (r : List UInt8) : pMagic magic (magic ++ r) = .ok ((), r) := rfl
theorem pMagic_back : ∀ {m s r : List UInt8} {u : Unit}, pMagic m s = .ok (u, r) → s = m ++ r
  | [], s, r, u, h => by cases h; rfl
  | _ :: _, [], _, _, h => by cases h
  | c :: m, x :: s, r, u, h => by
    simp only [pMagic] at h
    split at h
    · next hx =>
      have e : x = c := UInt8.toNat_inj.1 hx
      rw [e, pMagic_back h]
      rfl
    · cases h
theorem pLit_enc {F : Nat} {t : Tm} (h : rightTm t = none) (hf : fitT t) (hF : (encT t).length ≤ F) (r : List UInt8) : pLit F (encT t ++ r) = .ok (t, r) := by
  unfold pLit
  rw [pTerm_enc t F r hf hF, then_ok, h]
theorem pLit_back {F : Nat} {s r : List UInt8} {t : Tm} (h : pLit F s = .ok (t, r)) : s = encT t ++ r ∧ rightTm t = none := by
  unfold pLit at h
  cases hp : pTerm F s with
  | error e => rw [hp] at h; cases h
  | ok x =>
    obtain ⟨t2, r2⟩ := x
    rw [hp, then_ok] at h
    split at h
    · next hr =>
      cases h
      exact ⟨pTerm_back hp, hr⟩
    · cases h
/-- what fits a reader -/
structure mdFits (m : Md) : Prop where
  name : m.name.size ≤ 1099511627776
  lits : m.lits.length ≤ 1099511627776
  funcs : m.funcs.length ≤ 1099511627776
  terms : ∀ t ∈ m.lits, fitT t
  fns : ∀ f ∈ m.funcs, fnFits f
/-- may it be? -/
def mdOk (m : Md) : Prop := (∀ t ∈ m.lits, rightTm t = none) ∧ ∀ f ∈ m.funcs, fnOk f = true
theorem encTs_mem_len : ∀ {l : List Tm} {t : Tm}, t ∈ l → (encT t).length ≤ (encTs l).length
  | u :: l, t, h => by
    simp only [encTs, List.length_append]
    rcases List.mem_cons.1 h with rfl | h
    · omega
    · have := encTs_mem_len h; omega
theorem encF_pos (f : Fnc) : 0 < (encF f).length := by
  unfold encF encH encB
  have h : 0 < (encN f.name.size).length := by rw [encN]; split <;> simp
  simp only [List.length_append]
  omega
theorem pBody_enc {F : Nat} {m : Md} (h : mdOk m) (hf : mdFits m) (hF : (encM m).length ≤ F) (r : List UInt8) : pBody F (encM m ++ r) = .ok (m, r) := by
  have hl : (encTs m.lits).length ≤ F := by
    unfold encM at hF
    simp only [List.length_append] at hF
    omega
  unfold pBody encM
  simp only [List.append_assoc]
  rw [pMagic_ok, then_ok, pText_enc hf.name, then_ok, pCount_enc hf.lits (by rw [encTs_flat, List.length_append]; have := flat_length encT_pos m.lits; omega), then_ok]
  rw [encTs_flat, pMany_enc fun t ht r => pLit_enc (h.1 t ht) (hf.terms t ht) (Nat.le_trans (encTs_mem_len ht) hl) r, then_ok]
  rw [pCount_enc hf.funcs (by rw [encFs_flat, List.length_append]; have := flat_length encF_pos m.funcs; omega), then_ok]
  rw [encFs_flat, pMany_enc fun f hq r => pFn_enc (h.2 f hq) (hf.fns f hq) r, then_ok]
theorem pMod_enc {F : Nat} {m : Md} (h : mdOk m) (hf : mdFits m) (hF : (encM m).length ≤ F) : pMod F (encM m) = .ok (m, []) := by
  have := pBody_enc h hf hF []
  rw [List.append_nil] at this
  unfold pMod
  rw [this]
  rfl
theorem pBody_back {F : Nat} {s r : List UInt8} {m : Md} (h : pBody F s = .ok (m, r)) : s = encM m ++ r ∧ mdOk m ∧ m.name.size ≤ 1099511627776 ∧ m.lits.length ≤ 1099511627776 ∧ m.funcs.length ≤ 1099511627776 ∧ ∀ f ∈ m.funcs, fnFits f := by
  unfold pBody at h
  cases h0 : pMagic magic s with
  | error e => rw [h0] at h; cases h
  | ok x =>
    obtain ⟨u, r0⟩ := x
    rw [h0, then_ok] at h
    cases h1 : pText r0 with
    | error e => rw [h1] at h; cases h
    | ok x =>
      obtain ⟨nm, r1⟩ := x
      rw [h1, then_ok] at h
      cases h2 : pCount r1 with
      | error e => rw [h2] at h; cases h
      | ok x =>
        obtain ⟨n, r2⟩ := x
        rw [h2, then_ok] at h
        cases h3 : pMany (pLit F) n r2 with
        | error e => rw [h3] at h; cases h
        | ok x =>
          obtain ⟨ls, r3⟩ := x
          rw [h3, then_ok] at h
          cases h4 : pCount r3 with
          | error e => rw [h4] at h; cases h
          | ok x =>
            obtain ⟨k, r4⟩ := x
            rw [h4, then_ok] at h
            cases h5 : pMany pFn k r4 with
            | error e => rw [h5] at h; cases h
            | ok x =>
              obtain ⟨fs, r5⟩ := x
              rw [h5, then_ok] at h
              cases h
              obtain ⟨e1, c1⟩ := pText_back h1
              obtain ⟨e2, c2, _⟩ := pCount_back h2
              obtain ⟨e3, c3, d3⟩ := pMany_back (enc := encT) (ok := fun t => rightTm t = none) (fun _ _ _ h => pLit_back h) h3
              obtain ⟨e4, c4, _⟩ := pCount_back h4
              obtain ⟨e5, c5, d5⟩ := pMany_back (enc := encF) (ok := fun f => fnOk f = true ∧ fnFits f) (fun _ _ _ h => pFn_back h) h5
              refine ⟨?_, ⟨d3, fun f hf => (d5 f hf).1⟩, c1, by rw [← c3] at c2; exact c2, by rw [← c5] at c4; exact c4, fun f hf => (d5 f hf).2⟩
              unfold encM
              simp only [List.append_assoc, encTs_flat, encFs_flat, c3, c5]
              rw [pMagic_back h0, e1, e2, e3, e4, e5]
theorem pMod_back {F : Nat} {s r : List UInt8} {m : Md} (h : pMod F s = .ok (m, r)) : s = encM m ∧ mdOk m ∧ m.name.size ≤ 1099511627776 ∧ m.lits.length ≤ 1099511627776 ∧ m.funcs.length ≤ 1099511627776 ∧ ∀ f ∈ m.funcs, fnFits f := by
  unfold pMod at h
  cases hb : pBody F s with
  | error e => rw [hb] at h; cases h
  | ok x =>
    obtain ⟨m2, r2⟩ := x
    rw [hb, then_ok] at h
    cases r2 with
    | cons x r => cases h
    | nil =>
      cases h
      have := pBody_back hb
      rw [List.append_nil] at this
      exact this
/-! ## Tuples in one another -/
def deepT : Nat → Tm
  | 0 => .mk 6 0 ⟨#[]⟩ [] [] ⟨#[]⟩
  | j + 1 => .mk 5 0 ⟨#[]⟩ [deepT j] [] ⟨#[]⟩
def deepB : Nat → List UInt8
  | 0 => []
  | j + 1 => deepB j ++ [5, 1]
theorem deepB_front : ∀ j, deepB (j + 1) = 5 :: 1 :: deepB j
  | 0 => rfl
  | j + 1 => congrArg (· ++ [5, 1]) (deepB_front j)
theorem encT_deep : ∀ j, encT (deepT j) = deepB j ++ [6]
  | 0 => by simp [deepT, encT, deepB]
  | j + 1 => by
    have h1 : encN 1 = [1] := encN_small (by decide)
    rw [deepB_front, deepT, encT_five]
    simp [encTs, encT_deep j, h1]
theorem fit_deep : ∀ j, fitT (deepT j)
  | 0 => ⟨by decide, ⟨by decide, by decide⟩, by decide, by decide, by decide, True.intro, True.intro⟩
  | j + 1 => ⟨rfl, ⟨by decide, by decide⟩, by decide, by decide, by show 1 ≤ 1099511627776; decide, ⟨fit_deep j, True.intro⟩, True.intro⟩
theorem chk_deep : ∀ (j : Nat) (D : Int), 1 ≤ D → D ≤ 201 → chk (deepT j) D (D - 1, 0) = if D + j ≤ 200 then .ok (D + j, 0) else .error (200, 2)
  | 0, D, h1, h2 => by
    have hb : (deepT 0).binSize = 0 := rfl
    have ho : (deepT 0).okB = true := by decide
    unfold deepT at hb ho ⊢
    unfold chk
    dsimp only
    rw [hb, ho]
    by_cases h : D ≤ 200
    · rw [if_neg (by omega), if_neg (by decide), if_pos (by omega)]
      simp only [chks, Except.bind]
      congr 2
      omega
    · rw [if_pos (by omega), if_neg (by omega)]
      congr 2
      omega
  | j + 1, D, h1, h2 => by
    have hb : (deepT (j + 1)).binSize = 0 := rfl
    have ho : (deepT (j + 1)).okB = true := rfl
    have ih := chk_deep j (D + 1) (by omega)
    unfold deepT at hb ho ⊢
    unfold chk
    dsimp only
    rw [hb, ho]
    by_cases h : D ≤ 200
    · rw [if_neg (by omega), if_neg (by decide)]
      have e1 : (D - 1 + 1, (0 : Int) + 0) = (D + 1 - 1, 0) := by congr 1; omega
      simp only [chks]
      rw [e1, ih (by omega)]
      by_cases h3 : D + 1 + j ≤ 200
      · rw [if_pos h3, if_pos (by omega)]
        simp only [Except.bind]
        congr 2
        omega
      · rw [if_neg h3, if_neg (by omega)]
        rfl
    · rw [if_pos (by omega), if_neg (by omega)]
      congr 2
      omega
theorem right_deep (j : Nat) : rightTm (deepT j) = if j < 200 then none else some ([("term".toUTF8, 200)], 2) := by
  unfold rightTm
  have h := chk_deep j 1 (by omega) (by omega)
  rw [show ((1 : Int) - 1, (0 : Int)) = (0, 0) from rfl] at h
  rw [h]
  by_cases hj : j < 200
  · rw [if_pos (by omega), if_pos hj]
    rfl
  · rw [if_neg (by omega), if_neg hj]
    rfl
/-- the bytes of a module whose one literal is so deep -/
def deepM (j : Nat) : List UInt8 := [84, 82, 80, 69, 0, 1] ++ deepB j ++ [6, 0]
theorem encM_deep (j : Nat) : encM ⟨⟨#[]⟩, [deepT j], []⟩ = deepM j := by
  have h0 : encN 0 = [0] := encN_small (by decide)
  have h1 : encN 1 = [1] := encN_small (by decide)
  unfold encM deepM
  simp [magic, encB, h0, h1, encTs, encT_deep, encFs, ByteArray.size]
theorem deepM_length (j : Nat) : (deepM j).length = 2 * j + 8 := by
  have h : ∀ j, (deepB j).length = 2 * j := by
    intro j
    induction j with
    | zero => rfl
    | succ j ih => rw [deepB, List.length_append, ih]; simp; omega
  unfold deepM
  rw [List.length_append, List.length_append, h]
  simp
  omega
theorem pMod_deep (j : Nat) (h : j < 200) : pMod ((deepM j).length + 1) (deepM j) = .ok (⟨⟨#[]⟩, [deepT j], []⟩, []) := by
  rw [← encM_deep]
  refine pMod_enc ⟨fun t ht => ?_, fun f hf => by cases hf⟩ ⟨by show 0 ≤ 1099511627776; decide, by show 1 ≤ 1099511627776; decide, by show 0 ≤ 1099511627776; decide, fun t ht => ?_, fun f hf => by cases hf⟩ (Nat.le_succ _)
  · simp only [List.mem_singleton] at ht
    subst ht
    rw [right_deep, if_pos h]
  · simp only [List.mem_singleton] at ht
    subst ht
    exact fit_deep j
theorem pMod_deeper (j : Nat) (h : 200 ≤ j) : pMod ((deepM j).length + 1) (deepM j) = .error ((deepM j).length - 6, [("term".toUTF8, 200)], 2) := by
  have hlen := deepM_length j
  generalize hF : (deepM j).length + 1 = F at *
  have e : deepM j = magic ++ (encB ⟨#[]⟩ ++ (encN 1 ++ (encT (deepT j) ++ [0]))) := by
    have h0 : encN 0 = [0] := encN_small (by decide)
    have h1 : encN 1 = [1] := encN_small (by decide)
    unfold deepM
    simp [magic, encB, h0, h1, encT_deep, ByteArray.size]
  have hl : (encT (deepT j)).length = 2 * j + 1 := by
    have := congrArg List.length e
    have h0 : encN 0 = [0] := encN_small (by decide)
    have h1 : encN 1 = [1] := encN_small (by decide)
    rw [hlen] at this
    simp [magic, encB, h0, h1, ByteArray.size] at this
    omega
  have hp : pTerm F (encT (deepT j) ++ [0]) = .ok (deepT j, [0]) := pTerm_enc _ F _ (fit_deep j) (by omega)
  have hw := pLit_wrong2 hp (show rightTm (deepT j) = some _ by rw [right_deep, if_neg (by omega)])
  rw [pMod_magic2 (e ▸ pMagic_ok _), pText_enc (by decide), then_ok, pCount_enc (by decide) (by rw [List.length_append]; omega), then_ok]
  rw [show (1 : Nat) = 0 + 1 from rfl, pMany_succ, hw, then_error, then_error]
  congr 2
  rw [List.length_append, hl, hlen]
  simp
end Go.Tx
end

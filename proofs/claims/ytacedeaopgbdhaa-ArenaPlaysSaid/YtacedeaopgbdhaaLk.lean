/-
  The links of an error, and whether two errors are alike: what the Go code does.
-/
import Derived.Test.YtacedeaopgbdhaaErr
import Derived.Test.YtacedeaopgbdhaaRegB
namespace Go.Tx
open Go Go.RowKit
theorem cells_newAt {w0 : World} {xs : List Value} {e : TypeId} {g : Nat} (hg : g = w0.heap.size) : ∀ j v, xs[j]? = some v → (w0.alloc (.cells xs.toArray e)).cell? ((⟨g, 0, none⟩ : Addr).add j) = some v := by
  intro j v hv
  subst hg
  have h := (Blk.new w0 xs e).cell hv
  have e1 : (⟨w0.heap.size, 0, none⟩ : Addr).add j = ⟨w0.heap.size, j, none⟩ := by
    unfold Addr.add
    cases j with
    | zero => rfl
    | succ j => simp
  rw [e1]; exact h
/-- the cells of a chain's links -/
def linkCells (l : List (ByteArray × Int)) : List Value := l.flatMap fun t => [.string t.1, .int .i64 t.2, .int .i64 0]
def endCells (k : Int) : List Value := [.string ⟨#[]⟩, .int .i64 0, .int .i64 k]
theorem linkCells_snoc (l : List (ByteArray × Int)) (op : ByteArray) (n : Int) : linkCells (l ++ [(op, n)]) = linkCells l ++ [.string op, .int .i64 n, .int .i64 0] := by simp [linkCells]

/-- what holds before each round: so many links were read -/
def LinksAt (w : World) (E : Nat → Prop) (l : List (ByteArray × Int)) (k : Int) (v lv kv : Value) (wr : World) : Prop :=
  ∃ l1 l2, l = l1 ++ l2 ∧ IsErr w E v l2 k ∧ Row wr 93 3 lv l1.length (linkCells l1) ∧ kv = .int .i64 l1.length ∧ Keeps (fun _ => False) w wr ∧ ∀ g, lv.ownBlock = some g → w.heap.size ≤ g
def LinksPost (w : World) (l : List (ByteArray × Int)) (k : Int) (e : Ending) (w' : World) : Prop :=
  ∃ lv, e = .returned (.tuple #[lv, .bool (k != 0)]) ∧ Row w' 93 3 lv (l.length + 1) (linkCells l ++ endCells k) ∧ Keeps (fun _ => False) w w'
theorem linksKeep {w wr w0 w4 : World} {lv v' : Value} {e : TypeId} {n : Nat} {xs : List Value} (hk : Keeps (fun _ => False) w wr) (hown : ∀ g, lv.ownBlock = some g → w.heap.size ≤ g) (k0 : Keeps (fun _ => False) wr w0) (ha : Appended w0 w4 e 3 lv v' n xs) :
    Keeps (fun _ => False) w w4 ∧ ∀ g, v'.ownBlock = some g → w.heap.size ≤ g := by
  have h1 : Keeps (fun _ => False) w w0 := hk.trans k0 fun _ _ h => h
  refine ⟨h1.trans ha.keeps fun g hg ho => ?_, fun g hg => ?_⟩
  · have := hown g ho; omega
  · rcases ha.own with ho | ⟨ho, _⟩
    · rw [ho] at hg; exact hown g hg
    · rw [ho] at hg; simp at hg; subst hg; exact h1.size
end Go.Tx
namespace Go.Proofs.Ytacedeaopgbdhaa
open Go.RowKit Go.Tx
set_option maxHeartbeats 400000 in
theorem links_nil (w : World) : Calls Try.prog 27 #[.nilIface] w fun e w' => e = .returned (.tuple #[.slice none 0 0, .bool true]) ∧ w' = w := by
  go_enter Try.func27, Try.ntmps27
  go_wp2
  refine wp_loop_rounds 1 ?_
  rw [rounds_succ]
  go_wp2
  go_ret2
  exact ⟨rfl, rfl⟩

theorem info_link : (Try.prog.info? 93).map (fun i => (i.zero, i.size, i.bytes)) = some (some (.agg #[.string ByteArray.empty, .int .i64 0, .int .i64 0]), 3, 32) := by kernel_rfl

theorem as_fault (v : Value) (w : World) : (Instr.typeAssert (.iface 33 v) 26 33 true).run Try.prog w = .ok (.tuple #[v, .bool true]) w := by kernel_rfl
theorem as_errno (v : Value) (w : World) : (Instr.typeAssert (.iface 34 v) 26 34 true).run Try.prog w = .ok (.tuple #[v, .bool true]) w := by kernel_rfl
theorem as_not (v : Value) (w : World) : (Instr.typeAssert (.iface 34 v) 26 33 true).run Try.prog w = .ok (.tuple #[.pointer none, .bool false]) w := by kernel_rfl

set_option maxRecDepth 100000 in
set_option maxHeartbeats 400000 in
theorem links_any {w : World} {E : Nat → Prop} {v : Value} {l : List (ByteArray × Int)} {k : Int} (h : IsErr w E v l k) (hl : l.length ≤ 9000) :
    Calls Try.prog 27 #[v] w (LinksPost w l k) := by
  have HE := Lib.hid h
  have t1 := as_fault
  have t2 := as_errno
  have t3 := as_not
  clear h
  go_enter Try.func27, Try.ntmps27
  go_wp2
  go_loopw [0, 4, 5] (fun v lv kv wr => LinksAt w E l k v lv kv wr) (fun _ _ kv _ => l.length - (intOf kv).toNat)
  case atStart => exact ⟨[], l, rfl, HE.out, World.ownsRow_nil _ _ _ _, rfl, Keeps.refl _ _, fun g hg => by simp [Value.ownBlock] at hg⟩
  case round =>
    obtain ⟨l1, l2, rfl, he, hr, rfl, hkp, hown⟩ := hrel
    have hln : l1.length + l2.length ≤ 9000 := by simpa using hl
    have HR := Lib.hid hr
    have HK := Lib.hid hkp
    have HO := Lib.hid hown
    cases l2 with
    | nil =>
      obtain rfl : u0 = _ := he
      clear hr hkp hown hl HE
      go_wp2_with (first | (with_reducible refine wp_region_text (by kernel_rfl) (by kernel_rfl) ?_) | (with_reducible refine text_fin (by kernel_rfl) ?_) | (at_builtin; go_must (refine wpList_append_row _ rfl _ _ 71 71 rfl 93 (.slice 93) 3 32 (.agg #[.string ByteArray.empty, .int .i64 0, .int .i64 0]) info_link Try.underlying71 Try.underlying71 (by intro k h; cases h) rfl u4 l1.length (linkCells l1) rfl (HR.out.keeps (S := fun _ => False) (by repeat (first | exact Keeps.refl _ _ | apply Keeps.drew | apply Keeps.alloc)) (fun _ _ h => h)) _ 1 [.string ⟨#[]⟩, .int .i64 0, .int .i64 k] rfl rfl (lenOf_slice _ _ _) (firstCells_at _ rfl (cells_newAt rfl)) (by intro u hu; simp at hu; rcases hu with rfl | rfl | rfl <;> rfl) (by unfold maxLen; omega) (by omega) ?_); intro v' w4 ha; obtain ⟨va, vc, rfl, _, _⟩ := ha.row.len; obtain ⟨g1, g2⟩ := linksKeep HK.out HO.out (by repeat (first | exact Keeps.refl _ _ | apply Keeps.drew | apply Keeps.alloc)) ha; have G1 := Lib.hid g1; have G2 := Lib.hid g2; have G3 := Lib.hid ha.row; clear g1 g2 ha))
      go_ret2
      refine ⟨_, rfl, ?_, G1.out⟩
      rw [List.append_nil]
      exact G3.out
    | cons t l3 =>
      obtain ⟨op, n⟩ := t
      obtain ⟨g, u, rfl, hb, _, he3⟩ := he
      have hbr := hb.keeps hkp (fun h => h)
      have c0 : wr.cell? ⟨g, 0, none⟩ = some (.string op) := hbr.cell (i := 0) rfl
      have c1 : wr.cell? ⟨g, 1, none⟩ = some (.int .i64 n) := hbr.cell (i := 1) rfl
      have HB := Lib.hid hb
      have HE3 := Lib.hid he3
      have hl3 : l1.length + (l3.length + 1) ≤ 9000 := by simpa using hln
      clear hr hkp hown hl HE hb hbr he3 hln
      go_wp2_with (first | (with_reducible refine wp_region_text (by kernel_rfl) (by kernel_rfl) ?_) | (with_reducible refine text_fin (by kernel_rfl) ?_) | (at_builtin; go_must (refine wpList_append_row _ rfl _ _ 71 71 rfl 93 (.slice 93) 3 32 (.agg #[.string ByteArray.empty, .int .i64 0, .int .i64 0]) info_link Try.underlying71 Try.underlying71 (by intro k h; cases h) rfl u4 l1.length (linkCells l1) rfl (HR.out.keeps (S := fun _ => False) (by repeat (first | exact Keeps.refl _ _ | apply Keeps.drew | apply Keeps.alloc)) (fun _ _ h => h)) _ 1 [.string op, .int .i64 n, .int .i64 0] rfl rfl (lenOf_slice _ _ _) (firstCells_at _ rfl (cells_newAt rfl)) (by intro u hu; simp at hu; rcases hu with rfl | rfl | rfl <;> rfl) (by unfold maxLen; omega) (by omega) ?_); intro v' w4 ha; obtain ⟨va, vc, rfl, _, _⟩ := ha.row.len; obtain ⟨g1, g2⟩ := linksKeep HK.out HO.out (by repeat (first | exact Keeps.refl _ _ | apply Keeps.drew | apply Keeps.alloc)) ha; have G1 := Lib.hid g1; have G2 := Lib.hid g2; have G3 := Lib.hid ha.row; clear g1 g2 ha; have c2 : w4.cell? ⟨g, 2, none⟩ = some u := (HB.out.keeps G1.out (fun h => h)).cell (i := 2) rfl))
      go_roundw
      case rel => exact ⟨l1 ++ [(op, n)], l3, by simp, HE3.out, by rw [List.length_append, linkCells_snoc]; exact G3.out, by simp, G1.out, G2.out⟩
      case measure => simp [intOf]; omega
end Go.Proofs.Ytacedeaopgbdhaa

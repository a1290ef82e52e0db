/-
  A module's bytes, as plain data: numbers, texts.
-/
import Derived.Test.YtgmieehheoknbaaCb
import Derived.Test.YtgmieehheoknbaaMf
namespace Go.Tx
open Go Go.RowKit
/-- a number's groups of seven bits -/
def encN (n : Nat) : List UInt8 := if _h : n < 128 then [UInt8.ofNat n] else UInt8.ofNat (n % 128 + 128) :: encN (n / 128)
termination_by n
decreasing_by omega
theorem encN_small {n : Nat} (h : n < 128) : encN n = [UInt8.ofNat n] := by rw [encN, dif_pos h]
theorem encN_great {n : Nat} (h : ¬ n < 128) : encN n = UInt8.ofNat (n % 128 + 128) :: encN (n / 128) := by rw [encN, dif_neg h]
theorem encN_len : ∀ (k n : Nat), n < 128 ^ (k + 1) → (encN n).length ≤ k + 1
  | 0, n, h => by rw [encN_small (by simpa using h)]; simp
  | k + 1, n, h => by
    by_cases hn : n < 128
    · rw [encN_small hn]; simp
    · rw [encN_great hn, List.length_cons]
      have : n / 128 < 128 ^ (k + 1) := by
        rw [Nat.div_lt_iff_lt_mul (by decide)]
        rw [Nat.pow_succ] at h
        exact h
      have := encN_len k (n / 128) this
      omega
theorem encN_ten {n : Nat} (h : n < 18446744073709551616) : (encN n).length ≤ 10 := encN_len 9 n (Nat.lt_of_lt_of_le h (by decide))
/-- a signed number's -/
def zig (v : Int) : Nat := (if v < 0 then -(v + 1) * 2 + 1 else v * 2).toNat
def encS (v : Int) : List UInt8 := encN (zig v)
theorem zig_lt {v : Int} (h1 : -9223372036854775808 ≤ v) (h2 : v ≤ 9223372036854775807) : zig v < 18446744073709551616 := by
  unfold zig
  split <;> omega
def encB (s : ByteArray) : List UInt8 := encN s.size ++ s.data.toList
/-- bytes as cells -/
def byteV (l : List UInt8) : List Value := l.map fun c => Value.int .u8 c.toNat
theorem byteV_length (l : List UInt8) : (byteV l).length = l.length := by simp [byteV]
theorem byteV_append (l r : List UInt8) : byteV (l ++ r) = byteV l ++ byteV r := by simp [byteV]
theorem byteV_cells (s : ByteArray) : byteV s.data.toList = byteCells s := rfl
theorem byteV_one (l : List UInt8) : ∀ u ∈ byteV l, u.oneCell' = true := by
  intro u hu
  simp only [byteV, List.mem_map] at hu
  obtain ⟨c, _, rfl⟩ := hu
  rfl
/-- v' is v with something behind it -/
structure Grown (w w' : World) (v v' : Value) : Prop where
  keeps : Keeps (Own v) w w'
  own : v'.ownBlock = v.ownBlock ∨ ∀ g, v'.ownBlock = some g → w.heap.size ≤ g
theorem Grown.refl (w : World) (v : Value) : Grown w w v v := ⟨Keeps.refl _ _, .inl rfl⟩
theorem Grown.still {w w1 w2 : World} {v v1 : Value} (h : Grown w w1 v v1) (k : Keeps (fun _ => False) w1 w2) : Grown w w2 v v1 := ⟨h.keeps.trans k fun _ _ h => h.elim, h.own⟩
theorem Grown.ahead {w w1 w2 : World} {v v1 : Value} (k : Keeps (fun _ => False) w w1) (h : Grown w1 w2 v v1) : Grown w w2 v v1 :=
  ⟨(k.mono fun _ _ h => h.elim).trans h.keeps fun _ _ h => h, h.own.imp id fun h g hg => Nat.le_trans k.size (h g hg)⟩
theorem Grown.trans {w w1 w2 : World} {v v1 v2 : Value} (h : Grown w w1 v v1) (k : Grown w1 w2 v1 v2) : Grown w w2 v v2 := by
  have hs := h.keeps.size
  refine ⟨h.keeps.trans k.keeps fun b hb ho => ?_, ?_⟩
  · rcases h.own with e | e
    · unfold Own at *; rw [← e]; exact ho
    · have := e b ho; omega
  · rcases k.own with e | e
    · rcases h.own with e2 | e2
      · exact .inl (e.trans e2)
      · exact .inr fun g hg => e2 g (e ▸ hg)
    · exact .inr fun g hg => Nat.le_trans hs (e g hg)
theorem Grown.of {w w' : World} {e : TypeId} {n : Nat} {v v' : Value} {xs : List Value} (h : Appended w w' e 1 v v' n xs) : Grown w w' v v' :=
  ⟨h.keeps, h.own.imp id fun h g hg => by rw [h.1] at hg; have := Option.some.inj hg; omega⟩
/-- a slice of bytes at the head of its own block -/
def Bytes (w : World) (v : Value) (q : List UInt8) : Prop := Row w 5 1 v q.length (byteV q)
theorem Bytes.form {w : World} {v : Value} {q : List UInt8} (h : Bytes w v q) : ∃ a c, v = .slice a q.length c := by
  obtain ⟨a, c, e, _⟩ := Row.len h
  exact ⟨a, c, e⟩
theorem Bytes.still {w w' : World} {v : Value} {q : List UInt8} (h : Bytes w v q) (k : Keeps (fun _ => False) w w') : Bytes w' v q := Row.keeps h k fun _ _ h => h
/-- behind a call that appends -/
def AppPost (l ext : List UInt8) (v : Value) (w : World) (e : Ending) (w' : World) : Prop :=
  ∃ v' q, e = .returned v' ∧ q = l ++ ext ∧ Bytes w' v' q ∧ Grown w w' v v'
theorem Bytes.push {W w4 : World} {v v' : Value} {q ext : List UInt8} {n : Nat} {news : List Value} (ha : Appended W w4 5 1 v v' n (byteV q ++ news)) (hn : n = q.length + ext.length) (he : news = byteV ext) : Bytes w4 v' (q ++ ext) := by
  subst hn he
  have h := ha.row
  rw [← byteV_append] at h
  unfold Bytes
  rw [List.length_append]
  exact h
theorem or_u8 (x : Int) (h0 : 0 ≤ x) (h1 : x < 256) : bits BinOp.or IntKind.u8 x 128 = x % 128 + 128 := by
  have h : ∀ k : Fin 256, bits BinOp.or IntKind.u8 ((k.val : Nat) : Int) 128 = ((k.val : Nat) : Int) % 128 + 128 := by decide +kernel
  have := h ⟨x.toNat, by omega⟩
  simpa [Int.toNat_of_nonneg h0] using this
theorem wrap_u8 (n : Int) : IntKind.u8.wrap n = n % 256 := by simp [IntKind.wrap, IntKind.signed, IntKind.bits]
/-- .. or one without room, whatever its block's marks are -/
def BytesF (w : World) (v : Value) (q : List UInt8) : Prop := Bytes w v q ∨ ∃ g, v = .slice (some ⟨g, 0, none⟩) q.length q.length ∧ ∀ j u, (byteV q)[j]? = some u → w.cell? ⟨g, j, none⟩ = some u
theorem BytesF.form {w : World} {v : Value} {q : List UInt8} (h : BytesF w v q) : ∃ a c, v = .slice a q.length c := by
  rcases h with h | ⟨g, e, _⟩
  · exact h.form
  · exact ⟨_, _, e⟩
theorem BytesF.still {w w' : World} {v : Value} {q : List UInt8} (h : BytesF w v q) (k : Keeps (fun _ => False) w w') : BytesF w' v q := by
  rcases h with h | ⟨g, e, h⟩
  · exact .inl (h.still k)
  · exact .inr ⟨g, e, fun j u hu => k.cell (h j u hu) fun h => h⟩
/-- THE WALK's LAW for 'append' of bytes. -/
theorem wpList_append_bytes {P : Program} {w : World} {ops : Array Oper} {rest : List Oper} {o : Oper} {a : Act} {Q : Exit → Act → World → Prop} (hgd : o.guard = none) (s x : Operand) (t t2 : TypeId)
    (ho : o.op = .call { callee := .builtin .append, args := #[s, x], argTypes := #[t, t2] })
    (d2 : TypeDesc) (hinfo : (P.info? 5).map (fun i => (i.zero, i.size, i.bytes)) = some (some (.int .u8 0), 1, 1))
    (ht : P.underlying t = some (.slice 5)) (ht2 : P.underlying t2 = some d2) (hd2 : ∀ k, d2 ≠ .int k)
    (v : Value) (q : List UInt8) (hs : a.eval s = v) (hrow : BytesF w v q)
    (xv : Value) (news : List Value) (ext : List UInt8) (he : news = byteV ext) (hext : 0 < ext.length) (hx : a.eval x = xv) (hlen : ∀ W, (Builtin.lenOf xv).run P W = .ok ext.length W)
    (hfc : ∀ W : World, W.heap = w.heap → (Builtin.firstCells 1 ext.length xv).run P W = .ok news.toArray W) (h63 : q.length + ext.length ≤ 140737488355328)
    (h : ∀ v' w' q2, q2 = q ++ ext → Bytes w' v' q2 → Grown w w' v v' → wpList P ops Q rest (a.put o.dst v') w') : wpList P ops Q (o :: rest) a w := by
  subst he
  rcases hrow with hrow | ⟨g, e, hc⟩
  · exact wpList_append_row w hgd s x t t2 ho 5 d2 1 1 (.int .u8 0) hinfo ht ht2 hd2 rfl v q.length (byteV q) hs hrow xv ext.length (byteV ext) hx (by rw [byteV_length, Nat.mul_one]) hlen hfc (byteV_one ext) (by unfold maxLen; omega) (by omega)
      fun v' w' ha => h v' w' _ rfl (Bytes.push ha rfl rfl) (Grown.of ha)
  · subst e
    exact wpList_append_full hgd s x t t2 ho 5 d2 1 1 (.int .u8 0) hinfo ht ht2 hd2 rfl g q.length (byteV q) hs (by rw [byteV_length, Nat.mul_one]) hc xv ext.length (byteV ext) hx (by rw [byteV_length, Nat.mul_one]) hlen hfc hext (by unfold maxLen; omega) (by omega)
      fun v' w' ha => h v' w' _ rfl (Bytes.push ha rfl rfl) ⟨ha.keeps.mono fun b _ hb => by simp [Own, Value.ownBlock] at hb, by
        rcases ha.own with hh | hh
        · exact .inr fun g hg => by rw [hh] at hg; simp [Value.ownBlock] at hg
        · exact .inr fun g hg => by rw [hh.1] at hg; have := Option.some.inj hg; omega⟩
/-- so much of a number is written -/
def NumAt (l : List UInt8) (x : Nat) (v : Value) (w : World) (b n : Value) (wr : World) : Prop :=
  ∃ (m : Nat) (pre q : List UInt8), n = .int .u64 m ∧ m ≤ x ∧ encN x = pre ++ encN m ∧ q = l ++ pre ∧ BytesF wr b q ∧ Grown w wr v b
theorem byte_small {m : Nat} (h : m < 128) : [Value.int .u8 m] = byteV (encN m) := by
  rw [encN_small h]
  simp only [byteV, List.map_cons, List.map_nil, UInt8.toNat_ofNat']
  congr 2
  omega
theorem byte_great (m : Nat) : [Value.int .u8 (bits BinOp.or IntKind.u8 ((m : Int) % 256) 128)] = byteV [UInt8.ofNat (m % 128 + 128)] := by
  rw [or_u8 _ (by omega) (by omega)]
  simp only [byteV, List.map_cons, List.map_nil, UInt8.toNat_ofNat']
  congr 2
  omega
end Go.Tx
namespace Go.Proofs.Ytgmieehheoknbaa
open Go.RowKit Go.Tx
set_option maxRecDepth 100000 in
set_option maxHeartbeats 800000 in
theorem number_full {w : World} {v : Value} {l : List UInt8} (x : Nat) (hx : x < 18446744073709551616) (h : BytesF w v l) (hl : l.length ≤ 70368744177664) :
    Calls Try.prog 9 #[v, .int .u64 x] w (AppPost l (encN x) v w) := by
  have HX := Lib.hid hx
  have H := Lib.hid h
  clear h hx
  go_enter Try.func9, Try.ntmps9
  go_wp2
  go_loopw [0, 1] (fun b n wr => NumAt l x v w b n wr) (fun _ n _ => (intOf n).toNat)
  case atStart => exact ⟨x, [], l, rfl, Nat.le_refl _, rfl, by simp, H.out, Grown.refl _ _⟩
  case round =>
    obtain ⟨m, pre, q, rfl, hm, he, hq, hrow, hg⟩ := hrel
    have HE := Lib.hid he
    have HQ := Lib.hid hq
    have HR := Lib.hid hrow
    have HG := Lib.hid hg
    obtain ⟨a, c, rfl⟩ := hrow.form
    clear he hrow hg hq
    have hpl : q.length ≤ 70368744177680 := by
      have h1 := encN_ten HX.out
      rw [HE.out, List.length_append] at h1
      rw [HQ.out, List.length_append]
      omega
    by_cases h128 : m < 128
    · have g1 : decide (128 ≤ m) = false := decide_eq_false (by omega)
      go_wp2_with (first | (at_builtin; go_must (refine wpList_append_bytes rfl _ _ 26 26 rfl (.slice 5) info_u8 Try.underlying26 Try.underlying26 (by intro k h; cases h) (.slice a q.length c) q rfl (HR.out.still ((Keeps.refl _ wr).alloc _)) _ [.int .u8 m] (encN m) (byte_small h128) (by rw [encN_small h128]; exact Nat.succ_pos _) rfl (by rw [encN_small h128]; exact lenOf_slice _ _ _) (by rw [encN_small h128]; exact firstCells_at _ rfl (cells_newAt rfl)) (by rw [encN_small h128]; simp only [List.length_cons, List.length_nil]; omega) ?_); intro v' w4 q4 hq4 hb4 hg4; obtain ⟨va, vc, rfl⟩ := hb4.form; have HB4 := Lib.hid hb4; have HG4 := Lib.hid (hg4.ahead ((Keeps.refl _ wr).alloc _)); have HQ4 := Lib.hid hq4; clear hb4 hg4 hq4))
      go_ret
      refine ⟨_, q4, rfl, ?_, HB4.out, HG.out.trans HG4.out⟩
      rw [HQ4.out, HE.out, HQ.out, List.append_assoc]
    · have g1 : decide (128 ≤ m) = true := decide_eq_true (by omega)
      go_wp2_with (first | (at_builtin; go_must (refine wpList_append_bytes rfl _ _ 26 26 rfl (.slice 5) info_u8 Try.underlying26 Try.underlying26 (by intro k h; cases h) (.slice a q.length c) q rfl (HR.out.still ((Keeps.refl _ wr).alloc _)) _ [.int .u8 (bits BinOp.or IntKind.u8 ((m : Int) % 256) 128)] [UInt8.ofNat (m % 128 + 128)] (byte_great m) (Nat.succ_pos _) rfl (lenOf_slice _ _ _) (firstCells_at _ rfl (cells_newAt rfl)) (by simp only [List.length_cons, List.length_nil]; omega) ?_); intro v' w4 q4 hq4 hb4 hg4; obtain ⟨va, vc, rfl⟩ := hb4.form; have HB4 := Lib.hid hb4; have HG4 := Lib.hid (hg4.ahead ((Keeps.refl _ wr).alloc _)); have HQ4 := Lib.hid hq4; clear hb4 hg4 hq4))
      refine ⟨⟨m / 128, pre ++ [UInt8.ofNat (m % 128 + 128)], q4, by go_num, by omega, ?_, ?_, .inl HB4.out, HG.out.trans HG4.out⟩, ?_⟩
      · rw [HE.out, encN_great h128]; simp
      · rw [HQ4.out, HQ.out]; simp
      · simp [intOf]; omega
theorem number_any {w : World} {v : Value} {l : List UInt8} (x : Nat) (hx : x < 18446744073709551616) (h : Bytes w v l) (hl : l.length ≤ 70368744177664) :
    Calls Try.prog 9 #[v, .int .u64 x] w (AppPost l (encN x) v w) := number_full x hx (.inl h) hl
end Go.Proofs.Ytgmieehheoknbaa

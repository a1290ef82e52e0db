/-
  No cell of these rows narrows 'for every input' (looked for: loops, veiled, ifaces, maps, wideKeys, modest, calm, conditions, laid).
  DERIVED. THE GIVEN ROWS OF THIS SEAT. 6 by the template 'for every input the law returns true; each argument reads behind the call as it read before'; 0 by the template 'total and deterministic' (their statements: YtacedeaopgbdhaaTotals.lean).
  GIVEN WITH THE SEED: the statements are not yours to turn. If you find one false, say at which input.
  Laid BY PROGRAM, IN A SANDBOX (cutbox-rows.mjs): the forced cells as the released guide's own fill.sh prints them over the translation 51708176e9f47d40… (all of the seat's roots in one cut). By AI agents, Wed Nov 11 2026. No macro, syntax, notation, axiom, sorry.
-/
import Derived.Test.YtacedeaopgbdhaaChecked
import GoSem.Claim
import GoSem.ClaimJoined
import GoSem.ClaimMapViews
import Derived.JoinedTies
import Derived.KernelRfl
namespace Go.Proofs.Ytacedeaopgbdhaa
/- THE CELL 'sum', in the pinned program and in every row, IS THE sha256 OF THE DUMP (.gsa) THAT YtacedeaopgbdhaaProg.lean LOADS. Nothing in Lean hashes anything: it is a label: what it is worth is what the hold of that sum in a sandbox is worth. -/
noncomputable def Try.pinned : Pinned := { name := "ytacedeaopgbdhaa", sum := "51708176e9f47d4016d5b3980946ff76979731a153bb720d1b73d3c08e478099", checked := Try.checked }
namespace Rows
def none {H : Type} : Left H := { results := [], args := [] }

/-- 'troupelaw03.ArenaHalves': WHATEVER THE INPUT: true; the input reads as it did. -/
def arenaHalvesSpec : ChangeSpec := { name := "arenaHalves", fn := fun _ => fun
  | [d1, d2] => { results := [.lit (.bool true)], args := [d1, d2] }
  | _ => none }
def arenaHalvesRow : OpenClaim := { program := "ytacedeaopgbdhaa", sum := "51708176e9f47d4016d5b3980946ff76979731a153bb720d1b73d3c08e478099", func := "troupe/troupelaw03.ArenaHalves", spec := "arenaHalves", apart := false }
def ArenaHalvesSaid : Prop := arenaHalvesRow.holds Try.pinned (OpenSpec.ofChange arenaHalvesSpec)

/-- ITS FALSE NEIGHBOUR: 'it returns false'. Refute it at one input. -/
def arenaHalvesWrong : ChangeSpec := { name := "arenaHalves", fn := fun _ => fun
  | [d1, d2] => { results := [.lit (.bool false)], args := [d1, d2] }
  | _ => none }
def ArenaHalvesWrongFalsely : Prop := arenaHalvesRow.holds Try.pinned (OpenSpec.ofChange arenaHalvesWrong)

/-- 'troupelaw03.ArenaClean': WHATEVER THE INPUT: true; the input reads as it did. -/
def arenaCleanSpec : ChangeSpec := { name := "arenaClean", fn := fun _ => fun
  | [d] => { results := [.lit (.bool true)], args := [d] }
  | _ => none }
def arenaCleanRow : OpenClaim := { program := "ytacedeaopgbdhaa", sum := "51708176e9f47d4016d5b3980946ff76979731a153bb720d1b73d3c08e478099", func := "troupe/troupelaw03.ArenaClean", spec := "arenaClean", apart := false }
def ArenaCleanSaid : Prop := arenaCleanRow.holds Try.pinned (OpenSpec.ofChange arenaCleanSpec)

/-- ITS FALSE NEIGHBOUR: 'it returns false'. Refute it at one input. -/
def arenaCleanWrong : ChangeSpec := { name := "arenaClean", fn := fun _ => fun
  | [d] => { results := [.lit (.bool false)], args := [d] }
  | _ => none }
def ArenaCleanWrongFalsely : Prop := arenaCleanRow.holds Try.pinned (OpenSpec.ofChange arenaCleanWrong)

/-- 'troupelaw03.ArenaAgain': WHATEVER THE INPUT: true; the input reads as it did. -/
def arenaAgainSpec : ChangeSpec := { name := "arenaAgain", fn := fun _ => fun
  | [d1, d2, d3] => { results := [.lit (.bool true)], args := [d1, d2, d3] }
  | _ => none }
def arenaAgainRow : OpenClaim := { program := "ytacedeaopgbdhaa", sum := "51708176e9f47d4016d5b3980946ff76979731a153bb720d1b73d3c08e478099", func := "troupe/troupelaw03.ArenaAgain", spec := "arenaAgain", recurses := true, apart := false }
def ArenaAgainSaid : Prop := arenaAgainRow.holds Try.pinned (OpenSpec.ofChange arenaAgainSpec)

/-- ITS FALSE NEIGHBOUR: 'it returns false'. Refute it at one input. -/
def arenaAgainWrong : ChangeSpec := { name := "arenaAgain", fn := fun _ => fun
  | [d1, d2, d3] => { results := [.lit (.bool false)], args := [d1, d2, d3] }
  | _ => none }
def ArenaAgainWrongFalsely : Prop := arenaAgainRow.holds Try.pinned (OpenSpec.ofChange arenaAgainWrong)

/-- 'troupelaw03.ArenaQuota': WHATEVER THE INPUT: true; the input reads as it did. -/
def arenaQuotaSpec : ChangeSpec := { name := "arenaQuota", fn := fun _ => fun
  | [d1, d2] => { results := [.lit (.bool true)], args := [d1, d2] }
  | _ => none }
def arenaQuotaRow : OpenClaim := { program := "ytacedeaopgbdhaa", sum := "51708176e9f47d4016d5b3980946ff76979731a153bb720d1b73d3c08e478099", func := "troupe/troupelaw03.ArenaQuota", spec := "arenaQuota", recurses := true, apart := false }
def ArenaQuotaSaid : Prop := arenaQuotaRow.holds Try.pinned (OpenSpec.ofChange arenaQuotaSpec)

/-- ITS FALSE NEIGHBOUR: 'it returns false'. Refute it at one input. -/
def arenaQuotaWrong : ChangeSpec := { name := "arenaQuota", fn := fun _ => fun
  | [d1, d2] => { results := [.lit (.bool false)], args := [d1, d2] }
  | _ => none }
def ArenaQuotaWrongFalsely : Prop := arenaQuotaRow.holds Try.pinned (OpenSpec.ofChange arenaQuotaWrong)

/-- 'troupelaw03.ArenaApart': WHATEVER THE INPUT: true; the input reads as it did. -/
def arenaApartSpec : ChangeSpec := { name := "arenaApart", fn := fun _ => fun
  | [d1, d2] => { results := [.lit (.bool true)], args := [d1, d2] }
  | _ => none }
def arenaApartRow : OpenClaim := { program := "ytacedeaopgbdhaa", sum := "51708176e9f47d4016d5b3980946ff76979731a153bb720d1b73d3c08e478099", func := "troupe/troupelaw03.ArenaApart", spec := "arenaApart", recurses := true, apart := false }
def ArenaApartSaid : Prop := arenaApartRow.holds Try.pinned (OpenSpec.ofChange arenaApartSpec)

/-- ITS FALSE NEIGHBOUR: 'it returns false'. Refute it at one input. -/
def arenaApartWrong : ChangeSpec := { name := "arenaApart", fn := fun _ => fun
  | [d1, d2] => { results := [.lit (.bool false)], args := [d1, d2] }
  | _ => none }
def ArenaApartWrongFalsely : Prop := arenaApartRow.holds Try.pinned (OpenSpec.ofChange arenaApartWrong)

/-- 'troupelaw03.ArenaPlays': WHATEVER THE INPUT: true; the input reads as it did. -/
def arenaPlaysSpec : ChangeSpec := { name := "arenaPlays", fn := fun _ => fun
  | [d1, d2, d3] => { results := [.lit (.bool true)], args := [d1, d2, d3] }
  | _ => none }
def arenaPlaysRow : OpenClaim := { program := "ytacedeaopgbdhaa", sum := "51708176e9f47d4016d5b3980946ff76979731a153bb720d1b73d3c08e478099", func := "troupe/troupelaw03.ArenaPlays", spec := "arenaPlays", recurses := true, apart := false }
def ArenaPlaysSaid : Prop := arenaPlaysRow.holds Try.pinned (OpenSpec.ofChange arenaPlaysSpec)

/-- ITS FALSE NEIGHBOUR: 'it returns false'. Refute it at one input. -/
def arenaPlaysWrong : ChangeSpec := { name := "arenaPlays", fn := fun _ => fun
  | [d1, d2, d3] => { results := [.lit (.bool false)], args := [d1, d2, d3] }
  | _ => none }
def ArenaPlaysWrongFalsely : Prop := arenaPlaysRow.holds Try.pinned (OpenSpec.ofChange arenaPlaysWrong)

/- THE SECOND FORM. 'bulk': how many values and letters a reading holds, each counted each time it is reached (what is shared counts as often as it is met; a slice's spare places count too). A statement '..UptoSaid' is the law's where the arguments, and the package variables that the reading takes, are together of bulk at most 1048576: NARROWER than '..Said'. Prove '..Said' where nothing that the law and all that it calls make is longer than what came in: it says more and counts as full. Else prove '..UptoSaid'. A law counts once. -/
mutual
def uptoBulk {H : Type} : DataW H → Nat
  | .lit (.string bytes) => bytes.length + 1
  | .lit _ => 1
  | .nil => 1
  | .ptr d => uptoBulk d + 1
  | .slice elems spare => uptoBulkAll elems + uptoBulkAll spare + 1
  | .agg parts => uptoBulkAll parts + 1
  | .iface _ d => uptoBulk d + 1
  | .map entries => uptoBulkEntries entries + 1
  | .held _ => 1
def uptoBulkAll {H : Type} : List (DataW H) → Nat
  | [] => 0
  | d :: r => uptoBulk d + uptoBulkAll r
def uptoBulkEntries {H : Type} : List (Lit × DataW H) → Nat
  | [] => 0
  | x :: r => uptoBulkEntry x + uptoBulkEntries r
def uptoBulkEntry {H : Type} : Lit × DataW H → Nat
  | (.string bytes, d) => bytes.length + uptoBulk d + 1
  | (_, d) => uptoBulk d + 1
 end
def uptoSmall : (H : Type) → List (DataW H) → Bool := fun _ ds => decide (uptoBulkAll ds ≤ 1048576)
def OpenSpec.upto (s : _root_.Go.ChangeSpec) : _root_.Go.OpenSpec := { _root_.Go.OpenSpec.ofChange s with cond := some uptoSmall }

/-- 'troupelaw03.ArenaHalves', WHERE WHAT IT READS IS OF BULK AT MOST 1048576: true; the input reads as it did. -/
def arenaHalvesUptoRow : OpenClaim := { program := "ytacedeaopgbdhaa", sum := "51708176e9f47d4016d5b3980946ff76979731a153bb720d1b73d3c08e478099", func := "troupe/troupelaw03.ArenaHalves", spec := "arenaHalves", apart := false, narrowed := true }
def ArenaHalvesUptoSaid : Prop := arenaHalvesUptoRow.holds Try.pinned (OpenSpec.upto arenaHalvesSpec)

/-- 'troupelaw03.ArenaClean', WHERE WHAT IT READS IS OF BULK AT MOST 1048576: true; the input reads as it did. -/
def arenaCleanUptoRow : OpenClaim := { program := "ytacedeaopgbdhaa", sum := "51708176e9f47d4016d5b3980946ff76979731a153bb720d1b73d3c08e478099", func := "troupe/troupelaw03.ArenaClean", spec := "arenaClean", apart := false, narrowed := true }
def ArenaCleanUptoSaid : Prop := arenaCleanUptoRow.holds Try.pinned (OpenSpec.upto arenaCleanSpec)

/-- 'troupelaw03.ArenaAgain', WHERE WHAT IT READS IS OF BULK AT MOST 1048576: true; the input reads as it did. -/
def arenaAgainUptoRow : OpenClaim := { program := "ytacedeaopgbdhaa", sum := "51708176e9f47d4016d5b3980946ff76979731a153bb720d1b73d3c08e478099", func := "troupe/troupelaw03.ArenaAgain", spec := "arenaAgain", recurses := true, apart := false, narrowed := true }
def ArenaAgainUptoSaid : Prop := arenaAgainUptoRow.holds Try.pinned (OpenSpec.upto arenaAgainSpec)

/-- 'troupelaw03.ArenaQuota', WHERE WHAT IT READS IS OF BULK AT MOST 1048576: true; the input reads as it did. -/
def arenaQuotaUptoRow : OpenClaim := { program := "ytacedeaopgbdhaa", sum := "51708176e9f47d4016d5b3980946ff76979731a153bb720d1b73d3c08e478099", func := "troupe/troupelaw03.ArenaQuota", spec := "arenaQuota", recurses := true, apart := false, narrowed := true }
def ArenaQuotaUptoSaid : Prop := arenaQuotaUptoRow.holds Try.pinned (OpenSpec.upto arenaQuotaSpec)

/-- 'troupelaw03.ArenaApart', WHERE WHAT IT READS IS OF BULK AT MOST 1048576: true; the input reads as it did. -/
def arenaApartUptoRow : OpenClaim := { program := "ytacedeaopgbdhaa", sum := "51708176e9f47d4016d5b3980946ff76979731a153bb720d1b73d3c08e478099", func := "troupe/troupelaw03.ArenaApart", spec := "arenaApart", recurses := true, apart := false, narrowed := true }
def ArenaApartUptoSaid : Prop := arenaApartUptoRow.holds Try.pinned (OpenSpec.upto arenaApartSpec)

/-- 'troupelaw03.ArenaPlays', WHERE WHAT IT READS IS OF BULK AT MOST 1048576: true; the input reads as it did. -/
def arenaPlaysUptoRow : OpenClaim := { program := "ytacedeaopgbdhaa", sum := "51708176e9f47d4016d5b3980946ff76979731a153bb720d1b73d3c08e478099", func := "troupe/troupelaw03.ArenaPlays", spec := "arenaPlays", recurses := true, apart := false, narrowed := true }
def ArenaPlaysUptoSaid : Prop := arenaPlaysUptoRow.holds Try.pinned (OpenSpec.upto arenaPlaysSpec)

end Rows
end Go.Proofs.Ytacedeaopgbdhaa

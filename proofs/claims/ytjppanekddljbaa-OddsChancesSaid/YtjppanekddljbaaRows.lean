/-
  No cell of these rows narrows 'for every input' (looked for: loops, veiled, ifaces, maps, wideKeys, modest, calm, conditions, laid).
  DERIVED. THE GIVEN ROWS OF THIS SEAT. 4 by the template 'for every input the law returns true; each argument reads behind the call as it read before'; 0 by the template 'total and deterministic' (their statements: YtjppanekddljbaaTotals.lean).
  GIVEN WITH THE SEED: the statements are not yours to turn. If you find one false, say at which input.
  Laid BY PROGRAM, IN A SANDBOX (cutbox-rows.mjs): the forced cells as the released guide's own fill.sh prints them over the translation 4b27dc56ef32df53… (all of the seat's roots in one cut). By AI agents, Wed Nov 11 2026. No macro, syntax, notation, axiom, sorry.
-/
import Derived.Test.YtjppanekddljbaaChecked
import GoSem.Claim
import GoSem.ClaimJoined
import GoSem.ClaimMapViews
import Derived.JoinedTies
import Derived.KernelRfl
namespace Go.Proofs.Ytjppanekddljbaa
/- THE CELL 'sum', in the pinned program and in every row, IS THE sha256 OF THE DUMP (.gsa) THAT YtjppanekddljbaaProg.lean LOADS. Nothing in Lean hashes anything: it is a label: what it is worth is what the hold of that sum in a sandbox is worth. -/
noncomputable def Try.pinned : Pinned := { name := "ytjppanekddljbaa", sum := "4b27dc56ef32df533d1da43ab5e0a338cf1414434f8fc2bf5327eead7e60ce3b", checked := Try.checked }
namespace Rows
def none {H : Type} : Left H := { results := [], args := [] }

/-- 'sibyllaw21.OddsChances': WHATEVER THE INPUT: true; the input reads as it did. -/
def oddsChancesSpec : ChangeSpec := { name := "oddsChances", fn := fun _ => fun
  | [d1, d2] => { results := [.lit (.bool true)], args := [d1, d2] }
  | _ => none }
def oddsChancesRow : OpenClaim := { program := "ytjppanekddljbaa", sum := "4b27dc56ef32df533d1da43ab5e0a338cf1414434f8fc2bf5327eead7e60ce3b", func := "sibyl/sibyllaw21.OddsChances", spec := "oddsChances", inPlace := ["math.Float64frombits", "math.Float64bits"], unfollowed := true, recurses := true, apart := false }
def OddsChancesSaid : Prop := oddsChancesRow.holds Try.pinned (OpenSpec.ofChange oddsChancesSpec)

/-- ITS FALSE NEIGHBOUR: 'it returns false'. Refute it at one input. -/
def oddsChancesWrong : ChangeSpec := { name := "oddsChances", fn := fun _ => fun
  | [d1, d2] => { results := [.lit (.bool false)], args := [d1, d2] }
  | _ => none }
def OddsChancesWrongFalsely : Prop := oddsChancesRow.holds Try.pinned (OpenSpec.ofChange oddsChancesWrong)

/-- 'sibyllaw21.OddsTotals': WHATEVER THE INPUT: true; the input reads as it did. -/
def oddsTotalsSpec : ChangeSpec := { name := "oddsTotals", fn := fun _ => fun
  | [d] => { results := [.lit (.bool true)], args := [d] }
  | _ => none }
def oddsTotalsRow : OpenClaim := { program := "ytjppanekddljbaa", sum := "4b27dc56ef32df533d1da43ab5e0a338cf1414434f8fc2bf5327eead7e60ce3b", func := "sibyl/sibyllaw21.OddsTotals", spec := "oddsTotals", inPlace := ["math.Float64frombits", "math.Float64bits"], unfollowed := true, recurses := true, apart := false }
def OddsTotalsSaid : Prop := oddsTotalsRow.holds Try.pinned (OpenSpec.ofChange oddsTotalsSpec)

/-- ITS FALSE NEIGHBOUR: 'it returns false'. Refute it at one input. -/
def oddsTotalsWrong : ChangeSpec := { name := "oddsTotals", fn := fun _ => fun
  | [d] => { results := [.lit (.bool false)], args := [d] }
  | _ => none }
def OddsTotalsWrongFalsely : Prop := oddsTotalsRow.holds Try.pinned (OpenSpec.ofChange oddsTotalsWrong)

/-- 'sibyllaw21.OddsTables': WHATEVER THE INPUT: true; the input reads as it did. -/
def oddsTablesSpec : ChangeSpec := { name := "oddsTables", fn := fun _ => fun
  | [d1, d2] => { results := [.lit (.bool true)], args := [d1, d2] }
  | _ => none }
def oddsTablesRow : OpenClaim := { program := "ytjppanekddljbaa", sum := "4b27dc56ef32df533d1da43ab5e0a338cf1414434f8fc2bf5327eead7e60ce3b", func := "sibyl/sibyllaw21.OddsTables", spec := "oddsTables", inPlace := ["math.Float64frombits", "math.Float64bits"], unfollowed := true, recurses := true, apart := false }
def OddsTablesSaid : Prop := oddsTablesRow.holds Try.pinned (OpenSpec.ofChange oddsTablesSpec)

/-- ITS FALSE NEIGHBOUR: 'it returns false'. Refute it at one input. -/
def oddsTablesWrong : ChangeSpec := { name := "oddsTables", fn := fun _ => fun
  | [d1, d2] => { results := [.lit (.bool false)], args := [d1, d2] }
  | _ => none }
def OddsTablesWrongFalsely : Prop := oddsTablesRow.holds Try.pinned (OpenSpec.ofChange oddsTablesWrong)

/-- 'sibyllaw21.OddsOwn': WHATEVER THE INPUT: true; the input reads as it did. -/
def oddsOwnSpec : ChangeSpec := { name := "oddsOwn", fn := fun _ => fun
  | [d1, d2, d3] => { results := [.lit (.bool true)], args := [d1, d2, d3] }
  | _ => none }
def oddsOwnRow : OpenClaim := { program := "ytjppanekddljbaa", sum := "4b27dc56ef32df533d1da43ab5e0a338cf1414434f8fc2bf5327eead7e60ce3b", func := "sibyl/sibyllaw21.OddsOwn", spec := "oddsOwn", inPlace := ["math.Float64frombits", "math.Float64bits"], unfollowed := true, recurses := true, apart := false }
def OddsOwnSaid : Prop := oddsOwnRow.holds Try.pinned (OpenSpec.ofChange oddsOwnSpec)

/-- ITS FALSE NEIGHBOUR: 'it returns false'. Refute it at one input. -/
def oddsOwnWrong : ChangeSpec := { name := "oddsOwn", fn := fun _ => fun
  | [d1, d2, d3] => { results := [.lit (.bool false)], args := [d1, d2, d3] }
  | _ => none }
def OddsOwnWrongFalsely : Prop := oddsOwnRow.holds Try.pinned (OpenSpec.ofChange oddsOwnWrong)

/- THE SECOND FORM. 'bulk': how many values and letters a reading holds, each counted each time it is reached (what is shared counts as often as it is met; a slice's spare places count too). A statement '..UptoSaid' is the law's where the arguments, and the package variables that the reading takes, are together of bulk at most 1048576: NARROWER than '..Said'. Prove '..Said' where nothing that the law and all that it calls make is longer than what came in: it says more and counts as full. Else prove '..UptoSaid'. A law counts once. -/
mutual
def uptoBulk {H : Type} : DataW H → Nat
  | .lit (.string bytes) => bytes.length + 1
  | .lit _ => 1
  | .nil => 1
  | .ptr d => uptoBulk d + 1
  | .slice elems spare => uptoBulkAll elems + uptoBulkAll spare + 1
  | .agg parts => uptoBulkAll parts + 1
  | .iface _ d => uptoBulk d + 1
  | .map entries => uptoBulkEntries entries + 1
  | .held _ => 1
def uptoBulkAll {H : Type} : List (DataW H) → Nat
  | [] => 0
  | d :: r => uptoBulk d + uptoBulkAll r
def uptoBulkEntries {H : Type} : List (Lit × DataW H) → Nat
  | [] => 0
  | x :: r => uptoBulkEntry x + uptoBulkEntries r
def uptoBulkEntry {H : Type} : Lit × DataW H → Nat
  | (.string bytes, d) => bytes.length + uptoBulk d + 1
  | (_, d) => uptoBulk d + 1
 end
def uptoSmall : (H : Type) → List (DataW H) → Bool := fun _ ds => decide (uptoBulkAll ds ≤ 1048576)
def OpenSpec.upto (s : _root_.Go.ChangeSpec) : _root_.Go.OpenSpec := { _root_.Go.OpenSpec.ofChange s with cond := some uptoSmall }

/-- 'sibyllaw21.OddsChances', WHERE WHAT IT READS IS OF BULK AT MOST 1048576: true; the input reads as it did. -/
def oddsChancesUptoRow : OpenClaim := { program := "ytjppanekddljbaa", sum := "4b27dc56ef32df533d1da43ab5e0a338cf1414434f8fc2bf5327eead7e60ce3b", func := "sibyl/sibyllaw21.OddsChances", spec := "oddsChances", inPlace := ["math.Float64frombits", "math.Float64bits"], unfollowed := true, recurses := true, apart := false, narrowed := true }
def OddsChancesUptoSaid : Prop := oddsChancesUptoRow.holds Try.pinned (OpenSpec.upto oddsChancesSpec)

/-- 'sibyllaw21.OddsTotals', WHERE WHAT IT READS IS OF BULK AT MOST 1048576: true; the input reads as it did. -/
def oddsTotalsUptoRow : OpenClaim := { program := "ytjppanekddljbaa", sum := "4b27dc56ef32df533d1da43ab5e0a338cf1414434f8fc2bf5327eead7e60ce3b", func := "sibyl/sibyllaw21.OddsTotals", spec := "oddsTotals", inPlace := ["math.Float64frombits", "math.Float64bits"], unfollowed := true, recurses := true, apart := false, narrowed := true }
def OddsTotalsUptoSaid : Prop := oddsTotalsUptoRow.holds Try.pinned (OpenSpec.upto oddsTotalsSpec)

/-- 'sibyllaw21.OddsTables', WHERE WHAT IT READS IS OF BULK AT MOST 1048576: true; the input reads as it did. -/
def oddsTablesUptoRow : OpenClaim := { program := "ytjppanekddljbaa", sum := "4b27dc56ef32df533d1da43ab5e0a338cf1414434f8fc2bf5327eead7e60ce3b", func := "sibyl/sibyllaw21.OddsTables", spec := "oddsTables", inPlace := ["math.Float64frombits", "math.Float64bits"], unfollowed := true, recurses := true, apart := false, narrowed := true }
def OddsTablesUptoSaid : Prop := oddsTablesUptoRow.holds Try.pinned (OpenSpec.upto oddsTablesSpec)

/-- 'sibyllaw21.OddsOwn', WHERE WHAT IT READS IS OF BULK AT MOST 1048576: true; the input reads as it did. -/
def oddsOwnUptoRow : OpenClaim := { program := "ytjppanekddljbaa", sum := "4b27dc56ef32df533d1da43ab5e0a338cf1414434f8fc2bf5327eead7e60ce3b", func := "sibyl/sibyllaw21.OddsOwn", spec := "oddsOwn", inPlace := ["math.Float64frombits", "math.Float64bits"], unfollowed := true, recurses := true, apart := false, narrowed := true }
def OddsOwnUptoSaid : Prop := oddsOwnUptoRow.holds Try.pinned (OpenSpec.upto oddsOwnSpec)

end Rows
end Go.Proofs.Ytjppanekddljbaa

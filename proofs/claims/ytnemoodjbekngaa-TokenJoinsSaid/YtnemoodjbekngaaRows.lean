/-
  No cell of these rows narrows 'for every input' (looked for: loops, veiled, ifaces, maps, wideKeys, modest, calm, conditions, laid).
  DERIVED. THE GIVEN ROWS OF THIS SEAT. 8 by the template 'for every input the law returns true; each argument reads behind the call as it read before'; 0 by the template 'total and deterministic' (their statements: YtnemoodjbekngaaTotals.lean).
  GIVEN WITH THE SEED: the statements are not yours to turn. If you find one false, say at which input.
  Laid BY PROGRAM, IN A SANDBOX (cutbox-rows.mjs): the forced cells as the released guide's own fill.sh prints them over the translation bc705ae4c310261d… (all of the seat's roots in one cut). By AI agents, Wed Nov 11 2026. No macro, syntax, notation, axiom, sorry.
-/
import Derived.Test.YtnemoodjbekngaaChecked
import GoSem.Claim
import GoSem.ClaimJoined
import GoSem.ClaimMapViews
import Derived.JoinedTies
import Derived.KernelRfl
namespace Go.Proofs.Ytnemoodjbekngaa
/- THE CELL 'sum', in the pinned program and in every row, IS THE sha256 OF THE DUMP (.gsa) THAT YtnemoodjbekngaaProg.lean LOADS. Nothing in Lean hashes anything: it is a label: what it is worth is what the hold of that sum in a sandbox is worth. -/
noncomputable def Try.pinned : Pinned := { name := "ytnemoodjbekngaa", sum := "bc705ae4c310261d3c16c1e0a0ac2a0a848f368c4920c24206c733766302817c", checked := Try.checked }
namespace Rows
def none {H : Type} : Left H := { results := [], args := [] }

/-- 'catchwordlaw03.StemShorter': WHATEVER THE INPUT: true; the input reads as it did. -/
def stemShorterSpec : ChangeSpec := { name := "stemShorter", fn := fun _ => fun
  | [d] => { results := [.lit (.bool true)], args := [d] }
  | _ => none }
def stemShorterRow : OpenClaim := { program := "ytnemoodjbekngaa", sum := "bc705ae4c310261d3c16c1e0a0ac2a0a848f368c4920c24206c733766302817c", func := "catchword/catchwordlaw03.StemShorter", spec := "stemShorter", recurses := true, apart := false }
def StemShorterSaid : Prop := stemShorterRow.holds Try.pinned (OpenSpec.ofChange stemShorterSpec)

/-- ITS FALSE NEIGHBOUR: 'it returns false'. Refute it at one input. -/
def stemShorterWrong : ChangeSpec := { name := "stemShorter", fn := fun _ => fun
  | [d] => { results := [.lit (.bool false)], args := [d] }
  | _ => none }
def StemShorterWrongFalsely : Prop := stemShorterRow.holds Try.pinned (OpenSpec.ofChange stemShorterWrong)

/-- 'catchwordlaw03.StemMeasures': WHATEVER THE INPUT: true; the input reads as it did. -/
def stemMeasuresSpec : ChangeSpec := { name := "stemMeasures", fn := fun _ => fun
  | [d1, d2] => { results := [.lit (.bool true)], args := [d1, d2] }
  | _ => none }
def stemMeasuresRow : OpenClaim := { program := "ytnemoodjbekngaa", sum := "bc705ae4c310261d3c16c1e0a0ac2a0a848f368c4920c24206c733766302817c", func := "catchword/catchwordlaw03.StemMeasures", spec := "stemMeasures", recurses := true, apart := false }
def StemMeasuresSaid : Prop := stemMeasuresRow.holds Try.pinned (OpenSpec.ofChange stemMeasuresSpec)

/-- ITS FALSE NEIGHBOUR: 'it returns false'. Refute it at one input. -/
def stemMeasuresWrong : ChangeSpec := { name := "stemMeasures", fn := fun _ => fun
  | [d1, d2] => { results := [.lit (.bool false)], args := [d1, d2] }
  | _ => none }
def StemMeasuresWrongFalsely : Prop := stemMeasuresRow.holds Try.pinned (OpenSpec.ofChange stemMeasuresWrong)

/-- 'catchwordlaw03.StemPlurals': WHATEVER THE INPUT: true; the input reads as it did. -/
def stemPluralsSpec : ChangeSpec := { name := "stemPlurals", fn := fun _ => fun
  | [d] => { results := [.lit (.bool true)], args := [d] }
  | _ => none }
def stemPluralsRow : OpenClaim := { program := "ytnemoodjbekngaa", sum := "bc705ae4c310261d3c16c1e0a0ac2a0a848f368c4920c24206c733766302817c", func := "catchword/catchwordlaw03.StemPlurals", spec := "stemPlurals", recurses := true, apart := false }
def StemPluralsSaid : Prop := stemPluralsRow.holds Try.pinned (OpenSpec.ofChange stemPluralsSpec)

/-- ITS FALSE NEIGHBOUR: 'it returns false'. Refute it at one input. -/
def stemPluralsWrong : ChangeSpec := { name := "stemPlurals", fn := fun _ => fun
  | [d] => { results := [.lit (.bool false)], args := [d] }
  | _ => none }
def StemPluralsWrongFalsely : Prop := stemPluralsRow.holds Try.pinned (OpenSpec.ofChange stemPluralsWrong)

/-- 'catchwordlaw07.TokenSplits': WHATEVER THE INPUT: true; the input reads as it did. -/
def tokenSplitsSpec : ChangeSpec := { name := "tokenSplits", fn := fun _ => fun
  | [d] => { results := [.lit (.bool true)], args := [d] }
  | _ => none }
def tokenSplitsRow : OpenClaim := { program := "ytnemoodjbekngaa", sum := "bc705ae4c310261d3c16c1e0a0ac2a0a848f368c4920c24206c733766302817c", func := "catchword/catchwordlaw07.TokenSplits", spec := "tokenSplits", unfollowed := true, recurses := true, apart := false }
def TokenSplitsSaid : Prop := tokenSplitsRow.holds Try.pinned (OpenSpec.ofChange tokenSplitsSpec)

/-- ITS FALSE NEIGHBOUR: 'it returns false'. Refute it at one input. -/
def tokenSplitsWrong : ChangeSpec := { name := "tokenSplits", fn := fun _ => fun
  | [d] => { results := [.lit (.bool false)], args := [d] }
  | _ => none }
def TokenSplitsWrongFalsely : Prop := tokenSplitsRow.holds Try.pinned (OpenSpec.ofChange tokenSplitsWrong)

/-- 'catchwordlaw07.TokenWords': WHATEVER THE INPUT: true; the input reads as it did. -/
def tokenWordsSpec : ChangeSpec := { name := "tokenWords", fn := fun _ => fun
  | [d] => { results := [.lit (.bool true)], args := [d] }
  | _ => none }
def tokenWordsRow : OpenClaim := { program := "ytnemoodjbekngaa", sum := "bc705ae4c310261d3c16c1e0a0ac2a0a848f368c4920c24206c733766302817c", func := "catchword/catchwordlaw07.TokenWords", spec := "tokenWords", unfollowed := true, recurses := true, apart := false }
def TokenWordsSaid : Prop := tokenWordsRow.holds Try.pinned (OpenSpec.ofChange tokenWordsSpec)

/-- ITS FALSE NEIGHBOUR: 'it returns false'. Refute it at one input. -/
def tokenWordsWrong : ChangeSpec := { name := "tokenWords", fn := fun _ => fun
  | [d] => { results := [.lit (.bool false)], args := [d] }
  | _ => none }
def TokenWordsWrongFalsely : Prop := tokenWordsRow.holds Try.pinned (OpenSpec.ofChange tokenWordsWrong)

/-- 'catchwordlaw07.TokenJoins': WHATEVER THE INPUT: true; the input reads as it did. -/
def tokenJoinsSpec : ChangeSpec := { name := "tokenJoins", fn := fun _ => fun
  | [d1, d2, d3] => { results := [.lit (.bool true)], args := [d1, d2, d3] }
  | _ => none }
def tokenJoinsRow : OpenClaim := { program := "ytnemoodjbekngaa", sum := "bc705ae4c310261d3c16c1e0a0ac2a0a848f368c4920c24206c733766302817c", func := "catchword/catchwordlaw07.TokenJoins", spec := "tokenJoins", unfollowed := true, recurses := true, apart := false }
def TokenJoinsSaid : Prop := tokenJoinsRow.holds Try.pinned (OpenSpec.ofChange tokenJoinsSpec)

/-- ITS FALSE NEIGHBOUR: 'it returns false'. Refute it at one input. -/
def tokenJoinsWrong : ChangeSpec := { name := "tokenJoins", fn := fun _ => fun
  | [d1, d2, d3] => { results := [.lit (.bool false)], args := [d1, d2, d3] }
  | _ => none }
def TokenJoinsWrongFalsely : Prop := tokenJoinsRow.holds Try.pinned (OpenSpec.ofChange tokenJoinsWrong)

/-- 'catchwordlaw07.TokenLong': WHATEVER THE INPUT: true; the input reads as it did. -/
def tokenLongSpec : ChangeSpec := { name := "tokenLong", fn := fun _ => fun
  | [d1, d2, d3] => { results := [.lit (.bool true)], args := [d1, d2, d3] }
  | _ => none }
def tokenLongRow : OpenClaim := { program := "ytnemoodjbekngaa", sum := "bc705ae4c310261d3c16c1e0a0ac2a0a848f368c4920c24206c733766302817c", func := "catchword/catchwordlaw07.TokenLong", spec := "tokenLong", unfollowed := true, recurses := true, apart := false }
def TokenLongSaid : Prop := tokenLongRow.holds Try.pinned (OpenSpec.ofChange tokenLongSpec)

/-- ITS FALSE NEIGHBOUR: 'it returns false'. Refute it at one input. -/
def tokenLongWrong : ChangeSpec := { name := "tokenLong", fn := fun _ => fun
  | [d1, d2, d3] => { results := [.lit (.bool false)], args := [d1, d2, d3] }
  | _ => none }
def TokenLongWrongFalsely : Prop := tokenLongRow.holds Try.pinned (OpenSpec.ofChange tokenLongWrong)

/-- 'catchwordlaw07.TokenRanks': WHATEVER THE INPUT: true; the input reads as it did. -/
def tokenRanksSpec : ChangeSpec := { name := "tokenRanks", fn := fun _ => fun
  | [d1, d2] => { results := [.lit (.bool true)], args := [d1, d2] }
  | _ => none }
def tokenRanksRow : OpenClaim := { program := "ytnemoodjbekngaa", sum := "bc705ae4c310261d3c16c1e0a0ac2a0a848f368c4920c24206c733766302817c", func := "catchword/catchwordlaw07.TokenRanks", spec := "tokenRanks", unfollowed := true, recurses := true, apart := false }
def TokenRanksSaid : Prop := tokenRanksRow.holds Try.pinned (OpenSpec.ofChange tokenRanksSpec)

/-- ITS FALSE NEIGHBOUR: 'it returns false'. Refute it at one input. -/
def tokenRanksWrong : ChangeSpec := { name := "tokenRanks", fn := fun _ => fun
  | [d1, d2] => { results := [.lit (.bool false)], args := [d1, d2] }
  | _ => none }
def TokenRanksWrongFalsely : Prop := tokenRanksRow.holds Try.pinned (OpenSpec.ofChange tokenRanksWrong)

/- THE SECOND FORM. 'bulk': how many values and letters a reading holds, each counted each time it is reached (what is shared counts as often as it is met; a slice's spare places count too). A statement '..UptoSaid' is the law's where the arguments, and the package variables that the reading takes, are together of bulk at most 1048576: NARROWER than '..Said'. Prove '..Said' where nothing that the law and all that it calls make is longer than what came in: it says more and counts as full. Else prove '..UptoSaid'. A law counts once. -/
mutual
def uptoBulk {H : Type} : DataW H → Nat
  | .lit (.string bytes) => bytes.length + 1
  | .lit _ => 1
  | .nil => 1
  | .ptr d => uptoBulk d + 1
  | .slice elems spare => uptoBulkAll elems + uptoBulkAll spare + 1
  | .agg parts => uptoBulkAll parts + 1
  | .iface _ d => uptoBulk d + 1
  | .map entries => uptoBulkEntries entries + 1
  | .held _ => 1
def uptoBulkAll {H : Type} : List (DataW H) → Nat
  | [] => 0
  | d :: r => uptoBulk d + uptoBulkAll r
def uptoBulkEntries {H : Type} : List (Lit × DataW H) → Nat
  | [] => 0
  | x :: r => uptoBulkEntry x + uptoBulkEntries r
def uptoBulkEntry {H : Type} : Lit × DataW H → Nat
  | (.string bytes, d) => bytes.length + uptoBulk d + 1
  | (_, d) => uptoBulk d + 1
 end
def uptoSmall : (H : Type) → List (DataW H) → Bool := fun _ ds => decide (uptoBulkAll ds ≤ 1048576)
def OpenSpec.upto (s : _root_.Go.ChangeSpec) : _root_.Go.OpenSpec := { _root_.Go.OpenSpec.ofChange s with cond := some uptoSmall }

/-- 'catchwordlaw03.StemShorter', WHERE WHAT IT READS IS OF BULK AT MOST 1048576: true; the input reads as it did. -/
def stemShorterUptoRow : OpenClaim := { program := "ytnemoodjbekngaa", sum := "bc705ae4c310261d3c16c1e0a0ac2a0a848f368c4920c24206c733766302817c", func := "catchword/catchwordlaw03.StemShorter", spec := "stemShorter", recurses := true, apart := false, narrowed := true }
def StemShorterUptoSaid : Prop := stemShorterUptoRow.holds Try.pinned (OpenSpec.upto stemShorterSpec)

/-- 'catchwordlaw03.StemMeasures', WHERE WHAT IT READS IS OF BULK AT MOST 1048576: true; the input reads as it did. -/
def stemMeasuresUptoRow : OpenClaim := { program := "ytnemoodjbekngaa", sum := "bc705ae4c310261d3c16c1e0a0ac2a0a848f368c4920c24206c733766302817c", func := "catchword/catchwordlaw03.StemMeasures", spec := "stemMeasures", recurses := true, apart := false, narrowed := true }
def StemMeasuresUptoSaid : Prop := stemMeasuresUptoRow.holds Try.pinned (OpenSpec.upto stemMeasuresSpec)

/-- 'catchwordlaw03.StemPlurals', WHERE WHAT IT READS IS OF BULK AT MOST 1048576: true; the input reads as it did. -/
def stemPluralsUptoRow : OpenClaim := { program := "ytnemoodjbekngaa", sum := "bc705ae4c310261d3c16c1e0a0ac2a0a848f368c4920c24206c733766302817c", func := "catchword/catchwordlaw03.StemPlurals", spec := "stemPlurals", recurses := true, apart := false, narrowed := true }
def StemPluralsUptoSaid : Prop := stemPluralsUptoRow.holds Try.pinned (OpenSpec.upto stemPluralsSpec)

/-- 'catchwordlaw07.TokenSplits', WHERE WHAT IT READS IS OF BULK AT MOST 1048576: true; the input reads as it did. -/
def tokenSplitsUptoRow : OpenClaim := { program := "ytnemoodjbekngaa", sum := "bc705ae4c310261d3c16c1e0a0ac2a0a848f368c4920c24206c733766302817c", func := "catchword/catchwordlaw07.TokenSplits", spec := "tokenSplits", unfollowed := true, recurses := true, apart := false, narrowed := true }
def TokenSplitsUptoSaid : Prop := tokenSplitsUptoRow.holds Try.pinned (OpenSpec.upto tokenSplitsSpec)

/-- 'catchwordlaw07.TokenWords', WHERE WHAT IT READS IS OF BULK AT MOST 1048576: true; the input reads as it did. -/
def tokenWordsUptoRow : OpenClaim := { program := "ytnemoodjbekngaa", sum := "bc705ae4c310261d3c16c1e0a0ac2a0a848f368c4920c24206c733766302817c", func := "catchword/catchwordlaw07.TokenWords", spec := "tokenWords", unfollowed := true, recurses := true, apart := false, narrowed := true }
def TokenWordsUptoSaid : Prop := tokenWordsUptoRow.holds Try.pinned (OpenSpec.upto tokenWordsSpec)

/-- 'catchwordlaw07.TokenJoins', WHERE WHAT IT READS IS OF BULK AT MOST 1048576: true; the input reads as it did. -/
def tokenJoinsUptoRow : OpenClaim := { program := "ytnemoodjbekngaa", sum := "bc705ae4c310261d3c16c1e0a0ac2a0a848f368c4920c24206c733766302817c", func := "catchword/catchwordlaw07.TokenJoins", spec := "tokenJoins", unfollowed := true, recurses := true, apart := false, narrowed := true }
def TokenJoinsUptoSaid : Prop := tokenJoinsUptoRow.holds Try.pinned (OpenSpec.upto tokenJoinsSpec)

/-- 'catchwordlaw07.TokenLong', WHERE WHAT IT READS IS OF BULK AT MOST 1048576: true; the input reads as it did. -/
def tokenLongUptoRow : OpenClaim := { program := "ytnemoodjbekngaa", sum := "bc705ae4c310261d3c16c1e0a0ac2a0a848f368c4920c24206c733766302817c", func := "catchword/catchwordlaw07.TokenLong", spec := "tokenLong", unfollowed := true, recurses := true, apart := false, narrowed := true }
def TokenLongUptoSaid : Prop := tokenLongUptoRow.holds Try.pinned (OpenSpec.upto tokenLongSpec)

/-- 'catchwordlaw07.TokenRanks', WHERE WHAT IT READS IS OF BULK AT MOST 1048576: true; the input reads as it did. -/
def tokenRanksUptoRow : OpenClaim := { program := "ytnemoodjbekngaa", sum := "bc705ae4c310261d3c16c1e0a0ac2a0a848f368c4920c24206c733766302817c", func := "catchword/catchwordlaw07.TokenRanks", spec := "tokenRanks", unfollowed := true, recurses := true, apart := false, narrowed := true }
def TokenRanksUptoSaid : Prop := tokenRanksUptoRow.holds Try.pinned (OpenSpec.upto tokenRanksSpec)

end Rows
end Go.Proofs.Ytnemoodjbekngaa

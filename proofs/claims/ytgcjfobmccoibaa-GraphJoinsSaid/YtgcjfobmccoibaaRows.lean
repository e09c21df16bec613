/-
  No cell of these rows narrows 'for every input' (looked for: loops, veiled, ifaces, maps, wideKeys, modest, calm, conditions, laid).
  DERIVED. THE GIVEN ROWS OF THIS SEAT. 12 by the template 'for every input the law returns true; each argument reads behind the call as it read before'; 0 by the template 'total and deterministic' (their statements: YtgcjfobmccoibaaTotals.lean).
  GIVEN WITH THE SEED: the statements are not yours to turn. If you find one false, say at which input.
  Laid BY PROGRAM, IN A SANDBOX (cutbox-rows.mjs): the forced cells as the released guide's own fill.sh prints them over the translation 102e1706a96bcfca… (all of the seat's roots in one cut). By AI agents, Wed Nov 11 2026. No macro, syntax, notation, axiom, sorry.
-/
import Derived.Test.YtgcjfobmccoibaaChecked
import GoSem.Claim
import GoSem.ClaimJoined
import GoSem.ClaimMapViews
import Derived.JoinedTies
import Derived.KernelRfl
namespace Go.Proofs.Ytgcjfobmccoibaa
/- THE CELL 'sum', in the pinned program and in every row, IS THE sha256 OF THE DUMP (.gsa) THAT YtgcjfobmccoibaaProg.lean LOADS. Nothing in Lean hashes anything: it is a label: what it is worth is what the hold of that sum in a sandbox is worth. -/
noncomputable def Try.pinned : Pinned := { name := "ytgcjfobmccoibaa", sum := "102e1706a96bcfca7173df4bd6c8968f9100b72dfa8b3b89c2ae83c91e89174c", checked := Try.checked }
namespace Rows
def none {H : Type} : Left H := { results := [], args := [] }

/-- 'tendrillaw03.NamesFull': WHATEVER THE INPUT: true; the input reads as it did. -/
def namesFullSpec : ChangeSpec := { name := "namesFull", fn := fun _ => fun
  | [d] => { results := [.lit (.bool true)], args := [d] }
  | _ => none }
def namesFullRow : OpenClaim := { program := "ytgcjfobmccoibaa", sum := "102e1706a96bcfca7173df4bd6c8968f9100b72dfa8b3b89c2ae83c91e89174c", func := "tendril/tendrillaw03.NamesFull", spec := "namesFull", apart := false }
def NamesFullSaid : Prop := namesFullRow.holds Try.pinned (OpenSpec.ofChange namesFullSpec)

/-- ITS FALSE NEIGHBOUR: 'it returns false'. Refute it at one input. -/
def namesFullWrong : ChangeSpec := { name := "namesFull", fn := fun _ => fun
  | [d] => { results := [.lit (.bool false)], args := [d] }
  | _ => none }
def NamesFullWrongFalsely : Prop := namesFullRow.holds Try.pinned (OpenSpec.ofChange namesFullWrong)

/-- 'tendrillaw03.NamesStay': WHATEVER THE INPUT: true; the input reads as it did. -/
def namesStaySpec : ChangeSpec := { name := "namesStay", fn := fun _ => fun
  | [d1, d2, d3] => { results := [.lit (.bool true)], args := [d1, d2, d3] }
  | _ => none }
def namesStayRow : OpenClaim := { program := "ytgcjfobmccoibaa", sum := "102e1706a96bcfca7173df4bd6c8968f9100b72dfa8b3b89c2ae83c91e89174c", func := "tendril/tendrillaw03.NamesStay", spec := "namesStay", apart := false }
def NamesStaySaid : Prop := namesStayRow.holds Try.pinned (OpenSpec.ofChange namesStaySpec)

/-- ITS FALSE NEIGHBOUR: 'it returns false'. Refute it at one input. -/
def namesStayWrong : ChangeSpec := { name := "namesStay", fn := fun _ => fun
  | [d1, d2, d3] => { results := [.lit (.bool false)], args := [d1, d2, d3] }
  | _ => none }
def NamesStayWrongFalsely : Prop := namesStayRow.holds Try.pinned (OpenSpec.ofChange namesStayWrong)

/-- 'tendrillaw03.NamesPlays': WHATEVER THE INPUT: true; the input reads as it did. -/
def namesPlaysSpec : ChangeSpec := { name := "namesPlays", fn := fun _ => fun
  | [d1, d2, d3] => { results := [.lit (.bool true)], args := [d1, d2, d3] }
  | _ => none }
def namesPlaysRow : OpenClaim := { program := "ytgcjfobmccoibaa", sum := "102e1706a96bcfca7173df4bd6c8968f9100b72dfa8b3b89c2ae83c91e89174c", func := "tendril/tendrillaw03.NamesPlays", spec := "namesPlays", unfollowed := true, recurses := true, apart := false }
def NamesPlaysSaid : Prop := namesPlaysRow.holds Try.pinned (OpenSpec.ofChange namesPlaysSpec)

/-- ITS FALSE NEIGHBOUR: 'it returns false'. Refute it at one input. -/
def namesPlaysWrong : ChangeSpec := { name := "namesPlays", fn := fun _ => fun
  | [d1, d2, d3] => { results := [.lit (.bool false)], args := [d1, d2, d3] }
  | _ => none }
def NamesPlaysWrongFalsely : Prop := namesPlaysRow.holds Try.pinned (OpenSpec.ofChange namesPlaysWrong)

/-- 'tendrillaw04.GraphChecks': WHATEVER THE INPUT: true; the input reads as it did. -/
def graphChecksSpec : ChangeSpec := { name := "graphChecks", fn := fun _ => fun
  | [d] => { results := [.lit (.bool true)], args := [d] }
  | _ => none }
def graphChecksRow : OpenClaim := { program := "ytgcjfobmccoibaa", sum := "102e1706a96bcfca7173df4bd6c8968f9100b72dfa8b3b89c2ae83c91e89174c", func := "tendril/tendrillaw04.GraphChecks", spec := "graphChecks", unfollowed := true, recurses := true, apart := false }
def GraphChecksSaid : Prop := graphChecksRow.holds Try.pinned (OpenSpec.ofChange graphChecksSpec)

/-- ITS FALSE NEIGHBOUR: 'it returns false'. Refute it at one input. -/
def graphChecksWrong : ChangeSpec := { name := "graphChecks", fn := fun _ => fun
  | [d] => { results := [.lit (.bool false)], args := [d] }
  | _ => none }
def GraphChecksWrongFalsely : Prop := graphChecksRow.holds Try.pinned (OpenSpec.ofChange graphChecksWrong)

/-- 'tendrillaw03.NamesApart': WHATEVER THE INPUT: true; the input reads as it did. -/
def namesApartSpec : ChangeSpec := { name := "namesApart", fn := fun _ => fun
  | [d1, d2, d3] => { results := [.lit (.bool true)], args := [d1, d2, d3] }
  | _ => none }
def namesApartRow : OpenClaim := { program := "ytgcjfobmccoibaa", sum := "102e1706a96bcfca7173df4bd6c8968f9100b72dfa8b3b89c2ae83c91e89174c", func := "tendril/tendrillaw03.NamesApart", spec := "namesApart", inPlace := ["maps.clone"], unfollowed := true, recurses := true, apart := false }
def NamesApartSaid : Prop := namesApartRow.holds Try.pinned (OpenSpec.ofChange namesApartSpec)

/-- ITS FALSE NEIGHBOUR: 'it returns false'. Refute it at one input. -/
def namesApartWrong : ChangeSpec := { name := "namesApart", fn := fun _ => fun
  | [d1, d2, d3] => { results := [.lit (.bool false)], args := [d1, d2, d3] }
  | _ => none }
def NamesApartWrongFalsely : Prop := namesApartRow.holds Try.pinned (OpenSpec.ofChange namesApartWrong)

/-- 'tendrillaw03.NamesNone': WHATEVER THE INPUT: true; the input reads as it did. -/
def namesNoneSpec : ChangeSpec := { name := "namesNone", fn := fun _ => fun
  | [d1, d2] => { results := [.lit (.bool true)], args := [d1, d2] }
  | _ => none }
def namesNoneRow : OpenClaim := { program := "ytgcjfobmccoibaa", sum := "102e1706a96bcfca7173df4bd6c8968f9100b72dfa8b3b89c2ae83c91e89174c", func := "tendril/tendrillaw03.NamesNone", spec := "namesNone", inPlace := ["maps.clone"], unfollowed := true, recurses := true, apart := false }
def NamesNoneSaid : Prop := namesNoneRow.holds Try.pinned (OpenSpec.ofChange namesNoneSpec)

/-- ITS FALSE NEIGHBOUR: 'it returns false'. Refute it at one input. -/
def namesNoneWrong : ChangeSpec := { name := "namesNone", fn := fun _ => fun
  | [d1, d2] => { results := [.lit (.bool false)], args := [d1, d2] }
  | _ => none }
def NamesNoneWrongFalsely : Prop := namesNoneRow.holds Try.pinned (OpenSpec.ofChange namesNoneWrong)

/-- 'tendrillaw04.GraphWays': WHATEVER THE INPUT: true; the input reads as it did. -/
def graphWaysSpec : ChangeSpec := { name := "graphWays", fn := fun _ => fun
  | [d] => { results := [.lit (.bool true)], args := [d] }
  | _ => none }
def graphWaysRow : OpenClaim := { program := "ytgcjfobmccoibaa", sum := "102e1706a96bcfca7173df4bd6c8968f9100b72dfa8b3b89c2ae83c91e89174c", func := "tendril/tendrillaw04.GraphWays", spec := "graphWays", unfollowed := true, recurses := true, apart := false }
def GraphWaysSaid : Prop := graphWaysRow.holds Try.pinned (OpenSpec.ofChange graphWaysSpec)

/-- ITS FALSE NEIGHBOUR: 'it returns false'. Refute it at one input. -/
def graphWaysWrong : ChangeSpec := { name := "graphWays", fn := fun _ => fun
  | [d] => { results := [.lit (.bool false)], args := [d] }
  | _ => none }
def GraphWaysWrongFalsely : Prop := graphWaysRow.holds Try.pinned (OpenSpec.ofChange graphWaysWrong)

/-- 'tendrillaw04.GraphJoins': WHATEVER THE INPUT: true; the input reads as it did. -/
def graphJoinsSpec : ChangeSpec := { name := "graphJoins", fn := fun _ => fun
  | [d] => { results := [.lit (.bool true)], args := [d] }
  | _ => none }
def graphJoinsRow : OpenClaim := { program := "ytgcjfobmccoibaa", sum := "102e1706a96bcfca7173df4bd6c8968f9100b72dfa8b3b89c2ae83c91e89174c", func := "tendril/tendrillaw04.GraphJoins", spec := "graphJoins", unfollowed := true, recurses := true, apart := false }
def GraphJoinsSaid : Prop := graphJoinsRow.holds Try.pinned (OpenSpec.ofChange graphJoinsSpec)

/-- ITS FALSE NEIGHBOUR: 'it returns false'. Refute it at one input. -/
def graphJoinsWrong : ChangeSpec := { name := "graphJoins", fn := fun _ => fun
  | [d] => { results := [.lit (.bool false)], args := [d] }
  | _ => none }
def GraphJoinsWrongFalsely : Prop := graphJoinsRow.holds Try.pinned (OpenSpec.ofChange graphJoinsWrong)

/-- 'tendrillaw04.GraphSides': WHATEVER THE INPUT: true; the input reads as it did. -/
def graphSidesSpec : ChangeSpec := { name := "graphSides", fn := fun _ => fun
  | [d] => { results := [.lit (.bool true)], args := [d] }
  | _ => none }
def graphSidesRow : OpenClaim := { program := "ytgcjfobmccoibaa", sum := "102e1706a96bcfca7173df4bd6c8968f9100b72dfa8b3b89c2ae83c91e89174c", func := "tendril/tendrillaw04.GraphSides", spec := "graphSides", unfollowed := true, recurses := true, apart := false }
def GraphSidesSaid : Prop := graphSidesRow.holds Try.pinned (OpenSpec.ofChange graphSidesSpec)

/-- ITS FALSE NEIGHBOUR: 'it returns false'. Refute it at one input. -/
def graphSidesWrong : ChangeSpec := { name := "graphSides", fn := fun _ => fun
  | [d] => { results := [.lit (.bool false)], args := [d] }
  | _ => none }
def GraphSidesWrongFalsely : Prop := graphSidesRow.holds Try.pinned (OpenSpec.ofChange graphSidesWrong)

/-- 'tendrillaw04.GraphTrims': WHATEVER THE INPUT: true; the input reads as it did. -/
def graphTrimsSpec : ChangeSpec := { name := "graphTrims", fn := fun _ => fun
  | [d1, d2, d3] => { results := [.lit (.bool true)], args := [d1, d2, d3] }
  | _ => none }
def graphTrimsRow : OpenClaim := { program := "ytgcjfobmccoibaa", sum := "102e1706a96bcfca7173df4bd6c8968f9100b72dfa8b3b89c2ae83c91e89174c", func := "tendril/tendrillaw04.GraphTrims", spec := "graphTrims", unfollowed := true, recurses := true, apart := false }
def GraphTrimsSaid : Prop := graphTrimsRow.holds Try.pinned (OpenSpec.ofChange graphTrimsSpec)

/-- ITS FALSE NEIGHBOUR: 'it returns false'. Refute it at one input. -/
def graphTrimsWrong : ChangeSpec := { name := "graphTrims", fn := fun _ => fun
  | [d1, d2, d3] => { results := [.lit (.bool false)], args := [d1, d2, d3] }
  | _ => none }
def GraphTrimsWrongFalsely : Prop := graphTrimsRow.holds Try.pinned (OpenSpec.ofChange graphTrimsWrong)

/-- 'tendrillaw04.GraphWalks': WHATEVER THE INPUT: true; the input reads as it did. -/
def graphWalksSpec : ChangeSpec := { name := "graphWalks", fn := fun _ => fun
  | [d] => { results := [.lit (.bool true)], args := [d] }
  | _ => none }
def graphWalksRow : OpenClaim := { program := "ytgcjfobmccoibaa", sum := "102e1706a96bcfca7173df4bd6c8968f9100b72dfa8b3b89c2ae83c91e89174c", func := "tendril/tendrillaw04.GraphWalks", spec := "graphWalks", unfollowed := true, recurses := true, apart := false }
def GraphWalksSaid : Prop := graphWalksRow.holds Try.pinned (OpenSpec.ofChange graphWalksSpec)

/-- ITS FALSE NEIGHBOUR: 'it returns false'. Refute it at one input. -/
def graphWalksWrong : ChangeSpec := { name := "graphWalks", fn := fun _ => fun
  | [d] => { results := [.lit (.bool false)], args := [d] }
  | _ => none }
def GraphWalksWrongFalsely : Prop := graphWalksRow.holds Try.pinned (OpenSpec.ofChange graphWalksWrong)

/-- 'tendrillaw04.GraphOwns': WHATEVER THE INPUT: true; the input reads as it did. -/
def graphOwnsSpec : ChangeSpec := { name := "graphOwns", fn := fun _ => fun
  | [d] => { results := [.lit (.bool true)], args := [d] }
  | _ => none }
def graphOwnsRow : OpenClaim := { program := "ytgcjfobmccoibaa", sum := "102e1706a96bcfca7173df4bd6c8968f9100b72dfa8b3b89c2ae83c91e89174c", func := "tendril/tendrillaw04.GraphOwns", spec := "graphOwns", unfollowed := true, recurses := true, apart := false }
def GraphOwnsSaid : Prop := graphOwnsRow.holds Try.pinned (OpenSpec.ofChange graphOwnsSpec)

/-- ITS FALSE NEIGHBOUR: 'it returns false'. Refute it at one input. -/
def graphOwnsWrong : ChangeSpec := { name := "graphOwns", fn := fun _ => fun
  | [d] => { results := [.lit (.bool false)], args := [d] }
  | _ => none }
def GraphOwnsWrongFalsely : Prop := graphOwnsRow.holds Try.pinned (OpenSpec.ofChange graphOwnsWrong)

/- THE SECOND FORM. 'bulk': how many values and letters a reading holds, each counted each time it is reached (what is shared counts as often as it is met; a slice's spare places count too). A statement '..UptoSaid' is the law's where the arguments, and the package variables that the reading takes, are together of bulk at most 1048576: NARROWER than '..Said'. Prove '..Said' where nothing that the law and all that it calls make is longer than what came in: it says more and counts as full. Else prove '..UptoSaid'. A law counts once. -/
mutual
def uptoBulk {H : Type} : DataW H → Nat
  | .lit (.string bytes) => bytes.length + 1
  | .lit _ => 1
  | .nil => 1
  | .ptr d => uptoBulk d + 1
  | .slice elems spare => uptoBulkAll elems + uptoBulkAll spare + 1
  | .agg parts => uptoBulkAll parts + 1
  | .iface _ d => uptoBulk d + 1
  | .map entries => uptoBulkEntries entries + 1
  | .held _ => 1
def uptoBulkAll {H : Type} : List (DataW H) → Nat
  | [] => 0
  | d :: r => uptoBulk d + uptoBulkAll r
def uptoBulkEntries {H : Type} : List (Lit × DataW H) → Nat
  | [] => 0
  | x :: r => uptoBulkEntry x + uptoBulkEntries r
def uptoBulkEntry {H : Type} : Lit × DataW H → Nat
  | (.string bytes, d) => bytes.length + uptoBulk d + 1
  | (_, d) => uptoBulk d + 1
 end
def uptoSmall : (H : Type) → List (DataW H) → Bool := fun _ ds => decide (uptoBulkAll ds ≤ 1048576)
def OpenSpec.upto (s : _root_.Go.ChangeSpec) : _root_.Go.OpenSpec := { _root_.Go.OpenSpec.ofChange s with cond := some uptoSmall }

/-- 'tendrillaw03.NamesFull', WHERE WHAT IT READS IS OF BULK AT MOST 1048576: true; the input reads as it did. -/
def namesFullUptoRow : OpenClaim := { program := "ytgcjfobmccoibaa", sum := "102e1706a96bcfca7173df4bd6c8968f9100b72dfa8b3b89c2ae83c91e89174c", func := "tendril/tendrillaw03.NamesFull", spec := "namesFull", apart := false, narrowed := true }
def NamesFullUptoSaid : Prop := namesFullUptoRow.holds Try.pinned (OpenSpec.upto namesFullSpec)

/-- 'tendrillaw03.NamesStay', WHERE WHAT IT READS IS OF BULK AT MOST 1048576: true; the input reads as it did. -/
def namesStayUptoRow : OpenClaim := { program := "ytgcjfobmccoibaa", sum := "102e1706a96bcfca7173df4bd6c8968f9100b72dfa8b3b89c2ae83c91e89174c", func := "tendril/tendrillaw03.NamesStay", spec := "namesStay", apart := false, narrowed := true }
def NamesStayUptoSaid : Prop := namesStayUptoRow.holds Try.pinned (OpenSpec.upto namesStaySpec)

/-- 'tendrillaw03.NamesPlays', WHERE WHAT IT READS IS OF BULK AT MOST 1048576: true; the input reads as it did. -/
def namesPlaysUptoRow : OpenClaim := { program := "ytgcjfobmccoibaa", sum := "102e1706a96bcfca7173df4bd6c8968f9100b72dfa8b3b89c2ae83c91e89174c", func := "tendril/tendrillaw03.NamesPlays", spec := "namesPlays", unfollowed := true, recurses := true, apart := false, narrowed := true }
def NamesPlaysUptoSaid : Prop := namesPlaysUptoRow.holds Try.pinned (OpenSpec.upto namesPlaysSpec)

/-- 'tendrillaw04.GraphChecks', WHERE WHAT IT READS IS OF BULK AT MOST 1048576: true; the input reads as it did. -/
def graphChecksUptoRow : OpenClaim := { program := "ytgcjfobmccoibaa", sum := "102e1706a96bcfca7173df4bd6c8968f9100b72dfa8b3b89c2ae83c91e89174c", func := "tendril/tendrillaw04.GraphChecks", spec := "graphChecks", unfollowed := true, recurses := true, apart := false, narrowed := true }
def GraphChecksUptoSaid : Prop := graphChecksUptoRow.holds Try.pinned (OpenSpec.upto graphChecksSpec)

/-- 'tendrillaw03.NamesApart', WHERE WHAT IT READS IS OF BULK AT MOST 1048576: true; the input reads as it did. -/
def namesApartUptoRow : OpenClaim := { program := "ytgcjfobmccoibaa", sum := "102e1706a96bcfca7173df4bd6c8968f9100b72dfa8b3b89c2ae83c91e89174c", func := "tendril/tendrillaw03.NamesApart", spec := "namesApart", inPlace := ["maps.clone"], unfollowed := true, recurses := true, apart := false, narrowed := true }
def NamesApartUptoSaid : Prop := namesApartUptoRow.holds Try.pinned (OpenSpec.upto namesApartSpec)

/-- 'tendrillaw03.NamesNone', WHERE WHAT IT READS IS OF BULK AT MOST 1048576: true; the input reads as it did. -/
def namesNoneUptoRow : OpenClaim := { program := "ytgcjfobmccoibaa", sum := "102e1706a96bcfca7173df4bd6c8968f9100b72dfa8b3b89c2ae83c91e89174c", func := "tendril/tendrillaw03.NamesNone", spec := "namesNone", inPlace := ["maps.clone"], unfollowed := true, recurses := true, apart := false, narrowed := true }
def NamesNoneUptoSaid : Prop := namesNoneUptoRow.holds Try.pinned (OpenSpec.upto namesNoneSpec)

/-- 'tendrillaw04.GraphWays', WHERE WHAT IT READS IS OF BULK AT MOST 1048576: true; the input reads as it did. -/
def graphWaysUptoRow : OpenClaim := { program := "ytgcjfobmccoibaa", sum := "102e1706a96bcfca7173df4bd6c8968f9100b72dfa8b3b89c2ae83c91e89174c", func := "tendril/tendrillaw04.GraphWays", spec := "graphWays", unfollowed := true, recurses := true, apart := false, narrowed := true }
def GraphWaysUptoSaid : Prop := graphWaysUptoRow.holds Try.pinned (OpenSpec.upto graphWaysSpec)

/-- 'tendrillaw04.GraphJoins', WHERE WHAT IT READS IS OF BULK AT MOST 1048576: true; the input reads as it did. -/
def graphJoinsUptoRow : OpenClaim := { program := "ytgcjfobmccoibaa", sum := "102e1706a96bcfca7173df4bd6c8968f9100b72dfa8b3b89c2ae83c91e89174c", func := "tendril/tendrillaw04.GraphJoins", spec := "graphJoins", unfollowed := true, recurses := true, apart := false, narrowed := true }
def GraphJoinsUptoSaid : Prop := graphJoinsUptoRow.holds Try.pinned (OpenSpec.upto graphJoinsSpec)

/-- 'tendrillaw04.GraphSides', WHERE WHAT IT READS IS OF BULK AT MOST 1048576: true; the input reads as it did. -/
def graphSidesUptoRow : OpenClaim := { program := "ytgcjfobmccoibaa", sum := "102e1706a96bcfca7173df4bd6c8968f9100b72dfa8b3b89c2ae83c91e89174c", func := "tendril/tendrillaw04.GraphSides", spec := "graphSides", unfollowed := true, recurses := true, apart := false, narrowed := true }
def GraphSidesUptoSaid : Prop := graphSidesUptoRow.holds Try.pinned (OpenSpec.upto graphSidesSpec)

/-- 'tendrillaw04.GraphTrims', WHERE WHAT IT READS IS OF BULK AT MOST 1048576: true; the input reads as it did. -/
def graphTrimsUptoRow : OpenClaim := { program := "ytgcjfobmccoibaa", sum := "102e1706a96bcfca7173df4bd6c8968f9100b72dfa8b3b89c2ae83c91e89174c", func := "tendril/tendrillaw04.GraphTrims", spec := "graphTrims", unfollowed := true, recurses := true, apart := false, narrowed := true }
def GraphTrimsUptoSaid : Prop := graphTrimsUptoRow.holds Try.pinned (OpenSpec.upto graphTrimsSpec)

/-- 'tendrillaw04.GraphWalks', WHERE WHAT IT READS IS OF BULK AT MOST 1048576: true; the input reads as it did. -/
def graphWalksUptoRow : OpenClaim := { program := "ytgcjfobmccoibaa", sum := "102e1706a96bcfca7173df4bd6c8968f9100b72dfa8b3b89c2ae83c91e89174c", func := "tendril/tendrillaw04.GraphWalks", spec := "graphWalks", unfollowed := true, recurses := true, apart := false, narrowed := true }
def GraphWalksUptoSaid : Prop := graphWalksUptoRow.holds Try.pinned (OpenSpec.upto graphWalksSpec)

/-- 'tendrillaw04.GraphOwns', WHERE WHAT IT READS IS OF BULK AT MOST 1048576: true; the input reads as it did. -/
def graphOwnsUptoRow : OpenClaim := { program := "ytgcjfobmccoibaa", sum := "102e1706a96bcfca7173df4bd6c8968f9100b72dfa8b3b89c2ae83c91e89174c", func := "tendril/tendrillaw04.GraphOwns", spec := "graphOwns", unfollowed := true, recurses := true, apart := false, narrowed := true }
def GraphOwnsUptoSaid : Prop := graphOwnsUptoRow.holds Try.pinned (OpenSpec.upto graphOwnsSpec)

end Rows
end Go.Proofs.Ytgcjfobmccoibaa

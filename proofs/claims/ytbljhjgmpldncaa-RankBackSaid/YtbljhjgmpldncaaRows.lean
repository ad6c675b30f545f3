/-
  No cell of these rows narrows 'for every input' (looked for: loops, veiled, ifaces, maps, wideKeys, modest, calm, conditions, laid).
  DERIVED. THE GIVEN ROWS OF THIS SEAT. 4 by the template 'for every input the law returns true; each argument reads behind the call as it read before'; 0 by the template 'total and deterministic' (their statements: YtbljhjgmpldncaaTotals.lean).
  GIVEN WITH THE SEED: the statements are not yours to turn. If you find one false, say at which input.
  Laid BY PROGRAM, IN A SANDBOX (cutbox-rows.mjs): the forced cells as the released guide's own fill.sh prints them over the translation 116dc382e4c834fd… (all of the seat's roots in one cut). By AI agents, Wed Nov 11 2026. No macro, syntax, notation, axiom, sorry.
-/
import Derived.Test.YtbljhjgmpldncaaChecked
import GoSem.Claim
import GoSem.ClaimJoined
import GoSem.ClaimMapViews
import Derived.JoinedTies
import Derived.KernelRfl
namespace Go.Proofs.Ytbljhjgmpldncaa
/- THE CELL 'sum', in the pinned program and in every row, IS THE sha256 OF THE DUMP (.gsa) THAT YtbljhjgmpldncaaProg.lean LOADS. Nothing in Lean hashes anything: it is a label: what it is worth is what the hold of that sum in a sandbox is worth. -/
noncomputable def Try.pinned : Pinned := { name := "ytbljhjgmpldncaa", sum := "116dc382e4c834fd59e5388d6ce757999adeeb7c6b6d2a8bc42bfb57517477ba", checked := Try.checked }
namespace Rows
def none {H : Type} : Left H := { results := [], args := [] }

/-- 'gangerlaw03.RankBytes': WHATEVER THE INPUT: true; the input reads as it did. -/
def rankBytesSpec : ChangeSpec := { name := "rankBytes", fn := fun _ => fun
  | [d1, d2] => { results := [.lit (.bool true)], args := [d1, d2] }
  | _ => none }
def rankBytesRow : OpenClaim := { program := "ytbljhjgmpldncaa", sum := "116dc382e4c834fd59e5388d6ce757999adeeb7c6b6d2a8bc42bfb57517477ba", func := "ganger/gangerlaw03.RankBytes", spec := "rankBytes", unfollowed := true, recurses := true, apart := false }
def RankBytesSaid : Prop := rankBytesRow.holds Try.pinned (OpenSpec.ofChange rankBytesSpec)

/-- ITS FALSE NEIGHBOUR: 'it returns false'. Refute it at one input. -/
def rankBytesWrong : ChangeSpec := { name := "rankBytes", fn := fun _ => fun
  | [d1, d2] => { results := [.lit (.bool false)], args := [d1, d2] }
  | _ => none }
def RankBytesWrongFalsely : Prop := rankBytesRow.holds Try.pinned (OpenSpec.ofChange rankBytesWrong)

/-- 'gangerlaw03.RankMerges': WHATEVER THE INPUT: true; the input reads as it did. -/
def rankMergesSpec : ChangeSpec := { name := "rankMerges", fn := fun _ => fun
  | [d1, d2] => { results := [.lit (.bool true)], args := [d1, d2] }
  | _ => none }
def rankMergesRow : OpenClaim := { program := "ytbljhjgmpldncaa", sum := "116dc382e4c834fd59e5388d6ce757999adeeb7c6b6d2a8bc42bfb57517477ba", func := "ganger/gangerlaw03.RankMerges", spec := "rankMerges", unfollowed := true, recurses := true, apart := false }
def RankMergesSaid : Prop := rankMergesRow.holds Try.pinned (OpenSpec.ofChange rankMergesSpec)

/-- ITS FALSE NEIGHBOUR: 'it returns false'. Refute it at one input. -/
def rankMergesWrong : ChangeSpec := { name := "rankMerges", fn := fun _ => fun
  | [d1, d2] => { results := [.lit (.bool false)], args := [d1, d2] }
  | _ => none }
def RankMergesWrongFalsely : Prop := rankMergesRow.holds Try.pinned (OpenSpec.ofChange rankMergesWrong)

/-- 'gangerlaw03.RankPuts': WHATEVER THE INPUT: true; the input reads as it did. -/
def rankPutsSpec : ChangeSpec := { name := "rankPuts", fn := fun _ => fun
  | [d1, d2, d3] => { results := [.lit (.bool true)], args := [d1, d2, d3] }
  | _ => none }
def rankPutsRow : OpenClaim := { program := "ytbljhjgmpldncaa", sum := "116dc382e4c834fd59e5388d6ce757999adeeb7c6b6d2a8bc42bfb57517477ba", func := "ganger/gangerlaw03.RankPuts", spec := "rankPuts", inPlace := ["slices.overlaps[ganger/api.Key]"], unfollowed := true, recurses := true, apart := false }
def RankPutsSaid : Prop := rankPutsRow.holds Try.pinned (OpenSpec.ofChange rankPutsSpec)

/-- ITS FALSE NEIGHBOUR: 'it returns false'. Refute it at one input. -/
def rankPutsWrong : ChangeSpec := { name := "rankPuts", fn := fun _ => fun
  | [d1, d2, d3] => { results := [.lit (.bool false)], args := [d1, d2, d3] }
  | _ => none }
def RankPutsWrongFalsely : Prop := rankPutsRow.holds Try.pinned (OpenSpec.ofChange rankPutsWrong)

/-- 'gangerlaw03.RankBack': WHATEVER THE INPUT: true; the input reads as it did. -/
def rankBackSpec : ChangeSpec := { name := "rankBack", fn := fun _ => fun
  | [d1, d2, d3] => { results := [.lit (.bool true)], args := [d1, d2, d3] }
  | _ => none }
def rankBackRow : OpenClaim := { program := "ytbljhjgmpldncaa", sum := "116dc382e4c834fd59e5388d6ce757999adeeb7c6b6d2a8bc42bfb57517477ba", func := "ganger/gangerlaw03.RankBack", spec := "rankBack", inPlace := ["slices.overlaps[ganger/api.Key]"], unfollowed := true, recurses := true, apart := false }
def RankBackSaid : Prop := rankBackRow.holds Try.pinned (OpenSpec.ofChange rankBackSpec)

/-- ITS FALSE NEIGHBOUR: 'it returns false'. Refute it at one input. -/
def rankBackWrong : ChangeSpec := { name := "rankBack", fn := fun _ => fun
  | [d1, d2, d3] => { results := [.lit (.bool false)], args := [d1, d2, d3] }
  | _ => none }
def RankBackWrongFalsely : Prop := rankBackRow.holds Try.pinned (OpenSpec.ofChange rankBackWrong)

/- THE SECOND FORM. 'bulk': how many values and letters a reading holds, each counted each time it is reached (what is shared counts as often as it is met; a slice's spare places count too). A statement '..UptoSaid' is the law's where the arguments, and the package variables that the reading takes, are together of bulk at most 1048576: NARROWER than '..Said'. Prove '..Said' where nothing that the law and all that it calls make is longer than what came in: it says more and counts as full. Else prove '..UptoSaid'. A law counts once. -/
mutual
def uptoBulk {H : Type} : DataW H → Nat
  | .lit (.string bytes) => bytes.length + 1
  | .lit _ => 1
  | .nil => 1
  | .ptr d => uptoBulk d + 1
  | .slice elems spare => uptoBulkAll elems + uptoBulkAll spare + 1
  | .agg parts => uptoBulkAll parts + 1
  | .iface _ d => uptoBulk d + 1
  | .map entries => uptoBulkEntries entries + 1
  | .held _ => 1
def uptoBulkAll {H : Type} : List (DataW H) → Nat
  | [] => 0
  | d :: r => uptoBulk d + uptoBulkAll r
def uptoBulkEntries {H : Type} : List (Lit × DataW H) → Nat
  | [] => 0
  | x :: r => uptoBulkEntry x + uptoBulkEntries r
def uptoBulkEntry {H : Type} : Lit × DataW H → Nat
  | (.string bytes, d) => bytes.length + uptoBulk d + 1
  | (_, d) => uptoBulk d + 1
 end
def uptoSmall : (H : Type) → List (DataW H) → Bool := fun _ ds => decide (uptoBulkAll ds ≤ 1048576)
def OpenSpec.upto (s : _root_.Go.ChangeSpec) : _root_.Go.OpenSpec := { _root_.Go.OpenSpec.ofChange s with cond := some uptoSmall }

/-- 'gangerlaw03.RankBytes', WHERE WHAT IT READS IS OF BULK AT MOST 1048576: true; the input reads as it did. -/
def rankBytesUptoRow : OpenClaim := { program := "ytbljhjgmpldncaa", sum := "116dc382e4c834fd59e5388d6ce757999adeeb7c6b6d2a8bc42bfb57517477ba", func := "ganger/gangerlaw03.RankBytes", spec := "rankBytes", unfollowed := true, recurses := true, apart := false, narrowed := true }
def RankBytesUptoSaid : Prop := rankBytesUptoRow.holds Try.pinned (OpenSpec.upto rankBytesSpec)

/-- 'gangerlaw03.RankMerges', WHERE WHAT IT READS IS OF BULK AT MOST 1048576: true; the input reads as it did. -/
def rankMergesUptoRow : OpenClaim := { program := "ytbljhjgmpldncaa", sum := "116dc382e4c834fd59e5388d6ce757999adeeb7c6b6d2a8bc42bfb57517477ba", func := "ganger/gangerlaw03.RankMerges", spec := "rankMerges", unfollowed := true, recurses := true, apart := false, narrowed := true }
def RankMergesUptoSaid : Prop := rankMergesUptoRow.holds Try.pinned (OpenSpec.upto rankMergesSpec)

/-- 'gangerlaw03.RankPuts', WHERE WHAT IT READS IS OF BULK AT MOST 1048576: true; the input reads as it did. -/
def rankPutsUptoRow : OpenClaim := { program := "ytbljhjgmpldncaa", sum := "116dc382e4c834fd59e5388d6ce757999adeeb7c6b6d2a8bc42bfb57517477ba", func := "ganger/gangerlaw03.RankPuts", spec := "rankPuts", inPlace := ["slices.overlaps[ganger/api.Key]"], unfollowed := true, recurses := true, apart := false, narrowed := true }
def RankPutsUptoSaid : Prop := rankPutsUptoRow.holds Try.pinned (OpenSpec.upto rankPutsSpec)

/-- 'gangerlaw03.RankBack', WHERE WHAT IT READS IS OF BULK AT MOST 1048576: true; the input reads as it did. -/
def rankBackUptoRow : OpenClaim := { program := "ytbljhjgmpldncaa", sum := "116dc382e4c834fd59e5388d6ce757999adeeb7c6b6d2a8bc42bfb57517477ba", func := "ganger/gangerlaw03.RankBack", spec := "rankBack", inPlace := ["slices.overlaps[ganger/api.Key]"], unfollowed := true, recurses := true, apart := false, narrowed := true }
def RankBackUptoSaid : Prop := rankBackUptoRow.holds Try.pinned (OpenSpec.upto rankBackSpec)

end Rows
end Go.Proofs.Ytbljhjgmpldncaa

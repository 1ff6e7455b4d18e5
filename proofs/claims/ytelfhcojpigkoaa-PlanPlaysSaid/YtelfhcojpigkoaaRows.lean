/-
  No cell of these rows narrows 'for every input' (looked for: loops, veiled, ifaces, maps, wideKeys, modest, calm, conditions, laid).
  DERIVED. THE GIVEN ROWS OF THIS SEAT. 3 by the template 'for every input the law returns true; each argument reads behind the call as it read before'; 0 by the template 'total and deterministic' (their statements: YtelfhcojpigkoaaTotals.lean).
  GIVEN WITH THE SEED: the statements are not yours to turn. If you find one false, say at which input.
  Laid BY PROGRAM, IN A SANDBOX (cutbox-rows.mjs): the forced cells as the released guide's own fill.sh prints them over the translation cde3e62e88690a30… (all of the seat's roots in one cut). By AI agents, Wed Nov 11 2026. No macro, syntax, notation, axiom, sorry.
-/
import Derived.Test.YtelfhcojpigkoaaChecked
import GoSem.Claim
import GoSem.ClaimJoined
import GoSem.ClaimMapViews
import Derived.JoinedTies
import Derived.KernelRfl
namespace Go.Proofs.Ytelfhcojpigkoaa
/- THE CELL 'sum', in the pinned program and in every row, IS THE sha256 OF THE DUMP (.gsa) THAT YtelfhcojpigkoaaProg.lean LOADS. Nothing in Lean hashes anything: it is a label: what it is worth is what the hold of that sum in a sandbox is worth. -/
noncomputable def Try.pinned : Pinned := { name := "ytelfhcojpigkoaa", sum := "cde3e62e88690a30ab89ff501c6754b151e48f419e8ee1f28c1355c65aa975dc", checked := Try.checked }
namespace Rows
def none {H : Type} : Left H := { results := [], args := [] }

/-- 'aerielaw27.PlanOnce': WHATEVER THE INPUT: true; the input reads as it did. -/
def planOnceSpec : ChangeSpec := { name := "planOnce", fn := fun _ => fun
  | [d1, d2] => { results := [.lit (.bool true)], args := [d1, d2] }
  | _ => none }
def planOnceRow : OpenClaim := { program := "ytelfhcojpigkoaa", sum := "cde3e62e88690a30ab89ff501c6754b151e48f419e8ee1f28c1355c65aa975dc", func := "aerie/aerielaw27.PlanOnce", spec := "planOnce", inPlace := ["slices.overlaps[aerie/plan.Item]"], unfollowed := true, recurses := true, apart := false }
def PlanOnceSaid : Prop := planOnceRow.holds Try.pinned (OpenSpec.ofChange planOnceSpec)

/-- ITS FALSE NEIGHBOUR: 'it returns false'. Refute it at one input. -/
def planOnceWrong : ChangeSpec := { name := "planOnce", fn := fun _ => fun
  | [d1, d2] => { results := [.lit (.bool false)], args := [d1, d2] }
  | _ => none }
def PlanOnceWrongFalsely : Prop := planOnceRow.holds Try.pinned (OpenSpec.ofChange planOnceWrong)

/-- 'aerielaw27.PlanPlays': WHATEVER THE INPUT: true; the input reads as it did. -/
def planPlaysSpec : ChangeSpec := { name := "planPlays", fn := fun _ => fun
  | [d1, d2, d3] => { results := [.lit (.bool true)], args := [d1, d2, d3] }
  | _ => none }
def planPlaysRow : OpenClaim := { program := "ytelfhcojpigkoaa", sum := "cde3e62e88690a30ab89ff501c6754b151e48f419e8ee1f28c1355c65aa975dc", func := "aerie/aerielaw27.PlanPlays", spec := "planPlays", inPlace := ["slices.overlaps[aerie/plan.Item]"], unfollowed := true, recurses := true, apart := false }
def PlanPlaysSaid : Prop := planPlaysRow.holds Try.pinned (OpenSpec.ofChange planPlaysSpec)

/-- ITS FALSE NEIGHBOUR: 'it returns false'. Refute it at one input. -/
def planPlaysWrong : ChangeSpec := { name := "planPlays", fn := fun _ => fun
  | [d1, d2, d3] => { results := [.lit (.bool false)], args := [d1, d2, d3] }
  | _ => none }
def PlanPlaysWrongFalsely : Prop := planPlaysRow.holds Try.pinned (OpenSpec.ofChange planPlaysWrong)

/-- 'aerielaw27.PlanOwns': WHATEVER THE INPUT: true; the input reads as it did. -/
def planOwnsSpec : ChangeSpec := { name := "planOwns", fn := fun _ => fun
  | [d1, d2] => { results := [.lit (.bool true)], args := [d1, d2] }
  | _ => none }
def planOwnsRow : OpenClaim := { program := "ytelfhcojpigkoaa", sum := "cde3e62e88690a30ab89ff501c6754b151e48f419e8ee1f28c1355c65aa975dc", func := "aerie/aerielaw27.PlanOwns", spec := "planOwns", inPlace := ["slices.overlaps[aerie/plan.Item]"], unfollowed := true, recurses := true, apart := false }
def PlanOwnsSaid : Prop := planOwnsRow.holds Try.pinned (OpenSpec.ofChange planOwnsSpec)

/-- ITS FALSE NEIGHBOUR: 'it returns false'. Refute it at one input. -/
def planOwnsWrong : ChangeSpec := { name := "planOwns", fn := fun _ => fun
  | [d1, d2] => { results := [.lit (.bool false)], args := [d1, d2] }
  | _ => none }
def PlanOwnsWrongFalsely : Prop := planOwnsRow.holds Try.pinned (OpenSpec.ofChange planOwnsWrong)

/- THE SECOND FORM. 'bulk': how many values and letters a reading holds, each counted each time it is reached (what is shared counts as often as it is met; a slice's spare places count too). A statement '..UptoSaid' is the law's where the arguments, and the package variables that the reading takes, are together of bulk at most 1048576: NARROWER than '..Said'. Prove '..Said' where nothing that the law and all that it calls make is longer than what came in: it says more and counts as full. Else prove '..UptoSaid'. A law counts once. -/
mutual
def uptoBulk {H : Type} : DataW H → Nat
  | .lit (.string bytes) => bytes.length + 1
  | .lit _ => 1
  | .nil => 1
  | .ptr d => uptoBulk d + 1
  | .slice elems spare => uptoBulkAll elems + uptoBulkAll spare + 1
  | .agg parts => uptoBulkAll parts + 1
  | .iface _ d => uptoBulk d + 1
  | .map entries => uptoBulkEntries entries + 1
  | .held _ => 1
def uptoBulkAll {H : Type} : List (DataW H) → Nat
  | [] => 0
  | d :: r => uptoBulk d + uptoBulkAll r
def uptoBulkEntries {H : Type} : List (Lit × DataW H) → Nat
  | [] => 0
  | x :: r => uptoBulkEntry x + uptoBulkEntries r
def uptoBulkEntry {H : Type} : Lit × DataW H → Nat
  | (.string bytes, d) => bytes.length + uptoBulk d + 1
  | (_, d) => uptoBulk d + 1
 end
def uptoSmall : (H : Type) → List (DataW H) → Bool := fun _ ds => decide (uptoBulkAll ds ≤ 1048576)
def OpenSpec.upto (s : _root_.Go.ChangeSpec) : _root_.Go.OpenSpec := { _root_.Go.OpenSpec.ofChange s with cond := some uptoSmall }

/-- 'aerielaw27.PlanOnce', WHERE WHAT IT READS IS OF BULK AT MOST 1048576: true; the input reads as it did. -/
def planOnceUptoRow : OpenClaim := { program := "ytelfhcojpigkoaa", sum := "cde3e62e88690a30ab89ff501c6754b151e48f419e8ee1f28c1355c65aa975dc", func := "aerie/aerielaw27.PlanOnce", spec := "planOnce", inPlace := ["slices.overlaps[aerie/plan.Item]"], unfollowed := true, recurses := true, apart := false, narrowed := true }
def PlanOnceUptoSaid : Prop := planOnceUptoRow.holds Try.pinned (OpenSpec.upto planOnceSpec)

/-- 'aerielaw27.PlanPlays', WHERE WHAT IT READS IS OF BULK AT MOST 1048576: true; the input reads as it did. -/
def planPlaysUptoRow : OpenClaim := { program := "ytelfhcojpigkoaa", sum := "cde3e62e88690a30ab89ff501c6754b151e48f419e8ee1f28c1355c65aa975dc", func := "aerie/aerielaw27.PlanPlays", spec := "planPlays", inPlace := ["slices.overlaps[aerie/plan.Item]"], unfollowed := true, recurses := true, apart := false, narrowed := true }
def PlanPlaysUptoSaid : Prop := planPlaysUptoRow.holds Try.pinned (OpenSpec.upto planPlaysSpec)

/-- 'aerielaw27.PlanOwns', WHERE WHAT IT READS IS OF BULK AT MOST 1048576: true; the input reads as it did. -/
def planOwnsUptoRow : OpenClaim := { program := "ytelfhcojpigkoaa", sum := "cde3e62e88690a30ab89ff501c6754b151e48f419e8ee1f28c1355c65aa975dc", func := "aerie/aerielaw27.PlanOwns", spec := "planOwns", inPlace := ["slices.overlaps[aerie/plan.Item]"], unfollowed := true, recurses := true, apart := false, narrowed := true }
def PlanOwnsUptoSaid : Prop := planOwnsUptoRow.holds Try.pinned (OpenSpec.upto planOwnsSpec)

end Rows
end Go.Proofs.Ytelfhcojpigkoaa

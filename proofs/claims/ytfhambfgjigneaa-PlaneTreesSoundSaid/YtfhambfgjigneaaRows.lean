/-
  No cell of these rows narrows 'for every input' (looked for: loops, veiled, ifaces, maps, wideKeys, modest, calm, conditions, laid).
  DERIVED. THE GIVEN ROWS OF THIS SEAT. 8 by the template 'for every input the law returns true; each argument reads behind the call as it read before'; 0 by the template 'total and deterministic' (their statements: YtfhambfgjigneaaTotals.lean).
  GIVEN WITH THE SEED: the statements are not yours to turn. If you find one false, say at which input.
  Laid BY PROGRAM, IN A SANDBOX (cutbox-rows.mjs): the forced cells as the released guide's own fill.sh prints them over the translation 075ca2341ff286fc… (all of the seat's roots in one cut). By AI agents, Wed Nov 11 2026. No macro, syntax, notation, axiom, sorry.
-/
import Derived.Test.YtfhambfgjigneaaChecked
import GoSem.Claim
import GoSem.ClaimJoined
import GoSem.ClaimMapViews
import Derived.JoinedTies
import Derived.KernelRfl
namespace Go.Proofs.Ytfhambfgjigneaa
/- THE CELL 'sum', in the pinned program and in every row, IS THE sha256 OF THE DUMP (.gsa) THAT YtfhambfgjigneaaProg.lean LOADS. Nothing in Lean hashes anything: it is a label: what it is worth is what the hold of that sum in a sandbox is worth. -/
noncomputable def Try.pinned : Pinned := { name := "ytfhambfgjigneaa", sum := "075ca2341ff286fcb9a12f6a9e77fd087bf9d7f9a742ca800188fa873b88a61b", checked := Try.checked }
namespace Rows
def none {H : Type} : Left H := { results := [], args := [] }

/-- 'unbentlaw02.PlaneForms': WHATEVER THE INPUT: true; the input reads as it did. -/
def planeFormsSpec : ChangeSpec := { name := "planeForms", fn := fun _ => fun
  | [d1, d2, d3] => { results := [.lit (.bool true)], args := [d1, d2, d3] }
  | _ => none }
def planeFormsRow : OpenClaim := { program := "ytfhambfgjigneaa", sum := "075ca2341ff286fcb9a12f6a9e77fd087bf9d7f9a742ca800188fa873b88a61b", func := "unbent/unbentlaw02.PlaneForms", spec := "planeForms", apart := false }
def PlaneFormsSaid : Prop := planeFormsRow.holds Try.pinned (OpenSpec.ofChange planeFormsSpec)

/-- ITS FALSE NEIGHBOUR: 'it returns false'. Refute it at one input. -/
def planeFormsWrong : ChangeSpec := { name := "planeForms", fn := fun _ => fun
  | [d1, d2, d3] => { results := [.lit (.bool false)], args := [d1, d2, d3] }
  | _ => none }
def PlaneFormsWrongFalsely : Prop := planeFormsRow.holds Try.pinned (OpenSpec.ofChange planeFormsWrong)

/-- 'unbentlaw02.PlaneLooks': WHATEVER THE INPUT: true; the input reads as it did. -/
def planeLooksSpec : ChangeSpec := { name := "planeLooks", fn := fun _ => fun
  | [d1, d2] => { results := [.lit (.bool true)], args := [d1, d2] }
  | _ => none }
def planeLooksRow : OpenClaim := { program := "ytfhambfgjigneaa", sum := "075ca2341ff286fcb9a12f6a9e77fd087bf9d7f9a742ca800188fa873b88a61b", func := "unbent/unbentlaw02.PlaneLooks", spec := "planeLooks", apart := false }
def PlaneLooksSaid : Prop := planeLooksRow.holds Try.pinned (OpenSpec.ofChange planeLooksSpec)

/-- ITS FALSE NEIGHBOUR: 'it returns false'. Refute it at one input. -/
def planeLooksWrong : ChangeSpec := { name := "planeLooks", fn := fun _ => fun
  | [d1, d2] => { results := [.lit (.bool false)], args := [d1, d2] }
  | _ => none }
def PlaneLooksWrongFalsely : Prop := planeLooksRow.holds Try.pinned (OpenSpec.ofChange planeLooksWrong)

/-- 'unbentlaw02.PlaneJudges': WHATEVER THE INPUT: true; the input reads as it did. -/
def planeJudgesSpec : ChangeSpec := { name := "planeJudges", fn := fun _ => fun
  | [d1, d2] => { results := [.lit (.bool true)], args := [d1, d2] }
  | _ => none }
def planeJudgesRow : OpenClaim := { program := "ytfhambfgjigneaa", sum := "075ca2341ff286fcb9a12f6a9e77fd087bf9d7f9a742ca800188fa873b88a61b", func := "unbent/unbentlaw02.PlaneJudges", spec := "planeJudges", apart := false }
def PlaneJudgesSaid : Prop := planeJudgesRow.holds Try.pinned (OpenSpec.ofChange planeJudgesSpec)

/-- ITS FALSE NEIGHBOUR: 'it returns false'. Refute it at one input. -/
def planeJudgesWrong : ChangeSpec := { name := "planeJudges", fn := fun _ => fun
  | [d1, d2] => { results := [.lit (.bool false)], args := [d1, d2] }
  | _ => none }
def PlaneJudgesWrongFalsely : Prop := planeJudgesRow.holds Try.pinned (OpenSpec.ofChange planeJudgesWrong)

/-- 'unbentlaw02.PlaneSound': WHATEVER THE INPUT: true; the input reads as it did. -/
def planeSoundSpec : ChangeSpec := { name := "planeSound", fn := fun _ => fun
  | [d1, d2, d3] => { results := [.lit (.bool true)], args := [d1, d2, d3] }
  | _ => none }
def planeSoundRow : OpenClaim := { program := "ytfhambfgjigneaa", sum := "075ca2341ff286fcb9a12f6a9e77fd087bf9d7f9a742ca800188fa873b88a61b", func := "unbent/unbentlaw02.PlaneSound", spec := "planeSound", unfollowed := true, recurses := true, apart := false }
def PlaneSoundSaid : Prop := planeSoundRow.holds Try.pinned (OpenSpec.ofChange planeSoundSpec)

/-- ITS FALSE NEIGHBOUR: 'it returns false'. Refute it at one input. -/
def planeSoundWrong : ChangeSpec := { name := "planeSound", fn := fun _ => fun
  | [d1, d2, d3] => { results := [.lit (.bool false)], args := [d1, d2, d3] }
  | _ => none }
def PlaneSoundWrongFalsely : Prop := planeSoundRow.holds Try.pinned (OpenSpec.ofChange planeSoundWrong)

/-- 'unbentlaw02.PlaneEndless': WHATEVER THE INPUT: true; the input reads as it did. -/
def planeEndlessSpec : ChangeSpec := { name := "planeEndless", fn := fun _ => fun
  | [d1, d2, d3] => { results := [.lit (.bool true)], args := [d1, d2, d3] }
  | _ => none }
def planeEndlessRow : OpenClaim := { program := "ytfhambfgjigneaa", sum := "075ca2341ff286fcb9a12f6a9e77fd087bf9d7f9a742ca800188fa873b88a61b", func := "unbent/unbentlaw02.PlaneEndless", spec := "planeEndless", unfollowed := true, recurses := true, apart := false }
def PlaneEndlessSaid : Prop := planeEndlessRow.holds Try.pinned (OpenSpec.ofChange planeEndlessSpec)

/-- ITS FALSE NEIGHBOUR: 'it returns false'. Refute it at one input. -/
def planeEndlessWrong : ChangeSpec := { name := "planeEndless", fn := fun _ => fun
  | [d1, d2, d3] => { results := [.lit (.bool false)], args := [d1, d2, d3] }
  | _ => none }
def PlaneEndlessWrongFalsely : Prop := planeEndlessRow.holds Try.pinned (OpenSpec.ofChange planeEndlessWrong)

/-- 'unbentlaw02.PlaneBest': WHATEVER THE INPUT: true; the input reads as it did. -/
def planeBestSpec : ChangeSpec := { name := "planeBest", fn := fun _ => fun
  | [d1, d2] => { results := [.lit (.bool true)], args := [d1, d2] }
  | _ => none }
def planeBestRow : OpenClaim := { program := "ytfhambfgjigneaa", sum := "075ca2341ff286fcb9a12f6a9e77fd087bf9d7f9a742ca800188fa873b88a61b", func := "unbent/unbentlaw02.PlaneBest", spec := "planeBest", unfollowed := true, recurses := true, apart := false }
def PlaneBestSaid : Prop := planeBestRow.holds Try.pinned (OpenSpec.ofChange planeBestSpec)

/-- ITS FALSE NEIGHBOUR: 'it returns false'. Refute it at one input. -/
def planeBestWrong : ChangeSpec := { name := "planeBest", fn := fun _ => fun
  | [d1, d2] => { results := [.lit (.bool false)], args := [d1, d2] }
  | _ => none }
def PlaneBestWrongFalsely : Prop := planeBestRow.holds Try.pinned (OpenSpec.ofChange planeBestWrong)

/-- 'unbentlaw02.PlaneTreesSound': WHATEVER THE INPUT: true; the input reads as it did. -/
def planeTreesSoundSpec : ChangeSpec := { name := "planeTreesSound", fn := fun _ => fun
  | [d1, d2] => { results := [.lit (.bool true)], args := [d1, d2] }
  | _ => none }
def planeTreesSoundRow : OpenClaim := { program := "ytfhambfgjigneaa", sum := "075ca2341ff286fcb9a12f6a9e77fd087bf9d7f9a742ca800188fa873b88a61b", func := "unbent/unbentlaw02.PlaneTreesSound", spec := "planeTreesSound", unfollowed := true, recurses := true, apart := false }
def PlaneTreesSoundSaid : Prop := planeTreesSoundRow.holds Try.pinned (OpenSpec.ofChange planeTreesSoundSpec)

/-- ITS FALSE NEIGHBOUR: 'it returns false'. Refute it at one input. -/
def planeTreesSoundWrong : ChangeSpec := { name := "planeTreesSound", fn := fun _ => fun
  | [d1, d2] => { results := [.lit (.bool false)], args := [d1, d2] }
  | _ => none }
def PlaneTreesSoundWrongFalsely : Prop := planeTreesSoundRow.holds Try.pinned (OpenSpec.ofChange planeTreesSoundWrong)

/-- 'unbentlaw02.PlaneDuality': WHATEVER THE INPUT: true; the input reads as it did. -/
def planeDualitySpec : ChangeSpec := { name := "planeDuality", fn := fun _ => fun
  | [d] => { results := [.lit (.bool true)], args := [d] }
  | _ => none }
def planeDualityRow : OpenClaim := { program := "ytfhambfgjigneaa", sum := "075ca2341ff286fcb9a12f6a9e77fd087bf9d7f9a742ca800188fa873b88a61b", func := "unbent/unbentlaw02.PlaneDuality", spec := "planeDuality", unfollowed := true, recurses := true, apart := false }
def PlaneDualitySaid : Prop := planeDualityRow.holds Try.pinned (OpenSpec.ofChange planeDualitySpec)

/-- ITS FALSE NEIGHBOUR: 'it returns false'. Refute it at one input. -/
def planeDualityWrong : ChangeSpec := { name := "planeDuality", fn := fun _ => fun
  | [d] => { results := [.lit (.bool false)], args := [d] }
  | _ => none }
def PlaneDualityWrongFalsely : Prop := planeDualityRow.holds Try.pinned (OpenSpec.ofChange planeDualityWrong)

/- THE SECOND FORM. 'bulk': how many values and letters a reading holds, each counted each time it is reached (what is shared counts as often as it is met; a slice's spare places count too). A statement '..UptoSaid' is the law's where the arguments, and the package variables that the reading takes, are together of bulk at most 1048576: NARROWER than '..Said'. Prove '..Said' where nothing that the law and all that it calls make is longer than what came in: it says more and counts as full. Else prove '..UptoSaid'. A law counts once. -/
mutual
def uptoBulk {H : Type} : DataW H → Nat
  | .lit (.string bytes) => bytes.length + 1
  | .lit _ => 1
  | .nil => 1
  | .ptr d => uptoBulk d + 1
  | .slice elems spare => uptoBulkAll elems + uptoBulkAll spare + 1
  | .agg parts => uptoBulkAll parts + 1
  | .iface _ d => uptoBulk d + 1
  | .map entries => uptoBulkEntries entries + 1
  | .held _ => 1
def uptoBulkAll {H : Type} : List (DataW H) → Nat
  | [] => 0
  | d :: r => uptoBulk d + uptoBulkAll r
def uptoBulkEntries {H : Type} : List (Lit × DataW H) → Nat
  | [] => 0
  | x :: r => uptoBulkEntry x + uptoBulkEntries r
def uptoBulkEntry {H : Type} : Lit × DataW H → Nat
  | (.string bytes, d) => bytes.length + uptoBulk d + 1
  | (_, d) => uptoBulk d + 1
 end
def uptoSmall : (H : Type) → List (DataW H) → Bool := fun _ ds => decide (uptoBulkAll ds ≤ 1048576)
def OpenSpec.upto (s : _root_.Go.ChangeSpec) : _root_.Go.OpenSpec := { _root_.Go.OpenSpec.ofChange s with cond := some uptoSmall }

/-- 'unbentlaw02.PlaneForms', WHERE WHAT IT READS IS OF BULK AT MOST 1048576: true; the input reads as it did. -/
def planeFormsUptoRow : OpenClaim := { program := "ytfhambfgjigneaa", sum := "075ca2341ff286fcb9a12f6a9e77fd087bf9d7f9a742ca800188fa873b88a61b", func := "unbent/unbentlaw02.PlaneForms", spec := "planeForms", apart := false, narrowed := true }
def PlaneFormsUptoSaid : Prop := planeFormsUptoRow.holds Try.pinned (OpenSpec.upto planeFormsSpec)

/-- 'unbentlaw02.PlaneLooks', WHERE WHAT IT READS IS OF BULK AT MOST 1048576: true; the input reads as it did. -/
def planeLooksUptoRow : OpenClaim := { program := "ytfhambfgjigneaa", sum := "075ca2341ff286fcb9a12f6a9e77fd087bf9d7f9a742ca800188fa873b88a61b", func := "unbent/unbentlaw02.PlaneLooks", spec := "planeLooks", apart := false, narrowed := true }
def PlaneLooksUptoSaid : Prop := planeLooksUptoRow.holds Try.pinned (OpenSpec.upto planeLooksSpec)

/-- 'unbentlaw02.PlaneJudges', WHERE WHAT IT READS IS OF BULK AT MOST 1048576: true; the input reads as it did. -/
def planeJudgesUptoRow : OpenClaim := { program := "ytfhambfgjigneaa", sum := "075ca2341ff286fcb9a12f6a9e77fd087bf9d7f9a742ca800188fa873b88a61b", func := "unbent/unbentlaw02.PlaneJudges", spec := "planeJudges", apart := false, narrowed := true }
def PlaneJudgesUptoSaid : Prop := planeJudgesUptoRow.holds Try.pinned (OpenSpec.upto planeJudgesSpec)

/-- 'unbentlaw02.PlaneSound', WHERE WHAT IT READS IS OF BULK AT MOST 1048576: true; the input reads as it did. -/
def planeSoundUptoRow : OpenClaim := { program := "ytfhambfgjigneaa", sum := "075ca2341ff286fcb9a12f6a9e77fd087bf9d7f9a742ca800188fa873b88a61b", func := "unbent/unbentlaw02.PlaneSound", spec := "planeSound", unfollowed := true, recurses := true, apart := false, narrowed := true }
def PlaneSoundUptoSaid : Prop := planeSoundUptoRow.holds Try.pinned (OpenSpec.upto planeSoundSpec)

/-- 'unbentlaw02.PlaneEndless', WHERE WHAT IT READS IS OF BULK AT MOST 1048576: true; the input reads as it did. -/
def planeEndlessUptoRow : OpenClaim := { program := "ytfhambfgjigneaa", sum := "075ca2341ff286fcb9a12f6a9e77fd087bf9d7f9a742ca800188fa873b88a61b", func := "unbent/unbentlaw02.PlaneEndless", spec := "planeEndless", unfollowed := true, recurses := true, apart := false, narrowed := true }
def PlaneEndlessUptoSaid : Prop := planeEndlessUptoRow.holds Try.pinned (OpenSpec.upto planeEndlessSpec)

/-- 'unbentlaw02.PlaneBest', WHERE WHAT IT READS IS OF BULK AT MOST 1048576: true; the input reads as it did. -/
def planeBestUptoRow : OpenClaim := { program := "ytfhambfgjigneaa", sum := "075ca2341ff286fcb9a12f6a9e77fd087bf9d7f9a742ca800188fa873b88a61b", func := "unbent/unbentlaw02.PlaneBest", spec := "planeBest", unfollowed := true, recurses := true, apart := false, narrowed := true }
def PlaneBestUptoSaid : Prop := planeBestUptoRow.holds Try.pinned (OpenSpec.upto planeBestSpec)

/-- 'unbentlaw02.PlaneTreesSound', WHERE WHAT IT READS IS OF BULK AT MOST 1048576: true; the input reads as it did. -/
def planeTreesSoundUptoRow : OpenClaim := { program := "ytfhambfgjigneaa", sum := "075ca2341ff286fcb9a12f6a9e77fd087bf9d7f9a742ca800188fa873b88a61b", func := "unbent/unbentlaw02.PlaneTreesSound", spec := "planeTreesSound", unfollowed := true, recurses := true, apart := false, narrowed := true }
def PlaneTreesSoundUptoSaid : Prop := planeTreesSoundUptoRow.holds Try.pinned (OpenSpec.upto planeTreesSoundSpec)

/-- 'unbentlaw02.PlaneDuality', WHERE WHAT IT READS IS OF BULK AT MOST 1048576: true; the input reads as it did. -/
def planeDualityUptoRow : OpenClaim := { program := "ytfhambfgjigneaa", sum := "075ca2341ff286fcb9a12f6a9e77fd087bf9d7f9a742ca800188fa873b88a61b", func := "unbent/unbentlaw02.PlaneDuality", spec := "planeDuality", unfollowed := true, recurses := true, apart := false, narrowed := true }
def PlaneDualityUptoSaid : Prop := planeDualityUptoRow.holds Try.pinned (OpenSpec.upto planeDualitySpec)

end Rows
end Go.Proofs.Ytfhambfgjigneaa

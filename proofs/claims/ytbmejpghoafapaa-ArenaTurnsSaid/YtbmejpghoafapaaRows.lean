/-
  No cell of these rows narrows 'for every input' (looked for: loops, veiled, ifaces, maps, wideKeys, modest, calm, conditions, laid).
  DERIVED. THE GIVEN ROWS OF THIS SEAT. 9 by the template 'for every input the law returns true; each argument reads behind the call as it read before'; 0 by the template 'total and deterministic' (their statements: YtbmejpghoafapaaTotals.lean).
  GIVEN WITH THE SEED: the statements are not yours to turn. If you find one false, say at which input.
  Laid BY PROGRAM, IN A SANDBOX (cutbox-rows.mjs): the forced cells as the released guide's own fill.sh prints them over the translation ddcd7ccdc4db34c3… (all of the seat's roots in one cut). By AI agents, Wed Nov 11 2026. No macro, syntax, notation, axiom, sorry.
-/
import Derived.Test.YtbmejpghoafapaaChecked
import GoSem.Claim
import GoSem.ClaimJoined
import GoSem.ClaimMapViews
import Derived.JoinedTies
import Derived.KernelRfl
namespace Go.Proofs.Ytbmejpghoafapaa
/- THE CELL 'sum', in the pinned program and in every row, IS THE sha256 OF THE DUMP (.gsa) THAT YtbmejpghoafapaaProg.lean LOADS. Nothing in Lean hashes anything: it is a label: what it is worth is what the hold of that sum in a sandbox is worth. -/
noncomputable def Try.pinned : Pinned := { name := "ytbmejpghoafapaa", sum := "ddcd7ccdc4db34c3d7d2e5851a98bc3d4f30123a8c296ac2d1aa072f5552cc99", checked := Try.checked }
namespace Rows
def none {H : Type} : Left H := { results := [], args := [] }

/-- 'bolterlaw01.SetMakes': WHATEVER THE INPUT: true; the input reads as it did. -/
def setMakesSpec : ChangeSpec := { name := "setMakes", fn := fun _ => fun
  | [d1, d2, d3] => { results := [.lit (.bool true)], args := [d1, d2, d3] }
  | _ => none }
def setMakesRow : OpenClaim := { program := "ytbmejpghoafapaa", sum := "ddcd7ccdc4db34c3d7d2e5851a98bc3d4f30123a8c296ac2d1aa072f5552cc99", func := "bolter/bolterlaw01.SetMakes", spec := "setMakes", plainKeys := false, apart := false }
def SetMakesSaid : Prop := setMakesRow.holds Try.pinned (OpenSpec.ofChange setMakesSpec)

/-- ITS FALSE NEIGHBOUR: 'it returns false'. Refute it at one input. -/
def setMakesWrong : ChangeSpec := { name := "setMakes", fn := fun _ => fun
  | [d1, d2, d3] => { results := [.lit (.bool false)], args := [d1, d2, d3] }
  | _ => none }
def SetMakesWrongFalsely : Prop := setMakesRow.holds Try.pinned (OpenSpec.ofChange setMakesWrong)

/-- 'bolterlaw01.SetFolds': WHATEVER THE INPUT: true; the input reads as it did. -/
def setFoldsSpec : ChangeSpec := { name := "setFolds", fn := fun _ => fun
  | [d] => { results := [.lit (.bool true)], args := [d] }
  | _ => none }
def setFoldsRow : OpenClaim := { program := "ytbmejpghoafapaa", sum := "ddcd7ccdc4db34c3d7d2e5851a98bc3d4f30123a8c296ac2d1aa072f5552cc99", func := "bolter/bolterlaw01.SetFolds", spec := "setFolds", plainKeys := false, apart := false }
def SetFoldsSaid : Prop := setFoldsRow.holds Try.pinned (OpenSpec.ofChange setFoldsSpec)

/-- ITS FALSE NEIGHBOUR: 'it returns false'. Refute it at one input. -/
def setFoldsWrong : ChangeSpec := { name := "setFolds", fn := fun _ => fun
  | [d] => { results := [.lit (.bool false)], args := [d] }
  | _ => none }
def SetFoldsWrongFalsely : Prop := setFoldsRow.holds Try.pinned (OpenSpec.ofChange setFoldsWrong)

/-- 'bolterlaw01.SetOps': WHATEVER THE INPUT: true; the input reads as it did. -/
def setOpsSpec : ChangeSpec := { name := "setOps", fn := fun _ => fun
  | [d1, d2] => { results := [.lit (.bool true)], args := [d1, d2] }
  | _ => none }
def setOpsRow : OpenClaim := { program := "ytbmejpghoafapaa", sum := "ddcd7ccdc4db34c3d7d2e5851a98bc3d4f30123a8c296ac2d1aa072f5552cc99", func := "bolter/bolterlaw01.SetOps", spec := "setOps", plainKeys := false, apart := false }
def SetOpsSaid : Prop := setOpsRow.holds Try.pinned (OpenSpec.ofChange setOpsSpec)

/-- ITS FALSE NEIGHBOUR: 'it returns false'. Refute it at one input. -/
def setOpsWrong : ChangeSpec := { name := "setOps", fn := fun _ => fun
  | [d1, d2] => { results := [.lit (.bool false)], args := [d1, d2] }
  | _ => none }
def SetOpsWrongFalsely : Prop := setOpsRow.holds Try.pinned (OpenSpec.ofChange setOpsWrong)

/-- 'bolterlaw02.ClassesMake': WHATEVER THE INPUT: true; the input reads as it did. -/
def classesMakeSpec : ChangeSpec := { name := "classesMake", fn := fun _ => fun
  | [d] => { results := [.lit (.bool true)], args := [d] }
  | _ => none }
def classesMakeRow : OpenClaim := { program := "ytbmejpghoafapaa", sum := "ddcd7ccdc4db34c3d7d2e5851a98bc3d4f30123a8c296ac2d1aa072f5552cc99", func := "bolter/bolterlaw02.ClassesMake", spec := "classesMake", plainKeys := false, apart := false }
def ClassesMakeSaid : Prop := classesMakeRow.holds Try.pinned (OpenSpec.ofChange classesMakeSpec)

/-- ITS FALSE NEIGHBOUR: 'it returns false'. Refute it at one input. -/
def classesMakeWrong : ChangeSpec := { name := "classesMake", fn := fun _ => fun
  | [d] => { results := [.lit (.bool false)], args := [d] }
  | _ => none }
def ClassesMakeWrongFalsely : Prop := classesMakeRow.holds Try.pinned (OpenSpec.ofChange classesMakeWrong)

/-- 'bolterlaw02.ClassesRefine': WHATEVER THE INPUT: true; the input reads as it did. -/
def classesRefineSpec : ChangeSpec := { name := "classesRefine", fn := fun _ => fun
  | [d1, d2, d3] => { results := [.lit (.bool true)], args := [d1, d2, d3] }
  | _ => none }
def classesRefineRow : OpenClaim := { program := "ytbmejpghoafapaa", sum := "ddcd7ccdc4db34c3d7d2e5851a98bc3d4f30123a8c296ac2d1aa072f5552cc99", func := "bolter/bolterlaw02.ClassesRefine", spec := "classesRefine", plainKeys := false, apart := false }
def ClassesRefineSaid : Prop := classesRefineRow.holds Try.pinned (OpenSpec.ofChange classesRefineSpec)

/-- ITS FALSE NEIGHBOUR: 'it returns false'. Refute it at one input. -/
def classesRefineWrong : ChangeSpec := { name := "classesRefine", fn := fun _ => fun
  | [d1, d2, d3] => { results := [.lit (.bool false)], args := [d1, d2, d3] }
  | _ => none }
def ClassesRefineWrongFalsely : Prop := classesRefineRow.holds Try.pinned (OpenSpec.ofChange classesRefineWrong)

/-- 'bolterlaw09.ArenaPuts': WHATEVER THE INPUT: true; the input reads as it did. -/
def arenaPutsSpec : ChangeSpec := { name := "arenaPuts", fn := fun _ => fun
  | [d] => { results := [.lit (.bool true)], args := [d] }
  | _ => none }
def arenaPutsRow : OpenClaim := { program := "ytbmejpghoafapaa", sum := "ddcd7ccdc4db34c3d7d2e5851a98bc3d4f30123a8c296ac2d1aa072f5552cc99", func := "bolter/bolterlaw09.ArenaPuts", spec := "arenaPuts", unfollowed := true, recurses := true, plainKeys := false, apart := false }
def ArenaPutsSaid : Prop := arenaPutsRow.holds Try.pinned (OpenSpec.ofChange arenaPutsSpec)

/-- ITS FALSE NEIGHBOUR: 'it returns false'. Refute it at one input. -/
def arenaPutsWrong : ChangeSpec := { name := "arenaPuts", fn := fun _ => fun
  | [d] => { results := [.lit (.bool false)], args := [d] }
  | _ => none }
def ArenaPutsWrongFalsely : Prop := arenaPutsRow.holds Try.pinned (OpenSpec.ofChange arenaPutsWrong)

/-- 'bolterlaw09.ArenaTurns': WHATEVER THE INPUT: true; the input reads as it did. -/
def arenaTurnsSpec : ChangeSpec := { name := "arenaTurns", fn := fun _ => fun
  | [d1, d2, d3, d4] => { results := [.lit (.bool true)], args := [d1, d2, d3, d4] }
  | _ => none }
def arenaTurnsRow : OpenClaim := { program := "ytbmejpghoafapaa", sum := "ddcd7ccdc4db34c3d7d2e5851a98bc3d4f30123a8c296ac2d1aa072f5552cc99", func := "bolter/bolterlaw09.ArenaTurns", spec := "arenaTurns", unfollowed := true, recurses := true, plainKeys := false, apart := false }
def ArenaTurnsSaid : Prop := arenaTurnsRow.holds Try.pinned (OpenSpec.ofChange arenaTurnsSpec)

/-- ITS FALSE NEIGHBOUR: 'it returns false'. Refute it at one input. -/
def arenaTurnsWrong : ChangeSpec := { name := "arenaTurns", fn := fun _ => fun
  | [d1, d2, d3, d4] => { results := [.lit (.bool false)], args := [d1, d2, d3, d4] }
  | _ => none }
def ArenaTurnsWrongFalsely : Prop := arenaTurnsRow.holds Try.pinned (OpenSpec.ofChange arenaTurnsWrong)

/-- 'bolterlaw09.ArenaSets': WHATEVER THE INPUT: true; the input reads as it did. -/
def arenaSetsSpec : ChangeSpec := { name := "arenaSets", fn := fun _ => fun
  | [d1, d2] => { results := [.lit (.bool true)], args := [d1, d2] }
  | _ => none }
def arenaSetsRow : OpenClaim := { program := "ytbmejpghoafapaa", sum := "ddcd7ccdc4db34c3d7d2e5851a98bc3d4f30123a8c296ac2d1aa072f5552cc99", func := "bolter/bolterlaw09.ArenaSets", spec := "arenaSets", unfollowed := true, recurses := true, plainKeys := false, apart := false }
def ArenaSetsSaid : Prop := arenaSetsRow.holds Try.pinned (OpenSpec.ofChange arenaSetsSpec)

/-- ITS FALSE NEIGHBOUR: 'it returns false'. Refute it at one input. -/
def arenaSetsWrong : ChangeSpec := { name := "arenaSets", fn := fun _ => fun
  | [d1, d2] => { results := [.lit (.bool false)], args := [d1, d2] }
  | _ => none }
def ArenaSetsWrongFalsely : Prop := arenaSetsRow.holds Try.pinned (OpenSpec.ofChange arenaSetsWrong)

/-- 'bolterlaw09.ArenaNil': WHATEVER THE INPUT: true; the input reads as it did. -/
def arenaNilSpec : ChangeSpec := { name := "arenaNil", fn := fun _ => fun
  | [d1, d2] => { results := [.lit (.bool true)], args := [d1, d2] }
  | _ => none }
def arenaNilRow : OpenClaim := { program := "ytbmejpghoafapaa", sum := "ddcd7ccdc4db34c3d7d2e5851a98bc3d4f30123a8c296ac2d1aa072f5552cc99", func := "bolter/bolterlaw09.ArenaNil", spec := "arenaNil", unfollowed := true, recurses := true, plainKeys := false, apart := false }
def ArenaNilSaid : Prop := arenaNilRow.holds Try.pinned (OpenSpec.ofChange arenaNilSpec)

/-- ITS FALSE NEIGHBOUR: 'it returns false'. Refute it at one input. -/
def arenaNilWrong : ChangeSpec := { name := "arenaNil", fn := fun _ => fun
  | [d1, d2] => { results := [.lit (.bool false)], args := [d1, d2] }
  | _ => none }
def ArenaNilWrongFalsely : Prop := arenaNilRow.holds Try.pinned (OpenSpec.ofChange arenaNilWrong)

/- THE SECOND FORM. 'bulk': how many values and letters a reading holds, each counted each time it is reached (what is shared counts as often as it is met; a slice's spare places count too). A statement '..UptoSaid' is the law's where the arguments, and the package variables that the reading takes, are together of bulk at most 1048576: NARROWER than '..Said'. Prove '..Said' where nothing that the law and all that it calls make is longer than what came in: it says more and counts as full. Else prove '..UptoSaid'. A law counts once. -/
mutual
def uptoBulk {H : Type} : DataW H → Nat
  | .lit (.string bytes) => bytes.length + 1
  | .lit _ => 1
  | .nil => 1
  | .ptr d => uptoBulk d + 1
  | .slice elems spare => uptoBulkAll elems + uptoBulkAll spare + 1
  | .agg parts => uptoBulkAll parts + 1
  | .iface _ d => uptoBulk d + 1
  | .map entries => uptoBulkEntries entries + 1
  | .held _ => 1
def uptoBulkAll {H : Type} : List (DataW H) → Nat
  | [] => 0
  | d :: r => uptoBulk d + uptoBulkAll r
def uptoBulkEntries {H : Type} : List (Lit × DataW H) → Nat
  | [] => 0
  | x :: r => uptoBulkEntry x + uptoBulkEntries r
def uptoBulkEntry {H : Type} : Lit × DataW H → Nat
  | (.string bytes, d) => bytes.length + uptoBulk d + 1
  | (_, d) => uptoBulk d + 1
 end
def uptoSmall : (H : Type) → List (DataW H) → Bool := fun _ ds => decide (uptoBulkAll ds ≤ 1048576)
def OpenSpec.upto (s : _root_.Go.ChangeSpec) : _root_.Go.OpenSpec := { _root_.Go.OpenSpec.ofChange s with cond := some uptoSmall }

/-- 'bolterlaw01.SetMakes', WHERE WHAT IT READS IS OF BULK AT MOST 1048576: true; the input reads as it did. -/
def setMakesUptoRow : OpenClaim := { program := "ytbmejpghoafapaa", sum := "ddcd7ccdc4db34c3d7d2e5851a98bc3d4f30123a8c296ac2d1aa072f5552cc99", func := "bolter/bolterlaw01.SetMakes", spec := "setMakes", plainKeys := false, apart := false, narrowed := true }
def SetMakesUptoSaid : Prop := setMakesUptoRow.holds Try.pinned (OpenSpec.upto setMakesSpec)

/-- 'bolterlaw01.SetFolds', WHERE WHAT IT READS IS OF BULK AT MOST 1048576: true; the input reads as it did. -/
def setFoldsUptoRow : OpenClaim := { program := "ytbmejpghoafapaa", sum := "ddcd7ccdc4db34c3d7d2e5851a98bc3d4f30123a8c296ac2d1aa072f5552cc99", func := "bolter/bolterlaw01.SetFolds", spec := "setFolds", plainKeys := false, apart := false, narrowed := true }
def SetFoldsUptoSaid : Prop := setFoldsUptoRow.holds Try.pinned (OpenSpec.upto setFoldsSpec)

/-- 'bolterlaw01.SetOps', WHERE WHAT IT READS IS OF BULK AT MOST 1048576: true; the input reads as it did. -/
def setOpsUptoRow : OpenClaim := { program := "ytbmejpghoafapaa", sum := "ddcd7ccdc4db34c3d7d2e5851a98bc3d4f30123a8c296ac2d1aa072f5552cc99", func := "bolter/bolterlaw01.SetOps", spec := "setOps", plainKeys := false, apart := false, narrowed := true }
def SetOpsUptoSaid : Prop := setOpsUptoRow.holds Try.pinned (OpenSpec.upto setOpsSpec)

/-- 'bolterlaw02.ClassesMake', WHERE WHAT IT READS IS OF BULK AT MOST 1048576: true; the input reads as it did. -/
def classesMakeUptoRow : OpenClaim := { program := "ytbmejpghoafapaa", sum := "ddcd7ccdc4db34c3d7d2e5851a98bc3d4f30123a8c296ac2d1aa072f5552cc99", func := "bolter/bolterlaw02.ClassesMake", spec := "classesMake", plainKeys := false, apart := false, narrowed := true }
def ClassesMakeUptoSaid : Prop := classesMakeUptoRow.holds Try.pinned (OpenSpec.upto classesMakeSpec)

/-- 'bolterlaw02.ClassesRefine', WHERE WHAT IT READS IS OF BULK AT MOST 1048576: true; the input reads as it did. -/
def classesRefineUptoRow : OpenClaim := { program := "ytbmejpghoafapaa", sum := "ddcd7ccdc4db34c3d7d2e5851a98bc3d4f30123a8c296ac2d1aa072f5552cc99", func := "bolter/bolterlaw02.ClassesRefine", spec := "classesRefine", plainKeys := false, apart := false, narrowed := true }
def ClassesRefineUptoSaid : Prop := classesRefineUptoRow.holds Try.pinned (OpenSpec.upto classesRefineSpec)

/-- 'bolterlaw09.ArenaPuts', WHERE WHAT IT READS IS OF BULK AT MOST 1048576: true; the input reads as it did. -/
def arenaPutsUptoRow : OpenClaim := { program := "ytbmejpghoafapaa", sum := "ddcd7ccdc4db34c3d7d2e5851a98bc3d4f30123a8c296ac2d1aa072f5552cc99", func := "bolter/bolterlaw09.ArenaPuts", spec := "arenaPuts", unfollowed := true, recurses := true, plainKeys := false, apart := false, narrowed := true }
def ArenaPutsUptoSaid : Prop := arenaPutsUptoRow.holds Try.pinned (OpenSpec.upto arenaPutsSpec)

/-- 'bolterlaw09.ArenaTurns', WHERE WHAT IT READS IS OF BULK AT MOST 1048576: true; the input reads as it did. -/
def arenaTurnsUptoRow : OpenClaim := { program := "ytbmejpghoafapaa", sum := "ddcd7ccdc4db34c3d7d2e5851a98bc3d4f30123a8c296ac2d1aa072f5552cc99", func := "bolter/bolterlaw09.ArenaTurns", spec := "arenaTurns", unfollowed := true, recurses := true, plainKeys := false, apart := false, narrowed := true }
def ArenaTurnsUptoSaid : Prop := arenaTurnsUptoRow.holds Try.pinned (OpenSpec.upto arenaTurnsSpec)

/-- 'bolterlaw09.ArenaSets', WHERE WHAT IT READS IS OF BULK AT MOST 1048576: true; the input reads as it did. -/
def arenaSetsUptoRow : OpenClaim := { program := "ytbmejpghoafapaa", sum := "ddcd7ccdc4db34c3d7d2e5851a98bc3d4f30123a8c296ac2d1aa072f5552cc99", func := "bolter/bolterlaw09.ArenaSets", spec := "arenaSets", unfollowed := true, recurses := true, plainKeys := false, apart := false, narrowed := true }
def ArenaSetsUptoSaid : Prop := arenaSetsUptoRow.holds Try.pinned (OpenSpec.upto arenaSetsSpec)

/-- 'bolterlaw09.ArenaNil', WHERE WHAT IT READS IS OF BULK AT MOST 1048576: true; the input reads as it did. -/
def arenaNilUptoRow : OpenClaim := { program := "ytbmejpghoafapaa", sum := "ddcd7ccdc4db34c3d7d2e5851a98bc3d4f30123a8c296ac2d1aa072f5552cc99", func := "bolter/bolterlaw09.ArenaNil", spec := "arenaNil", unfollowed := true, recurses := true, plainKeys := false, apart := false, narrowed := true }
def ArenaNilUptoSaid : Prop := arenaNilUptoRow.holds Try.pinned (OpenSpec.upto arenaNilSpec)

end Rows
end Go.Proofs.Ytbmejpghoafapaa

/-
  No cell of these rows narrows 'for every input' (looked for: loops, veiled, ifaces, maps, wideKeys, modest, calm, conditions, laid).
  DERIVED. THE GIVEN ROWS OF THIS SEAT. 12 by the template 'for every input the law returns true; each argument reads behind the call as it read before'; 0 by the template 'total and deterministic' (their statements: YthcnngoaijgnoaaGreatTotals.lean).
  GIVEN WITH THE SEED: the statements are not yours to turn. If you find one false, say at which input.
  Laid BY PROGRAM, IN A SANDBOX (cutbox-rows.mjs): the forced cells as the released guide's own fill.sh prints them over the translation 55deb70ec4137ff2… (all of the seat's roots in one cut). By AI agents, Wed Nov 11 2026. No macro, syntax, notation, axiom, sorry.
-/
import Derived.Test.YthcnngoaijgnoaaGreatChecked
import GoSem.Claim
import GoSem.ClaimJoined
import GoSem.ClaimMapViews
import Derived.JoinedTies
import Derived.KernelRfl
namespace Go.Proofs.YthcnngoaijgnoaaGreat
/- THE CELL 'sum', in the pinned program and in every row, IS THE sha256 OF THE DUMP (.gsa) THAT YthcnngoaijgnoaaGreatProg.lean LOADS. Nothing in Lean hashes anything: it is a label: what it is worth is what the hold of that sum in a sandbox is worth. -/
noncomputable def Tryz.pinned : Pinned := { name := "ythcnngoaijgnoaagreat", sum := "55deb70ec4137ff2a658f86eb5f59cd53c6f335010257778aba332151cae782c", checked := Tryz.checked }
namespace Rows
def none {H : Type} : Left H := { results := [], args := [] }

/-- 'codendlaw09.MendRuns': WHATEVER THE INPUT: true; the input reads as it did. -/
def mendRunsSpec : ChangeSpec := { name := "mendRuns", fn := fun _ => fun
  | [d1, d2] => { results := [.lit (.bool true)], args := [d1, d2] }
  | _ => none }
def mendRunsRow : OpenClaim := { program := "ythcnngoaijgnoaagreat", sum := "55deb70ec4137ff2a658f86eb5f59cd53c6f335010257778aba332151cae782c", func := "codend/codendlaw09.MendRuns", spec := "mendRuns", unfollowed := true, recurses := true, plainKeys := false, apart := false }
def MendRunsSaid : Prop := mendRunsRow.holds Tryz.pinned (OpenSpec.ofChange mendRunsSpec)

/-- ITS FALSE NEIGHBOUR: 'it returns false'. Refute it at one input. -/
def mendRunsWrong : ChangeSpec := { name := "mendRuns", fn := fun _ => fun
  | [d1, d2] => { results := [.lit (.bool false)], args := [d1, d2] }
  | _ => none }
def MendRunsWrongFalsely : Prop := mendRunsRow.holds Tryz.pinned (OpenSpec.ofChange mendRunsWrong)

/-- 'codendlaw09.MendMirrors': WHATEVER THE INPUT: true; the input reads as it did. -/
def mendMirrorsSpec : ChangeSpec := { name := "mendMirrors", fn := fun _ => fun
  | [d] => { results := [.lit (.bool true)], args := [d] }
  | _ => none }
def mendMirrorsRow : OpenClaim := { program := "ythcnngoaijgnoaagreat", sum := "55deb70ec4137ff2a658f86eb5f59cd53c6f335010257778aba332151cae782c", func := "codend/codendlaw09.MendMirrors", spec := "mendMirrors", unfollowed := true, recurses := true, plainKeys := false, apart := false }
def MendMirrorsSaid : Prop := mendMirrorsRow.holds Tryz.pinned (OpenSpec.ofChange mendMirrorsSpec)

/-- ITS FALSE NEIGHBOUR: 'it returns false'. Refute it at one input. -/
def mendMirrorsWrong : ChangeSpec := { name := "mendMirrors", fn := fun _ => fun
  | [d] => { results := [.lit (.bool false)], args := [d] }
  | _ => none }
def MendMirrorsWrongFalsely : Prop := mendMirrorsRow.holds Tryz.pinned (OpenSpec.ofChange mendMirrorsWrong)

/-- 'codendlaw09.MendPatches': WHATEVER THE INPUT: true; the input reads as it did. -/
def mendPatchesSpec : ChangeSpec := { name := "mendPatches", fn := fun _ => fun
  | [d1, d2] => { results := [.lit (.bool true)], args := [d1, d2] }
  | _ => none }
def mendPatchesRow : OpenClaim := { program := "ythcnngoaijgnoaagreat", sum := "55deb70ec4137ff2a658f86eb5f59cd53c6f335010257778aba332151cae782c", func := "codend/codendlaw09.MendPatches", spec := "mendPatches", unfollowed := true, recurses := true, plainKeys := false, apart := false }
def MendPatchesSaid : Prop := mendPatchesRow.holds Tryz.pinned (OpenSpec.ofChange mendPatchesSpec)

/-- ITS FALSE NEIGHBOUR: 'it returns false'. Refute it at one input. -/
def mendPatchesWrong : ChangeSpec := { name := "mendPatches", fn := fun _ => fun
  | [d1, d2] => { results := [.lit (.bool false)], args := [d1, d2] }
  | _ => none }
def MendPatchesWrongFalsely : Prop := mendPatchesRow.holds Tryz.pinned (OpenSpec.ofChange mendPatchesWrong)

/-- 'codendlaw09.MendParity': WHATEVER THE INPUT: true; the input reads as it did. -/
def mendParitySpec : ChangeSpec := { name := "mendParity", fn := fun _ => fun
  | [d] => { results := [.lit (.bool true)], args := [d] }
  | _ => none }
def mendParityRow : OpenClaim := { program := "ythcnngoaijgnoaagreat", sum := "55deb70ec4137ff2a658f86eb5f59cd53c6f335010257778aba332151cae782c", func := "codend/codendlaw09.MendParity", spec := "mendParity", unfollowed := true, recurses := true, plainKeys := false, apart := false }
def MendParitySaid : Prop := mendParityRow.holds Tryz.pinned (OpenSpec.ofChange mendParitySpec)

/-- ITS FALSE NEIGHBOUR: 'it returns false'. Refute it at one input. -/
def mendParityWrong : ChangeSpec := { name := "mendParity", fn := fun _ => fun
  | [d] => { results := [.lit (.bool false)], args := [d] }
  | _ => none }
def MendParityWrongFalsely : Prop := mendParityRow.holds Tryz.pinned (OpenSpec.ofChange mendParityWrong)

/-- 'codendlaw09.MendFills': WHATEVER THE INPUT: true; the input reads as it did. -/
def mendFillsSpec : ChangeSpec := { name := "mendFills", fn := fun _ => fun
  | [d1, d2] => { results := [.lit (.bool true)], args := [d1, d2] }
  | _ => none }
def mendFillsRow : OpenClaim := { program := "ythcnngoaijgnoaagreat", sum := "55deb70ec4137ff2a658f86eb5f59cd53c6f335010257778aba332151cae782c", func := "codend/codendlaw09.MendFills", spec := "mendFills", unfollowed := true, recurses := true, plainKeys := false, apart := false }
def MendFillsSaid : Prop := mendFillsRow.holds Tryz.pinned (OpenSpec.ofChange mendFillsSpec)

/-- ITS FALSE NEIGHBOUR: 'it returns false'. Refute it at one input. -/
def mendFillsWrong : ChangeSpec := { name := "mendFills", fn := fun _ => fun
  | [d1, d2] => { results := [.lit (.bool false)], args := [d1, d2] }
  | _ => none }
def MendFillsWrongFalsely : Prop := mendFillsRow.holds Tryz.pinned (OpenSpec.ofChange mendFillsWrong)

/-- 'codendlaw09.MendTrims': WHATEVER THE INPUT: true; the input reads as it did. -/
def mendTrimsSpec : ChangeSpec := { name := "mendTrims", fn := fun _ => fun
  | [d1, d2, d3] => { results := [.lit (.bool true)], args := [d1, d2, d3] }
  | _ => none }
def mendTrimsRow : OpenClaim := { program := "ythcnngoaijgnoaagreat", sum := "55deb70ec4137ff2a658f86eb5f59cd53c6f335010257778aba332151cae782c", func := "codend/codendlaw09.MendTrims", spec := "mendTrims", unfollowed := true, recurses := true, plainKeys := false, apart := false }
def MendTrimsSaid : Prop := mendTrimsRow.holds Tryz.pinned (OpenSpec.ofChange mendTrimsSpec)

/-- ITS FALSE NEIGHBOUR: 'it returns false'. Refute it at one input. -/
def mendTrimsWrong : ChangeSpec := { name := "mendTrims", fn := fun _ => fun
  | [d1, d2, d3] => { results := [.lit (.bool false)], args := [d1, d2, d3] }
  | _ => none }
def MendTrimsWrongFalsely : Prop := mendTrimsRow.holds Tryz.pinned (OpenSpec.ofChange mendTrimsWrong)

/-- 'codendlaw09.MendHoles': WHATEVER THE INPUT: true; the input reads as it did. -/
def mendHolesSpec : ChangeSpec := { name := "mendHoles", fn := fun _ => fun
  | [d1, d2] => { results := [.lit (.bool true)], args := [d1, d2] }
  | _ => none }
def mendHolesRow : OpenClaim := { program := "ythcnngoaijgnoaagreat", sum := "55deb70ec4137ff2a658f86eb5f59cd53c6f335010257778aba332151cae782c", func := "codend/codendlaw09.MendHoles", spec := "mendHoles", unfollowed := true, recurses := true, plainKeys := false, apart := false }
def MendHolesSaid : Prop := mendHolesRow.holds Tryz.pinned (OpenSpec.ofChange mendHolesSpec)

/-- ITS FALSE NEIGHBOUR: 'it returns false'. Refute it at one input. -/
def mendHolesWrong : ChangeSpec := { name := "mendHoles", fn := fun _ => fun
  | [d1, d2] => { results := [.lit (.bool false)], args := [d1, d2] }
  | _ => none }
def MendHolesWrongFalsely : Prop := mendHolesRow.holds Tryz.pinned (OpenSpec.ofChange mendHolesWrong)

/-- 'codendlaw09.MendChecks': WHATEVER THE INPUT: true; the input reads as it did. -/
def mendChecksSpec : ChangeSpec := { name := "mendChecks", fn := fun _ => fun
  | [d1, d2, d3] => { results := [.lit (.bool true)], args := [d1, d2, d3] }
  | _ => none }
def mendChecksRow : OpenClaim := { program := "ythcnngoaijgnoaagreat", sum := "55deb70ec4137ff2a658f86eb5f59cd53c6f335010257778aba332151cae782c", func := "codend/codendlaw09.MendChecks", spec := "mendChecks", unfollowed := true, recurses := true, plainKeys := false, apart := false }
def MendChecksSaid : Prop := mendChecksRow.holds Tryz.pinned (OpenSpec.ofChange mendChecksSpec)

/-- ITS FALSE NEIGHBOUR: 'it returns false'. Refute it at one input. -/
def mendChecksWrong : ChangeSpec := { name := "mendChecks", fn := fun _ => fun
  | [d1, d2, d3] => { results := [.lit (.bool false)], args := [d1, d2, d3] }
  | _ => none }
def MendChecksWrongFalsely : Prop := mendChecksRow.holds Tryz.pinned (OpenSpec.ofChange mendChecksWrong)

/-- 'codendlaw09.MendBackwards': WHATEVER THE INPUT: true; the input reads as it did. -/
def mendBackwardsSpec : ChangeSpec := { name := "mendBackwards", fn := fun _ => fun
  | [d] => { results := [.lit (.bool true)], args := [d] }
  | _ => none }
def mendBackwardsRow : OpenClaim := { program := "ythcnngoaijgnoaagreat", sum := "55deb70ec4137ff2a658f86eb5f59cd53c6f335010257778aba332151cae782c", func := "codend/codendlaw09.MendBackwards", spec := "mendBackwards", unfollowed := true, recurses := true, plainKeys := false, apart := false }
def MendBackwardsSaid : Prop := mendBackwardsRow.holds Tryz.pinned (OpenSpec.ofChange mendBackwardsSpec)

/-- ITS FALSE NEIGHBOUR: 'it returns false'. Refute it at one input. -/
def mendBackwardsWrong : ChangeSpec := { name := "mendBackwards", fn := fun _ => fun
  | [d] => { results := [.lit (.bool false)], args := [d] }
  | _ => none }
def MendBackwardsWrongFalsely : Prop := mendBackwardsRow.holds Tryz.pinned (OpenSpec.ofChange mendBackwardsWrong)

/-- 'codendlaw09.MendRestores': WHATEVER THE INPUT: true; the input reads as it did. -/
def mendRestoresSpec : ChangeSpec := { name := "mendRestores", fn := fun _ => fun
  | [d] => { results := [.lit (.bool true)], args := [d] }
  | _ => none }
def mendRestoresRow : OpenClaim := { program := "ythcnngoaijgnoaagreat", sum := "55deb70ec4137ff2a658f86eb5f59cd53c6f335010257778aba332151cae782c", func := "codend/codendlaw09.MendRestores", spec := "mendRestores", unfollowed := true, recurses := true, plainKeys := false, apart := false }
def MendRestoresSaid : Prop := mendRestoresRow.holds Tryz.pinned (OpenSpec.ofChange mendRestoresSpec)

/-- ITS FALSE NEIGHBOUR: 'it returns false'. Refute it at one input. -/
def mendRestoresWrong : ChangeSpec := { name := "mendRestores", fn := fun _ => fun
  | [d] => { results := [.lit (.bool false)], args := [d] }
  | _ => none }
def MendRestoresWrongFalsely : Prop := mendRestoresRow.holds Tryz.pinned (OpenSpec.ofChange mendRestoresWrong)

/-- 'codendlaw09.MendRules': WHATEVER THE INPUT: true; the input reads as it did. -/
def mendRulesSpec : ChangeSpec := { name := "mendRules", fn := fun _ => fun
  | [d] => { results := [.lit (.bool true)], args := [d] }
  | _ => none }
def mendRulesRow : OpenClaim := { program := "ythcnngoaijgnoaagreat", sum := "55deb70ec4137ff2a658f86eb5f59cd53c6f335010257778aba332151cae782c", func := "codend/codendlaw09.MendRules", spec := "mendRules", unfollowed := true, recurses := true, plainKeys := false, apart := false }
def MendRulesSaid : Prop := mendRulesRow.holds Tryz.pinned (OpenSpec.ofChange mendRulesSpec)

/-- ITS FALSE NEIGHBOUR: 'it returns false'. Refute it at one input. -/
def mendRulesWrong : ChangeSpec := { name := "mendRules", fn := fun _ => fun
  | [d] => { results := [.lit (.bool false)], args := [d] }
  | _ => none }
def MendRulesWrongFalsely : Prop := mendRulesRow.holds Tryz.pinned (OpenSpec.ofChange mendRulesWrong)

/-- 'codendlaw09.MendLeast': WHATEVER THE INPUT: true; the input reads as it did. -/
def mendLeastSpec : ChangeSpec := { name := "mendLeast", fn := fun _ => fun
  | [d] => { results := [.lit (.bool true)], args := [d] }
  | _ => none }
def mendLeastRow : OpenClaim := { program := "ythcnngoaijgnoaagreat", sum := "55deb70ec4137ff2a658f86eb5f59cd53c6f335010257778aba332151cae782c", func := "codend/codendlaw09.MendLeast", spec := "mendLeast", unfollowed := true, recurses := true, plainKeys := false, apart := false }
def MendLeastSaid : Prop := mendLeastRow.holds Tryz.pinned (OpenSpec.ofChange mendLeastSpec)

/-- ITS FALSE NEIGHBOUR: 'it returns false'. Refute it at one input. -/
def mendLeastWrong : ChangeSpec := { name := "mendLeast", fn := fun _ => fun
  | [d] => { results := [.lit (.bool false)], args := [d] }
  | _ => none }
def MendLeastWrongFalsely : Prop := mendLeastRow.holds Tryz.pinned (OpenSpec.ofChange mendLeastWrong)

/- THE SECOND FORM. 'bulk': how many values and letters a reading holds, each counted each time it is reached (what is shared counts as often as it is met; a slice's spare places count too). A statement '..UptoSaid' is the law's where the arguments, and the package variables that the reading takes, are together of bulk at most 1048576: NARROWER than '..Said'. Prove '..Said' where nothing that the law and all that it calls make is longer than what came in: it says more and counts as full. Else prove '..UptoSaid'. A law counts once. -/
mutual
def uptoBulk {H : Type} : DataW H → Nat
  | .lit (.string bytes) => bytes.length + 1
  | .lit _ => 1
  | .nil => 1
  | .ptr d => uptoBulk d + 1
  | .slice elems spare => uptoBulkAll elems + uptoBulkAll spare + 1
  | .agg parts => uptoBulkAll parts + 1
  | .iface _ d => uptoBulk d + 1
  | .map entries => uptoBulkEntries entries + 1
  | .held _ => 1
def uptoBulkAll {H : Type} : List (DataW H) → Nat
  | [] => 0
  | d :: r => uptoBulk d + uptoBulkAll r
def uptoBulkEntries {H : Type} : List (Lit × DataW H) → Nat
  | [] => 0
  | x :: r => uptoBulkEntry x + uptoBulkEntries r
def uptoBulkEntry {H : Type} : Lit × DataW H → Nat
  | (.string bytes, d) => bytes.length + uptoBulk d + 1
  | (_, d) => uptoBulk d + 1
 end
def uptoSmall : (H : Type) → List (DataW H) → Bool := fun _ ds => decide (uptoBulkAll ds ≤ 1048576)
def OpenSpec.upto (s : _root_.Go.ChangeSpec) : _root_.Go.OpenSpec := { _root_.Go.OpenSpec.ofChange s with cond := some uptoSmall }

/-- 'codendlaw09.MendRuns', WHERE WHAT IT READS IS OF BULK AT MOST 1048576: true; the input reads as it did. -/
def mendRunsUptoRow : OpenClaim := { program := "ythcnngoaijgnoaagreat", sum := "55deb70ec4137ff2a658f86eb5f59cd53c6f335010257778aba332151cae782c", func := "codend/codendlaw09.MendRuns", spec := "mendRuns", unfollowed := true, recurses := true, plainKeys := false, apart := false, narrowed := true }
def MendRunsUptoSaid : Prop := mendRunsUptoRow.holds Tryz.pinned (OpenSpec.upto mendRunsSpec)

/-- 'codendlaw09.MendMirrors', WHERE WHAT IT READS IS OF BULK AT MOST 1048576: true; the input reads as it did. -/
def mendMirrorsUptoRow : OpenClaim := { program := "ythcnngoaijgnoaagreat", sum := "55deb70ec4137ff2a658f86eb5f59cd53c6f335010257778aba332151cae782c", func := "codend/codendlaw09.MendMirrors", spec := "mendMirrors", unfollowed := true, recurses := true, plainKeys := false, apart := false, narrowed := true }
def MendMirrorsUptoSaid : Prop := mendMirrorsUptoRow.holds Tryz.pinned (OpenSpec.upto mendMirrorsSpec)

/-- 'codendlaw09.MendPatches', WHERE WHAT IT READS IS OF BULK AT MOST 1048576: true; the input reads as it did. -/
def mendPatchesUptoRow : OpenClaim := { program := "ythcnngoaijgnoaagreat", sum := "55deb70ec4137ff2a658f86eb5f59cd53c6f335010257778aba332151cae782c", func := "codend/codendlaw09.MendPatches", spec := "mendPatches", unfollowed := true, recurses := true, plainKeys := false, apart := false, narrowed := true }
def MendPatchesUptoSaid : Prop := mendPatchesUptoRow.holds Tryz.pinned (OpenSpec.upto mendPatchesSpec)

/-- 'codendlaw09.MendParity', WHERE WHAT IT READS IS OF BULK AT MOST 1048576: true; the input reads as it did. -/
def mendParityUptoRow : OpenClaim := { program := "ythcnngoaijgnoaagreat", sum := "55deb70ec4137ff2a658f86eb5f59cd53c6f335010257778aba332151cae782c", func := "codend/codendlaw09.MendParity", spec := "mendParity", unfollowed := true, recurses := true, plainKeys := false, apart := false, narrowed := true }
def MendParityUptoSaid : Prop := mendParityUptoRow.holds Tryz.pinned (OpenSpec.upto mendParitySpec)

/-- 'codendlaw09.MendFills', WHERE WHAT IT READS IS OF BULK AT MOST 1048576: true; the input reads as it did. -/
def mendFillsUptoRow : OpenClaim := { program := "ythcnngoaijgnoaagreat", sum := "55deb70ec4137ff2a658f86eb5f59cd53c6f335010257778aba332151cae782c", func := "codend/codendlaw09.MendFills", spec := "mendFills", unfollowed := true, recurses := true, plainKeys := false, apart := false, narrowed := true }
def MendFillsUptoSaid : Prop := mendFillsUptoRow.holds Tryz.pinned (OpenSpec.upto mendFillsSpec)

/-- 'codendlaw09.MendTrims', WHERE WHAT IT READS IS OF BULK AT MOST 1048576: true; the input reads as it did. -/
def mendTrimsUptoRow : OpenClaim := { program := "ythcnngoaijgnoaagreat", sum := "55deb70ec4137ff2a658f86eb5f59cd53c6f335010257778aba332151cae782c", func := "codend/codendlaw09.MendTrims", spec := "mendTrims", unfollowed := true, recurses := true, plainKeys := false, apart := false, narrowed := true }
def MendTrimsUptoSaid : Prop := mendTrimsUptoRow.holds Tryz.pinned (OpenSpec.upto mendTrimsSpec)

/-- 'codendlaw09.MendHoles', WHERE WHAT IT READS IS OF BULK AT MOST 1048576: true; the input reads as it did. -/
def mendHolesUptoRow : OpenClaim := { program := "ythcnngoaijgnoaagreat", sum := "55deb70ec4137ff2a658f86eb5f59cd53c6f335010257778aba332151cae782c", func := "codend/codendlaw09.MendHoles", spec := "mendHoles", unfollowed := true, recurses := true, plainKeys := false, apart := false, narrowed := true }
def MendHolesUptoSaid : Prop := mendHolesUptoRow.holds Tryz.pinned (OpenSpec.upto mendHolesSpec)

/-- 'codendlaw09.MendChecks', WHERE WHAT IT READS IS OF BULK AT MOST 1048576: true; the input reads as it did. -/
def mendChecksUptoRow : OpenClaim := { program := "ythcnngoaijgnoaagreat", sum := "55deb70ec4137ff2a658f86eb5f59cd53c6f335010257778aba332151cae782c", func := "codend/codendlaw09.MendChecks", spec := "mendChecks", unfollowed := true, recurses := true, plainKeys := false, apart := false, narrowed := true }
def MendChecksUptoSaid : Prop := mendChecksUptoRow.holds Tryz.pinned (OpenSpec.upto mendChecksSpec)

/-- 'codendlaw09.MendBackwards', WHERE WHAT IT READS IS OF BULK AT MOST 1048576: true; the input reads as it did. -/
def mendBackwardsUptoRow : OpenClaim := { program := "ythcnngoaijgnoaagreat", sum := "55deb70ec4137ff2a658f86eb5f59cd53c6f335010257778aba332151cae782c", func := "codend/codendlaw09.MendBackwards", spec := "mendBackwards", unfollowed := true, recurses := true, plainKeys := false, apart := false, narrowed := true }
def MendBackwardsUptoSaid : Prop := mendBackwardsUptoRow.holds Tryz.pinned (OpenSpec.upto mendBackwardsSpec)

/-- 'codendlaw09.MendRestores', WHERE WHAT IT READS IS OF BULK AT MOST 1048576: true; the input reads as it did. -/
def mendRestoresUptoRow : OpenClaim := { program := "ythcnngoaijgnoaagreat", sum := "55deb70ec4137ff2a658f86eb5f59cd53c6f335010257778aba332151cae782c", func := "codend/codendlaw09.MendRestores", spec := "mendRestores", unfollowed := true, recurses := true, plainKeys := false, apart := false, narrowed := true }
def MendRestoresUptoSaid : Prop := mendRestoresUptoRow.holds Tryz.pinned (OpenSpec.upto mendRestoresSpec)

/-- 'codendlaw09.MendRules', WHERE WHAT IT READS IS OF BULK AT MOST 1048576: true; the input reads as it did. -/
def mendRulesUptoRow : OpenClaim := { program := "ythcnngoaijgnoaagreat", sum := "55deb70ec4137ff2a658f86eb5f59cd53c6f335010257778aba332151cae782c", func := "codend/codendlaw09.MendRules", spec := "mendRules", unfollowed := true, recurses := true, plainKeys := false, apart := false, narrowed := true }
def MendRulesUptoSaid : Prop := mendRulesUptoRow.holds Tryz.pinned (OpenSpec.upto mendRulesSpec)

/-- 'codendlaw09.MendLeast', WHERE WHAT IT READS IS OF BULK AT MOST 1048576: true; the input reads as it did. -/
def mendLeastUptoRow : OpenClaim := { program := "ythcnngoaijgnoaagreat", sum := "55deb70ec4137ff2a658f86eb5f59cd53c6f335010257778aba332151cae782c", func := "codend/codendlaw09.MendLeast", spec := "mendLeast", unfollowed := true, recurses := true, plainKeys := false, apart := false, narrowed := true }
def MendLeastUptoSaid : Prop := mendLeastUptoRow.holds Tryz.pinned (OpenSpec.upto mendLeastSpec)

end Rows
end Go.Proofs.YthcnngoaijgnoaaGreat

/-
  No cell of these rows narrows 'for every input' (looked for: loops, veiled, ifaces, maps, wideKeys, modest, calm, conditions, laid).
  DERIVED. THE GIVEN ROWS OF THIS SEAT. 3 by the template 'for every input the law returns true; each argument reads behind the call as it read before'; 0 by the template 'total and deterministic' (their statements: YteccdnejnbkbiaaGreatTotals.lean).
  GIVEN WITH THE SEED: the statements are not yours to turn. If you find one false, say at which input.
  Laid BY PROGRAM, IN A SANDBOX (cutbox-rows.mjs): the forced cells as the released guide's own fill.sh prints them over the translation da5490f1ae82ecd7… (all of the seat's roots in one cut). By AI agents, Wed Nov 11 2026. No macro, syntax, notation, axiom, sorry.
-/
import Derived.Test.YteccdnejnbkbiaaGreatChecked
import GoSem.Claim
import GoSem.ClaimJoined
import GoSem.ClaimMapViews
import Derived.JoinedTies
import Derived.KernelRfl
namespace Go.Proofs.YteccdnejnbkbiaaGreat
/- THE CELL 'sum', in the pinned program and in every row, IS THE sha256 OF THE DUMP (.gsa) THAT YteccdnejnbkbiaaGreatProg.lean LOADS. Nothing in Lean hashes anything: it is a label: what it is worth is what the hold of that sum in a sandbox is worth. -/
noncomputable def Tryz.pinned : Pinned := { name := "yteccdnejnbkbiaagreat", sum := "da5490f1ae82ecd70ccb2d56808365a4227d537b14a5eeae6dd5f5c9af00d14c", checked := Tryz.checked }
namespace Rows
def none {H : Type} : Left H := { results := [], args := [] }

/-- 'souterrainlaw15.LogDrops': WHATEVER THE INPUT: true; the input reads as it did. -/
def logDropsSpec : ChangeSpec := { name := "logDrops", fn := fun _ => fun
  | [d1, d2, d3] => { results := [.lit (.bool true)], args := [d1, d2, d3] }
  | _ => none }
def logDropsRow : OpenClaim := { program := "yteccdnejnbkbiaagreat", sum := "da5490f1ae82ecd70ccb2d56808365a4227d537b14a5eeae6dd5f5c9af00d14c", func := "souterrain/souterrainlaw15.LogDrops", spec := "logDrops", inPlace := ["maps.clone", "internal/bytealg.abigen_runtime_cmpstring"], unfollowed := true, recurses := true, apart := false }
def LogDropsSaid : Prop := logDropsRow.holds Tryz.pinned (OpenSpec.ofChange logDropsSpec)

/-- ITS FALSE NEIGHBOUR: 'it returns false'. Refute it at one input. -/
def logDropsWrong : ChangeSpec := { name := "logDrops", fn := fun _ => fun
  | [d1, d2, d3] => { results := [.lit (.bool false)], args := [d1, d2, d3] }
  | _ => none }
def LogDropsWrongFalsely : Prop := logDropsRow.holds Tryz.pinned (OpenSpec.ofChange logDropsWrong)

/-- 'souterrainlaw15.LogRolls': WHATEVER THE INPUT: true; the input reads as it did. -/
def logRollsSpec : ChangeSpec := { name := "logRolls", fn := fun _ => fun
  | [d1, d2] => { results := [.lit (.bool true)], args := [d1, d2] }
  | _ => none }
def logRollsRow : OpenClaim := { program := "yteccdnejnbkbiaagreat", sum := "da5490f1ae82ecd70ccb2d56808365a4227d537b14a5eeae6dd5f5c9af00d14c", func := "souterrain/souterrainlaw15.LogRolls", spec := "logRolls", inPlace := ["maps.clone", "internal/bytealg.abigen_runtime_cmpstring"], unfollowed := true, recurses := true, apart := false }
def LogRollsSaid : Prop := logRollsRow.holds Tryz.pinned (OpenSpec.ofChange logRollsSpec)

/-- ITS FALSE NEIGHBOUR: 'it returns false'. Refute it at one input. -/
def logRollsWrong : ChangeSpec := { name := "logRolls", fn := fun _ => fun
  | [d1, d2] => { results := [.lit (.bool false)], args := [d1, d2] }
  | _ => none }
def LogRollsWrongFalsely : Prop := logRollsRow.holds Tryz.pinned (OpenSpec.ofChange logRollsWrong)

/-- 'souterrainlaw15.LogGets': WHATEVER THE INPUT: true; the input reads as it did. -/
def logGetsSpec : ChangeSpec := { name := "logGets", fn := fun _ => fun
  | [d1, d2, d3] => { results := [.lit (.bool true)], args := [d1, d2, d3] }
  | _ => none }
def logGetsRow : OpenClaim := { program := "yteccdnejnbkbiaagreat", sum := "da5490f1ae82ecd70ccb2d56808365a4227d537b14a5eeae6dd5f5c9af00d14c", func := "souterrain/souterrainlaw15.LogGets", spec := "logGets", inPlace := ["maps.clone", "internal/bytealg.abigen_runtime_cmpstring"], unfollowed := true, recurses := true, apart := false }
def LogGetsSaid : Prop := logGetsRow.holds Tryz.pinned (OpenSpec.ofChange logGetsSpec)

/-- ITS FALSE NEIGHBOUR: 'it returns false'. Refute it at one input. -/
def logGetsWrong : ChangeSpec := { name := "logGets", fn := fun _ => fun
  | [d1, d2, d3] => { results := [.lit (.bool false)], args := [d1, d2, d3] }
  | _ => none }
def LogGetsWrongFalsely : Prop := logGetsRow.holds Tryz.pinned (OpenSpec.ofChange logGetsWrong)

/- THE SECOND FORM. 'bulk': how many values and letters a reading holds, each counted each time it is reached (what is shared counts as often as it is met; a slice's spare places count too). A statement '..UptoSaid' is the law's where the arguments, and the package variables that the reading takes, are together of bulk at most 1048576: NARROWER than '..Said'. Prove '..Said' where nothing that the law and all that it calls make is longer than what came in: it says more and counts as full. Else prove '..UptoSaid'. A law counts once. -/
mutual
def uptoBulk {H : Type} : DataW H → Nat
  | .lit (.string bytes) => bytes.length + 1
  | .lit _ => 1
  | .nil => 1
  | .ptr d => uptoBulk d + 1
  | .slice elems spare => uptoBulkAll elems + uptoBulkAll spare + 1
  | .agg parts => uptoBulkAll parts + 1
  | .iface _ d => uptoBulk d + 1
  | .map entries => uptoBulkEntries entries + 1
  | .held _ => 1
def uptoBulkAll {H : Type} : List (DataW H) → Nat
  | [] => 0
  | d :: r => uptoBulk d + uptoBulkAll r
def uptoBulkEntries {H : Type} : List (Lit × DataW H) → Nat
  | [] => 0
  | x :: r => uptoBulkEntry x + uptoBulkEntries r
def uptoBulkEntry {H : Type} : Lit × DataW H → Nat
  | (.string bytes, d) => bytes.length + uptoBulk d + 1
  | (_, d) => uptoBulk d + 1
 end
def uptoSmall : (H : Type) → List (DataW H) → Bool := fun _ ds => decide (uptoBulkAll ds ≤ 1048576)
def OpenSpec.upto (s : _root_.Go.ChangeSpec) : _root_.Go.OpenSpec := { _root_.Go.OpenSpec.ofChange s with cond := some uptoSmall }

/-- 'souterrainlaw15.LogDrops', WHERE WHAT IT READS IS OF BULK AT MOST 1048576: true; the input reads as it did. -/
def logDropsUptoRow : OpenClaim := { program := "yteccdnejnbkbiaagreat", sum := "da5490f1ae82ecd70ccb2d56808365a4227d537b14a5eeae6dd5f5c9af00d14c", func := "souterrain/souterrainlaw15.LogDrops", spec := "logDrops", inPlace := ["maps.clone", "internal/bytealg.abigen_runtime_cmpstring"], unfollowed := true, recurses := true, apart := false, narrowed := true }
def LogDropsUptoSaid : Prop := logDropsUptoRow.holds Tryz.pinned (OpenSpec.upto logDropsSpec)

/-- 'souterrainlaw15.LogRolls', WHERE WHAT IT READS IS OF BULK AT MOST 1048576: true; the input reads as it did. -/
def logRollsUptoRow : OpenClaim := { program := "yteccdnejnbkbiaagreat", sum := "da5490f1ae82ecd70ccb2d56808365a4227d537b14a5eeae6dd5f5c9af00d14c", func := "souterrain/souterrainlaw15.LogRolls", spec := "logRolls", inPlace := ["maps.clone", "internal/bytealg.abigen_runtime_cmpstring"], unfollowed := true, recurses := true, apart := false, narrowed := true }
def LogRollsUptoSaid : Prop := logRollsUptoRow.holds Tryz.pinned (OpenSpec.upto logRollsSpec)

/-- 'souterrainlaw15.LogGets', WHERE WHAT IT READS IS OF BULK AT MOST 1048576: true; the input reads as it did. -/
def logGetsUptoRow : OpenClaim := { program := "yteccdnejnbkbiaagreat", sum := "da5490f1ae82ecd70ccb2d56808365a4227d537b14a5eeae6dd5f5c9af00d14c", func := "souterrain/souterrainlaw15.LogGets", spec := "logGets", inPlace := ["maps.clone", "internal/bytealg.abigen_runtime_cmpstring"], unfollowed := true, recurses := true, apart := false, narrowed := true }
def LogGetsUptoSaid : Prop := logGetsUptoRow.holds Tryz.pinned (OpenSpec.upto logGetsSpec)

end Rows
end Go.Proofs.YteccdnejnbkbiaaGreat

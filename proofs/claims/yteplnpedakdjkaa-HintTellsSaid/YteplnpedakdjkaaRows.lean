/-
  No cell of these rows narrows 'for every input' (looked for: loops, veiled, ifaces, maps, wideKeys, modest, calm, conditions, laid).
  DERIVED. THE GIVEN ROWS OF THIS SEAT. 6 by the template 'for every input the law returns true; each argument reads behind the call as it read before'; 0 by the template 'total and deterministic' (their statements: YteplnpedakdjkaaTotals.lean).
  GIVEN WITH THE SEED: the statements are not yours to turn. If you find one false, say at which input.
  Laid BY PROGRAM, IN A SANDBOX (cutbox-rows.mjs): the forced cells as the released guide's own fill.sh prints them over the translation a4bc7f45ff787d13… (all of the seat's roots in one cut). By AI agents, Wed Nov 11 2026. No macro, syntax, notation, axiom, sorry.
-/
import Derived.Test.YteplnpedakdjkaaChecked
import GoSem.Claim
import GoSem.ClaimJoined
import GoSem.ClaimMapViews
import Derived.JoinedTies
import Derived.KernelRfl
namespace Go.Proofs.Yteplnpedakdjkaa
/- THE CELL 'sum', in the pinned program and in every row, IS THE sha256 OF THE DUMP (.gsa) THAT YteplnpedakdjkaaProg.lean LOADS. Nothing in Lean hashes anything: it is a label: what it is worth is what the hold of that sum in a sandbox is worth. -/
noncomputable def Try.pinned : Pinned := { name := "yteplnpedakdjkaa", sum := "a4bc7f45ff787d1319a2dc67ab07082e5afe9cbe4f17e37578ebd60851f580f8", checked := Try.checked }
namespace Rows
def none {H : Type} : Left H := { results := [], args := [] }

/-- 'souterrainlaw11.HintTells': WHATEVER THE INPUT: true; the input reads as it did. -/
def hintTellsSpec : ChangeSpec := { name := "hintTells", fn := fun _ => fun
  | [d1, d2, d3, d4] => { results := [.lit (.bool true)], args := [d1, d2, d3, d4] }
  | _ => none }
def hintTellsRow : OpenClaim := { program := "yteplnpedakdjkaa", sum := "a4bc7f45ff787d1319a2dc67ab07082e5afe9cbe4f17e37578ebd60851f580f8", func := "souterrain/souterrainlaw11.HintTells", spec := "hintTells", inPlace := ["internal/bytealg.abigen_runtime_cmpstring"], unfollowed := true, recurses := true, apart := false }
def HintTellsSaid : Prop := hintTellsRow.holds Try.pinned (OpenSpec.ofChange hintTellsSpec)

/-- ITS FALSE NEIGHBOUR: 'it returns false'. Refute it at one input. -/
def hintTellsWrong : ChangeSpec := { name := "hintTells", fn := fun _ => fun
  | [d1, d2, d3, d4] => { results := [.lit (.bool false)], args := [d1, d2, d3, d4] }
  | _ => none }
def HintTellsWrongFalsely : Prop := hintTellsRow.holds Try.pinned (OpenSpec.ofChange hintTellsWrong)

/-- 'souterrainlaw11.HintBack': WHATEVER THE INPUT: true; the input reads as it did. -/
def hintBackSpec : ChangeSpec := { name := "hintBack", fn := fun _ => fun
  | [d1, d2, d3, d4] => { results := [.lit (.bool true)], args := [d1, d2, d3, d4] }
  | _ => none }
def hintBackRow : OpenClaim := { program := "yteplnpedakdjkaa", sum := "a4bc7f45ff787d1319a2dc67ab07082e5afe9cbe4f17e37578ebd60851f580f8", func := "souterrain/souterrainlaw11.HintBack", spec := "hintBack", inPlace := ["internal/bytealg.abigen_runtime_cmpstring"], unfollowed := true, recurses := true, apart := false }
def HintBackSaid : Prop := hintBackRow.holds Try.pinned (OpenSpec.ofChange hintBackSpec)

/-- ITS FALSE NEIGHBOUR: 'it returns false'. Refute it at one input. -/
def hintBackWrong : ChangeSpec := { name := "hintBack", fn := fun _ => fun
  | [d1, d2, d3, d4] => { results := [.lit (.bool false)], args := [d1, d2, d3, d4] }
  | _ => none }
def HintBackWrongFalsely : Prop := hintBackRow.holds Try.pinned (OpenSpec.ofChange hintBackWrong)

/-- 'souterrainlaw11.HintLast': WHATEVER THE INPUT: true; the input reads as it did. -/
def hintLastSpec : ChangeSpec := { name := "hintLast", fn := fun _ => fun
  | [d] => { results := [.lit (.bool true)], args := [d] }
  | _ => none }
def hintLastRow : OpenClaim := { program := "yteplnpedakdjkaa", sum := "a4bc7f45ff787d1319a2dc67ab07082e5afe9cbe4f17e37578ebd60851f580f8", func := "souterrain/souterrainlaw11.HintLast", spec := "hintLast", inPlace := ["internal/bytealg.abigen_runtime_cmpstring"], unfollowed := true, recurses := true, apart := false }
def HintLastSaid : Prop := hintLastRow.holds Try.pinned (OpenSpec.ofChange hintLastSpec)

/-- ITS FALSE NEIGHBOUR: 'it returns false'. Refute it at one input. -/
def hintLastWrong : ChangeSpec := { name := "hintLast", fn := fun _ => fun
  | [d] => { results := [.lit (.bool false)], args := [d] }
  | _ => none }
def HintLastWrongFalsely : Prop := hintLastRow.holds Try.pinned (OpenSpec.ofChange hintLastWrong)

/-- 'souterrainlaw11.HintParted': WHATEVER THE INPUT: true; the input reads as it did. -/
def hintPartedSpec : ChangeSpec := { name := "hintParted", fn := fun _ => fun
  | [d1, d2] => { results := [.lit (.bool true)], args := [d1, d2] }
  | _ => none }
def hintPartedRow : OpenClaim := { program := "yteplnpedakdjkaa", sum := "a4bc7f45ff787d1319a2dc67ab07082e5afe9cbe4f17e37578ebd60851f580f8", func := "souterrain/souterrainlaw11.HintParted", spec := "hintParted", inPlace := ["internal/bytealg.abigen_runtime_cmpstring"], unfollowed := true, recurses := true, apart := false }
def HintPartedSaid : Prop := hintPartedRow.holds Try.pinned (OpenSpec.ofChange hintPartedSpec)

/-- ITS FALSE NEIGHBOUR: 'it returns false'. Refute it at one input. -/
def hintPartedWrong : ChangeSpec := { name := "hintParted", fn := fun _ => fun
  | [d1, d2] => { results := [.lit (.bool false)], args := [d1, d2] }
  | _ => none }
def HintPartedWrongFalsely : Prop := hintPartedRow.holds Try.pinned (OpenSpec.ofChange hintPartedWrong)

/-- 'souterrainlaw11.HintSize': WHATEVER THE INPUT: true; the input reads as it did. -/
def hintSizeSpec : ChangeSpec := { name := "hintSize", fn := fun _ => fun
  | [d1, d2] => { results := [.lit (.bool true)], args := [d1, d2] }
  | _ => none }
def hintSizeRow : OpenClaim := { program := "yteplnpedakdjkaa", sum := "a4bc7f45ff787d1319a2dc67ab07082e5afe9cbe4f17e37578ebd60851f580f8", func := "souterrain/souterrainlaw11.HintSize", spec := "hintSize", inPlace := ["internal/bytealg.abigen_runtime_cmpstring"], unfollowed := true, recurses := true, apart := false }
def HintSizeSaid : Prop := hintSizeRow.holds Try.pinned (OpenSpec.ofChange hintSizeSpec)

/-- ITS FALSE NEIGHBOUR: 'it returns false'. Refute it at one input. -/
def hintSizeWrong : ChangeSpec := { name := "hintSize", fn := fun _ => fun
  | [d1, d2] => { results := [.lit (.bool false)], args := [d1, d2] }
  | _ => none }
def HintSizeWrongFalsely : Prop := hintSizeRow.holds Try.pinned (OpenSpec.ofChange hintSizeWrong)

/-- 'souterrainlaw11.HintNone': WHATEVER THE INPUT: true; the input reads as it did. -/
def hintNoneSpec : ChangeSpec := { name := "hintNone", fn := fun _ => fun
  | [d1, d2, d3] => { results := [.lit (.bool true)], args := [d1, d2, d3] }
  | _ => none }
def hintNoneRow : OpenClaim := { program := "yteplnpedakdjkaa", sum := "a4bc7f45ff787d1319a2dc67ab07082e5afe9cbe4f17e37578ebd60851f580f8", func := "souterrain/souterrainlaw11.HintNone", spec := "hintNone", inPlace := ["internal/bytealg.abigen_runtime_cmpstring"], unfollowed := true, recurses := true, apart := false }
def HintNoneSaid : Prop := hintNoneRow.holds Try.pinned (OpenSpec.ofChange hintNoneSpec)

/-- ITS FALSE NEIGHBOUR: 'it returns false'. Refute it at one input. -/
def hintNoneWrong : ChangeSpec := { name := "hintNone", fn := fun _ => fun
  | [d1, d2, d3] => { results := [.lit (.bool false)], args := [d1, d2, d3] }
  | _ => none }
def HintNoneWrongFalsely : Prop := hintNoneRow.holds Try.pinned (OpenSpec.ofChange hintNoneWrong)

/- THE SECOND FORM. 'bulk': how many values and letters a reading holds, each counted each time it is reached (what is shared counts as often as it is met; a slice's spare places count too). A statement '..UptoSaid' is the law's where the arguments, and the package variables that the reading takes, are together of bulk at most 1048576: NARROWER than '..Said'. Prove '..Said' where nothing that the law and all that it calls make is longer than what came in: it says more and counts as full. Else prove '..UptoSaid'. A law counts once. -/
mutual
def uptoBulk {H : Type} : DataW H → Nat
  | .lit (.string bytes) => bytes.length + 1
  | .lit _ => 1
  | .nil => 1
  | .ptr d => uptoBulk d + 1
  | .slice elems spare => uptoBulkAll elems + uptoBulkAll spare + 1
  | .agg parts => uptoBulkAll parts + 1
  | .iface _ d => uptoBulk d + 1
  | .map entries => uptoBulkEntries entries + 1
  | .held _ => 1
def uptoBulkAll {H : Type} : List (DataW H) → Nat
  | [] => 0
  | d :: r => uptoBulk d + uptoBulkAll r
def uptoBulkEntries {H : Type} : List (Lit × DataW H) → Nat
  | [] => 0
  | x :: r => uptoBulkEntry x + uptoBulkEntries r
def uptoBulkEntry {H : Type} : Lit × DataW H → Nat
  | (.string bytes, d) => bytes.length + uptoBulk d + 1
  | (_, d) => uptoBulk d + 1
 end
def uptoSmall : (H : Type) → List (DataW H) → Bool := fun _ ds => decide (uptoBulkAll ds ≤ 1048576)
def OpenSpec.upto (s : _root_.Go.ChangeSpec) : _root_.Go.OpenSpec := { _root_.Go.OpenSpec.ofChange s with cond := some uptoSmall }

/-- 'souterrainlaw11.HintTells', WHERE WHAT IT READS IS OF BULK AT MOST 1048576: true; the input reads as it did. -/
def hintTellsUptoRow : OpenClaim := { program := "yteplnpedakdjkaa", sum := "a4bc7f45ff787d1319a2dc67ab07082e5afe9cbe4f17e37578ebd60851f580f8", func := "souterrain/souterrainlaw11.HintTells", spec := "hintTells", inPlace := ["internal/bytealg.abigen_runtime_cmpstring"], unfollowed := true, recurses := true, apart := false, narrowed := true }
def HintTellsUptoSaid : Prop := hintTellsUptoRow.holds Try.pinned (OpenSpec.upto hintTellsSpec)

/-- 'souterrainlaw11.HintBack', WHERE WHAT IT READS IS OF BULK AT MOST 1048576: true; the input reads as it did. -/
def hintBackUptoRow : OpenClaim := { program := "yteplnpedakdjkaa", sum := "a4bc7f45ff787d1319a2dc67ab07082e5afe9cbe4f17e37578ebd60851f580f8", func := "souterrain/souterrainlaw11.HintBack", spec := "hintBack", inPlace := ["internal/bytealg.abigen_runtime_cmpstring"], unfollowed := true, recurses := true, apart := false, narrowed := true }
def HintBackUptoSaid : Prop := hintBackUptoRow.holds Try.pinned (OpenSpec.upto hintBackSpec)

/-- 'souterrainlaw11.HintLast', WHERE WHAT IT READS IS OF BULK AT MOST 1048576: true; the input reads as it did. -/
def hintLastUptoRow : OpenClaim := { program := "yteplnpedakdjkaa", sum := "a4bc7f45ff787d1319a2dc67ab07082e5afe9cbe4f17e37578ebd60851f580f8", func := "souterrain/souterrainlaw11.HintLast", spec := "hintLast", inPlace := ["internal/bytealg.abigen_runtime_cmpstring"], unfollowed := true, recurses := true, apart := false, narrowed := true }
def HintLastUptoSaid : Prop := hintLastUptoRow.holds Try.pinned (OpenSpec.upto hintLastSpec)

/-- 'souterrainlaw11.HintParted', WHERE WHAT IT READS IS OF BULK AT MOST 1048576: true; the input reads as it did. -/
def hintPartedUptoRow : OpenClaim := { program := "yteplnpedakdjkaa", sum := "a4bc7f45ff787d1319a2dc67ab07082e5afe9cbe4f17e37578ebd60851f580f8", func := "souterrain/souterrainlaw11.HintParted", spec := "hintParted", inPlace := ["internal/bytealg.abigen_runtime_cmpstring"], unfollowed := true, recurses := true, apart := false, narrowed := true }
def HintPartedUptoSaid : Prop := hintPartedUptoRow.holds Try.pinned (OpenSpec.upto hintPartedSpec)

/-- 'souterrainlaw11.HintSize', WHERE WHAT IT READS IS OF BULK AT MOST 1048576: true; the input reads as it did. -/
def hintSizeUptoRow : OpenClaim := { program := "yteplnpedakdjkaa", sum := "a4bc7f45ff787d1319a2dc67ab07082e5afe9cbe4f17e37578ebd60851f580f8", func := "souterrain/souterrainlaw11.HintSize", spec := "hintSize", inPlace := ["internal/bytealg.abigen_runtime_cmpstring"], unfollowed := true, recurses := true, apart := false, narrowed := true }
def HintSizeUptoSaid : Prop := hintSizeUptoRow.holds Try.pinned (OpenSpec.upto hintSizeSpec)

/-- 'souterrainlaw11.HintNone', WHERE WHAT IT READS IS OF BULK AT MOST 1048576: true; the input reads as it did. -/
def hintNoneUptoRow : OpenClaim := { program := "yteplnpedakdjkaa", sum := "a4bc7f45ff787d1319a2dc67ab07082e5afe9cbe4f17e37578ebd60851f580f8", func := "souterrain/souterrainlaw11.HintNone", spec := "hintNone", inPlace := ["internal/bytealg.abigen_runtime_cmpstring"], unfollowed := true, recurses := true, apart := false, narrowed := true }
def HintNoneUptoSaid : Prop := hintNoneUptoRow.holds Try.pinned (OpenSpec.upto hintNoneSpec)

end Rows
end Go.Proofs.Yteplnpedakdjkaa

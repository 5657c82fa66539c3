/-
  No cell of these rows narrows 'for every input' (looked for: loops, veiled, ifaces, maps, wideKeys, modest, calm, conditions, laid).
  DERIVED. THE GIVEN ROWS OF THIS SEAT. 5 by the template 'for every input the law returns true; each argument reads behind the call as it read before'; 0 by the template 'total and deterministic' (their statements: YtcieieacfoaklaaGreatTotals.lean).
  GIVEN WITH THE SEED: the statements are not yours to turn. If you find one false, say at which input.
  Laid BY PROGRAM, IN A SANDBOX (cutbox-rows.mjs): the forced cells as the released guide's own fill.sh prints them over the translation 93ecd208c78595a7… (all of the seat's roots in one cut). By AI agents, Wed Nov 11 2026. No macro, syntax, notation, axiom, sorry.
-/
import Derived.Test.YtcieieacfoaklaaGreatChecked
import GoSem.Claim
import GoSem.ClaimJoined
import GoSem.ClaimMapViews
import Derived.JoinedTies
import Derived.KernelRfl
namespace Go.Proofs.YtcieieacfoaklaaGreat
/- THE CELL 'sum', in the pinned program and in every row, IS THE sha256 OF THE DUMP (.gsa) THAT YtcieieacfoaklaaGreatProg.lean LOADS. Nothing in Lean hashes anything: it is a label: what it is worth is what the hold of that sum in a sandbox is worth. -/
noncomputable def Tryz.pinned : Pinned := { name := "ytcieieacfoaklaagreat", sum := "93ecd208c78595a746e776b73a225bb8417d28310bf71e51d6b61c5a95bcd1b2", checked := Tryz.checked }
namespace Rows
def none {H : Type} : Left H := { results := [], args := [] }

/-- 'souterrainlaw18.PutAll': WHATEVER THE INPUT: true; the input reads as it did. -/
def putAllSpec : ChangeSpec := { name := "putAll", fn := fun _ => fun
  | [d1, d2, d3, d4] => { results := [.lit (.bool true)], args := [d1, d2, d3, d4] }
  | _ => none }
def putAllRow : OpenClaim := { program := "ytcieieacfoaklaagreat", sum := "93ecd208c78595a746e776b73a225bb8417d28310bf71e51d6b61c5a95bcd1b2", func := "souterrain/souterrainlaw18.PutAll", spec := "putAll", inPlace := ["maps.clone", "internal/bytealg.abigen_runtime_cmpstring"], unfollowed := true, recurses := true, apart := false }
def PutAllSaid : Prop := putAllRow.holds Tryz.pinned (OpenSpec.ofChange putAllSpec)

/-- ITS FALSE NEIGHBOUR: 'it returns false'. Refute it at one input. -/
def putAllWrong : ChangeSpec := { name := "putAll", fn := fun _ => fun
  | [d1, d2, d3, d4] => { results := [.lit (.bool false)], args := [d1, d2, d3, d4] }
  | _ => none }
def PutAllWrongFalsely : Prop := putAllRow.holds Tryz.pinned (OpenSpec.ofChange putAllWrong)

/-- 'souterrainlaw18.PutPieces': WHATEVER THE INPUT: true; the input reads as it did. -/
def putPiecesSpec : ChangeSpec := { name := "putPieces", fn := fun _ => fun
  | [d1, d2] => { results := [.lit (.bool true)], args := [d1, d2] }
  | _ => none }
def putPiecesRow : OpenClaim := { program := "ytcieieacfoaklaagreat", sum := "93ecd208c78595a746e776b73a225bb8417d28310bf71e51d6b61c5a95bcd1b2", func := "souterrain/souterrainlaw18.PutPieces", spec := "putPieces", inPlace := ["maps.clone", "internal/bytealg.abigen_runtime_cmpstring"], unfollowed := true, recurses := true, apart := false }
def PutPiecesSaid : Prop := putPiecesRow.holds Tryz.pinned (OpenSpec.ofChange putPiecesSpec)

/-- ITS FALSE NEIGHBOUR: 'it returns false'. Refute it at one input. -/
def putPiecesWrong : ChangeSpec := { name := "putPieces", fn := fun _ => fun
  | [d1, d2] => { results := [.lit (.bool false)], args := [d1, d2] }
  | _ => none }
def PutPiecesWrongFalsely : Prop := putPiecesRow.holds Tryz.pinned (OpenSpec.ofChange putPiecesWrong)

/-- 'souterrainlaw18.PutWrites': WHATEVER THE INPUT: true; the input reads as it did. -/
def putWritesSpec : ChangeSpec := { name := "putWrites", fn := fun _ => fun
  | [d1, d2, d3] => { results := [.lit (.bool true)], args := [d1, d2, d3] }
  | _ => none }
def putWritesRow : OpenClaim := { program := "ytcieieacfoaklaagreat", sum := "93ecd208c78595a746e776b73a225bb8417d28310bf71e51d6b61c5a95bcd1b2", func := "souterrain/souterrainlaw18.PutWrites", spec := "putWrites", inPlace := ["maps.clone", "internal/bytealg.abigen_runtime_cmpstring"], unfollowed := true, recurses := true, apart := false }
def PutWritesSaid : Prop := putWritesRow.holds Tryz.pinned (OpenSpec.ofChange putWritesSpec)

/-- ITS FALSE NEIGHBOUR: 'it returns false'. Refute it at one input. -/
def putWritesWrong : ChangeSpec := { name := "putWrites", fn := fun _ => fun
  | [d1, d2, d3] => { results := [.lit (.bool false)], args := [d1, d2, d3] }
  | _ => none }
def PutWritesWrongFalsely : Prop := putWritesRow.holds Tryz.pinned (OpenSpec.ofChange putWritesWrong)

/-- 'souterrainlaw18.PutLong': WHATEVER THE INPUT: true; the input reads as it did. -/
def putLongSpec : ChangeSpec := { name := "putLong", fn := fun _ => fun
  | [d1, d2, d3] => { results := [.lit (.bool true)], args := [d1, d2, d3] }
  | _ => none }
def putLongRow : OpenClaim := { program := "ytcieieacfoaklaagreat", sum := "93ecd208c78595a746e776b73a225bb8417d28310bf71e51d6b61c5a95bcd1b2", func := "souterrain/souterrainlaw18.PutLong", spec := "putLong", inPlace := ["maps.clone", "internal/bytealg.abigen_runtime_cmpstring"], unfollowed := true, recurses := true, apart := false }
def PutLongSaid : Prop := putLongRow.holds Tryz.pinned (OpenSpec.ofChange putLongSpec)

/-- ITS FALSE NEIGHBOUR: 'it returns false'. Refute it at one input. -/
def putLongWrong : ChangeSpec := { name := "putLong", fn := fun _ => fun
  | [d1, d2, d3] => { results := [.lit (.bool false)], args := [d1, d2, d3] }
  | _ => none }
def PutLongWrongFalsely : Prop := putLongRow.holds Tryz.pinned (OpenSpec.ofChange putLongWrong)

/-- 'souterrainlaw18.PutSpoilt': WHATEVER THE INPUT: true; the input reads as it did. -/
def putSpoiltSpec : ChangeSpec := { name := "putSpoilt", fn := fun _ => fun
  | [d1, d2, d3] => { results := [.lit (.bool true)], args := [d1, d2, d3] }
  | _ => none }
def putSpoiltRow : OpenClaim := { program := "ytcieieacfoaklaagreat", sum := "93ecd208c78595a746e776b73a225bb8417d28310bf71e51d6b61c5a95bcd1b2", func := "souterrain/souterrainlaw18.PutSpoilt", spec := "putSpoilt", inPlace := ["maps.clone", "internal/bytealg.abigen_runtime_cmpstring"], unfollowed := true, recurses := true, apart := false }
def PutSpoiltSaid : Prop := putSpoiltRow.holds Tryz.pinned (OpenSpec.ofChange putSpoiltSpec)

/-- ITS FALSE NEIGHBOUR: 'it returns false'. Refute it at one input. -/
def putSpoiltWrong : ChangeSpec := { name := "putSpoilt", fn := fun _ => fun
  | [d1, d2, d3] => { results := [.lit (.bool false)], args := [d1, d2, d3] }
  | _ => none }
def PutSpoiltWrongFalsely : Prop := putSpoiltRow.holds Tryz.pinned (OpenSpec.ofChange putSpoiltWrong)

/- THE SECOND FORM. 'bulk': how many values and letters a reading holds, each counted each time it is reached (what is shared counts as often as it is met; a slice's spare places count too). A statement '..UptoSaid' is the law's where the arguments, and the package variables that the reading takes, are together of bulk at most 1048576: NARROWER than '..Said'. Prove '..Said' where nothing that the law and all that it calls make is longer than what came in: it says more and counts as full. Else prove '..UptoSaid'. A law counts once. -/
mutual
def uptoBulk {H : Type} : DataW H → Nat
  | .lit (.string bytes) => bytes.length + 1
  | .lit _ => 1
  | .nil => 1
  | .ptr d => uptoBulk d + 1
  | .slice elems spare => uptoBulkAll elems + uptoBulkAll spare + 1
  | .agg parts => uptoBulkAll parts + 1
  | .iface _ d => uptoBulk d + 1
  | .map entries => uptoBulkEntries entries + 1
  | .held _ => 1
def uptoBulkAll {H : Type} : List (DataW H) → Nat
  | [] => 0
  | d :: r => uptoBulk d + uptoBulkAll r
def uptoBulkEntries {H : Type} : List (Lit × DataW H) → Nat
  | [] => 0
  | x :: r => uptoBulkEntry x + uptoBulkEntries r
def uptoBulkEntry {H : Type} : Lit × DataW H → Nat
  | (.string bytes, d) => bytes.length + uptoBulk d + 1
  | (_, d) => uptoBulk d + 1
 end
def uptoSmall : (H : Type) → List (DataW H) → Bool := fun _ ds => decide (uptoBulkAll ds ≤ 1048576)
def OpenSpec.upto (s : _root_.Go.ChangeSpec) : _root_.Go.OpenSpec := { _root_.Go.OpenSpec.ofChange s with cond := some uptoSmall }

/-- 'souterrainlaw18.PutAll', WHERE WHAT IT READS IS OF BULK AT MOST 1048576: true; the input reads as it did. -/
def putAllUptoRow : OpenClaim := { program := "ytcieieacfoaklaagreat", sum := "93ecd208c78595a746e776b73a225bb8417d28310bf71e51d6b61c5a95bcd1b2", func := "souterrain/souterrainlaw18.PutAll", spec := "putAll", inPlace := ["maps.clone", "internal/bytealg.abigen_runtime_cmpstring"], unfollowed := true, recurses := true, apart := false, narrowed := true }
def PutAllUptoSaid : Prop := putAllUptoRow.holds Tryz.pinned (OpenSpec.upto putAllSpec)

/-- 'souterrainlaw18.PutPieces', WHERE WHAT IT READS IS OF BULK AT MOST 1048576: true; the input reads as it did. -/
def putPiecesUptoRow : OpenClaim := { program := "ytcieieacfoaklaagreat", sum := "93ecd208c78595a746e776b73a225bb8417d28310bf71e51d6b61c5a95bcd1b2", func := "souterrain/souterrainlaw18.PutPieces", spec := "putPieces", inPlace := ["maps.clone", "internal/bytealg.abigen_runtime_cmpstring"], unfollowed := true, recurses := true, apart := false, narrowed := true }
def PutPiecesUptoSaid : Prop := putPiecesUptoRow.holds Tryz.pinned (OpenSpec.upto putPiecesSpec)

/-- 'souterrainlaw18.PutWrites', WHERE WHAT IT READS IS OF BULK AT MOST 1048576: true; the input reads as it did. -/
def putWritesUptoRow : OpenClaim := { program := "ytcieieacfoaklaagreat", sum := "93ecd208c78595a746e776b73a225bb8417d28310bf71e51d6b61c5a95bcd1b2", func := "souterrain/souterrainlaw18.PutWrites", spec := "putWrites", inPlace := ["maps.clone", "internal/bytealg.abigen_runtime_cmpstring"], unfollowed := true, recurses := true, apart := false, narrowed := true }
def PutWritesUptoSaid : Prop := putWritesUptoRow.holds Tryz.pinned (OpenSpec.upto putWritesSpec)

/-- 'souterrainlaw18.PutLong', WHERE WHAT IT READS IS OF BULK AT MOST 1048576: true; the input reads as it did. -/
def putLongUptoRow : OpenClaim := { program := "ytcieieacfoaklaagreat", sum := "93ecd208c78595a746e776b73a225bb8417d28310bf71e51d6b61c5a95bcd1b2", func := "souterrain/souterrainlaw18.PutLong", spec := "putLong", inPlace := ["maps.clone", "internal/bytealg.abigen_runtime_cmpstring"], unfollowed := true, recurses := true, apart := false, narrowed := true }
def PutLongUptoSaid : Prop := putLongUptoRow.holds Tryz.pinned (OpenSpec.upto putLongSpec)

/-- 'souterrainlaw18.PutSpoilt', WHERE WHAT IT READS IS OF BULK AT MOST 1048576: true; the input reads as it did. -/
def putSpoiltUptoRow : OpenClaim := { program := "ytcieieacfoaklaagreat", sum := "93ecd208c78595a746e776b73a225bb8417d28310bf71e51d6b61c5a95bcd1b2", func := "souterrain/souterrainlaw18.PutSpoilt", spec := "putSpoilt", inPlace := ["maps.clone", "internal/bytealg.abigen_runtime_cmpstring"], unfollowed := true, recurses := true, apart := false, narrowed := true }
def PutSpoiltUptoSaid : Prop := putSpoiltUptoRow.holds Tryz.pinned (OpenSpec.upto putSpoiltSpec)

end Rows
end Go.Proofs.YtcieieacfoaklaaGreat

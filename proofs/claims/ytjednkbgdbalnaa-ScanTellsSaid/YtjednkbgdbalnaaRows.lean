/-
  No cell of these rows narrows 'for every input' (looked for: loops, veiled, ifaces, maps, wideKeys, modest, calm, conditions, laid).
  DERIVED. THE GIVEN ROWS OF THIS SEAT. 12 by the template 'for every input the law returns true; each argument reads behind the call as it read before'; 0 by the template 'total and deterministic' (their statements: YtjednkbgdbalnaaTotals.lean).
  GIVEN WITH THE SEED: the statements are not yours to turn. If you find one false, say at which input.
  Laid BY PROGRAM, IN A SANDBOX (cutbox-rows.mjs): the forced cells as the released guide's own fill.sh prints them over the translation 0df6226f067fcb2c… (all of the seat's roots in one cut). By AI agents, Wed Nov 11 2026. No macro, syntax, notation, axiom, sorry.
-/
import Derived.Test.YtjednkbgdbalnaaChecked
import GoSem.Claim
import GoSem.ClaimJoined
import GoSem.ClaimMapViews
import Derived.JoinedTies
import Derived.KernelRfl
namespace Go.Proofs.Ytjednkbgdbalnaa
/- THE CELL 'sum', in the pinned program and in every row, IS THE sha256 OF THE DUMP (.gsa) THAT YtjednkbgdbalnaaProg.lean LOADS. Nothing in Lean hashes anything: it is a label: what it is worth is what the hold of that sum in a sandbox is worth. -/
noncomputable def Try.pinned : Pinned := { name := "ytjednkbgdbalnaa", sum := "0df6226f067fcb2c670da500fb57e0ba10add2ccd12e483fae359888a0390950", checked := Try.checked }
namespace Rows
def none {H : Type} : Left H := { results := [], args := [] }

/-- 'souterrainlaw02.FrameTells': WHATEVER THE INPUT: true; the input reads as it did. -/
def frameTellsSpec : ChangeSpec := { name := "frameTells", fn := fun _ => fun
  | [d1, d2, d3] => { results := [.lit (.bool true)], args := [d1, d2, d3] }
  | _ => none }
def frameTellsRow : OpenClaim := { program := "ytjednkbgdbalnaa", sum := "0df6226f067fcb2c670da500fb57e0ba10add2ccd12e483fae359888a0390950", func := "souterrain/souterrainlaw02.FrameTells", spec := "frameTells", apart := false }
def FrameTellsSaid : Prop := frameTellsRow.holds Try.pinned (OpenSpec.ofChange frameTellsSpec)

/-- ITS FALSE NEIGHBOUR: 'it returns false'. Refute it at one input. -/
def frameTellsWrong : ChangeSpec := { name := "frameTells", fn := fun _ => fun
  | [d1, d2, d3] => { results := [.lit (.bool false)], args := [d1, d2, d3] }
  | _ => none }
def FrameTellsWrongFalsely : Prop := frameTellsRow.holds Try.pinned (OpenSpec.ofChange frameTellsWrong)

/-- 'souterrainlaw02.FrameBack': WHATEVER THE INPUT: true; the input reads as it did. -/
def frameBackSpec : ChangeSpec := { name := "frameBack", fn := fun _ => fun
  | [d1, d2, d3] => { results := [.lit (.bool true)], args := [d1, d2, d3] }
  | _ => none }
def frameBackRow : OpenClaim := { program := "ytjednkbgdbalnaa", sum := "0df6226f067fcb2c670da500fb57e0ba10add2ccd12e483fae359888a0390950", func := "souterrain/souterrainlaw02.FrameBack", spec := "frameBack", apart := false }
def FrameBackSaid : Prop := frameBackRow.holds Try.pinned (OpenSpec.ofChange frameBackSpec)

/-- ITS FALSE NEIGHBOUR: 'it returns false'. Refute it at one input. -/
def frameBackWrong : ChangeSpec := { name := "frameBack", fn := fun _ => fun
  | [d1, d2, d3] => { results := [.lit (.bool false)], args := [d1, d2, d3] }
  | _ => none }
def FrameBackWrongFalsely : Prop := frameBackRow.holds Try.pinned (OpenSpec.ofChange frameBackWrong)

/-- 'souterrainlaw02.FrameSpoilt': WHATEVER THE INPUT: true; the input reads as it did. -/
def frameSpoiltSpec : ChangeSpec := { name := "frameSpoilt", fn := fun _ => fun
  | [d1, d2, d3, d4] => { results := [.lit (.bool true)], args := [d1, d2, d3, d4] }
  | _ => none }
def frameSpoiltRow : OpenClaim := { program := "ytjednkbgdbalnaa", sum := "0df6226f067fcb2c670da500fb57e0ba10add2ccd12e483fae359888a0390950", func := "souterrain/souterrainlaw02.FrameSpoilt", spec := "frameSpoilt", apart := false }
def FrameSpoiltSaid : Prop := frameSpoiltRow.holds Try.pinned (OpenSpec.ofChange frameSpoiltSpec)

/-- ITS FALSE NEIGHBOUR: 'it returns false'. Refute it at one input. -/
def frameSpoiltWrong : ChangeSpec := { name := "frameSpoilt", fn := fun _ => fun
  | [d1, d2, d3, d4] => { results := [.lit (.bool false)], args := [d1, d2, d3, d4] }
  | _ => none }
def FrameSpoiltWrongFalsely : Prop := frameSpoiltRow.holds Try.pinned (OpenSpec.ofChange frameSpoiltWrong)

/-- 'souterrainlaw02.FrameCut': WHATEVER THE INPUT: true; the input reads as it did. -/
def frameCutSpec : ChangeSpec := { name := "frameCut", fn := fun _ => fun
  | [d1, d2] => { results := [.lit (.bool true)], args := [d1, d2] }
  | _ => none }
def frameCutRow : OpenClaim := { program := "ytjednkbgdbalnaa", sum := "0df6226f067fcb2c670da500fb57e0ba10add2ccd12e483fae359888a0390950", func := "souterrain/souterrainlaw02.FrameCut", spec := "frameCut", apart := false }
def FrameCutSaid : Prop := frameCutRow.holds Try.pinned (OpenSpec.ofChange frameCutSpec)

/-- ITS FALSE NEIGHBOUR: 'it returns false'. Refute it at one input. -/
def frameCutWrong : ChangeSpec := { name := "frameCut", fn := fun _ => fun
  | [d1, d2] => { results := [.lit (.bool false)], args := [d1, d2] }
  | _ => none }
def FrameCutWrongFalsely : Prop := frameCutRow.holds Try.pinned (OpenSpec.ofChange frameCutWrong)

/-- 'souterrainlaw02.FrameStill': WHATEVER THE INPUT: true; the input reads as it did. -/
def frameStillSpec : ChangeSpec := { name := "frameStill", fn := fun _ => fun
  | [d] => { results := [.lit (.bool true)], args := [d] }
  | _ => none }
def frameStillRow : OpenClaim := { program := "ytjednkbgdbalnaa", sum := "0df6226f067fcb2c670da500fb57e0ba10add2ccd12e483fae359888a0390950", func := "souterrain/souterrainlaw02.FrameStill", spec := "frameStill", apart := false }
def FrameStillSaid : Prop := frameStillRow.holds Try.pinned (OpenSpec.ofChange frameStillSpec)

/-- ITS FALSE NEIGHBOUR: 'it returns false'. Refute it at one input. -/
def frameStillWrong : ChangeSpec := { name := "frameStill", fn := fun _ => fun
  | [d] => { results := [.lit (.bool false)], args := [d] }
  | _ => none }
def FrameStillWrongFalsely : Prop := frameStillRow.holds Try.pinned (OpenSpec.ofChange frameStillWrong)

/-- 'souterrainlaw02.FrameMore': WHATEVER THE INPUT: true; the input reads as it did. -/
def frameMoreSpec : ChangeSpec := { name := "frameMore", fn := fun _ => fun
  | [d1, d2] => { results := [.lit (.bool true)], args := [d1, d2] }
  | _ => none }
def frameMoreRow : OpenClaim := { program := "ytjednkbgdbalnaa", sum := "0df6226f067fcb2c670da500fb57e0ba10add2ccd12e483fae359888a0390950", func := "souterrain/souterrainlaw02.FrameMore", spec := "frameMore", apart := false }
def FrameMoreSaid : Prop := frameMoreRow.holds Try.pinned (OpenSpec.ofChange frameMoreSpec)

/-- ITS FALSE NEIGHBOUR: 'it returns false'. Refute it at one input. -/
def frameMoreWrong : ChangeSpec := { name := "frameMore", fn := fun _ => fun
  | [d1, d2] => { results := [.lit (.bool false)], args := [d1, d2] }
  | _ => none }
def FrameMoreWrongFalsely : Prop := frameMoreRow.holds Try.pinned (OpenSpec.ofChange frameMoreWrong)

/-- 'souterrainlaw03.ScanTells': WHATEVER THE INPUT: true; the input reads as it did. -/
def scanTellsSpec : ChangeSpec := { name := "scanTells", fn := fun _ => fun
  | [d1, d2] => { results := [.lit (.bool true)], args := [d1, d2] }
  | _ => none }
def scanTellsRow : OpenClaim := { program := "ytjednkbgdbalnaa", sum := "0df6226f067fcb2c670da500fb57e0ba10add2ccd12e483fae359888a0390950", func := "souterrain/souterrainlaw03.ScanTells", spec := "scanTells", unfollowed := true, recurses := true, apart := false }
def ScanTellsSaid : Prop := scanTellsRow.holds Try.pinned (OpenSpec.ofChange scanTellsSpec)

/-- ITS FALSE NEIGHBOUR: 'it returns false'. Refute it at one input. -/
def scanTellsWrong : ChangeSpec := { name := "scanTells", fn := fun _ => fun
  | [d1, d2] => { results := [.lit (.bool false)], args := [d1, d2] }
  | _ => none }
def ScanTellsWrongFalsely : Prop := scanTellsRow.holds Try.pinned (OpenSpec.ofChange scanTellsWrong)

/-- 'souterrainlaw03.ScanAll': WHATEVER THE INPUT: true; the input reads as it did. -/
def scanAllSpec : ChangeSpec := { name := "scanAll", fn := fun _ => fun
  | [d] => { results := [.lit (.bool true)], args := [d] }
  | _ => none }
def scanAllRow : OpenClaim := { program := "ytjednkbgdbalnaa", sum := "0df6226f067fcb2c670da500fb57e0ba10add2ccd12e483fae359888a0390950", func := "souterrain/souterrainlaw03.ScanAll", spec := "scanAll", unfollowed := true, recurses := true, apart := false }
def ScanAllSaid : Prop := scanAllRow.holds Try.pinned (OpenSpec.ofChange scanAllSpec)

/-- ITS FALSE NEIGHBOUR: 'it returns false'. Refute it at one input. -/
def scanAllWrong : ChangeSpec := { name := "scanAll", fn := fun _ => fun
  | [d] => { results := [.lit (.bool false)], args := [d] }
  | _ => none }
def ScanAllWrongFalsely : Prop := scanAllRow.holds Try.pinned (OpenSpec.ofChange scanAllWrong)

/-- 'souterrainlaw03.ScanSpoilt': WHATEVER THE INPUT: true; the input reads as it did. -/
def scanSpoiltSpec : ChangeSpec := { name := "scanSpoilt", fn := fun _ => fun
  | [d1, d2, d3, d4] => { results := [.lit (.bool true)], args := [d1, d2, d3, d4] }
  | _ => none }
def scanSpoiltRow : OpenClaim := { program := "ytjednkbgdbalnaa", sum := "0df6226f067fcb2c670da500fb57e0ba10add2ccd12e483fae359888a0390950", func := "souterrain/souterrainlaw03.ScanSpoilt", spec := "scanSpoilt", unfollowed := true, recurses := true, apart := false }
def ScanSpoiltSaid : Prop := scanSpoiltRow.holds Try.pinned (OpenSpec.ofChange scanSpoiltSpec)

/-- ITS FALSE NEIGHBOUR: 'it returns false'. Refute it at one input. -/
def scanSpoiltWrong : ChangeSpec := { name := "scanSpoilt", fn := fun _ => fun
  | [d1, d2, d3, d4] => { results := [.lit (.bool false)], args := [d1, d2, d3, d4] }
  | _ => none }
def ScanSpoiltWrongFalsely : Prop := scanSpoiltRow.holds Try.pinned (OpenSpec.ofChange scanSpoiltWrong)

/-- 'souterrainlaw03.ScanTorn': WHATEVER THE INPUT: true; the input reads as it did. -/
def scanTornSpec : ChangeSpec := { name := "scanTorn", fn := fun _ => fun
  | [d1, d2] => { results := [.lit (.bool true)], args := [d1, d2] }
  | _ => none }
def scanTornRow : OpenClaim := { program := "ytjednkbgdbalnaa", sum := "0df6226f067fcb2c670da500fb57e0ba10add2ccd12e483fae359888a0390950", func := "souterrain/souterrainlaw03.ScanTorn", spec := "scanTorn", unfollowed := true, recurses := true, apart := false }
def ScanTornSaid : Prop := scanTornRow.holds Try.pinned (OpenSpec.ofChange scanTornSpec)

/-- ITS FALSE NEIGHBOUR: 'it returns false'. Refute it at one input. -/
def scanTornWrong : ChangeSpec := { name := "scanTorn", fn := fun _ => fun
  | [d1, d2] => { results := [.lit (.bool false)], args := [d1, d2] }
  | _ => none }
def ScanTornWrongFalsely : Prop := scanTornRow.holds Try.pinned (OpenSpec.ofChange scanTornWrong)

/-- 'souterrainlaw03.ScanParted': WHATEVER THE INPUT: true; the input reads as it did. -/
def scanPartedSpec : ChangeSpec := { name := "scanParted", fn := fun _ => fun
  | [d1, d2] => { results := [.lit (.bool true)], args := [d1, d2] }
  | _ => none }
def scanPartedRow : OpenClaim := { program := "ytjednkbgdbalnaa", sum := "0df6226f067fcb2c670da500fb57e0ba10add2ccd12e483fae359888a0390950", func := "souterrain/souterrainlaw03.ScanParted", spec := "scanParted", unfollowed := true, recurses := true, apart := false }
def ScanPartedSaid : Prop := scanPartedRow.holds Try.pinned (OpenSpec.ofChange scanPartedSpec)

/-- ITS FALSE NEIGHBOUR: 'it returns false'. Refute it at one input. -/
def scanPartedWrong : ChangeSpec := { name := "scanParted", fn := fun _ => fun
  | [d1, d2] => { results := [.lit (.bool false)], args := [d1, d2] }
  | _ => none }
def ScanPartedWrongFalsely : Prop := scanPartedRow.holds Try.pinned (OpenSpec.ofChange scanPartedWrong)

/-- 'souterrainlaw03.ScanAgain': WHATEVER THE INPUT: true; the input reads as it did. -/
def scanAgainSpec : ChangeSpec := { name := "scanAgain", fn := fun _ => fun
  | [d] => { results := [.lit (.bool true)], args := [d] }
  | _ => none }
def scanAgainRow : OpenClaim := { program := "ytjednkbgdbalnaa", sum := "0df6226f067fcb2c670da500fb57e0ba10add2ccd12e483fae359888a0390950", func := "souterrain/souterrainlaw03.ScanAgain", spec := "scanAgain", unfollowed := true, recurses := true, apart := false }
def ScanAgainSaid : Prop := scanAgainRow.holds Try.pinned (OpenSpec.ofChange scanAgainSpec)

/-- ITS FALSE NEIGHBOUR: 'it returns false'. Refute it at one input. -/
def scanAgainWrong : ChangeSpec := { name := "scanAgain", fn := fun _ => fun
  | [d] => { results := [.lit (.bool false)], args := [d] }
  | _ => none }
def ScanAgainWrongFalsely : Prop := scanAgainRow.holds Try.pinned (OpenSpec.ofChange scanAgainWrong)

/- THE SECOND FORM. 'bulk': how many values and letters a reading holds, each counted each time it is reached (what is shared counts as often as it is met; a slice's spare places count too). A statement '..UptoSaid' is the law's where the arguments, and the package variables that the reading takes, are together of bulk at most 1048576: NARROWER than '..Said'. Prove '..Said' where nothing that the law and all that it calls make is longer than what came in: it says more and counts as full. Else prove '..UptoSaid'. A law counts once. -/
mutual
def uptoBulk {H : Type} : DataW H → Nat
  | .lit (.string bytes) => bytes.length + 1
  | .lit _ => 1
  | .nil => 1
  | .ptr d => uptoBulk d + 1
  | .slice elems spare => uptoBulkAll elems + uptoBulkAll spare + 1
  | .agg parts => uptoBulkAll parts + 1
  | .iface _ d => uptoBulk d + 1
  | .map entries => uptoBulkEntries entries + 1
  | .held _ => 1
def uptoBulkAll {H : Type} : List (DataW H) → Nat
  | [] => 0
  | d :: r => uptoBulk d + uptoBulkAll r
def uptoBulkEntries {H : Type} : List (Lit × DataW H) → Nat
  | [] => 0
  | x :: r => uptoBulkEntry x + uptoBulkEntries r
def uptoBulkEntry {H : Type} : Lit × DataW H → Nat
  | (.string bytes, d) => bytes.length + uptoBulk d + 1
  | (_, d) => uptoBulk d + 1
 end
def uptoSmall : (H : Type) → List (DataW H) → Bool := fun _ ds => decide (uptoBulkAll ds ≤ 1048576)
def OpenSpec.upto (s : _root_.Go.ChangeSpec) : _root_.Go.OpenSpec := { _root_.Go.OpenSpec.ofChange s with cond := some uptoSmall }

/-- 'souterrainlaw02.FrameTells', WHERE WHAT IT READS IS OF BULK AT MOST 1048576: true; the input reads as it did. -/
def frameTellsUptoRow : OpenClaim := { program := "ytjednkbgdbalnaa", sum := "0df6226f067fcb2c670da500fb57e0ba10add2ccd12e483fae359888a0390950", func := "souterrain/souterrainlaw02.FrameTells", spec := "frameTells", apart := false, narrowed := true }
def FrameTellsUptoSaid : Prop := frameTellsUptoRow.holds Try.pinned (OpenSpec.upto frameTellsSpec)

/-- 'souterrainlaw02.FrameBack', WHERE WHAT IT READS IS OF BULK AT MOST 1048576: true; the input reads as it did. -/
def frameBackUptoRow : OpenClaim := { program := "ytjednkbgdbalnaa", sum := "0df6226f067fcb2c670da500fb57e0ba10add2ccd12e483fae359888a0390950", func := "souterrain/souterrainlaw02.FrameBack", spec := "frameBack", apart := false, narrowed := true }
def FrameBackUptoSaid : Prop := frameBackUptoRow.holds Try.pinned (OpenSpec.upto frameBackSpec)

/-- 'souterrainlaw02.FrameSpoilt', WHERE WHAT IT READS IS OF BULK AT MOST 1048576: true; the input reads as it did. -/
def frameSpoiltUptoRow : OpenClaim := { program := "ytjednkbgdbalnaa", sum := "0df6226f067fcb2c670da500fb57e0ba10add2ccd12e483fae359888a0390950", func := "souterrain/souterrainlaw02.FrameSpoilt", spec := "frameSpoilt", apart := false, narrowed := true }
def FrameSpoiltUptoSaid : Prop := frameSpoiltUptoRow.holds Try.pinned (OpenSpec.upto frameSpoiltSpec)

/-- 'souterrainlaw02.FrameCut', WHERE WHAT IT READS IS OF BULK AT MOST 1048576: true; the input reads as it did. -/
def frameCutUptoRow : OpenClaim := { program := "ytjednkbgdbalnaa", sum := "0df6226f067fcb2c670da500fb57e0ba10add2ccd12e483fae359888a0390950", func := "souterrain/souterrainlaw02.FrameCut", spec := "frameCut", apart := false, narrowed := true }
def FrameCutUptoSaid : Prop := frameCutUptoRow.holds Try.pinned (OpenSpec.upto frameCutSpec)

/-- 'souterrainlaw02.FrameStill', WHERE WHAT IT READS IS OF BULK AT MOST 1048576: true; the input reads as it did. -/
def frameStillUptoRow : OpenClaim := { program := "ytjednkbgdbalnaa", sum := "0df6226f067fcb2c670da500fb57e0ba10add2ccd12e483fae359888a0390950", func := "souterrain/souterrainlaw02.FrameStill", spec := "frameStill", apart := false, narrowed := true }
def FrameStillUptoSaid : Prop := frameStillUptoRow.holds Try.pinned (OpenSpec.upto frameStillSpec)

/-- 'souterrainlaw02.FrameMore', WHERE WHAT IT READS IS OF BULK AT MOST 1048576: true; the input reads as it did. -/
def frameMoreUptoRow : OpenClaim := { program := "ytjednkbgdbalnaa", sum := "0df6226f067fcb2c670da500fb57e0ba10add2ccd12e483fae359888a0390950", func := "souterrain/souterrainlaw02.FrameMore", spec := "frameMore", apart := false, narrowed := true }
def FrameMoreUptoSaid : Prop := frameMoreUptoRow.holds Try.pinned (OpenSpec.upto frameMoreSpec)

/-- 'souterrainlaw03.ScanTells', WHERE WHAT IT READS IS OF BULK AT MOST 1048576: true; the input reads as it did. -/
def scanTellsUptoRow : OpenClaim := { program := "ytjednkbgdbalnaa", sum := "0df6226f067fcb2c670da500fb57e0ba10add2ccd12e483fae359888a0390950", func := "souterrain/souterrainlaw03.ScanTells", spec := "scanTells", unfollowed := true, recurses := true, apart := false, narrowed := true }
def ScanTellsUptoSaid : Prop := scanTellsUptoRow.holds Try.pinned (OpenSpec.upto scanTellsSpec)

/-- 'souterrainlaw03.ScanAll', WHERE WHAT IT READS IS OF BULK AT MOST 1048576: true; the input reads as it did. -/
def scanAllUptoRow : OpenClaim := { program := "ytjednkbgdbalnaa", sum := "0df6226f067fcb2c670da500fb57e0ba10add2ccd12e483fae359888a0390950", func := "souterrain/souterrainlaw03.ScanAll", spec := "scanAll", unfollowed := true, recurses := true, apart := false, narrowed := true }
def ScanAllUptoSaid : Prop := scanAllUptoRow.holds Try.pinned (OpenSpec.upto scanAllSpec)

/-- 'souterrainlaw03.ScanSpoilt', WHERE WHAT IT READS IS OF BULK AT MOST 1048576: true; the input reads as it did. -/
def scanSpoiltUptoRow : OpenClaim := { program := "ytjednkbgdbalnaa", sum := "0df6226f067fcb2c670da500fb57e0ba10add2ccd12e483fae359888a0390950", func := "souterrain/souterrainlaw03.ScanSpoilt", spec := "scanSpoilt", unfollowed := true, recurses := true, apart := false, narrowed := true }
def ScanSpoiltUptoSaid : Prop := scanSpoiltUptoRow.holds Try.pinned (OpenSpec.upto scanSpoiltSpec)

/-- 'souterrainlaw03.ScanTorn', WHERE WHAT IT READS IS OF BULK AT MOST 1048576: true; the input reads as it did. -/
def scanTornUptoRow : OpenClaim := { program := "ytjednkbgdbalnaa", sum := "0df6226f067fcb2c670da500fb57e0ba10add2ccd12e483fae359888a0390950", func := "souterrain/souterrainlaw03.ScanTorn", spec := "scanTorn", unfollowed := true, recurses := true, apart := false, narrowed := true }
def ScanTornUptoSaid : Prop := scanTornUptoRow.holds Try.pinned (OpenSpec.upto scanTornSpec)

/-- 'souterrainlaw03.ScanParted', WHERE WHAT IT READS IS OF BULK AT MOST 1048576: true; the input reads as it did. -/
def scanPartedUptoRow : OpenClaim := { program := "ytjednkbgdbalnaa", sum := "0df6226f067fcb2c670da500fb57e0ba10add2ccd12e483fae359888a0390950", func := "souterrain/souterrainlaw03.ScanParted", spec := "scanParted", unfollowed := true, recurses := true, apart := false, narrowed := true }
def ScanPartedUptoSaid : Prop := scanPartedUptoRow.holds Try.pinned (OpenSpec.upto scanPartedSpec)

/-- 'souterrainlaw03.ScanAgain', WHERE WHAT IT READS IS OF BULK AT MOST 1048576: true; the input reads as it did. -/
def scanAgainUptoRow : OpenClaim := { program := "ytjednkbgdbalnaa", sum := "0df6226f067fcb2c670da500fb57e0ba10add2ccd12e483fae359888a0390950", func := "souterrain/souterrainlaw03.ScanAgain", spec := "scanAgain", unfollowed := true, recurses := true, apart := false, narrowed := true }
def ScanAgainUptoSaid : Prop := scanAgainUptoRow.holds Try.pinned (OpenSpec.upto scanAgainSpec)

end Rows
end Go.Proofs.Ytjednkbgdbalnaa

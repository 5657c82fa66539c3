/- What hint.Of tells: each key's last record. Over lists alone. -/
import Derived.Test.YteplnpedakdjkaaZGe
import Derived.Test.YteplnpedakdjkaaZGc
import Derived.Sort.Walk0
namespace Go.Proofs.Yteplnpedakdjkaa.Hu
set_option linter.unusedVariables false
set_option linter.unusedSimpArgs false
open Go.RowKit Go.Proofs.Yteplnpedakdjkaa.Pt Go.Proofs.YteplnpedakdjkaaW.PrintWords Go.Proofs.YteplnpedakdjkaaW.PrintLast Go.Proofs.Yteplnpedakdjkaa.Fr Go.Proofs.Yteplnpedakdjkaa.Ext Go.Proofs.Yteplnpedakdjkaa.Sc Go.Proofs.Yteplnpedakdjkaa.Hn Go.Proofs.Yteplnpedakdjkaa.Pure

theorem list_key (s : ByteArray) : s.toList = keyL s := by
  unfold ByteArray.toList keyL
  rw [loop_list]
  simp
theorem key_inj {a b : ByteArray} (h : keyL a = keyL b) : a = b := congrArg ByteArray.mk (Array.toList_inj.mp h)
theorem ofL_len (f : List Fo) : (ofL f).length ≤ f.length := by
  have := of_len f []
  simpa [ofL] using this
end Go.Proofs.Yteplnpedakdjkaa.Hu


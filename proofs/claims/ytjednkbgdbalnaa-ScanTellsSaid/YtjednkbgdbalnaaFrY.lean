/- A string made of a row, the row's length told in other words. -/
import Derived.Test.YtjednkbgdbalnaaFrH
namespace Go.Proofs.Ytjednkbgdbalnaa.Ext
open Go.RowKit

theorem conv_len {P : Program} {w w2 : World} {T U : TypeId} {A : Option Addr} {n n' c : Nat} {s : Value} (h : (convert T U (.slice A n c)).run P w = .ok s w2) (e : n' = n) : (convert T U (.slice A n' c)).run P w = .ok s w2 := by
  subst e
  exact h
end Go.Proofs.Ytjednkbgdbalnaa.Ext

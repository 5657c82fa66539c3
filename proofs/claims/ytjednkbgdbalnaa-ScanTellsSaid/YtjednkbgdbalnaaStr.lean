/- Two strings made of bytes are one only if the bytes are. -/
import Derived.Test.YtjednkbgdbalnaaPureCommon
namespace Go.Proofs.Ytjednkbgdbalnaa.Pure
open Go.RowKit Go.Proofs.Ytjednkbgdbalnaa.Fr

theorem loop_list (s : ByteArray) (i : Nat) (r : List UInt8) : ByteArray.toList.loop s i r = r.reverse ++ s.data.toList.drop i := by
  unfold ByteArray.toList.loop
  split
  · rename_i h
    rw [loop_list s (i + 1)]
    have h' : i < s.data.toList.length := by simpa using h
    rw [List.drop_eq_getElem_cons h', List.reverse_cons, List.append_assoc]
    simp [ByteArray.get!, h]
  · rename_i h
    rw [List.drop_eq_nil_of_le (by simpa using h), List.append_nil]
termination_by s.size - i
theorem str_of_list {s t : ByteArray} (h : s.toList = t.toList) : s = t := by
  unfold ByteArray.toList at h
  rw [loop_list, loop_list] at h
  simp only [List.reverse_nil, List.nil_append, List.drop_zero] at h
  cases s
  cases t
  exact congrArg ByteArray.mk (Array.toList_inj.mp h)
theorem str_of_bytes {l m : List Int} (h : IsBytes l) (h' : IsBytes m) (e : strOfNums l = strOfNums m) : l = m := by
  have e2 := congrArg (fun s : ByteArray => s.data.toList) e
  simp only [strOfNums_data] at e2
  have g : ∀ (l : List Int), IsBytes l → (l.map fun n => UInt8.ofNat n.toNat).map (fun b => (b.toNat : Int)) = l := by
    intro l h
    rw [List.map_map]
    conv => rhs; rw [← List.map_id l]
    refine List.map_congr_left fun x hx => ?_
    have := h x hx
    simp only [Function.comp, UInt8.toNat_ofNat', id]
    omega
  rw [← g l h, ← g m h', e2]
theorem str_iff {l m : List Int} (h : IsBytes l) (h' : IsBytes m) : (strOfNums l).toList = (strOfNums m).toList ↔ l = m :=
  ⟨fun e => str_of_bytes h h' (str_of_list e), fun e => by rw [e]⟩
end Go.Proofs.Ytjednkbgdbalnaa.Pure

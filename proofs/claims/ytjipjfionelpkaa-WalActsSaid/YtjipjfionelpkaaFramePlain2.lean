/- More plain law of frames: what is told of a row of frames, cut off anywhere. -/
import Derived.Test.YtjipjfionelpkaaFramePlain
namespace Go.Proofs.Ytjipjfionelpkaa.framePlain
open Go.RowKit Go.Proofs.Ytjipjfionelpkaa.hashPlain

theorem rowOf_cons (r : List UInt8) (L : List (List UInt8)) : rowOf (r :: L) = frameOf r ++ rowOf L := by simp [rowOf]
theorem rowOf_append (L L' : List (List UInt8)) : rowOf (L ++ L') = rowOf L ++ rowOf L' := by simp [rowOf]
theorem rowOf_split (L : List (List UInt8)) (j : Nat) (h : j < L.length) : rowOf L = rowOf (L.take j) ++ (frameOf L[j] ++ rowOf (L.drop (j + 1))) := by
  rw [← rowOf_cons, ← rowOf_append, ← List.drop_eq_getElem_cons h, List.take_append_drop]
theorem told_row (L : List (List UInt8)) (rest : List UInt8) (h : ∀ r ∈ L, r.length ≤ 16777216) (j : Nat) (hj : j ≤ L.length) :
    ToldB (rowOf L ++ rest) (L.take j) (rowOf (L.take j)).length := by
  induction j with
  | zero => simpa [rowOf] using ToldB.start _
  | succ j ih =>
    have hlt : j < L.length := hj
    have hf : first ((rowOf L ++ rest).drop (rowOf (L.take j)).length) = some L[j] := by
      rw [rowOf_split L j hlt, List.append_assoc, List.drop_append_of_le_length (Nat.le_refl _), List.drop_of_length_le (Nat.le_refl _), List.nil_append, List.append_assoc]
      exact first_frame _ _ (h _ (List.getElem_mem hlt))
    have := (ih (by omega)).next hf
    rw [List.take_succ_eq_append_getElem hlt, rowOf_snoc, List.length_append, frameOf_length]
    exact this
theorem told_all (L : List (List UInt8)) (rest : List UInt8) (h : ∀ r ∈ L, r.length ≤ 16777216) : ToldB (rowOf L ++ rest) L (rowOf L).length := by
  have := told_row L rest h L.length (Nat.le_refl _)
  rwa [List.take_of_length_le (Nat.le_refl _)] at this
/-- A scan of a row of frames. -/
theorem scan_row {L R : List (List UInt8)} {k : Nat} (h : ∀ r ∈ L, r.length ≤ 16777216) (ht : ToldB (rowOf L) R k) (hf : first ((rowOf L).drop k) = none) : R = L ∧ k = (rowOf L).length := by
  have h1 := told_all L [] h
  rw [List.append_nil] at h1
  exact ht.unique h1 hf (first_short (by simp))
theorem scan_short {bs : List UInt8} {R : List (List UInt8)} {k : Nat} (h : bs.length < 12) (ht : ToldB bs R k) (hf : first (bs.drop k) = none) : R = [] ∧ k = 0 :=
  ht.unique (ToldB.start bs) hf (first_short (by simpa using h))

/-- How many of the records have their frames within the first bytes, and how long these are. -/
theorem first_cut {r t : List UInt8} {m : Nat} (hr : r.length ≤ 16777216) (hm : m < 12 + r.length) : first ((frameOf r ++ t).take m) = none := by
  by_cases h12 : m < 12
  · exact first_short (by rw [List.length_take]; omega)
  · have hlen : ((frameOf r ++ t).take m).length = m := by rw [List.length_take, List.length_append, frameOf_length]; omega
    have e4 : ((frameOf r ++ t).take m).take 4 = lowB r.length 4 := by
      rw [List.take_take, Nat.min_eq_left (by omega), frameOf, List.append_assoc, List.take_append_of_le_length (by rw [lowB_length]; omega), List.take_of_length_le (by rw [lowB_length]; omega)]
    refine first_large (by rw [hlen]; exact h12) (.inr ?_)
    rw [hlen, e4, numB_lowB, Nat.mod_eq_of_lt (by omega)]
    omega
/-- The records of a row that stand wholly within the first m bytes. -/
theorem scan_torn {L R : List (List UInt8)} {k j m : Nat} (h : ∀ r ∈ L, r.length ≤ 16777216) (h1 : (rowOf (L.take j)).length ≤ m)
    (h2 : ∀ hlt : j < L.length, m < (rowOf (L.take j)).length + (12 + L[j].length)) (ht : ToldB ((rowOf L).take m) R k) (hf : first (((rowOf L).take m).drop k) = none) : R = L.take j ∧ k = (rowOf (L.take j)).length := by
  have e : rowOf L = rowOf (L.take j) ++ rowOf (L.drop j) := by rw [← rowOf_append, List.take_append_drop]
  have e2 : (rowOf L).take m = rowOf (L.take j) ++ (rowOf (L.drop j)).take (m - (rowOf (L.take j)).length) := by
    rw [e, List.take_append, List.take_of_length_le h1]
  have hT : ToldB ((rowOf L).take m) (L.take j) (rowOf (L.take j)).length := by
    rw [e2]
    exact told_all _ _ fun r hr => h r (List.mem_of_mem_take hr)
  refine ht.unique hT hf ?_
  rw [e2, List.drop_append_of_le_length (Nat.le_refl _), List.drop_of_length_le (Nat.le_refl _), List.nil_append]
  by_cases hlt : j < L.length
  · rw [List.drop_eq_getElem_cons hlt, rowOf_cons]
    exact first_cut (h _ (List.getElem_mem hlt)) (by have := h2 hlt; omega)
  · rw [List.drop_of_length_le (by omega)]
    exact first_short (by simp [rowOf])
end Go.Proofs.Ytjipjfionelpkaa.framePlain

/- The plain law of FrameSpoilt: one byte of the last record, turned. -/
import Derived.Test.YtgnfodfbgkbnbaaFramePlain2
namespace Go.Proofs.Ytgnfodfbgkbnbaa.framePlain
open Go.RowKit Go.Proofs.Ytgnfodfbgkbnbaa.hashPlain

theorem first_spoilt (r : List UInt8) (p : Nat) (hp : p < r.length) (v : UInt8) (hv : v ≠ r[p]) (hr : r.length ≤ 16777216) :
    first (lowB r.length 4 ++ (lowB (hsum (lowB r.length 4 ++ r)) 8 ++ r.set p v)) = none := by
  obtain ⟨a, ha⟩ : ∃ a, a = lowB r.length 4 := ⟨_, rfl⟩
  have la : a.length = 4 := by rw [ha, lowB_length]
  have na : numB a = r.length := by rw [ha, numB_lowB, Nat.mod_eq_of_lt (by omega)]
  rw [← ha]
  obtain ⟨s, hs⟩ : ∃ s, s = lowB (hsum (a ++ r)) 8 := ⟨_, rfl⟩
  have ls : s.length = 8 := by rw [hs, lowB_length]
  have ns : numB s = hsum (a ++ r) := by rw [hs, numB_lowB, Nat.mod_eq_of_lt (show hsum _ < 256 ^ 8 from sum_lt _)]
  rw [← hs]
  have lr : (r.set p v).length = r.length := by simp
  have t4 : (a ++ (s ++ r.set p v)).take 4 = a := by rw [List.take_append_of_le_length (by omega), List.take_of_length_le (by omega)]
  have d4 : (a ++ (s ++ r.set p v)).drop 4 = s ++ r.set p v := by rw [List.drop_append_of_le_length (by omega), List.drop_of_length_le (by omega), List.nil_append]
  have d12 : (a ++ (s ++ r.set p v)).drop 12 = r.set p v := by
    rw [← List.append_assoc, List.drop_append_of_le_length (by rw [List.length_append]; omega), List.drop_of_length_le (by rw [List.length_append]; omega), List.nil_append]
  have t8 : (s ++ r.set p v).take 8 = s := by rw [List.take_append_of_le_length (by omega), List.take_of_length_le (by omega)]
  refine first_no (by rw [List.length_append, List.length_append]; omega) ?_ ?_
  · rw [t4, na, List.length_append, List.length_append, lr]
    omega
  · rw [t4, d4, d12, t8, na, ns, List.take_of_length_le (by omega)]
    intro h
    have e : a ++ r.set p v = (a ++ r).set (4 + p) v := by
      rw [List.set_append_right _ _ (by omega), la, Nat.add_sub_cancel_left]
    rw [e] at h
    have h2 := (hsum_set (a ++ r) (4 + p) (by rw [List.length_append]; omega) v).1 h
    rw [← e] at h2
    have h3 := List.append_cancel_left h2
    apply hv
    have h4 : r[p]? = (r.set p v)[p]? := by rw [← h3]
    rw [List.getElem?_eq_getElem hp, List.getElem?_set_self hp] at h4
    injection h4 with h4
    exact h4.symm

theorem row_spoilt (L : List (List UInt8)) (r : List UInt8) (p : Nat) (v : UInt8) :
    (rowOf (L ++ [r])).set ((rowOf L).length + (12 + p)) v = rowOf L ++ (lowB r.length 4 ++ (lowB (hsum (lowB r.length 4 ++ r)) 8 ++ r.set p v)) := by
  rw [rowOf_snoc, List.set_append_right _ _ (by omega), Nat.add_sub_cancel_left, frameOf, List.set_append_right _ _ (by rw [lowB_length]; omega), lowB_length, List.set_append_right _ _ (by rw [lowB_length]; omega), lowB_length,
    show 12 + p - 4 - 8 = p by omega]
theorem row_at (L : List (List UInt8)) (r : List UInt8) (p : Nat) (hp : p < r.length) (h : (rowOf L).length + (12 + p) < (rowOf (L ++ [r])).length) : (rowOf (L ++ [r]))[(rowOf L).length + (12 + p)] = r[p] := by
  have e : rowOf (L ++ [r]) = (rowOf L ++ (lowB r.length 4 ++ lowB (hsum (lowB r.length 4 ++ r)) 8)) ++ r := by rw [rowOf_snoc, frameOf]; simp
  have hl : (rowOf L ++ (lowB r.length 4 ++ lowB (hsum (lowB r.length 4 ++ r)) 8)).length = (rowOf L).length + 12 := by simp [lowB_length]
  have h4 : (rowOf (L ++ [r]))[(rowOf L).length + (12 + p)]? = some r[p] := by
    rw [e, List.getElem?_append_right (by omega), hl, show (rowOf L).length + (12 + p) - ((rowOf L).length + 12) = p by omega, List.getElem?_eq_getElem hp]
  rw [List.getElem?_eq_getElem h] at h4
  injection h4
/-- A scan of a row whose last record has a byte turned. -/
theorem scan_spoilt {L R : List (List UInt8)} {r : List UInt8} {p k : Nat} {v : UInt8} (hp : p < r.length) (hv : v ≠ r[p]) (hr : r.length ≤ 16777216) (hL : ∀ x ∈ L, x.length ≤ 16777216)
    (ht : ToldB ((rowOf (L ++ [r])).set ((rowOf L).length + (12 + p)) v) R k) (hf : first (((rowOf (L ++ [r])).set ((rowOf L).length + (12 + p)) v).drop k) = none) : R = L := by
  rw [row_spoilt L r p v] at ht hf
  refine (ht.unique (told_all L _ hL) hf ?_).1
  rw [List.drop_append_of_le_length (Nat.le_refl _), List.drop_of_length_le (Nat.le_refl _), List.nil_append]
  exact first_spoilt r p hp v hv hr
end Go.Proofs.Ytgnfodfbgkbnbaa.framePlain

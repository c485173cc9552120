/- The plain law of placing. -/
import Derived.Test.YtbnpljcjjpokjaaViewP
namespace Go.Proofs.Ytbnpljcjjpokjaa.mem
open Go.Proofs.Ytbnpljcjjpokjaa.viewWalk
def bothM (L U : List (Int × Int)) : List (Int × Int) := L.filter fun m => decide (0 ≤ idx U m)
def leadM (L : List (Int × Int)) (x : Int × Int) : List (Int × Int) := if idx L x < 0 then L else [x] ++ L.take (idx L x).toNat ++ L.drop ((idx L x).toNat + 1)
def refLeadM (L : List (Int × Int)) (x : Int × Int) : List (Int × Int) := (if idx L x < 0 then [] else [x]) ++ L.filter fun m => decide (m ≠ x)
def hasN (K : List (Int × Int)) (n : Int) : Bool := K.any fun k => k.1 == n
def turnM (s : Nat) (U : List (Int × Int)) : List (Int × Int) := U.drop (s % U.length) ++ U.take (s % U.length)
def stepC (K : List (Int × Int)) (cnt : Int) (out : List (Int × Int)) (m : Int × Int) : List (Int × Int) := if (out.length : Int) < cnt ∧ hasN K m.1 = false then out ++ [m] else out
def chainM (s : Nat) (K U : List (Int × Int)) (cnt : Int) : List (Int × Int) := (turnM s U).foldl (stepC K cnt) K

theorem filter_succ {α : Type} (p : α → Bool) (L : List α) (k : Nat) (h : k < L.length) : (L.take (k + 1)).filter p = (L.take k).filter p ++ (if p L[k] then [L[k]] else []) := by
  rw [← List.take_append_getElem h, List.filter_append]
  congr 1
  simp only [List.filter_cons, List.filter_nil]
theorem foldl_succ {α β : Type} (f : β → α → β) (b : β) (L : List α) (k : Nat) (h : k < L.length) : (L.take (k + 1)).foldl f b = f ((L.take k).foldl f b) L[k] := by
  rw [← List.take_append_getElem h, List.foldl_append]
  rfl
theorem turnM_length (s : Nat) (U : List (Int × Int)) : (turnM s U).length = U.length := by
  unfold turnM
  rcases Nat.eq_zero_or_pos U.length with h | h
  · rw [List.eq_nil_of_length_eq_zero h]; simp
  · have := Nat.mod_lt s h
    rw [List.length_append, List.length_drop, List.length_take]; omega
theorem turn_get (f : Nat) (U : List (Int × Int)) (k : Nat) (h : k < U.length) (hm : f < U.length) (h2 : k < (U.drop f ++ U.take f).length) : (U.drop f ++ U.take f)[k] = U[(f + k + U.length) % U.length]'(Nat.mod_lt _ (by omega)) := by
  rw [List.getElem_append]
  split
  · rename_i h1
    rw [List.length_drop] at h1
    rw [List.getElem_drop]
    congr 1
    rw [Nat.add_mod_right, Nat.mod_eq_of_lt (by omega)]
  · rename_i h1
    rw [List.length_drop] at h1
    rw [List.getElem_take]
    congr 1
    rw [List.length_drop, Nat.add_mod_right]
    have e : (f + k) % U.length = f + k - U.length := by
      rw [Nat.mod_eq_sub_mod (by omega), Nat.mod_eq_of_lt (by omega)]
    rw [e]
    omega
theorem turnM_get (s : Nat) (U : List (Int × Int)) (k : Nat) (h : k < U.length) : (turnM s U)[k]'(by rw [turnM_length]; exact h) = U[(s % U.length + k + U.length) % U.length]'(Nat.mod_lt _ (by omega)) :=
  turn_get (s % U.length) U k h (Nat.mod_lt s (by omega)) (by rw [show U.drop (s % U.length) ++ U.take (s % U.length) = turnM s U from rfl, turnM_length]; exact h)
/-- Once there are as many as asked for, nothing is added. -/
theorem foldl_full (K : List (Int × Int)) (cnt : Int) (T : List (Int × Int)) (out : List (Int × Int)) (h : cnt ≤ (out.length : Int)) : T.foldl (stepC K cnt) out = out := by
  induction T with
  | nil => rfl
  | cons m T ih =>
    rw [List.foldl_cons]
    have : stepC K cnt out m = out := by unfold stepC; rw [if_neg (by omega)]
    rw [this, ih]
theorem foldl_full_take (K : List (Int × Int)) (cnt : Int) (T : List (Int × Int)) (b : List (Int × Int)) (k : Nat) (h : cnt ≤ (((T.take k).foldl (stepC K cnt) b).length : Int)) : (T.take k).foldl (stepC K cnt) b = T.foldl (stepC K cnt) b := by
  have e : T.foldl (stepC K cnt) b = (T.drop k).foldl (stepC K cnt) ((T.take k).foldl (stepC K cnt) b) := by
    rw [← List.foldl_append, List.take_append_drop]
  rw [e, foldl_full _ _ _ _ h]
theorem stepC_length (K : List (Int × Int)) (cnt : Int) (out : List (Int × Int)) (m : Int × Int) : out.length ≤ (stepC K cnt out m).length ∧ (stepC K cnt out m).length ≤ out.length + 1 := by
  unfold stepC
  split
  · simp
  · omega
theorem foldl_length (K : List (Int × Int)) (cnt : Int) (T out : List (Int × Int)) : out.length ≤ (T.foldl (stepC K cnt) out).length ∧ (T.foldl (stepC K cnt) out).length ≤ out.length + T.length := by
  induction T generalizing out with
  | nil => simp
  | cons m T ih =>
    have h1 := ih (stepC K cnt out m)
    have h2 := stepC_length K cnt out m
    rw [List.foldl_cons, List.length_cons]
    omega
theorem filter_ne (L : List (Int × Int)) (x : Int × Int) (h : ∀ m ∈ L, m ≠ x) : L.filter (fun m => decide (m ≠ x)) = L := by
  rw [List.filter_eq_self]
  intro m hm
  exact decide_eq_true (h m hm)
theorem idx_spec (L : List (Int × Int)) (x : Int × Int) (h : 0 ≤ idx L x) : ∃ hk : (idx L x).toNat < L.length, L[(idx L x).toNat] = x := by
  induction L with
  | nil => simp [idx] at h
  | cons m l ih =>
    by_cases h0 : m = x
    · have e : idx (m :: l) x = 0 := by unfold idx; rw [if_pos h0]
      rw [e]
      exact ⟨by simp, by simpa using h0⟩
    · by_cases h1 : idx l x < 0
      · have e : idx (m :: l) x = -1 := by unfold idx; rw [if_neg h0, if_pos h1]
        rw [e] at h
        omega
      · have e : idx (m :: l) x = idx l x + 1 := by rw [idx, if_neg h0, if_neg h1]
        obtain ⟨g1, g2⟩ := ih (by omega)
        have e2 : (idx (m :: l) x).toNat = (idx l x).toNat + 1 := by rw [e]; omega
        exact ⟨by rw [e2]; simpa using g1, by simp only [e2, List.getElem_cons_succ]; exact g2⟩
theorem idx_none (L : List (Int × Int)) (x : Int × Int) (h : idx L x < 0) : ∀ m ∈ L, m ≠ x := by
  intro m hm e
  subst e
  obtain ⟨k, hk, e⟩ := List.getElem_of_mem hm
  induction L generalizing k with
  | nil => simp at hm
  | cons a l ih =>
    by_cases h0 : a = m
    · have e : idx (a :: l) m = 0 := by unfold idx; rw [if_pos h0]
      omega
    · rcases k with _ | k
      · exact h0 (by simpa using e)
      · have h1 : idx l m < 0 := by
          rcases Int.lt_or_le (idx l m) 0 with h1 | h1
          · exact h1
          · have e : idx (a :: l) m = idx l m + 1 := by rw [idx, if_neg h0, if_neg (by omega)]
            omega
        have hk' : k < l.length := by simpa using hk
        exact ih (by have := List.getElem_mem hk'; rwa [show l[k] = m by simpa using e] at this) h1 k hk' (by simpa using e)
theorem lead_same (L : List (Int × Int)) (x : Int × Int) (h : L.length = 0 ∨ RightP L) : leadM L x = refLeadM L x := by
  unfold leadM refLeadM
  by_cases h0 : idx L x < 0
  · rw [if_pos h0, if_pos h0, List.nil_append, filter_ne L x (idx_none L x h0)]
  · rw [if_neg h0, if_neg h0]
    obtain ⟨hk, e⟩ := idx_spec L x (by omega)
    have hR : RightP L := by
      rcases h with h | h
      · omega
      · exact h
    generalize (idx L x).toNat = k at hk e
    have hs : L = L.take k ++ x :: L.drop (k + 1) := by
      rw [← e, ← List.drop_eq_getElem_cons hk, List.take_append_drop]
    have hall : ∀ j (hj : j < L.length), j ≠ k → L[j] ≠ x := fun j hj hne e2 => by
      have e3 : L[j].1 = L[k].1 := by rw [e2, e]
      rcases Nat.lt_or_gt_of_ne hne with h1 | h1
      · exact hR.2.2 j k hk h1 e3
      · exact hR.2.2 k j hj h1 e3.symm
    have e1 : (L.take k).filter (fun m => decide (m ≠ x)) = L.take k := filter_ne _ _ fun m hm => by
      obtain ⟨j, hj, rfl⟩ := List.getElem_of_mem hm
      rw [List.length_take] at hj
      rw [List.getElem_take]
      exact hall j (by omega) (by omega)
    have e2 : (L.drop (k + 1)).filter (fun m => decide (m ≠ x)) = L.drop (k + 1) := filter_ne _ _ fun m hm => by
      obtain ⟨j, hj, rfl⟩ := List.getElem_of_mem hm
      rw [List.length_drop] at hj
      rw [List.getElem_drop]
      exact hall (k + 1 + j) (by omega) (by omega)
    conv => rhs; rw [hs]
    rw [List.filter_append, List.filter_cons, e1, e2]
    simp
end Go.Proofs.Ytbnpljcjjpokjaa.mem

/- The plain law of chains. -/
import Derived.Test.YtbnpljcjjpokjaaView7
namespace Go.Proofs.Ytbnpljcjjpokjaa.viewWalk
open Go.Proofs.Ytbnpljcjjpokjaa.mem

theorem idx_right {L : List (Int × Int)} (h : RightP L) (k : Nat) (hk : k < L.length) : idx L L[k] = k :=
  idx_of L L[k] k hk rfl fun j hj e => h.2.2 j k hk hj (by rw [e])
theorem idx_other {L : List (Int × Int)} (h : RightP L) (k : Nat) (hk : k < L.length) {b : Int} (hb : b ≠ L[k].2) : idx L (L[k].1, b) = -1 := by
  refine idx_no L _ fun j hj e => ?_
  have e1 : L[j].1 = L[k].1 := by rw [e]
  rcases Nat.lt_trichotomy j k with h1 | rfl | h1
  · exact h.2.2 j k hk h1 e1
  · exact hb (by rw [e])
  · exact h.2.2 k j hj h1 e1.symm
theorem ahead_right {L : List (Int × Int)} (h : RightP L) (k : Nat) (hk : k + 1 < L.length) : aheadM L L[k + 1] = (L[k], true) := by
  unfold aheadM atM
  rw [idx_right h (k + 1) hk, if_pos (by omega)]
  have e : (((k + 1 : Nat) : Int) - 1).toNat = k := by omega
  rw [e, List.getD, List.getElem?_eq_getElem (by omega)]
  rfl
theorem ahead_first {L : List (Int × Int)} (h : RightP L) (hk : 0 < L.length) : aheadM L L[0] = ((0, 0), false) := by
  unfold aheadM atM
  rw [idx_right h 0 hk, if_neg (by omega)]
theorem behind_right {L : List (Int × Int)} (h : RightP L) (k : Nat) (hk : k + 1 < L.length) : behindM L L[k] = (L[k + 1], true) := by
  unfold behindM atM
  rw [idx_right h k (by omega), if_neg (by omega), if_pos (by omega)]
  have e : ((k : Int) + 1).toNat = k + 1 := by omega
  rw [e, List.getD, List.getElem?_eq_getElem hk]
  rfl
theorem behind_last {L : List (Int × Int)} (h : RightP L) (k : Nat) (hk : k + 1 = L.length) : behindM L (L[k]'(by omega)) = ((0, 0), false) := by
  unfold behindM atM
  rw [idx_right h k (by omega), if_neg (by omega), if_neg (by omega)]
theorem head_right {L : List (Int × Int)} (hk : 0 < L.length) : headM L = (L[0], true) := by
  cases L with
  | nil => simp at hk
  | cons m l => rfl
/-- The document's Side. -/
def sideM (L : List (Int × Int)) (x : Int × Int) (d : Int) : (Int × Int) × Bool := if idx L x < 0 then ((0, 0), false) else atM L (idx L x + d)
theorem side_ahead (L : List (Int × Int)) (x : Int × Int) : sideM L x (-1) = aheadM L x := by
  unfold sideM aheadM
  rcases idx_bounds L x with h | h
  · rw [if_pos (by omega), h]
    unfold atM
    rw [if_neg (by omega)]
  · rw [if_neg (by omega)]
    rfl
theorem side_behind (L : List (Int × Int)) (x : Int × Int) : sideM L x 1 = behindM L x := rfl
end Go.Proofs.Ytbnpljcjjpokjaa.viewWalk

/- The plain law of frames: a record's frame, numbers as bytes with the lowest first, the scan: no program in sight. -/
import Derived.Test.YtjipjfionelpkaaHashPlain
namespace Go.Proofs.Ytjipjfionelpkaa.framePlain
open Go.RowKit Go.Proofs.Ytjipjfionelpkaa.hashPlain

def lowB (x : Nat) : Nat → List UInt8
  | 0 => []
  | k + 1 => UInt8.ofNat x :: lowB (x / 256) k
def numB : List UInt8 → Nat
  | [] => 0
  | b :: l => b.toNat + 256 * numB l
theorem lowB_length (x k : Nat) : (lowB x k).length = k := by
  induction k generalizing x with
  | zero => rfl
  | succ k ih => simp [lowB, ih]
theorem lowB_snoc (x k : Nat) : lowB x (k + 1) = lowB x k ++ [UInt8.ofNat (x / 256 ^ k)] := by
  induction k generalizing x with
  | zero => simp [lowB]
  | succ k ih =>
    rw [lowB, ih, lowB, List.cons_append, Nat.div_div_eq_div_mul, Nat.pow_succ, Nat.mul_comm 256]
theorem numB_lt (l : List UInt8) : numB l < 256 ^ l.length := by
  induction l with
  | nil => simp [numB]
  | cons b l ih =>
    have := b.toNat_lt
    rw [numB, List.length_cons, Nat.pow_succ]
    have h2 : 256 * (numB l + 1) ≤ 256 * 256 ^ l.length := Nat.mul_le_mul_left _ ih
    omega
theorem ofNat_toNat_mod (x : Nat) : (UInt8.ofNat x).toNat = x % 256 := by simp
theorem numB_lowB (x k : Nat) : numB (lowB x k) = x % 256 ^ k := by
  induction k generalizing x with
  | zero => simp [lowB, numB, Nat.mod_one]
  | succ k ih =>
    rw [lowB, numB, ih, ofNat_toNat_mod, Nat.pow_succ, Nat.mul_comm (256 ^ k), Nat.mod_mul]
theorem lowB_numB (l : List UInt8) : lowB (numB l) l.length = l := by
  induction l with
  | nil => rfl
  | cons b l ih =>
    have := b.toNat_lt
    rw [numB, List.length_cons, lowB]
    have e1 : (b.toNat + 256 * numB l) / 256 = numB l := by omega
    have e2 : UInt8.ofNat (b.toNat + 256 * numB l) = b := by
      apply UInt8.toNat_inj.1
      rw [ofNat_toNat_mod]
      omega
    rw [e1, e2, ih]
theorem lowB_inj {x y k : Nat} (hx : x < 256 ^ k) (hy : y < 256 ^ k) (h : lowB x k = lowB y k) : x = y := by
  have := congrArg numB h
  rwa [numB_lowB, numB_lowB, Nat.mod_eq_of_lt hx, Nat.mod_eq_of_lt hy] at this

/-- A record's frame. -/
def frameOf (r : List UInt8) : List UInt8 := lowB r.length 4 ++ (lowB (hsum (lowB r.length 4 ++ r)) 8 ++ r)
theorem frameOf_length (r : List UInt8) : (frameOf r).length = 12 + r.length := by simp [frameOf, lowB_length]; omega

/-- The record whose frame stands at the beginning of l, if there is one. -/
def first (l : List UInt8) : Option (List UInt8) :=
  if l.length < 12 then none
  else if 16777216 < numB (l.take 4) ∨ l.length - 12 < numB (l.take 4) then none
  else if frameOf ((l.drop 12).take (numB (l.take 4))) = l.take (12 + numB (l.take 4)) then some ((l.drop 12).take (numB (l.take 4)))
  else none
theorem first_some {l r : List UInt8} (h : first l = some r) : frameOf r <+: l ∧ r.length ≤ 16777216 := by
  unfold first at h
  split at h
  · cases h
  · split at h
    · cases h
    · split at h
      · rename_i h1 h2 h3
        injection h with h
        rw [h] at h3
        refine ⟨h3 ▸ List.take_prefix _ _, ?_⟩
        rw [← h, List.length_take]
        omega
      · cases h
theorem first_frame (r rest : List UInt8) (h : r.length ≤ 16777216) : first (frameOf r ++ rest) = some r := by
  have e1 : (frameOf r ++ rest).take 4 = lowB r.length 4 := by
    rw [frameOf, List.append_assoc, List.take_append_of_le_length (by rw [lowB_length]; omega), List.take_of_length_le (by rw [lowB_length]; omega)]
  have e2 : numB ((frameOf r ++ rest).take 4) = r.length := by
    rw [e1, numB_lowB, Nat.mod_eq_of_lt (by omega)]
  have e3 : ((frameOf r ++ rest).drop 12).take r.length = r := by
    have : (frameOf r ++ rest).drop 12 = r ++ rest := by
      rw [frameOf, ← List.append_assoc, List.append_assoc _ r rest, List.drop_append_of_le_length (by simp [lowB_length]), List.drop_of_length_le (by simp [lowB_length])]
      rfl
    rw [this, List.take_append_of_le_length (Nat.le_refl _), List.take_of_length_le (Nat.le_refl _)]
  have e4 : (frameOf r ++ rest).take (12 + r.length) = frameOf r := by
    rw [← frameOf_length, List.take_append_of_le_length (Nat.le_refl _), List.take_of_length_le (Nat.le_refl _)]
  unfold first
  rw [e2, e3, e4, if_neg (by rw [List.length_append, frameOf_length]; omega), if_neg (by rw [List.length_append, frameOf_length]; omega), if_pos rfl]

/-- The records told from l on, and how many bytes they take. -/
def scan : Nat → List UInt8 → List (List UInt8) × Nat
  | 0, _ => ([], 0)
  | f + 1, l => match first l with
    | none => ([], 0)
    | some r => (r :: (scan f (l.drop (12 + r.length))).1, 12 + r.length + (scan f (l.drop (12 + r.length))).2)
def rowOf (L : List (List UInt8)) : List UInt8 := (L.map frameOf).flatten

theorem rowOf_snoc (L : List (List UInt8)) (r : List UInt8) : rowOf (L ++ [r]) = rowOf L ++ frameOf r := by simp [rowOf]
theorem rowOf_length_le (L : List (List UInt8)) (m : Nat) (h : ∀ r ∈ L, r.length ≤ m) : (rowOf L).length ≤ L.length * (12 + m) := by
  induction L with
  | nil => simp [rowOf]
  | cons a L ih =>
    have h1 := h a (List.mem_cons_self ..)
    have h2 := ih (fun r hr => h r (List.mem_cons_of_mem _ hr))
    have e : rowOf (a :: L) = frameOf a ++ rowOf L := by simp [rowOf]
    rw [e, List.length_append, frameOf_length, List.length_cons, Nat.add_mul]
    omega

theorem first_short {l : List UInt8} (h : l.length < 12) : first l = none := by unfold first; rw [if_pos h]
theorem first_large {l : List UInt8} (h : ¬ l.length < 12) (h2 : 16777216 < numB (l.take 4) ∨ l.length - 12 < numB (l.take 4)) : first l = none := by
  unfold first; rw [if_neg h, if_pos h2]
theorem frame_iff {l : List UInt8} (h : ¬ l.length < 12) (h2 : ¬ (16777216 < numB (l.take 4) ∨ l.length - 12 < numB (l.take 4))) :
    frameOf ((l.drop 12).take (numB (l.take 4))) = l.take (12 + numB (l.take 4)) ↔ numB ((l.drop 4).take 8) = hsum (l.take 4 ++ (l.drop 12).take (numB (l.take 4))) := by
  have e4 : lowB (numB (l.take 4)) 4 = l.take 4 := by
    have := lowB_numB (l.take 4)
    rwa [List.length_take, Nat.min_eq_left (by omega)] at this
  obtain ⟨k, hk⟩ : ∃ k, k = numB (l.take 4) := ⟨_, rfl⟩
  rw [← hk] at h2 e4 ⊢
  have hrl : ((l.drop 12).take k).length = k := by rw [List.length_take, List.length_drop]; omega
  have hcut : l.take (12 + k) = l.take 4 ++ ((l.drop 4).take 8 ++ (l.drop 12).take k) := by
    rw [show 12 + k = 4 + (8 + k) by omega, List.take_add, List.take_add, List.drop_drop]
  have e8 : lowB (numB ((l.drop 4).take 8)) 8 = (l.drop 4).take 8 := by
    have := lowB_numB ((l.drop 4).take 8)
    rwa [List.length_take, List.length_drop, Nat.min_eq_left (by omega)] at this
  rw [frameOf, hrl, e4, hcut]
  constructor
  · intro he
    have h1 := List.append_inj_right he rfl
    have h3 := List.append_inj_left h1 (by rw [lowB_length, List.length_take, List.length_drop]; omega)
    have h5 := congrArg numB h3
    rw [numB_lowB, Nat.mod_eq_of_lt (show hsum _ < 256 ^ 8 from sum_lt _)] at h5
    exact h5.symm
  · intro he
    rw [← he, e8]
theorem first_yes {l : List UInt8} (h : ¬ l.length < 12) (h2 : ¬ (16777216 < numB (l.take 4) ∨ l.length - 12 < numB (l.take 4)))
    (h3 : numB ((l.drop 4).take 8) = hsum (l.take 4 ++ (l.drop 12).take (numB (l.take 4)))) : first l = some ((l.drop 12).take (numB (l.take 4))) := by
  unfold first; rw [if_neg h, if_neg h2, if_pos ((frame_iff h h2).2 h3)]
theorem first_no {l : List UInt8} (h : ¬ l.length < 12) (h2 : ¬ (16777216 < numB (l.take 4) ∨ l.length - 12 < numB (l.take 4)))
    (h3 : ¬ numB ((l.drop 4).take 8) = hsum (l.take 4 ++ (l.drop 12).take (numB (l.take 4)))) : first l = none := by
  unfold first; rw [if_neg h, if_neg h2, if_neg (fun e => h3 ((frame_iff h h2).1 e))]

/-- What a scan has told behind j steps: records, and the place behind them. -/
def iter (bs : List UInt8) : Nat → List (List UInt8) × Nat
  | 0 => ([], 0)
  | j + 1 => match first (bs.drop (iter bs j).2) with
    | some r => ((iter bs j).1 ++ [r], (iter bs j).2 + (12 + r.length))
    | none => iter bs j
def ToldB (bs : List UInt8) (R : List (List UInt8)) (k : Nat) : Prop := ∃ j, iter bs j = (R, k)
theorem ToldB.start (bs : List UInt8) : ToldB bs [] 0 := ⟨0, rfl⟩
theorem ToldB.next {bs : List UInt8} {R : List (List UInt8)} {k : Nat} {r : List UInt8} (h : ToldB bs R k) (hf : first (bs.drop k) = some r) : ToldB bs (R ++ [r]) (k + (12 + r.length)) := by
  obtain ⟨j, hj⟩ := h
  exact ⟨j + 1, by simp only [iter, hj, hf]⟩
theorem iter_row (bs : List UInt8) (j : Nat) : rowOf (iter bs j).1 = bs.take (iter bs j).2 ∧ (iter bs j).2 ≤ bs.length := by
  induction j with
  | zero => simp [rowOf, iter]
  | succ j ih =>
    rw [iter]
    cases hf : first (bs.drop (iter bs j).2) with
    | none => exact ih
    | some r =>
      obtain ⟨⟨t, ht⟩, _⟩ := first_some hf
      have hl : (bs.drop (iter bs j).2).length = (frameOf r).length + t.length := by rw [← ht, List.length_append]
      rw [List.length_drop, frameOf_length] at hl
      refine ⟨?_, by simp only; omega⟩
      simp only
      rw [rowOf_snoc, ih.1, List.take_add, ← ht, ← frameOf_length, List.take_append_of_le_length (Nat.le_refl _), List.take_of_length_le (Nat.le_refl _)]
theorem ToldB.row {bs : List UInt8} {R : List (List UInt8)} {k : Nat} (h : ToldB bs R k) : rowOf R = bs.take k ∧ k ≤ bs.length := by
  obtain ⟨j, hj⟩ := h
  have := iter_row bs j
  rwa [hj] at this
theorem iter_stop (bs : List UInt8) (j : Nat) (h : first (bs.drop (iter bs j).2) = none) (d : Nat) : iter bs (j + d) = iter bs j := by
  induction d with
  | zero => rfl
  | succ d ih => rw [← Nat.add_assoc, iter, ih, h]
/-- Two scans of the same bytes that both stand still tell the same. -/
theorem ToldB.unique {bs : List UInt8} {R R' : List (List UInt8)} {k k' : Nat} (h : ToldB bs R k) (h' : ToldB bs R' k') (hs : first (bs.drop k) = none) (hs' : first (bs.drop k') = none) : R = R' ∧ k = k' := by
  obtain ⟨j, hj⟩ := h
  obtain ⟨j', hj'⟩ := h'
  have e : iter bs j = iter bs j' := by
    rcases Nat.le_total j j' with hle | hle
    · have := iter_stop bs j (by rw [hj]; exact hs) (j' - j)
      rw [Nat.add_sub_cancel' hle] at this
      exact this.symm
    · have := iter_stop bs j' (by rw [hj']; exact hs') (j - j')
      rw [Nat.add_sub_cancel' hle] at this
      exact this
  rw [hj, hj'] at e
  exact Prod.mk.inj e
end Go.Proofs.Ytjipjfionelpkaa.framePlain

/- The plain law of PlaceKeeps. -/
import Derived.Test.YtbnpljcjjpokjaaPlace8
namespace Go.Proofs.Ytbnpljcjjpokjaa.placeWalk
open Go.Proofs.Ytbnpljcjjpokjaa.mem Go.Proofs.Ytbnpljcjjpokjaa.viewWalk

theorem hasN_false {K : List (Int × Int)} {x : Int} (h : hasN K x = false) : ∀ m ∈ K, m.1 ≠ x := by
  unfold hasN at h
  rw [List.any_eq_false] at h
  intro m hm e
  exact h m hm (by simp [e])
theorem hasN_true {K : List (Int × Int)} {x : Int} (h : hasN K x = true) : ∃ m ∈ K, m.1 = x := by
  unfold hasN at h
  rw [List.any_eq_true] at h
  obtain ⟨m, hm, e⟩ := h
  exact ⟨m, hm, by simpa using e⟩
/-- What is laid behind. -/
theorem fold_parts (K : List (Int × Int)) (cnt : Int) (T : List (Int × Int)) (out : List (Int × Int)) :
    ∃ S, T.foldl (stepC K cnt) out = out ++ S ∧ S.Sublist T ∧ (∀ m ∈ S, hasN K m.1 = false) ∧ (S ≠ [] → ((out ++ S).length : Int) ≤ cnt) ∧ (((out ++ S).length : Int) < cnt → ∀ m ∈ T, hasN K m.1 = true ∨ m ∈ S) := by
  induction T generalizing out with
  | nil => exact ⟨[], by simp, List.Sublist.refl _, by simp, by simp, by simp⟩
  | cons m T ih =>
    rw [List.foldl_cons]
    by_cases h : (out.length : Int) < cnt ∧ hasN K m.1 = false
    · rw [stepC_yes K cnt out m h.1 h.2]
      obtain ⟨S, h1, h2, h3, h4, h5⟩ := ih (out ++ [m])
      have e : out ++ [m] ++ S = out ++ (m :: S) := by simp
      rw [e] at h1 h4 h5
      refine ⟨m :: S, h1, h2.cons_cons m, ?_, fun _ => ?_, fun hl x hx => ?_⟩
      · intro x hx
        rcases List.mem_cons.1 hx with rfl | hx
        · exact h.2
        · exact h3 x hx
      · by_cases hS : S = []
        · subst hS
          rw [List.length_append]
          simp only [List.length_cons, List.length_nil]
          omega
        · exact h4 hS
      · rcases List.mem_cons.1 hx with rfl | hx
        · exact .inr List.mem_cons_self
        · rcases h5 hl x hx with h | h
          · exact .inl h
          · exact .inr (List.mem_cons_of_mem _ h)
    · have hs : stepC K cnt out m = out := if_neg h
      rw [hs]
      obtain ⟨S, h1, h2, h3, h4, h5⟩ := ih out
      refine ⟨S, h1, h2.cons m, h3, h4, fun hl x hx => ?_⟩
      rcases List.mem_cons.1 hx with rfl | hx
      · have hlen : (out.length : Int) < cnt := by rw [List.length_append] at hl; omega
        have : hasN K x.1 ≠ false := fun e => h ⟨hlen, e⟩
        exact .inl (by simpa using this)
      · exact h5 hl x hx
theorem nodup_of {L : List (Int × Int)} (h : SingleP L) : (L.map Prod.fst).Nodup := by
  rcases h with h | h
  · rw [List.eq_nil_of_length_eq_zero h]
    exact List.nodup_nil
  · unfold List.Nodup
    rw [List.pairwise_iff_getElem]
    intro i j hi hj hij
    rw [List.length_map] at hi hj
    rw [List.getElem_map, List.getElem_map]
    exact h.2.2 i j hj hij
theorem turn_perm (s : Nat) (U : List (Int × Int)) : (turnM s U).Perm U := by
  unfold turnM
  have := List.perm_append_comm (l₁ := U.drop (s % U.length)) (l₂ := U.take (s % U.length))
  rwa [List.take_append_drop] at this
structure KeepsP (K U X : List (Int × Int)) (cnt : Int) : Prop where
  front : X.take K.length = K
  len : K.length ≤ X.length
  most : K.length < X.length → (X.length : Int) ≤ cnt
  up : ∀ i (hi : i < X.length), K.length ≤ i → 0 ≤ idx U X[i]
  once : ∀ i j (hj : j < X.length) (h : i < j), (X[i]'(by omega)).1 ≠ X[j].1
  spare : ∀ m ∈ U, (∀ i (hi : i < X.length), X[i].1 ≠ m.1) → cnt ≤ (X.length : Int)
theorem keeps (s : Nat) (K U : List (Int × Int)) (cnt : Int) (hK : SingleP K) (hU : SingleP U) : KeepsP K U (chainM s K U cnt) cnt := by
  obtain ⟨S, h1, h2, h3, h4, h5⟩ := fold_parts K cnt (turnM s U) K
  have hX : chainM s K U cnt = K ++ S := h1
  rw [hX]
  have hmem : ∀ m ∈ S, m ∈ U := fun m hm => (turn_perm s U).mem_iff.1 (h2.subset hm)
  refine ⟨List.take_left, by simp, fun hl => ?_, fun i hi hk => ?_, ?_, fun m hm hall => ?_⟩
  · refine h4 fun e => ?_
    rw [e] at hl
    simp at hl
  · have hm : (K ++ S)[i] ∈ U := by
      rw [List.getElem_append_right hk]
      exact hmem _ (List.getElem_mem _)
    rcases Int.lt_or_le (idx U (K ++ S)[i]) 0 with h | h
    · exact absurd rfl (idx_none U _ h _ hm)
    · exact h
  · have hn : ((K ++ S).map Prod.fst).Nodup := by
      rw [List.map_append, List.nodup_append]
      refine ⟨nodup_of hK, ?_, ?_⟩
      · have hp : ((turnM s U).map Prod.fst).Nodup := ((turn_perm s U).map Prod.fst).nodup_iff.2 (nodup_of hU)
        exact List.Nodup.sublist (h2.map Prod.fst) hp
      · intro a ha b hb e
        obtain ⟨x, hx, rfl⟩ := List.mem_map.1 ha
        obtain ⟨y, hy, rfl⟩ := List.mem_map.1 hb
        exact hasN_false (h3 y hy) x hx e
    unfold List.Nodup at hn
    rw [List.pairwise_iff_getElem] at hn
    intro i j hj hij
    have := hn i j (by rw [List.length_map]; omega) (by rw [List.length_map]; omega) hij
    rw [List.getElem_map, List.getElem_map] at this
    exact this
  · rcases Int.lt_or_le ((K ++ S).length : Int) cnt with h | h
    · exfalso
      rcases h5 h m ((turn_perm s U).mem_iff.2 hm) with h6 | h6
      · obtain ⟨x, hx, e⟩ := hasN_true h6
        obtain ⟨i, hi, rfl⟩ := List.getElem_of_mem hx
        have := hall i (by rw [List.length_append]; omega)
        rw [List.getElem_append_left hi] at this
        exact this e
      · obtain ⟨i, hi, rfl⟩ := List.getElem_of_mem (List.mem_append_right K h6)
        exact hall i hi rfl
    · exact h
end Go.Proofs.Ytbnpljcjjpokjaa.placeWalk

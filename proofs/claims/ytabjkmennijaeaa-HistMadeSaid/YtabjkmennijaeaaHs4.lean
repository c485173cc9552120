/- Plain law of the search: what can be laid in order; what the rounds of goes keep. -/
import Derived.Test.YtabjkmennijaeaaHs3
import Derived.Laws.Bits64b
namespace Go.Proofs.Ytabjkmennijaeaa.hs
open Go.RowKit Go.Proofs.Ytabjkmennijaeaa.lib Go.Proofs.Ytabjkmennijaeaa.byt
set_option linter.unusedVariables false
set_option linter.unusedSimpArgs false

theorem pow_wrap (k : Nat) (hk : k < 64) : IntKind.u64.wrap ((2 : Int) ^ min k 64) = ((2 ^ k : Nat) : Int) := by
  rw [Nat.min_eq_left (by omega), IntKind.wrap_u64]
  have h : (2 : Nat) ^ k < 2 ^ 64 := Nat.pow_lt_pow_right (by omega) hk
  have e : ((2 : Int) ^ k) = ((2 ^ k : Nat) : Int) := by simp
  rw [e]
  generalize (2 : Nat) ^ k = q at h ⊢
  omega
/-- Without bit i. -/
def clr (left i : Nat) : Nat := left ^^^ 2 ^ i
theorem clr_bit (left i j : Nat) (h : left.testBit i = true) : (clr left i).testBit j = (left.testBit j && !decide (j = i)) := by
  unfold clr
  rw [Nat.testBit_xor, Nat.testBit_two_pow]
  by_cases e : i = j
  · subst e; simp [h]
  · have e2 : ¬ j = i := fun h => e h.symm
    simp [e, e2]
theorem lt_of_bit (i x y : Nat) (hx : x.testBit i = false) (hy : y.testBit i = true) (h : ∀ j, i < j → x.testBit j = y.testBit j) : x < y := by
  have e1 : x / 2 ^ (i + 1) = y / 2 ^ (i + 1) := by
    apply Nat.eq_of_testBit_eq
    intro j
    rw [Nat.testBit_div_two_pow, Nat.testBit_div_two_pow]
    exact h _ (by omega)
  rw [Nat.testBit_eq_decide_div_mod_eq] at hx hy
  have hx2 := of_decide_eq_false hx
  have hy2 := of_decide_eq_true hy
  rw [Nat.pow_succ, ← Nat.div_div_eq_div_mul, ← Nat.div_div_eq_div_mul] at e1
  rcases Nat.lt_or_ge x y with h1 | h1
  · exact h1
  · have := Nat.div_le_div_right (c := 2 ^ i) h1
    omega
theorem clr_lt {left i : Nat} (h : left.testBit i = true) : clr left i < left :=
  lt_of_bit i _ _ (by rw [clr_bit _ _ _ h]; simp) h fun j hj => by
    rw [clr_bit _ _ _ h]
    have : ¬ j = i := by omega
    simp [this]
theorem bits_clr (left k : Nat) (h : left.testBit k = true) (hl : left < 18446744073709551616) (hk : k < 64) : bits .andNot .u64 (left : Int) ((2 ^ k : Nat) : Int) = (clr left k : Nat) := by
  have h2 : (2 : Nat) ^ k < 2 ^ 64 := Nat.pow_lt_pow_right (by omega) hk
  have hc := clr_lt h
  have e : (BitVec.ofInt 64 (left : Int) &&& ~~~ BitVec.ofInt 64 ((2 ^ k : Nat) : Int)).toNat = clr left k := by
    apply Nat.eq_of_testBit_eq
    intro j
    rw [clr_bit _ _ _ h, BitVec.ofInt_natCast, BitVec.ofInt_natCast, BitVec.testBit_toNat, BitVec.getLsbD_and, BitVec.getLsbD_not, BitVec.getLsbD_ofNat, BitVec.getLsbD_ofNat, Nat.testBit_two_pow]
    by_cases hj : j < 64
    · by_cases e : j = k
      · subst e; simp [hj]
      · have e2 : ¬ k = j := fun h => e h.symm
        simp [hj, e, e2]
    · have : left.testBit j = false := Nat.testBit_lt_two_pow (Nat.lt_of_lt_of_le hl (Nat.pow_le_pow_right (n := 2) (by omega) (show 64 ≤ j by omega)))
      simp [hj, this]
  show IntKind.u64.wrap ((BitVec.ofInt 64 (left : Int) &&& ~~~ BitVec.ofInt 64 ((2 ^ k : Nat) : Int)).toNat : Int) = _
  rw [e, IntKind.wrap_u64]
  omega
theorem and_pow (left k : Nat) : left &&& 2 ^ k = 0 ↔ left.testBit k = false := by
  constructor
  · intro h
    have := congrArg (fun x => x.testBit k) h
    simpa [Nat.testBit_and, Nat.testBit_two_pow] using this
  · intro h
    apply Nat.eq_of_testBit_eq
    intro j
    rw [Nat.testBit_and, Nat.testBit_two_pow]
    by_cases e : k = j
    · subst e; simp [h]
    · simp [e]
/-- What is left can be laid in order. -/
inductive Alive (L : List Dn) (Hd : List Nat) : Nat → Option ByteArray → Prop
  | over {left : Nat} {v : Option ByteArray} (h : ∀ i d, L[i]? = some d → left.testBit i = true → ans d = false) : Alive L Hd left v
  | lay {left : Nat} {v v' : Option ByteArray} {i hd : Nat} {d : Dn} (hi : L[i]? = some d) (hh : Hd[i]? = some hd) (hb : left.testBit i = true) (hf : left &&& hd = 0) (hs : doesP d v = (v', true)) (ha : Alive L Hd (clr left i) v') : Alive L Hd left v
def RGoes (w : World) (mb : Nat) (L : List Dn) (V : List ByteArray) (Hd : List Nat) (M : List (Nat × Nat)) (left num : Nat) (e : Ending) (w' : World) : Prop :=
  ∃ b M', e = .returned (.bool b) ∧ Keep mb w w' ∧ MapAt w' mb M' ∧ (b = true → Alive L Hd left (valOf V num)) ∧ (b = false → ¬ Alive L Hd left (valOf V num) ∧ ∀ p ∈ M', p ∈ M ∨ ¬ Alive L Hd p.1 (valOf V p.2))
/-- Ahead of call k. -/
def LoopI (L : List Dn) (V : List ByteArray) (Hd : List Nat) (M : List (Nat × Nat)) (left num k : Nat) (ov : Bool) (Mk : List (Nat × Nat)) : Prop :=
  (∀ p ∈ Mk, p ∈ M ∨ p = (left, num) ∨ ¬ Alive L Hd p.1 (valOf V p.2)) ∧ (ov = true → ∀ j d, j < k → L[j]? = some d → left.testBit j = true → ans d = false) ∧ (ov = false → ∃ j d, L[j]? = some d ∧ left.testBit j = true ∧ ans d = true) ∧
  ∀ j d hd v', j < k → L[j]? = some d → Hd[j]? = some hd → left.testBit j = true → left &&& hd = 0 → doesP d (valOf V num) = (v', true) → ¬ Alive L Hd (clr left j) v'
section
variable {L : List Dn} {V : List ByteArray} {Hd : List Nat} {M Mk Mj : List (Nat × Nat)} {left num k : Nat} {ov : Bool} {d : Dn} {hd : Nat}
theorem LoopI.start (L : List Dn) (V : List ByteArray) (Hd : List Nat) (M : List (Nat × Nat)) (left num : Nat) : LoopI L V Hd M left num 0 true (M ++ [(left, num)]) :=
  ⟨fun p hp => by rcases List.mem_append.1 hp with h | h; exact .inl h; exact .inr (.inl (by simpa using h)), fun _ j d h => absurd h (by omega), fun h => (by cases h), fun j d hd v' h => absurd h (by omega)⟩
/-- One step: call k is not laid. -/
theorem LoopI.step (h : LoopI L V Hd M left num k ov Mk) (hd' : L[k]? = some d) (ov' : Bool) (ho : ov' = (ov && (!left.testBit k || !ans d))) (hm : ∀ p ∈ Mj, p ∈ Mk ∨ ¬ Alive L Hd p.1 (valOf V p.2))
    (hl : ∀ hd v', Hd[k]? = some hd → left.testBit k = true → left &&& hd = 0 → doesP d (valOf V num) = (v', true) → ¬ Alive L Hd (clr left k) v') : LoopI L V Hd M left num (k + 1) ov' Mj := by
  obtain ⟨h1, h2, h3, h4⟩ := h
  refine ⟨fun p hp => ?_, fun ht j dj hj hdj hb => ?_, fun hf => ?_, fun j dj hdj v' hj e1 e2 e3 e4 e5 => ?_⟩
  · rcases hm p hp with h | h
    · exact h1 p h
    · exact .inr (.inr h)
  · subst ho
    simp only [Bool.and_eq_true] at ht
    by_cases e : j = k
    · subst e
      rw [hd'] at hdj
      injection hdj with hdj
      subst hdj
      have := ht.2
      rw [hb] at this
      simpa using this
    · exact h2 ht.1 j dj (by omega) hdj hb
  · subst ho
    cases ov
    · exact h3 rfl
    · simp only [Bool.true_and, Bool.or_eq_false_iff, Bool.not_eq_false'] at hf
      exact ⟨k, d, hd', hf.1, hf.2⟩
  · by_cases e : j = k
    · subst e
      rw [hd'] at e1
      injection e1 with e1
      subst e1
      exact hl hdj v' e2 e3 e4 e5
    · exact h4 j dj hdj v' (by omega) e1 e2 e3 e4 e5
/-- At the end. -/
theorem LoopI.done (h : LoopI L V Hd M left num k ov Mk) (hk : k = L.length) : (ov = true → Alive L Hd left (valOf V num)) ∧ (ov = false → ¬ Alive L Hd left (valOf V num) ∧ ∀ p ∈ Mk, p ∈ M ∨ ¬ Alive L Hd p.1 (valOf V p.2)) := by
  obtain ⟨h1, h2, h3, h4⟩ := h
  refine ⟨fun ht => .over fun i d hi hb => h2 ht i d (by rw [hk]; exact (List.getElem?_eq_some_iff.1 hi).1) hi hb, fun hf => ?_⟩
  have hn : ¬ Alive L Hd left (valOf V num) := fun ha => by
    cases ha with
    | over h =>
      obtain ⟨j, d, e1, e2, e3⟩ := h3 hf
      have := h j d e1 e2
      rw [e3] at this
      cases this
    | lay hi hh hb hfr hs ha =>
      exact h4 _ _ _ _ (by rw [hk]; exact (List.getElem?_eq_some_iff.1 hi).1) hi hh hb hfr hs ha
  refine ⟨hn, fun p hp => ?_⟩
  rcases h1 p hp with h | h | h
  · exact .inl h
  · subst h; exact .inr hn
  · exact .inr h
end
theorem MapAt.below {w w' : World} {mb k : Nat} {M : List (Nat × Nat)} (h : MapAt w mb M) (hb : Below k w w') (hk : w.heap.size ≤ k) : MapAt w' mb M := by
  obtain ⟨es, c, h1, h2⟩ := h
  exact ⟨es, c, (hb.block mb (by have := (Array.getElem?_eq_some_iff.1 h1).1; omega)).trans h1, h2⟩
theorem MapAt.lt {w : World} {mb : Nat} {M : List (Nat × Nat)} (h : MapAt w mb M) : mb < w.heap.size := by
  obtain ⟨es, c, h1, h2⟩ := h
  exact (Array.getElem?_eq_some_iff.1 h1).1
end Go.Proofs.Ytabjkmennijaeaa.hs

/- Plain law of HistMade and HistWrong: what can be laid in order, and what cannot. No program here. -/
import Derived.Test.YtabjkmennijaeaaHs11
namespace Go.Proofs.Ytabjkmennijaeaa.hs
open Go.RowKit Go.Proofs.Ytabjkmennijaeaa.lib Go.Proofs.Ytabjkmennijaeaa.byt
set_option linter.unusedVariables false
set_option linter.unusedSimpArgs false

theorem does_val (d : Dn) (v : Option ByteArray) : (doesP d v).1 = v ∨ (doesP d v).1 = some d.val ∨ (doesP d v).1 = none := by
  unfold doesP
  split
  · exact .inl rfl
  · split
    · exact .inr (.inl rfl)
    · split
      · exact .inr (.inr rfl)
      · split
        · split
          · exact .inr (.inl rfl)
          · exact .inl rfl
        · exact .inl rfl
/-- With an answered Get of what nobody writes nothing is in order. -/
theorem never_alive {L : List Dn} {Hd : List Nat} {g : Dn} {gi : Nat} {x : ByteArray} (hg : L[gi]? = some g) (hk : g.kind = 1) (ha : ans g = true) (hc : g.code = 0) (hh : g.has = true) (hx : g.rv = x) (hL : ∀ d ∈ L, d.val ≠ x) :
    ∀ {left : Nat} {v : Option ByteArray}, Alive L Hd left v → left.testBit gi = true → v ≠ some x → False := by
  intro left v h
  induction h with
  | over h => intro hb _; have := h gi g hg hb; rw [ha] at this; cases this
  | @lay left v v' i hd d hi hh2 hb hf hs ha' ih =>
    intro hbg hv
    by_cases e : gi = i
    · subst e
      rw [hg] at hi
      injection hi with hi
      subst hi
      unfold doesP at hs
      rw [if_pos hk, ha] at hs
      injection hs with _ hs
      rcases v with _ | y
      · simp [hc] at hs
      · simp only [Bool.not_true, Bool.false_or, Option.isSome_some, if_true, Bool.and_eq_true, saysP] at hs
        have := (Lib.bytes_beq_iff _ _).1 hs.2.2
        exact hv (by rw [← this, hx])
    · refine ih (by rw [clr_bit _ _ _ hb, hbg]; simp [e]) ?_
      have h1 : (doesP d v).1 = v' := by rw [hs]
      rcases does_val d v with h2 | h2 | h2
      · rw [← h1, h2]; exact hv
      · rw [← h1, h2]
        intro e2
        injection e2 with e2
        exact hL d (List.mem_of_getElem? hi) e2
      · rw [← h1, h2]; simp
/-- What is laid one by one, each ahead of none that stays, is in order. -/
theorem alive_from {L : List Dn} {Hd : List Nat} {n : Nat} (hn : L.length = n) (hHd : Hd.length = n) (V : Nat → Option ByteArray)
    (hstep : ∀ i d, L[i]? = some d → doesP d (V i) = (V (i + 1), true)) (hfree : ∀ (i k hd : Nat), Hd[i]? = some hd → hd.testBit k = true → k < i) :
    ∀ m i left, i + m = n → (∀ j, left.testBit j = (decide (i ≤ j) && decide (j < n))) → Alive L Hd left (V i) := by
  intro m
  induction m with
  | zero =>
    intro i left him hb
    refine .over fun j d hj hbj => ?_
    rw [hb] at hbj
    simp only [Bool.and_eq_true, decide_eq_true_eq] at hbj
    omega
  | succ m ih =>
    intro i left him hb
    have hil : i < L.length := by omega
    have hih : i < Hd.length := by omega
    have hbi : left.testBit i = true := by rw [hb]; simp; omega
    refine .lay (i := i) (d := L[i]) (hd := Hd[i]) (v' := V (i + 1)) (List.getElem?_eq_getElem hil) (List.getElem?_eq_getElem hih) hbi ?_ (hstep i _ (List.getElem?_eq_getElem hil)) (ih (i + 1) _ (by omega) fun j => ?_)
    · apply Nat.eq_of_testBit_eq
      intro j
      rw [Nat.testBit_and, hb]
      cases hj : Hd[i].testBit j
      · simp
      · have := hfree i j _ (List.getElem?_eq_getElem hih) hj
        have h2 : ¬ i ≤ j := by omega
        simp [h2]
    · rw [clr_bit _ _ _ hbi, hb]
      by_cases e : j = i
      · subst e; simp; omega
      · by_cases h : i ≤ j
        · have : i + 1 ≤ j := by omega
          simp [e, h, this]
        · have : ¬ i + 1 ≤ j := by omega
          simp [e, h, this]
/-- A made call, answered or not, does what it did. -/
theorem made_does (ops : List On) (S : List UInt8) (k : Nat) (o : On) (hk : 1 ≤ o.kind ∧ o.kind ≤ 4) : doesP (madeAt ops S k o) (valN ops k) = (((stepP o (valN ops k)).1), true) := by
  have hK : (madeAt ops S k o).kind = o.kind := rfl
  have hV : (madeAt ops S k o).val = o.val := rfl
  have hC : (madeAt ops S k o).code = (stepP o (valN ops k)).2.1 := rfl
  have hR : (madeAt ops S k o).rv = strV (stepP o (valN ops k)).2.2 := rfl
  have hH : (madeAt ops S k o).has = hasV (stepP o (valN ops k)).2.2 := rfl
  have hW : ∀ v, swapP (madeAt ops S k o) v = swapO o v := fun v => by cases v <;> rfl
  generalize madeAt ops S k o = d at *
  generalize valN ops k = v at *
  have h4 : o.kind = 1 ∨ o.kind = 2 ∨ o.kind = 3 ∨ o.kind = 4 := by omega
  have says : ∀ x, d.rv = strV x → d.has = hasV x → saysP d x = true := by
    intro x h1 h2
    cases x with
    | none => simp [saysP, h2, hasV]
    | some y => simp [saysP, h1, h2, hasV, strV]
  rcases h4 with h | h | h | h
  · cases hv : v with
    | none =>
      have e : stepP o v = (none, 1, none) := by simp [stepP, h, hv]
      rw [e] at hC hR hH
      have := says none hR hH
      subst hv
      simp [doesP, hK, h, hC, e, this]
    | some y =>
      have e : stepP o v = (some y, 0, some y) := by simp [stepP, h, hv]
      rw [e] at hC hR hH
      have := says (some y) hR hH
      subst hv
      simp [doesP, hK, h, hC, e, this]
  · have e : stepP o v = (some o.val, 0, none) := by simp [stepP, h]
    rw [e] at hC ⊢
    simp [doesP, hK, h, hC, hV]
  · have e : stepP o v = (none, 0, none) := by simp [stepP, h]
    rw [e] at hC ⊢
    simp [doesP, hK, h, hC, hV]
  · by_cases hs : swapO o v = true
    · have e : stepP o v = (some o.val, 0, none) := by simp [stepP, h, hs]
      rw [e] at hC ⊢
      simp [doesP, hK, h, hC, hV, hW, hs]
    · have e : stepP o v = (v, 2, v) := by simp [stepP, h, hs]
      rw [e] at hC hR hH ⊢
      have := says v hR hH
      simp [doesP, hK, h, hC, hV, hW, hs, this]
/-- Calls, one behind another, that each say what they should. -/
def Runs : List Dn → Option ByteArray → Option ByteArray → Prop
  | [], v, u => v = u
  | d :: L, v, u => ∃ v', doesP d v = (v', true) ∧ Runs L v' u
theorem Runs.snoc {d : Dn} {u u' : Option ByteArray} (h : doesP d u = (u', true)) : ∀ {L : List Dn} {v}, Runs L v u → Runs (L ++ [d]) v u'
  | [], v, e => by obtain rfl : v = u := e; exact ⟨u', h, rfl⟩
  | x :: L, v, ⟨v', h1, h2⟩ => ⟨v', h1, Runs.snoc h h2⟩
def vAt (L : List Dn) (v : Option ByteArray) (i : Nat) : Option ByteArray := (L.take i).foldl (fun v d => (doesP d v).1) v
theorem Runs.at_ : ∀ {L : List Dn} {v u}, Runs L v u → ∀ i d, L[i]? = some d → doesP d (vAt L v i) = (vAt L v (i + 1), true)
  | [], v, u, h, i, d, e => by simp at e
  | x :: L, v, u, ⟨v', h1, h2⟩, 0, d, e => by
    simp at e; subst e
    simp [vAt, h1]
  | x :: L, v, u, ⟨v', h1, h2⟩, i + 1, d, e => by
    have := Runs.at_ h2 i d (by simpa using e)
    simpa [vAt, h1] using this
def Apart (x d : Dn) : Prop := ans d = true → x.fr ≤ d.to
/-- Calls done one by one, none begun behind the end of a later one, are in order. -/
theorem runs_alive {L : List Dn} {u : Option ByteArray} (h : Runs L none u) (hp : L.Pairwise Apart) : Alive L (headsN L L.length) (2 ^ L.length - 1) none := by
  have := alive_from (L := L) (Hd := headsN L L.length) (n := L.length) rfl (by simp [headsN]) (vAt L none) h.at_ ?_ L.length 0 (2 ^ L.length - 1) (by omega) (fun j => by rw [Nat.testBit_two_pow_sub_one]; simp)
  · simpa [vAt] using this
  · intro i k hd e hb
    unfold headsN at e
    rw [List.getElem?_map] at e
    by_cases hi : i < L.length
    · rw [List.getElem?_range hi] at e
      simp only [Option.map_some, Option.some.injEq] at e
      subst e
      rw [aheadN_bit] at hb
      simp only [Bool.and_eq_true, decide_eq_true_eq] at hb
      obtain ⟨hk, hb⟩ := hb
      unfold blockB at hb
      rw [List.getElem?_eq_getElem hk, List.getElem?_eq_getElem hi] at hb
      simp only [Bool.and_eq_true, Bool.not_eq_true', decide_eq_false_iff_not, decide_eq_true_eq] at hb
      obtain ⟨⟨h1, h2⟩, h3⟩ := hb
      rcases Nat.lt_or_ge k i with h | h
      · exact h
      · have hlt : i < k := by omega
        have := List.pairwise_iff_getElem.1 hp i k hi hk hlt h2
        omega
    · rw [List.getElem?_eq_none (by simpa using hi)] at e
      cases e
theorem step_code (o : On) (v : Option ByteArray) : (stepP o v).2.1 = 0 ∨ (stepP o v).2.1 = 1 ∨ (stepP o v).2.1 = 2 := by
  unfold stepP
  repeat' split
  all_goals simp
theorem made_mem (ops : List On) (S : List UInt8) : ∀ (n : Nat) (d : Dn), d ∈ madeN ops S n → ∃ k o, k < n ∧ o ∈ ops ∧ d = madeAt ops S k o
  | 0, d, h => by simp [madeN] at h
  | n + 1, d, h => by
    unfold madeN at h
    cases ho : ops[n]? with
    | none =>
      rw [ho] at h
      obtain ⟨k, o, h1, h2, h3⟩ := made_mem ops S n d h
      exact ⟨k, o, by omega, h2, h3⟩
    | some o =>
      rw [ho] at h
      rcases List.mem_append.1 h with h | h
      · obtain ⟨k, o, h1, h2, h3⟩ := made_mem ops S n d h
        exact ⟨k, o, by omega, h2, h3⟩
      · exact ⟨n, o, by omega, List.mem_of_getElem? ho, by simpa using h⟩
theorem made_runs (ops : List On) (S : List UInt8) (hk : ∀ o ∈ ops, 1 ≤ o.kind ∧ o.kind ≤ 4) : ∀ n, Runs (madeN ops S n) none (valN ops n)
  | 0 => rfl
  | n + 1 => by
    unfold madeN valN
    cases ho : ops[n]? with
    | none => exact made_runs ops S hk n
    | some o => exact (made_runs ops S hk n).snoc (made_does ops S n o (hk o (List.mem_of_getElem? ho)))
theorem made_apart (ops : List On) (S : List UInt8) : ∀ n, (madeN ops S n).Pairwise Apart
  | 0 => List.Pairwise.nil
  | n + 1 => by
    unfold madeN
    cases ho : ops[n]? with
    | none => exact made_apart ops S n
    | some o =>
      refine List.pairwise_append.2 ⟨made_apart ops S n, List.pairwise_singleton _ _, fun a ha b hb => ?_⟩
      obtain ⟨k, o', h1, -, rfl⟩ := made_mem ops S n a ha
      obtain rfl : b = madeAt ops S n o := by simpa using hb
      intro _
      show (100 + 10 * (k : Int) - ((spr S k % 40 : Nat) : Int)) ≤ 100 + 10 * (n : Int) + ((spr S n / 40 * 10 : Nat) : Int)
      omega
/-- A call without its answer. -/
def clrD (d : Dn) : Dn := ⟨d.kind, d.key, d.val, d.old, d.hold, d.fr, -1, 0, ⟨#[]⟩, false⟩
def Los (L L' : List Dn) : Prop := L'.length = L.length ∧ ∀ (j : Nat) (d d' : Dn), L[j]? = some d → L'[j]? = some d' → d' = d ∨ d' = clrD d
theorem clr_ans (d : Dn) : ans (clrD d) = false := by simp [ans, clrD]
theorem clr_does (d : Dn) (v : Option ByteArray) (hk : 1 ≤ d.kind ∧ d.kind ≤ 4) : doesP (clrD d) v = ((doesP d v).1, true) := by
  have ha := clr_ans d
  have hK : (clrD d).kind = d.kind := rfl
  have hV : (clrD d).val = d.val := rfl
  have hW : swapP (clrD d) v = swapP d v := by cases v <;> rfl
  generalize clrD d = c at *
  unfold doesP
  rw [hK, hV, hW, ha]
  have h4 : d.kind = 1 ∨ d.kind = 2 ∨ d.kind = 3 ∨ d.kind = 4 := by omega
  rcases h4 with h | h | h | h
  · simp [h]
  · simp [h]
  · simp [h]
  · by_cases hs : swapP d v = true <;> simp [h, hs]
theorem get_does (d : Dn) (v : Option ByteArray) (hk : d.kind = 1) : (doesP d v).1 = v := by simp [doesP, hk]
theorem clr_counts (d : Dn) (hk : 1 ≤ d.kind ∧ d.kind ≤ 4) : countsP (clrD d) = !decide (d.kind = 1) := by
  have ha := clr_ans d
  have hK : (clrD d).kind = d.kind := rfl
  have h4 : d.kind = 1 ∨ d.kind = 2 ∨ d.kind = 3 ∨ d.kind = 4 := by omega
  unfold countsP
  rw [hK, ha]
  rcases h4 with h | h | h | h <;> simp [h, keyK]
theorem made_counts (ops : List On) (S : List UInt8) (k : Nat) (o : On) (hk : 1 ≤ o.kind ∧ o.kind ≤ 4) : countsP (madeAt ops S k o) = true := by
  have hK : (madeAt ops S k o).kind = o.kind := rfl
  have hC : (madeAt ops S k o).code = (stepP o (valN ops k)).2.1 := rfl
  have ha : ans (madeAt ops S k o) = true := by
    unfold ans
    rw [hC]
    have ht : 0 ≤ (madeAt ops S k o).to := by
      show (0 : Int) ≤ 100 + 10 * (k : Int) + ((spr S k / 40 * 10 : Nat) : Int)
      omega
    rcases step_code o (valN ops k) with h | h | h <;> simp [h, ht]
  have h4 : o.kind = 1 ∨ o.kind = 2 ∨ o.kind = 3 ∨ o.kind = 4 := by omega
  unfold countsP
  rw [hK, hC, ha]
  have hkk : keyK o.kind = true := by rcases h4 with h | h | h | h <;> simp [h, keyK]
  rw [hkk]
  rcases step_code o (valN ops k) with h | h | h <;> simp [h]
theorem los_keyP_runs {key : ByteArray} : ∀ {L L' : List Dn} {v u}, Los L L' → (∀ d ∈ L, (1 ≤ d.kind ∧ d.kind ≤ 4) ∧ d.key = key ∧ countsP d = true) → Runs L v u → Runs (keyP L' key) v u
  | [], L', v, u, hl, hd, hr => by
    have : L' = [] := List.length_eq_zero_iff.1 hl.1
    subst this
    exact hr
  | d :: L, [], v, u, hl, hd, hr => by have := hl.1; simp at this
  | d :: L, d' :: L', v, u, hl, hd, ⟨v', h1, h2⟩ => by
    have hL : Los L L' := ⟨by simpa using hl.1, fun j x x' a b => hl.2 (j + 1) x x' (by simpa using a) (by simpa using b)⟩
    have ih := los_keyP_runs (key := key) hL (fun x hx => hd x (by simp [hx])) h2
    obtain ⟨hk, hky, hc⟩ := hd d (by simp)
    rcases hl.2 0 d d' (by simp) (by simp) with h | h
    · subst h
      have : keyP (d' :: L') key = d' :: keyP L' key := by simp [keyP, hky, hc]
      rw [this]
      exact ⟨v', h1, ih⟩
    · subst h
      by_cases hg : d.kind = 1
      · have : keyP (clrD d :: L') key = keyP L' key := by
          have := clr_counts d hk
          rw [decide_eq_true hg] at this
          simp [keyP, this]
        rw [this]
        have h3 := get_does d v hg
        rw [h1] at h3
        obtain rfl : v' = v := h3
        exact ih
      · have : keyP (clrD d :: L') key = clrD d :: keyP L' key := by
          have := clr_counts d hk
          rw [decide_eq_false hg] at this
          have hky2 : (clrD d).key = key := hky
          simp [keyP, this, hky2]
        rw [this]
        refine ⟨v', ?_, ih⟩
        rw [clr_does d v hk, h1]
theorem los_apart {L L' : List Dn} (h : Los L L') (hp : L.Pairwise Apart) : L'.Pairwise Apart := by
  refine List.pairwise_iff_getElem.2 fun i j hi hj hij => ?_
  have hi2 : i < L.length := by have := h.1; omega
  have hj2 : j < L.length := by have := h.1; omega
  have hb := List.pairwise_iff_getElem.1 hp i j hi2 hj2 hij
  have e1 := h.2 i _ _ (List.getElem?_eq_getElem hi2) (List.getElem?_eq_getElem hi)
  have e2 := h.2 j _ _ (List.getElem?_eq_getElem hj2) (List.getElem?_eq_getElem hj)
  have hf : L'[i].fr = L[i].fr := by rcases e1 with e | e <;> rw [e] <;> rfl
  intro ha
  rcases e2 with e | e
  · rw [e] at ha ⊢
    rw [hf]
    exact hb ha
  · rw [e, clr_ans] at ha
    cases ha
/-- HistMade. -/
theorem made_alive (ops : List On) (S : List UInt8) (hk : ∀ o ∈ ops, 1 ≤ o.kind ∧ o.kind ≤ 4) (n : Nat) : Alive (madeN ops S n) (headsN (madeN ops S n) (madeN ops S n).length) (2 ^ (madeN ops S n).length - 1) none :=
  runs_alive (made_runs ops S hk n) (made_apart ops S n)
theorem lost_alive (ops : List On) (S : List UInt8) {key : ByteArray} (hk : ∀ o ∈ ops, (1 ≤ o.kind ∧ o.kind ≤ 4) ∧ o.key = key) (n : Nat) {L' : List Dn} (h : Los (madeN ops S n) L') :
    Alive (keyP L' key) (headsN (keyP L' key) (keyP L' key).length) (2 ^ (keyP L' key).length - 1) none := by
  refine runs_alive (los_keyP_runs h (fun d hd => ?_) (made_runs ops S (fun o ho => (hk o ho).1) n)) (List.Pairwise.filter _ (los_apart h (made_apart ops S n)))
  obtain ⟨k, o, -, ho, rfl⟩ := made_mem ops S n d hd
  exact ⟨(hk o ho).1, (hk o ho).2, made_counts ops S k o (hk o ho).1⟩
/-- HistWrong. -/
theorem wrong_dead (ops : List On) (S : List UInt8) {x : ByteArray} (g : Dn) (hv : ∀ o ∈ ops, o.val ≠ x) (n : Nat) (hk : g.kind = 1) (ht : 0 ≤ g.to) (hc : g.code = 0) (hh : g.has = true) (hx : g.rv = x) (hgv : g.val ≠ x) {Hd : List Nat} :
    ¬ Alive (madeN ops S n ++ [g]) Hd (2 ^ (madeN ops S n ++ [g]).length - 1) none := by
  intro h
  refine never_alive (gi := (madeN ops S n).length) (g := g) (x := x) (by simp) hk (by simp [ans, ht, hc]) hc hh hx (fun d hd => ?_) h (by rw [Nat.testBit_two_pow_sub_one]; simp) (by simp)
  rcases List.mem_append.1 hd with hd | hd
  · obtain ⟨k, o, -, ho, rfl⟩ := made_mem ops S n d hd
    exact hv o ho
  · obtain rfl : d = g := by simpa using hd
    exact hgv
/-- The three calls of awake. -/
def putD : Dn := ⟨2, ⟨#[107]⟩, ⟨#[49]⟩, ⟨#[]⟩, false, 1, 5, 0, ⟨#[]⟩, false⟩
def getD : Dn := ⟨1, ⟨#[107]⟩, ⟨#[]⟩, ⟨#[]⟩, false, 2, 3, 0, ⟨#[49]⟩, true⟩
def lateD : Dn := ⟨1, ⟨#[107]⟩, ⟨#[]⟩, ⟨#[]⟩, false, 6, 7, 1, ⟨#[]⟩, false⟩
theorem awake_one : Alive [putD, getD] (headsN [putD, getD] 2) 3 none := by
  refine runs_alive (L := [putD, getD]) (u := some ⟨#[49]⟩) ⟨some ⟨#[49]⟩, by simp [doesP, putD, ans], some ⟨#[49]⟩, by simp [doesP, getD, ans, saysP], rfl⟩ ?_
  refine List.pairwise_cons.2 ⟨fun d hd => ?_, List.pairwise_singleton _ _⟩
  obtain rfl : d = getD := by simpa using hd
  intro _
  decide
theorem awake_two : ¬ Alive [putD, lateD] (headsN [putD, lateD] 2) 3 none := by
  have hH : headsN [putD, lateD] 2 = [0, 1] := by decide
  rw [hH]
  intro h
  cases h with
  | over h => have := h 0 putD rfl (by decide); revert this; decide
  | @lay _ _ v' i hd d hi hh hb hf hs ha =>
    match i, hi, hh, hb, ha with
    | 0, hi, hh, hb, ha =>
      obtain rfl : putD = d := by simpa using hi
      have hv : v' = some ⟨#[49]⟩ := by
        have : doesP putD none = (some ⟨#[49]⟩, true) := by simp [doesP, putD, ans]
        rw [this] at hs
        injection hs with e _
        exact e.symm
      subst hv
      have hc : clr 3 0 = 2 := by decide
      rw [hc] at ha
      cases ha with
      | over h => have := h 1 lateD rfl (by decide); revert this; decide
      | @lay _ _ v' i hd d hi hh hb hf hs ha =>
        match i, hi, hh, hb, ha with
        | 0, hi, hh, hb, ha => revert hb; decide
        | 1, hi, hh, hb, ha =>
          obtain rfl : lateD = d := by simpa using hi
          have : (doesP lateD (some ⟨#[49]⟩)).2 = false := by simp [doesP, lateD, ans]
          rw [hs] at this
          cases this
        | i + 2, hi, hh, hb, ha => simp at hi
    | 1, hi, hh, hb, ha =>
      obtain rfl : 1 = hd := by simpa using hh
      revert hf
      decide
    | i + 2, hi, hh, hb, ha => simp at hi
end Go.Proofs.Ytabjkmennijaeaa.hs

/- A region that draws its order, with one condition S that holds till its last operation s (a store into a cell that the region loads): whatever yields its value in every world that meets S may be taken first. -/
import Derived.OrdersHeld
import Derived.Deep.RegionHeld
namespace Go.Proofs.Ytabjkmennijaeaa.tail
section
variable {P : Program} {ops : Array Oper} {Q : Exit → Act → World → Prop} {md : Region.Mode} {S : World → Prop} {s : Nat}

/-- Whatever comes up next, behind it S holds, unless it is s. -/
def TillS (P : Program) (md : Region.Mode) (ops : Array Oper) (Q : Exit → Act → World → Prop) (S : World → Prop) (s : Nat) : Nat → Array Bool → Act → World → Prop
  | 0, listed, a, w => Region.ready md ops listed = [] ∧ Q .normal a w
  | fuel + 1, listed, a, w => (Region.ready md ops listed = [] → Q .normal a w) ∧
    ∀ j ∈ Region.ready md ops listed, wpOp P ops Q j (fun a' w' => (j ≠ s → S w') ∧ TillS P md ops Q S s fuel (listed.setIfInBounds j true) a' w') a w
theorem any_of_till : ∀ (fuel : Nat) (listed : Array Bool) (a : Act) (w : World), TillS P md ops Q S s fuel listed a w → wpAny P md ops Q fuel listed a w
  | 0, _, _, _, h => h
  | fuel + 1, _, _, _, h => ⟨h.1, fun i hi => wpOp_mono (fun a' w' h' => any_of_till fuel _ a' w' h'.2) (h.2 i hi)⟩

/-- Does operation s wait for i, be it through others? -/
def waits (md : Region.Mode) (ops : Array Oper) (i : Nat) : Nat → Nat → Bool
  | 0, _ => false
  | f + 1, s => match ops[s]? with
    | some o => o.after.any fun e => Region.binds md e && (e.on == i || waits md ops i f e.on)
    | none => false
/-- What a listed operation waits for is listed. -/
def Closed (md : Region.Mode) (ops : Array Oper) (listed : Array Bool) : Prop := ∀ j o, ops[j]? = some o → listed.getD j false = true → ∀ e ∈ o.after, Region.binds md e = true → listed.getD e.on false = true
def closedB (md : Region.Mode) (ops : Array Oper) (listed : Array Bool) : Bool := (List.range ops.size).all fun j => match ops[j]? with
  | some o => !listed.getD j false || o.after.all fun e => !Region.binds md e || listed.getD e.on false
  | none => true
theorem Closed.of {listed : Array Bool} (h : closedB md ops listed = true) : Closed md ops listed := fun j o ho hj e he hb => by
  unfold closedB at h
  rw [List.all_eq_true] at h
  have hlt : j < ops.size := (Array.getElem?_eq_some_iff.1 ho).1
  have h1 := h j (List.mem_range.2 hlt)
  simp only [ho, hj, Bool.not_true, Bool.false_or] at h1
  have h2 := Array.all_eq_true_iff_forall_mem.1 h1 e he
  simpa [hb] using h2
theorem Closed.set {listed : Array Bool} {i : Nat} (h : Closed md ops listed) (hi : i ∈ Region.ready md ops listed) : Closed md ops (listed.setIfInBounds i true) := fun j o ho hj e he hb => by
  refine getD_set_true ?_
  rcases Decidable.em (i = j) with rfl | hij
  · obtain ⟨_, o', ho', hall⟩ := mem_ready.1 hi
    rw [ho] at ho'
    injection ho' with ho'
    subst ho'
    exact hall e he hb
  · rw [getD_set_ne false hij] at hj
    exact h j o ho hj e he hb
theorem listed_of_waits {i : Nat} {listed : Array Bool} (hc : Closed md ops listed) : ∀ f s, waits md ops i f s = true → listed.getD s false = true → listed.getD i false = true := by
  intro f
  induction f with
  | zero => intro s h; simp [waits] at h
  | succ f ih =>
    intro s h hs
    unfold waits at h
    split at h
    · rename_i o ho
      obtain ⟨e, he, hb⟩ := Array.any_eq_true'.1 h
      simp only [Bool.and_eq_true, Bool.or_eq_true, beq_iff_eq] at hb
      have h1 := hc s o ho hs e he hb.1
      rcases hb.2 with h2 | h2
      · rw [← h2]; exact h1
      · exact ih _ h2 h1
    · cases h
theorem not_ready {i f : Nat} {listed : Array Bool} (hc : Closed md ops listed) (h : waits md ops i f s = true) (hi : listed.getD i false = false) : s ∉ Region.ready md ops listed := fun hs => by
  obtain ⟨_, o, ho, hall⟩ := mem_ready.1 hs
  cases f with
  | zero => simp [waits] at h
  | succ f =>
    unfold waits at h
    rw [ho] at h
    obtain ⟨e, he, hb⟩ := Array.any_eq_true'.1 h
    simp only [Bool.and_eq_true, Bool.or_eq_true, beq_iff_eq] at hb
    have h1 := hall e he hb.1
    rcases hb.2 with h2 | h2
    · rw [h2, hi] at h1; cases h1
    · have := listed_of_waits hc f _ h2 h1
      rw [hi] at this; cases this

theorem till_first {i : Nat} {oi : Oper} {v : Value} (hi : ops[i]? = some oi) {f : Nat} (hwt : waits md ops i f s = true) (his : i ≠ s) (hsel : ∀ (j : Nat) (o : Oper) cs b, ops[j]? = some o → o.op ≠ .select cs b)
    (hQ : ∀ c a w, Q (.panic c) (a.put oi.dst v) w → Q (.panic c) a w) (fuel : Nat) : ∀ (listed : Array Bool) (a : Act) (w : World), Closed md ops listed →
      (∀ j oj, ops[j]? = some oj → j ≠ i → listed.getD j true = false → (∀ e ∈ oj.after, Region.binds md e = true → e.on ≠ i) → oi.apart ops oj = true) →
      i ∈ Region.ready md ops listed → YieldsIf P ops S oi v a → S w →
      TillS P md ops Q S s fuel (listed.setIfInBounds i true) (a.put oi.dst v) w → TillS P md ops Q S s (fuel + 1) listed a w := by
  induction fuel with
  | zero =>
    intro listed a w _ _ hr hy hS H
    refine ⟨fun h => (by rw [h] at hr; cases hr), fun j hj => ?_⟩
    rcases Decidable.em (j = i) with rfl | hji
    · exact hy.wpOp hi hS ⟨fun _ => hS, H⟩
    · have h0 := ready_mono hj hji
      rw [H.1] at h0
      cases h0
  | succ fuel ih =>
    intro listed a w hcl hfree hr hy hS H
    refine ⟨fun h => (by rw [h] at hr; cases hr), fun j hj => ?_⟩
    rcases Decidable.em (j = i) with rfl | hji
    · exact hy.wpOp hi hS ⟨fun _ => hS, H⟩
    have hiu := (mem_ready.1 hr).1
    have hlt : i < listed.size := by
      rcases Nat.lt_or_ge i listed.size with h' | h'
      · exact h'
      · simp [Array.getElem?_eq_none h'] at hiu
    have hif : listed.getD i false = false := by simpa [hlt] using hiu
    have hjs : j ≠ s := fun e => not_ready hcl hwt hif (e ▸ hj)
    obtain ⟨hju, oj, hoj, hall⟩ := mem_ready.1 hj
    have hno : ∀ e ∈ oj.after, Region.binds md e = true → e.on ≠ i := fun e he hb h => by
      have := hall e he hb
      rw [h, hif] at this
      cases this
    have hstep := wpOp_putIf hoj (hfree j oj hoj hji hju hno) (fun cs b => hsel i oi cs b hi) (fun cs b => hsel j oj cs b hoj) hQ hy (H.2 j (ready_mono hj hji))
    refine wpOp_mono (fun a' w' h => ⟨h.2.1, ih _ a' w' (hcl.set hj) (fun k ok hk hki hun hno' => hfree k ok hk hki ?_ hno') (ready_mono hr (Ne.symm hji)) h.1 (h.2.1 hjs) ?_⟩) hstep
    · rcases Decidable.em (j = k) with rfl | hjk
      · exact hju
      · rwa [getD_set_ne true hjk] at hun
    · rw [Array.setIfInBounds_comm _ _ hji]
      exact h.2.2

/-- Take number i first. -/
theorem till_take {oi : Oper} (i : Nat) {v : Value} {fuel : Nat} {listed : Array Bool} {a : Act} {w : World} (hi : ops.toList[i]? = some oi) (hwt : (waits md ops i ops.size s && closedB md ops listed) = true) (his : (i != s) = true)
    (hs : Region.noSelect ops = true) (hf : Region.free md ops listed i = true) (hr : (Region.ready md ops listed).contains i = true)
    (hQ : ∀ c a w, Q (.panic c) (a.put oi.dst v) w → Q (.panic c) a w) (hw : Region.wanted oi (yielded ops a.tmps) = true) (hS : S w) (hy : ∀ w, S w → (execOp a.eval oi).run P w = .ok (.value v) w)
    (h : TillS P md ops Q S s fuel (listed.setIfInBounds i true) (a.put oi.dst v) w) : TillS P md ops Q S s (fuel + 1) listed a w :=
  have hi' : ops[i]? = some oi := by rw [← Array.getElem?_toList]; exact hi
  till_first hi' (Bool.and_eq_true_iff.1 hwt).1 (by simpa using his) (Region.noSelect_spec hs) hQ fuel listed a w (Closed.of (Bool.and_eq_true_iff.1 hwt).2) (Region.free_spec hi' hf) (by simpa using hr) (.inl ⟨hw, hy⟩) hS h
/-- One alone may come up. -/
theorem till_one (i : Nat) {o : Oper} {fuel : Nat} {listed : Array Bool} {a : Act} {w : World} (hr : Region.ready md ops listed = [i]) (ho : ops.toList[i]? = some o)
    (h : ∀ K' : Act → World → Prop, Shut (∀ a w, (i ≠ s → S w) → TillS P md ops Q S s fuel (listed.setIfInBounds i true) a w → K' a w) → if Region.wanted o (yielded ops a.tmps) = true then Oper.wp P o a w K' Q else K' (a.put o.dst undef) w) :
    TillS P md ops Q S s (fuel + 1) listed a w := by
  refine ⟨fun h0 => (by rw [hr] at h0; cases h0), fun j hj => ?_⟩
  rw [hr] at hj
  obtain rfl : j = i := by simpa using hj
  have ho' : ops[j]? = some o := by rw [← Array.getElem?_toList]; exact ho
  exact wpOp_step ho' fun K' hK => h K' fun a w hS hT => hK a w ⟨hS, hT⟩
theorem till_done {listed : Array Bool} {a : Act} {w : World} (hr : Region.ready md ops listed = []) (h : Q .normal a w) : ∀ fuel, TillS P md ops Q S s fuel listed a w
  | 0 => ⟨hr, h⟩
  | _ + 1 => ⟨fun _ => h, by rw [hr]; simp⟩
theorem wp_region_till {id : Nat} (s : Nat) (S : World → Prop) {a : Act} {w : World} (hm : P.follows .mixedOrders = true)
    (h : TillS P .any ops Q S s ops.size (Array.replicate ops.size false) a w.drew) : (Code.region id ops true).wp P Q a w := wp_region_any hm (any_of_till _ _ _ _ h)
end
end Go.Proofs.Ytabjkmennijaeaa.tail

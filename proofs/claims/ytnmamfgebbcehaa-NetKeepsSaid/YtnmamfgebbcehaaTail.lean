/- A region that draws its order, with one condition S that holds till its last operation s (a store into a cell that the region loads): whatever yields its value in every world that meets S may be taken first. -/
import Derived.OrdersHeld
import Derived.Deep.RegionHeld
namespace Go.Proofs.Ytnmamfgebbcehaa.tail
section
variable {P : Program} {ops : Array Oper} {Q : Exit → Act → World → Prop} {md : Region.Mode} {S : World → Prop} {s : Nat}

/-- Whatever comes up next, behind it S holds, unless it is s. -/
def TillS (P : Program) (md : Region.Mode) (ops : Array Oper) (Q : Exit → Act → World → Prop) (S : World → Prop) (s : Nat) : Nat → Array Bool → Act → World → Prop
  | 0, listed, a, w => Region.ready md ops listed = [] ∧ Q .normal a w
  | fuel + 1, listed, a, w => (Region.ready md ops listed = [] → Q .normal a w) ∧
    ∀ j ∈ Region.ready md ops listed, wpOp P ops Q j (fun a' w' => (j ≠ s → S w') ∧ TillS P md ops Q S s fuel (listed.setIfInBounds j true) a' w') a w
theorem any_of_till : ∀ (fuel : Nat) (listed : Array Bool) (a : Act) (w : World), TillS P md ops Q S s fuel listed a w → wpAny P md ops Q fuel listed a w
  | 0, _, _, _, h => h
  | fuel + 1, _, _, _, h => ⟨h.1, fun i hi => wpOp_mono (fun a' w' h' => any_of_till fuel _ a' w' h'.2) (h.2 i hi)⟩

/-- Does operation s wait for i? -/
def waits (md : Region.Mode) (ops : Array Oper) (s i : Nat) : Bool :=
  match ops[s]? with
  | some o => o.after.any fun e => Region.binds md e && e.on == i
  | none => false
theorem not_ready {i : Nat} {listed : Array Bool} (h : waits md ops s i = true) (hi : listed.getD i false = false) : s ∉ Region.ready md ops listed := fun hs => by
  obtain ⟨_, o, ho, hall⟩ := mem_ready.1 hs
  unfold waits at h
  rw [ho] at h
  obtain ⟨e, he, hb⟩ := Array.any_eq_true'.1 h
  simp only [Bool.and_eq_true, beq_iff_eq] at hb
  have := hall e he hb.1
  rw [hb.2, hi] at this
  cases this

theorem till_first {i : Nat} {oi : Oper} {v : Value} (hi : ops[i]? = some oi) (hwt : waits md ops s i = true) (his : i ≠ s) (hsel : ∀ (j : Nat) (o : Oper) cs b, ops[j]? = some o → o.op ≠ .select cs b)
    (hQ : ∀ c a w, Q (.panic c) (a.put oi.dst v) w → Q (.panic c) a w) (fuel : Nat) : ∀ (listed : Array Bool) (a : Act) (w : World),
      (∀ j oj, ops[j]? = some oj → j ≠ i → listed.getD j true = false → (∀ e ∈ oj.after, Region.binds md e = true → e.on ≠ i) → oi.apart ops oj = true) →
      i ∈ Region.ready md ops listed → YieldsIf P ops S oi v a → S w →
      TillS P md ops Q S s fuel (listed.setIfInBounds i true) (a.put oi.dst v) w → TillS P md ops Q S s (fuel + 1) listed a w := by
  induction fuel with
  | zero =>
    intro listed a w _ hr hy hS H
    refine ⟨fun h => (by rw [h] at hr; cases hr), fun j hj => ?_⟩
    rcases Decidable.em (j = i) with rfl | hji
    · exact hy.wpOp hi hS ⟨fun _ => hS, H⟩
    · have h0 := ready_mono hj hji
      rw [H.1] at h0
      cases h0
  | succ fuel ih =>
    intro listed a w hfree hr hy hS H
    refine ⟨fun h => (by rw [h] at hr; cases hr), fun j hj => ?_⟩
    rcases Decidable.em (j = i) with rfl | hji
    · exact hy.wpOp hi hS ⟨fun _ => hS, H⟩
    have hiu := (mem_ready.1 hr).1
    have hlt : i < listed.size := by
      rcases Nat.lt_or_ge i listed.size with h' | h'
      · exact h'
      · simp [Array.getElem?_eq_none h'] at hiu
    have hif : listed.getD i false = false := by simpa [hlt] using hiu
    have hjs : j ≠ s := fun e => not_ready hwt hif (e ▸ hj)
    obtain ⟨hju, oj, hoj, hall⟩ := mem_ready.1 hj
    have hno : ∀ e ∈ oj.after, Region.binds md e = true → e.on ≠ i := fun e he hb h => by
      have := hall e he hb
      rw [h, hif] at this
      cases this
    have hstep := wpOp_putIf hoj (hfree j oj hoj hji hju hno) (fun cs b => hsel i oi cs b hi) (fun cs b => hsel j oj cs b hoj) hQ hy (H.2 j (ready_mono hj hji))
    refine wpOp_mono (fun a' w' h => ⟨h.2.1, ih _ a' w' (fun k ok hk hki hun hno' => hfree k ok hk hki ?_ hno') (ready_mono hr (Ne.symm hji)) h.1 (h.2.1 hjs) ?_⟩) hstep
    · rcases Decidable.em (j = k) with rfl | hjk
      · exact hju
      · rwa [getD_set_ne true hjk] at hun
    · rw [Array.setIfInBounds_comm _ _ hji]
      exact h.2.2

/-- Take number i first. -/
theorem till_take {oi : Oper} (i : Nat) {v : Value} {fuel : Nat} {listed : Array Bool} {a : Act} {w : World} (hi : ops[i]? = some oi) (hwt : waits md ops s i = true) (his : (i != s) = true)
    (hs : Region.noSelect ops = true) (hf : Region.free md ops listed i = true) (hr : (Region.ready md ops listed).contains i = true)
    (hQ : ∀ c a w, Q (.panic c) (a.put oi.dst v) w → Q (.panic c) a w) (hw : Region.wanted oi (yielded ops a.tmps) = true) (hS : S w) (hy : ∀ w, S w → (execOp a.eval oi).run P w = .ok (.value v) w)
    (h : TillS P md ops Q S s fuel (listed.setIfInBounds i true) (a.put oi.dst v) w) : TillS P md ops Q S s (fuel + 1) listed a w :=
  till_first hi hwt (by simpa using his) (Region.noSelect_spec hs) hQ fuel listed a w (Region.free_spec hi hf) (by simpa using hr) (.inl ⟨hw, hy⟩) hS h
/-- One alone may come up. -/
theorem till_one (i : Nat) {o : Oper} {fuel : Nat} {listed : Array Bool} {a : Act} {w : World} (hr : Region.ready md ops listed = [i]) (ho : ops[i]? = some o)
    (h : ∀ K' : Act → World → Prop, Shut (∀ a w, (i ≠ s → S w) → TillS P md ops Q S s fuel (listed.setIfInBounds i true) a w → K' a w) → if Region.wanted o (yielded ops a.tmps) = true then Oper.wp P o a w K' Q else K' (a.put o.dst undef) w) :
    TillS P md ops Q S s (fuel + 1) listed a w := by
  refine ⟨fun h0 => (by rw [hr] at h0; cases h0), fun j hj => ?_⟩
  rw [hr] at hj
  obtain rfl : j = i := by simpa using hj
  exact wpOp_step ho fun K' hK => h K' fun a w hS hT => hK a w ⟨hS, hT⟩
theorem till_done {listed : Array Bool} {a : Act} {w : World} (hr : Region.ready md ops listed = []) (h : Q .normal a w) : ∀ fuel, TillS P md ops Q S s fuel listed a w
  | 0 => ⟨hr, h⟩
  | _ + 1 => ⟨fun _ => h, by rw [hr]; simp⟩
theorem wp_region_till {id : Nat} (s : Nat) (S : World → Prop) {a : Act} {w : World} (hm : P.follows .mixedOrders = true)
    (h : TillS P .any ops Q S s ops.size (Array.replicate ops.size false) a w.drew) : (Code.region id ops true).wp P Q a w := wp_region_any hm (any_of_till _ _ _ _ h)
end
end Go.Proofs.Ytnmamfgebbcehaa.tail

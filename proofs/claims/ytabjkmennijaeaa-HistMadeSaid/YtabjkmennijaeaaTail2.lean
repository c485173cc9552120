/- A drawn region where one of two operations may come up (beside Tail). -/
import Derived.Test.YtabjkmennijaeaaTail
namespace Go.Proofs.Ytabjkmennijaeaa.tail
section
variable {P : Program} {ops : Array Oper} {Q : Exit → Act → World → Prop} {md : Region.Mode} {S : World → Prop} {s : Nat}
/-- One of two may come up. -/
theorem till_two (i k : Nat) {oi ok : Oper} {fuel : Nat} {listed : Array Bool} {a : Act} {w : World} (hr : Region.ready md ops listed = [i, k]) (hoi : ops.toList[i]? = some oi) (hok : ops.toList[k]? = some ok)
    (hi : ∀ K' : Act → World → Prop, Shut (∀ a w, (i ≠ s → S w) → TillS P md ops Q S s fuel (listed.setIfInBounds i true) a w → K' a w) → if Region.wanted oi (yielded ops a.tmps) = true then Oper.wp P oi a w K' Q else K' (a.put oi.dst undef) w)
    (hk : ∀ K' : Act → World → Prop, Shut (∀ a w, (k ≠ s → S w) → TillS P md ops Q S s fuel (listed.setIfInBounds k true) a w → K' a w) → if Region.wanted ok (yielded ops a.tmps) = true then Oper.wp P ok a w K' Q else K' (a.put ok.dst undef) w) :
    TillS P md ops Q S s (fuel + 1) listed a w := by
  refine ⟨fun h0 => (by rw [hr] at h0; cases h0), fun j hj => ?_⟩
  rw [hr] at hj
  simp only [List.mem_cons, List.not_mem_nil, or_false] at hj
  rcases hj with rfl | rfl
  · have ho' : ops[j]? = some oi := by rw [← Array.getElem?_toList]; exact hoi
    exact wpOp_step ho' fun K' hK => hi K' fun a w hS hT => hK a w ⟨hS, hT⟩
  · have ho' : ops[j]? = some ok := by rw [← Array.getElem?_toList]; exact hok
    exact wpOp_step ho' fun K' hK => hk K' fun a w hS hT => hK a w ⟨hS, hT⟩
end
end Go.Proofs.Ytabjkmennijaeaa.tail

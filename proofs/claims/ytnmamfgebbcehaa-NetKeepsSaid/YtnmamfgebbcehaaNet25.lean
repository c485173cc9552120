/- Words for the law NetKeeps: what may be written into. -/
import Derived.Test.YtnmamfgebbcehaaNet22
import Derived.Deep.RegionHeld3
namespace Go.Proofs.Ytnmamfgebbcehaa.pk
open Go.RowKit Go.Proofs.Ytnmamfgebbcehaa.lib Go.Proofs.Ytnmamfgebbcehaa.byt
set_option linter.unusedVariables false

/-- What is needed to write into a slice of m bytes in block Bk or behind it, other than y. -/
def Scr1 (w : World) (Bk y : Nat) (A : Option Addr) (m : Nat) : Prop :=
  0 < m → ∃ ad, A = some ad ∧ Bk ≤ ad.block ∧ ad.block ≠ y ∧ ∀ j, j < m → (∃ z, w.cell? (ad.add j) = some (.int .u8 z)) ∧ w.frozen? (ad.add j) = false
theorem Scr1.store {w : World} {Bk y m : Nat} {A : Option Addr} (h : Scr1 w Bk y A m) (p : Addr) (z : Int) : Scr1 (w.setCell p (.int .u8 z)) Bk y A m := fun h0 => by
  obtain ⟨ad, e1, e2, e3, e4⟩ := h h0
  refine ⟨ad, e1, e2, e3, fun j hj => ?_⟩
  obtain ⟨⟨v, hv⟩, hf⟩ := e4 j hj
  refine ⟨?_, by simpa using hf⟩
  by_cases e : ad.add j = p
  · subst e
    exact ⟨z, World.cell?_setCell_same w _ _ hv⟩
  · exact ⟨v, by rw [World.cell?_setCell_other w p _ _ (fun h => e h.symm)]; exact hv⟩
theorem Scr1.of_elem {w : World} {B y c : Nat} {A A2 : Option Addr} {m : Nat} {r : List UInt8} (h : ElemB w B A (.slice A2 m c) r) (hm : m = r.length) (hy : w.heap.size ≤ y) : Scr1 w B y A2 m := fun h0 => by
  obtain ⟨Ai, ci, e, hr, ha⟩ := h
  injection e with e1 _ _
  subst e1
  obtain ⟨ad, eA, hb, hc⟩ := hr.2 (by omega)
  obtain ⟨g1, g2, _, g4⟩ := ha ad eA
  exact ⟨ad, eA, g2, by omega, fun j hj => ⟨⟨_, hc j _ (bytesV_get _ j (by omega))⟩, g4 j (by omega)⟩⟩
theorem Scr1.below {w w' : World} {Bk y m : Nat} {A : Option Addr} (h : Scr1 w Bk y A m) (hb : Below w.heap.size w w') : Scr1 w' Bk y A m := fun h0 => by
  obtain ⟨ad, e1, e2, e3, e4⟩ := h h0
  refine ⟨ad, e1, e2, e3, fun j hj => ?_⟩
  obtain ⟨⟨v, hv⟩, hf⟩ := e4 j hj
  exact ⟨⟨v, keepc hv hb⟩, by rw [hb.frozen (World.block_lt_of_cell? w _ hv)]; exact hf⟩
/-- The same of each packet's bytes; the headers stay. -/
def Scrib (w : World) (Bk x : Nat) (A : Option Addr) (P : List Pk) : Prop :=
  ∀ i (h : i < P.length), ∃ (g : Nat) (Ai : Option Addr) (ci : Nat), A = some ⟨g, 0, none⟩ ∧ w.cell? ⟨g, i * 3 + 2, none⟩ = some (.slice Ai P[i].2.2.length ci) ∧
    (0 < P[i].2.2.length → ∃ ad, Ai = some ad ∧ Bk ≤ ad.block ∧ ad.block ≠ x ∧ ad.block ≠ g ∧ ∀ j, j < P[i].2.2.length → (∃ z, w.cell? (ad.add j) = some (.int .u8 z)) ∧ w.frozen? (ad.add j) = false)
theorem Scrib.of_own {w : World} {B c x : Nat} {A : Option Addr} {P : List Pk} (h : OwnPN w B A c P x) : Scrib w B x A P := fun i hi => by
  obtain ⟨g, Ai, ci, eA, _, _, _, _, _, r3, he, hne⟩ := h.row hi
  refine ⟨g, Ai, ci, eA, r3, fun h0 => ?_⟩
  obtain ⟨A2, c2, e, hr, ha⟩ := he
  injection e with e1 _ _
  subst e1
  obtain ⟨ad, eAd, hb, hc⟩ := hr.2 h0
  obtain ⟨g1, g2, g3, g4⟩ := ha ad eAd
  subst eA eAd
  exact ⟨ad, rfl, g2, fun e => hne (by rw [← e]; rfl), fun e => g3 (by rw [e]; rfl), fun j hj => ⟨⟨_, hc j _ (bytesV_get _ j hj)⟩, g4 j hj⟩⟩
theorem Scrib.store {w : World} {Bk x : Nat} {A : Option Addr} {P : List Pk} (h : Scrib w Bk x A P) {p : Addr} (hp : ∀ g, A = some ⟨g, 0, none⟩ → p.block ≠ g) (z : Int) : Scrib (w.setCell p (.int .u8 z)) Bk x A P := fun i hi => by
  obtain ⟨g, Ai, ci, eA, hc, hel⟩ := h i hi
  refine ⟨g, Ai, ci, eA, ?_, fun h0 => ?_⟩
  · rw [World.cell?_setCell_other w p _ _ (fun e => hp g eA (by rw [e]))]
    exact hc
  · obtain ⟨adi, e1, e2, e3, e4, e5⟩ := hel h0
    refine ⟨adi, e1, e2, e3, e4, fun j hj => ?_⟩
    obtain ⟨⟨v, hv⟩, hf⟩ := e5 j hj
    refine ⟨?_, by simpa using hf⟩
    by_cases e : adi.add j = p
    · subst e
      exact ⟨z, World.cell?_setCell_same w _ _ hv⟩
    · exact ⟨v, by rw [World.cell?_setCell_other w p _ _ (fun h => e h.symm)]; exact hv⟩
theorem snocS {P : List Pk} (h : ShortP P) (hl : P.length ≤ 1000) (p : Pk) (hp : p.2.2.length ≤ 1099511627770) : ShortP (P ++ [p]) := by
  refine ⟨by simp; omega, fun j hj => ?_⟩
  by_cases hk : j < P.length
  · rw [List.getElem_append_left hk]
    exact h.2 j hk
  · rw [List.getElem_append_right (by omega)]
    simpa using hp
theorem copyS {P : List Pk} (h : ShortP P) (hl : P.length ≤ 1000) (next : Int) (i : Nat) : ShortP (copyM next P i) ∧ (copyM next P i).length ≤ P.length + 1 := by
  unfold copyM
  by_cases hk : i % P.length < P.length
  · rw [List.getElem?_eq_getElem hk]
    exact ⟨snocS h hl _ (h.2 _ hk), by simp⟩
  · rw [List.getElem?_eq_none (by omega)]
    exact ⟨h, by simp⟩
theorem ownB_at {w : World} {g base : Nat} (hg : w.heap[g]? = some (.cells #[] 5 (0, 0))) (hb : base ≤ g) : OwnB w base (some ⟨g, 0, none⟩) 0 [] :=
  ⟨rfl, .inr ⟨g, 0, #[], rfl, hb, hg, Nat.le_refl _, by decide, rfl, rfl⟩⟩
/-- 'append([]byte{}, x...)' -/
theorem append_copyB (W : World) {g base : Nat} (hg : W.heap[g]? = some (.cells #[] 5 (0, 0))) (hb : base ≤ g) {A : Option Addr} {m c B2 : Nat} {bs : List UInt8} (hm : m = bs.length) (hr : RdB W B2 A bs) (hs : bs.length ≤ 1099511627776) :
    ∃ A' c' W', (Builtin.append_ #[25, 25] 25 #[.slice (some ⟨g, 0, none⟩) 0 0, .slice A m c]).run Try.prog W = .ok (.slice A' m c') W' ∧ OwnB W' base A' c' bs ∧ Below base W W' := by
  have hgl : g < W.heap.size := (Array.getElem?_eq_some_iff.1 hg).1
  obtain ⟨A', c', W', hrun, ho, hu⟩ := append_bytes W base (n := 0) (c := 0) (bs := []) rfl (ownB_at hg hb) hm (c2 := c) hr (by simp; omega) (by omega)
  simp only [List.nil_append] at hrun ho
  rw [← hm] at hrun
  exact ⟨A', c', W', hrun, ho, hu.below_own (ownB_at hg hb) (by omega)⟩
end Go.Proofs.Ytnmamfgebbcehaa.pk

/- Words for Made: its calls, appended one by one. -/
import Derived.Test.YtabjkmennijaeaaHs9
namespace Go.Proofs.Ytabjkmennijaeaa.tail
section
variable {P : Program} {ops : Array Oper} {Q : Exit → Act → World → Prop} {md : Region.Mode} {S : World → Prop} {s : Nat}
/-- One of three may come up. -/
theorem till_three (i k l : Nat) {oi ok ol : Oper} {fuel : Nat} {listed : Array Bool} {a : Act} {w : World} (hr : Region.ready md ops listed = [i, k, l]) (hoi : ops.toList[i]? = some oi) (hok : ops.toList[k]? = some ok) (hol : ops.toList[l]? = some ol)
    (hi : ∀ K' : Act → World → Prop, Shut (∀ a w, (i ≠ s → S w) → TillS P md ops Q S s fuel (listed.setIfInBounds i true) a w → K' a w) → if Region.wanted oi (yielded ops a.tmps) = true then Oper.wp P oi a w K' Q else K' (a.put oi.dst undef) w)
    (hk : ∀ K' : Act → World → Prop, Shut (∀ a w, (k ≠ s → S w) → TillS P md ops Q S s fuel (listed.setIfInBounds k true) a w → K' a w) → if Region.wanted ok (yielded ops a.tmps) = true then Oper.wp P ok a w K' Q else K' (a.put ok.dst undef) w)
    (hl : ∀ K' : Act → World → Prop, Shut (∀ a w, (l ≠ s → S w) → TillS P md ops Q S s fuel (listed.setIfInBounds l true) a w → K' a w) → if Region.wanted ol (yielded ops a.tmps) = true then Oper.wp P ol a w K' Q else K' (a.put ol.dst undef) w) :
    TillS P md ops Q S s (fuel + 1) listed a w := by
  refine ⟨fun h0 => (by rw [hr] at h0; cases h0), fun j hj => ?_⟩
  rw [hr] at hj
  simp only [List.mem_cons, List.not_mem_nil, or_false] at hj
  rcases hj with rfl | rfl | rfl
  · have ho' : ops[j]? = some oi := by rw [← Array.getElem?_toList]; exact hoi
    exact wpOp_step ho' fun K' hK => hi K' fun a w hS hT => hK a w ⟨hS, hT⟩
  · have ho' : ops[j]? = some ok := by rw [← Array.getElem?_toList]; exact hok
    exact wpOp_step ho' fun K' hK => hk K' fun a w hS hT => hK a w ⟨hS, hT⟩
  · have ho' : ops[j]? = some ol := by rw [← Array.getElem?_toList]; exact hol
    exact wpOp_step ho' fun K' hK => hl K' fun a w hS hT => hK a w ⟨hS, hT⟩
end
end Go.Proofs.Ytabjkmennijaeaa.tail
namespace Go.Proofs.Ytabjkmennijaeaa.hs
open Go.RowKit Go.Proofs.Ytabjkmennijaeaa.lib Go.Proofs.Ytabjkmennijaeaa.byt
set_option linter.unusedVariables false
set_option linter.unusedSimpArgs false

def spr (S : List UInt8) (k : Nat) : Nat := (S[k]?.map UInt8.toNat).getD 0
/-- The value ahead of call k. -/
def valN (ops : List On) : Nat → Option ByteArray
  | 0 => none
  | k + 1 => match ops[k]? with
    | some o => (stepP o (valN ops k)).1
    | none => valN ops k
def madeAt (ops : List On) (S : List UInt8) (k : Nat) (o : On) : Dn :=
  ⟨o.kind, o.key, o.val, o.old, o.hold, 100 + 10 * (k : Int) - ((spr S k % 40 : Nat) : Int), 100 + 10 * (k : Int) + ((spr S k / 40 * 10 : Nat) : Int), (stepP o (valN ops k)).2.1, strV (stepP o (valN ops k)).2.2, hasV (stepP o (valN ops k)).2.2⟩
def madeN (ops : List On) (S : List UInt8) : Nat → List Dn
  | 0 => []
  | k + 1 => match ops[k]? with
    | some o => madeN ops S k ++ [madeAt ops S k o]
    | none => madeN ops S k
theorem append_dn (w : World) (B : Nat) {A : Option Addr} {n c : Nat} {L : List Dn} (hn : n = L.length) (hown : w.ownsRow B 36 15 (.slice A n c) n (rowD L)) (d : Dn) (hs : n ≤ 1000000) (hB : B ≤ w.heap.size) :
    ∃ A' c' w', (Builtin.append_ #[28, 28] 28 #[.slice A n c, .slice (some ⟨w.heap.size, 0, none⟩) 1 1]).run Try.prog (w.alloc (.cells #[.int .i64 0, .int .i64 0, .int .i64 0, .int .i64 0, .int .i64 (d).kind, .string (d).key, .string (d).val, .string (d).old, .bool (d).hold, .int .i64 (d).fr, .int .i64 (d).to, .int .i64 (d).code, .string (d).rv, .bool (d).has, .complex .f64 0 0] 36)) = .ok (.slice A' (n + 1) c') w' ∧ w'.ownsRow B 36 15 (.slice A' (n + 1) c') (n + 1) (rowD (L ++ [d])) ∧ w.grownBy w' (bl A) ∧ (∀ b, bl A' = some b → bl A = some b ∨ w.heap.size ≤ b) ∧ Below B w w' := by
  obtain ⟨i0, hi, hz0, hz1, hz2⟩ := info_parts info_dn
  have hb1 : Below w.heap.size w (w.alloc (.cells #[.int .i64 0, .int .i64 0, .int .i64 0, .int .i64 0, .int .i64 (d).kind, .string (d).key, .string (d).val, .string (d).old, .bool (d).hold, .int .i64 (d).fr, .int .i64 (d).to, .int .i64 (d).code, .string (d).rv, .bool (d).has, .complex .f64 0 0] 36)) := (Below.refl _ _).alloc (Nat.le_refl _) _
  obtain ⟨A', c', w', g1, g2, g3⟩ := append_law (P := Try.prog) (w.alloc (.cells #[.int .i64 0, .int .i64 0, .int .i64 0, .int .i64 0, .int .i64 (d).kind, .string (d).key, .string (d).val, .string (d).old, .bool (d).hold, .int .i64 (d).fr, .int .i64 (d).to, .int .i64 (d).code, .string (d).rv, .bool (d).has, .complex .f64 0 0] 36)) B 28 28 28 36 i0 _ 15 160 Try.underlying28 hi hz0 hz1 hz2 rfl (by decide) (own_below hown hb1 (Nat.le_refl _)) (Src.of_reads Try.underlying28 (c := 1) (Reads.new_ w 15 1 _ 36 rfl) (by intro u hu; simp at hu; rcases hu with h | h | h | h | h | h | h | h | h | h | h | h <;> rw [h] <;> rfl)) (by unfold maxLen; omega) (by omega) (by have := hb1.size; omega)
  refine ⟨A', c', w', g1, by rw [rowD_append]; exact g2, ⟨g3.grown.os, g3.grown.tape, g3.grown.output, Nat.le_trans hb1.size g3.grown.size, fun b hb' hne => (g3.grown.block b (Nat.lt_of_lt_of_le hb' hb1.size) hne).trans (hb1.block b hb')⟩, fun b hb' => ?_, (hb1.mono hB).trans (g3.below_own (own_below hown hb1 (Nat.le_refl _)) (by have := hb1.size; omega))⟩
  rcases upd_new g3 b hb' with h2 | h2
  · exact .inl h2
  · exact .inr (Nat.le_trans hb1.size h2)
theorem wrap_small (x : Int) (h1 : -9223372036854775808 ≤ x) (h2 : x ≤ 9223372036854775807) : IntKind.i64.wrap x = x := by
  simp [IntKind.wrap, IntKind.bits, IntKind.signed]
  omega
theorem set2 {w : World} {d : Nat} {x y : Value} {t : TypeId} (h : w.heap[d]? = some (.cells #[x, y] t (0, 0))) (a b : Value) : ((w.setCell ⟨d, 0, none⟩ a).setCell ⟨d, 1, none⟩ b).heap[d]? = some (.cells #[a, b] t (0, 0)) := by
  have e0 := heap_setCell_same w d 0 _ _ a h
  have e1 := heap_setCell_same _ d 1 _ _ b e0
  simp only [List.setIfInBounds_toArray, List.set_cons_zero, List.set_cons_succ] at e1
  exact e1
theorem heap2 {w : World} {d c : Nat} (a b : Value) (h : c ≠ d) : ((w.setCell ⟨d, 0, none⟩ a).setCell ⟨d, 1, none⟩ b).heap[c]? = w.heap[c]? := by
  rw [heap_setCell_other _ _ c _ h, heap_setCell_other _ _ c _ h]
theorem cell2n {w : World} {d : Nat} {p : Addr} {x : Value} (a b : Value) (hv : w.cell? p = some x) (h : p.block ≠ d) : ((w.setCell ⟨d, 0, none⟩ a).setCell ⟨d, 1, none⟩ b).cell? p = some x := (World.cell?_of_block (heap2 a b h)).trans hv
theorem own_base2 {w : World} {B B' k : Nat} {A : Option Addr} {c : Nat} {L : List Dn} (hl : L.length = k) (h : w.ownsRow B 36 15 (.slice A k c) k (rowD L)) (hb : B' ≤ B) : OwnD w B' A c L := by
  subst hl
  exact ⟨h.1, h.2.imp_right fun ⟨g, cap, cur, e, h1, r⟩ => ⟨g, cap, cur, e, Nat.le_trans hb h1, r⟩⟩
end Go.Proofs.Ytabjkmennijaeaa.hs

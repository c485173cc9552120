/- What both statements begin with: the calls that are picked, under one key. -/
import Derived.Test.YtabjkmennijaeaaHs14
import Derived.Test.YtabjkmennijaeaaHs15
namespace Go.Proofs.Ytabjkmennijaeaa.hs
open Go.RowKit Go.Proofs.Ytabjkmennijaeaa.lib Go.Proofs.Ytabjkmennijaeaa.byt
set_option linter.unusedVariables false
set_option linter.unusedSimpArgs false
theorem append_on (w : World) (B : Nat) {A : Option Addr} {n c : Nat} {L : List On} (hn : n = L.length) (hown : w.ownsRow B 27 5 (.slice A n c) n (rowO L)) (o : On) (hs : n ≤ 1000000) (hB : B ≤ w.heap.size) :
    ∃ A' c' w', (Builtin.append_ #[22, 22] 22 #[.slice A n c, .slice (some ⟨w.heap.size, 0, none⟩) 1 1]).run Try.prog (w.alloc (.cells #[.int .i64 (o).kind, .string (o).key, .string (o).val, .string (o).old, .bool (o).hold] 27)) = .ok (.slice A' (n + 1) c') w' ∧ w'.ownsRow B 27 5 (.slice A' (n + 1) c') (n + 1) (rowO (L ++ [o])) ∧ Below B w w' := by
  obtain ⟨i0, hi, hz0, hz1, hz2⟩ := info_parts info_on
  have hb1 : Below w.heap.size w (w.alloc (.cells #[.int .i64 (o).kind, .string (o).key, .string (o).val, .string (o).old, .bool (o).hold] 27)) := (Below.refl _ _).alloc (Nat.le_refl _) _
  obtain ⟨A', c', w', g1, g2, g3⟩ := append_law (P := Try.prog) (w.alloc (.cells #[.int .i64 (o).kind, .string (o).key, .string (o).val, .string (o).old, .bool (o).hold] 27)) B 22 22 22 27 i0 _ 5 64 Try.underlying22 hi hz0 hz1 hz2 rfl (by decide) (own_below hown hb1 (Nat.le_refl _)) (Src.of_reads Try.underlying22 (c := 1) (Reads.new_ w 5 1 _ 27 rfl) (by intro u hu; simp at hu; rcases hu with h | h | h | h | h <;> rw [h] <;> rfl)) (by unfold maxLen; omega) (by omega) (by have := hb1.size; omega)
  exact ⟨A', c', w', g1, by rw [rowO_append]; exact g2, (hb1.mono hB).trans (g3.below_own (own_below hown hb1 (Nat.le_refl _)) (by have := hb1.size; omega))⟩
def wk (o : On) : On := ⟨o.kind, ⟨#[107]⟩, o.val, o.old, o.hold⟩
def neverB : ByteArray := ⟨#[110, 101, 118, 101, 114]⟩
def pickW (o : On) : Bool := decide (1 ≤ o.kind) && decide (o.kind ≤ 4) && !(o.val.toList == [110, 101, 118, 101, 114])
def mineW (ops : List On) : List On := (ops.filter pickW).map wk
theorem mineW_snoc (ops : List On) (o : On) : mineW (ops ++ [o]) = mineW ops ++ (if pickW o = true then [wk o] else []) := by
  unfold mineW
  rw [List.filter_append, List.map_append]
  congr 1
  cases h : pickW o <;> simp [List.filter_cons, h]
def pickM (o : On) : Bool := decide (1 ≤ o.kind) && decide (o.kind ≤ 4)
def mineM (ops : List On) : List On := (ops.filter pickM).map wk
theorem mineM_snoc (ops : List On) (o : On) : mineM (ops ++ [o]) = mineM ops ++ (if pickM o = true then [wk o] else []) := by
  unfold mineM
  rw [List.filter_append, List.map_append]
  congr 1
  cases h : pickM o <;> simp [List.filter_cons, h]
theorem mineW_length (ops : List On) : (mineW ops).length ≤ ops.length := by
  unfold mineW; rw [List.length_map]; exact List.length_filter_le _ _
theorem mineM_length (ops : List On) : (mineM ops).length ≤ ops.length := by
  unfold mineM; rw [List.length_map]; exact List.length_filter_le _ _
theorem mineW_mem {ops : List On} {o : On} (h : o ∈ mineW ops) : (1 ≤ o.kind ∧ o.kind ≤ 4) ∧ o.key = ⟨#[107]⟩ ∧ o.val ≠ neverB := by
  unfold mineW at h
  obtain ⟨p, hp, rfl⟩ := List.mem_map.1 h
  have h2 := (List.mem_filter.1 hp).2
  simp only [pickW, Bool.and_eq_true, decide_eq_true_eq, Bool.not_eq_true'] at h2
  refine ⟨h2.1, rfl, fun e => ?_⟩
  have e2 : p.val = neverB := e
  rw [e2] at h2
  simp [neverB] at h2
theorem mineM_mem {ops : List On} {o : On} (h : o ∈ mineM ops) : (1 ≤ o.kind ∧ o.kind ≤ 4) ∧ o.key = ⟨#[107]⟩ := by
  unfold mineM at h
  obtain ⟨p, hp, rfl⟩ := List.mem_map.1 h
  have h2 := (List.mem_filter.1 hp).2
  simp only [pickM, Bool.and_eq_true, decide_eq_true_eq] at h2
  exact ⟨h2, rfl⟩
theorem own_base {w : World} {B B' : Nat} {e : TypeId} {size : Nat} {v : Value} {n : Nat} {xs : List Value} (h : w.ownsRow B e size v n xs) (hb : B' ≤ B) : w.ownsRow B' e size v n xs :=
  ⟨h.1, h.2.imp id fun ⟨g, cap, cur, hv, hg, rest⟩ => ⟨g, cap, cur, hv, Nat.le_trans hb hg, rest⟩⟩
end Go.Proofs.Ytabjkmennijaeaa.hs

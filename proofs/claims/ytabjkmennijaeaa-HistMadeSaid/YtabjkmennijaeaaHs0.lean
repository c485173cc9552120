/- Words for histories: a list of calls in memory, fifteen cells for each; frames but for one block; whether a call is answered. -/
import Derived.Test.YtabjkmennijaeaaByt1
import Derived.Test.YtabjkmennijaeaaTail2
import Derived.Deep.RegionHeld3
import Derived.Deep.RegionLaw
import Derived.Laws.Rows
import Derived.BigRegion
import Derived.Deep.Cut
import Derived.IntWalk
namespace Go.Proofs.Ytabjkmennijaeaa.hs
open Go.RowKit Go.Proofs.Ytabjkmennijaeaa.lib Go.Proofs.Ytabjkmennijaeaa.byt
set_option linter.unusedVariables false

theorem keepc {W W' : World} {a : Addr} {v : Value} (h : W.cell? a = some v) (hb : Below W.heap.size W W') : W'.cell? a = some v := by
  refine (hb.cell ?_).trans h
  rcases Nat.lt_or_ge a.block W.heap.size with h' | h'
  · exact h'
  · simp [World.cell?, Array.getElem?_eq_none h'] at h
theorem below_drew {B : Nat} {a w : World} (h : Below B a w) : Below B a w.drew := below_drewN h 1
/-- A call as the statements hand it in: the other fields are zero. -/
structure Dn where
  kind : Int
  key : ByteArray
  val : ByteArray
  old : ByteArray
  hold : Bool
  fr : Int
  to : Int
  code : Int
  rv : ByteArray
  has : Bool
def dnL (d : Dn) : List Value := [.int .i64 0, .int .i64 0, .int .i64 0, .int .i64 0, .int .i64 d.kind, .string d.key, .string d.val, .string d.old, .bool d.hold, .int .i64 d.fr, .int .i64 d.to, .int .i64 d.code, .string d.rv, .bool d.has, .complex .f64 0 0]
theorem dnL_length (d : Dn) : (dnL d).length = 15 := rfl
def rowD (L : List Dn) : List Value := L.flatMap dnL
theorem rowD_length (L : List Dn) : (rowD L).length = L.length * 15 := by
  induction L with
  | nil => rfl
  | cons d L ih => simp only [rowD, List.flatMap_cons, List.length_append, dnL_length, List.length_cons] at ih ⊢; omega
theorem rowD_append (a b : List Dn) : rowD (a ++ b) = rowD a ++ rowD b := by simp [rowD]
theorem rowD_get (L : List Dn) (k : Nat) (h : k < L.length) (j : Nat) (hj : j < 15) : (rowD L)[15 * k + j]? = (dnL L[k])[j]? := by
  induction L generalizing k with
  | nil => simp at h
  | cons m L ih =>
    rcases k with _ | k
    · rw [rowD, List.flatMap_cons, List.getElem?_append_left (by rw [dnL_length]; omega)]
      simp
    · rw [rowD, List.flatMap_cons, List.getElem?_append_right (by rw [dnL_length]; omega), dnL_length, show 15 * (k + 1) + j - 15 = 15 * k + j by omega]
      exact ih k (by simpa using h)
abbrev RdD (w : World) (B : Nat) (A : Option Addr) (L : List Dn) : Prop := Reads w B 15 A L.length (rowD L)
abbrev OwnD (w : World) (B : Nat) (A : Option Addr) (c : Nat) (L : List Dn) : Prop := w.ownsRow B 36 15 (.slice A L.length c) L.length (rowD L)
theorem info_dn : (Try.prog.info? 36).map (fun i => (i.zero, i.size, i.bytes)) = some (some (.agg #[.int .i64 0, .int .i64 0, .int .i64 0, .int .i64 0, .int .i64 0, .string ByteArray.empty, .string ByteArray.empty, .string ByteArray.empty, .bool false, .int .i64 0, .int .i64 0, .int .i64 0, .string ByteArray.empty, .bool false, .complex .f64 0 0]), 15, 160) := by kernel_rfl
/-- The cells of call k. -/
def CellsD (w : World) (ad : Addr) (k : Nat) (d : Dn) : Prop :=
  w.cell? (ad.add (k * 15)) = some (.int .i64 0) ∧ ∀ j, 0 < j → j < 15 → w.cell? ⟨(ad.add (k * 15)).block, (ad.add (k * 15)).off + j, none⟩ = (dnL d)[j]?
theorem RdD.at_ {w : World} {B : Nat} {A : Option Addr} {L : List Dn} (h : RdD w B A L) {k : Nat} (hk : k < L.length) : ∃ ad, A = some ad ∧ ad.block < B ∧ CellsD w ad k L[k] := by
  obtain ⟨ad, e, hb, hc⟩ := h.2 (by omega)
  refine ⟨ad, e, hb, ?_, fun j h0 hj => ?_⟩
  · have := hc (15 * k + 0) (.int .i64 0) (by rw [rowD_get L k hk 0 (by omega)]; rfl)
    rwa [show 15 * k + 0 = k * 15 by omega] at this
  · have hs : (dnL L[k])[j]? = some ((dnL L[k])[j]'(by rw [dnL_length]; exact hj)) := List.getElem?_eq_getElem _
    rw [hs]
    have := hc (15 * k + j) _ (by rw [rowD_get L k hk j hj]; exact hs)
    rw [← this, show 15 * k + j = k * 15 + j by omega, ← add_of_add]
    congr 1
    generalize ad.add (k * 15) = q
    unfold Addr.add
    rw [if_neg (by omega)]
theorem CellsD.all {w : World} {ad : Addr} {k : Nat} {d : Dn} (h : CellsD w ad k d) : (w.cell? (ad.add (k * 15)) = some (.int .i64 0) ∧ w.cell? ⟨(ad.add (k * 15)).block, (ad.add (k * 15)).off + 1, none⟩ = some (.int .i64 0) ∧ w.cell? ⟨(ad.add (k * 15)).block, (ad.add (k * 15)).off + 2, none⟩ = some (.int .i64 0) ∧ w.cell? ⟨(ad.add (k * 15)).block, (ad.add (k * 15)).off + 3, none⟩ = some (.int .i64 0) ∧ w.cell? ⟨(ad.add (k * 15)).block, (ad.add (k * 15)).off + 4, none⟩ = some (.int .i64 (d).kind) ∧ w.cell? ⟨(ad.add (k * 15)).block, (ad.add (k * 15)).off + 5, none⟩ = some (.string (d).key) ∧ w.cell? ⟨(ad.add (k * 15)).block, (ad.add (k * 15)).off + 6, none⟩ = some (.string (d).val) ∧ w.cell? ⟨(ad.add (k * 15)).block, (ad.add (k * 15)).off + 7, none⟩ = some (.string (d).old) ∧ w.cell? ⟨(ad.add (k * 15)).block, (ad.add (k * 15)).off + 8, none⟩ = some (.bool (d).hold) ∧ w.cell? ⟨(ad.add (k * 15)).block, (ad.add (k * 15)).off + 9, none⟩ = some (.int .i64 (d).fr) ∧ w.cell? ⟨(ad.add (k * 15)).block, (ad.add (k * 15)).off + 10, none⟩ = some (.int .i64 (d).to) ∧ w.cell? ⟨(ad.add (k * 15)).block, (ad.add (k * 15)).off + 11, none⟩ = some (.int .i64 (d).code) ∧ w.cell? ⟨(ad.add (k * 15)).block, (ad.add (k * 15)).off + 12, none⟩ = some (.string (d).rv) ∧ w.cell? ⟨(ad.add (k * 15)).block, (ad.add (k * 15)).off + 13, none⟩ = some (.bool (d).has) ∧ w.cell? ⟨(ad.add (k * 15)).block, (ad.add (k * 15)).off + 14, none⟩ = some (.complex .f64 0 0)) :=
  ⟨h.1, h.2 1 (by omega) (by omega), h.2 2 (by omega) (by omega), h.2 3 (by omega) (by omega), h.2 4 (by omega) (by omega), h.2 5 (by omega) (by omega), h.2 6 (by omega) (by omega), h.2 7 (by omega) (by omega), h.2 8 (by omega) (by omega), h.2 9 (by omega) (by omega), h.2 10 (by omega) (by omega), h.2 11 (by omega) (by omega), h.2 12 (by omega) (by omega), h.2 13 (by omega) (by omega), h.2 14 (by omega) (by omega)⟩
/-- Is a call answered? -/
def ans (d : Dn) : Bool := decide (0 ≤ d.to) && decide (d.code ≠ 7)
theorem answered_any (w : World) (d : Dn) : Calls Try.prog 11 #[.agg #[.int .i64 0, .int .i64 0, .int .i64 0, .int .i64 0, .int .i64 (d).kind, .string (d).key, .string (d).val, .string (d).old, .bool (d).hold, .int .i64 (d).fr, .int .i64 (d).to, .int .i64 (d).code, .string (d).rv, .bool (d).has, .complex .f64 0 0]] w fun e w' => e = .returned (.bool (ans d)) ∧ Below w.heap.size w w' := by
  have hb : ∀ o, Below w.heap.size w (w.alloc o) := fun o => (Below.refl _ _).alloc (Nat.le_refl _) _
  by_cases h1 : 0 ≤ d.to
  · by_cases h2 : d.code = 7
    · have ha : ans d = false := by unfold ans; rw [decide_eq_true h1, decide_eq_false (by simp [h2])]; rfl
      rw [ha]
      clear ha
      go_enter Try.func11, Try.ntmps11
      go_wp2_with fail
      go_ret
      exact ⟨rfl, hb _⟩
    · have ha : ans d = true := by unfold ans; rw [decide_eq_true h1, decide_eq_true h2]; rfl
      rw [ha]
      clear ha
      have h3 : (d.code == 7) = false := beq_false_of_ne h2
      go_enter Try.func11, Try.ntmps11
      go_wp2_with fail
      go_ret
      exact ⟨by simp [h2], hb _⟩
  · have ha : ans d = false := by unfold ans; rw [decide_eq_false h1]; rfl
    rw [ha]
    clear ha
    go_enter Try.func11, Try.ntmps11
    go_wp2_with fail
    go_ret
    exact ⟨rfl, hb _⟩
end Go.Proofs.Ytabjkmennijaeaa.hs

/- Slices of Members (two cells each) that may be read; the plain law of chains. -/
import Derived.Test.YtbnpljcjjpokjaaLib
import Derived.Lib.SlBytesConst
namespace Go.Proofs.Ytbnpljcjjpokjaa.mem
open Go.RowKit Go.Proofs.Ytbnpljcjjpokjaa.lib

/-- A Member's value; the cells of a list of them. -/
def mv (m : Int × Int) : Value := .agg #[.int .i64 m.1, .int .i64 m.2]
def memV : List (Int × Int) → List Value
  | [] => []
  | m :: l => .int .i64 m.1 :: .int .i64 m.2 :: memV l
theorem memV_length (L : List (Int × Int)) : (memV L).length = L.length * 2 := by
  induction L with
  | nil => rfl
  | cons m L ih => simp only [memV, List.length_cons, ih]; omega
theorem memV_get (L : List (Int × Int)) (k : Nat) (h : k < L.length) : (memV L)[2 * k]? = some (.int .i64 L[k].1) ∧ (memV L)[2 * k + 1]? = some (.int .i64 L[k].2) := by
  induction L generalizing k with
  | nil => simp at h
  | cons m L ih =>
    rcases k with _ | k
    · exact ⟨rfl, rfl⟩
    · have := ih k (by simpa using h)
      rw [show 2 * (k + 1) = 2 * k + 1 + 1 by omega]
      simpa [memV] using this
abbrev RdM (w : World) (B : Nat) (A : Option Addr) (L : List (Int × Int)) : Prop := Reads w B 2 A L.length (memV L)
theorem RdM.at_ {w : World} {B : Nat} {A : Option Addr} {L : List (Int × Int)} (h : RdM w B A L) {k : Nat} (hk : k < L.length) :
    ∃ ad, A = some ad ∧ ad.block < B ∧ w.cell? (ad.add (k * 2)) = some (.int .i64 L[k].1) ∧ w.cell? ⟨(ad.add (k * 2)).block, (ad.add (k * 2)).off + 1, none⟩ = some (.int .i64 L[k].2) := by
  obtain ⟨ad, e, hb, hc⟩ := h.2 (by omega)
  have e2 : (⟨(ad.add (k * 2)).block, (ad.add (k * 2)).off + 1, none⟩ : Addr) = ad.add (2 * k + 1) := by
    rw [show 2 * k + 1 = k * 2 + 1 by omega, ← add_of_add]
    simp [Addr.add]
  exact ⟨ad, e, hb, by rw [Nat.mul_comm]; exact hc _ _ (memV_get L k hk).1, by rw [e2]; exact hc _ _ (memV_get L k hk).2⟩

/-- Two cells that hold a member. -/
def Cell2 (w : World) (g : Nat) (x : Int × Int) : Prop := w.cell? ⟨g, 0, none⟩ = some (.int .i64 x.1) ∧ w.cell? ⟨g, 1, none⟩ = some (.int .i64 x.2)
section
variable {w w' : World} {g B : Nat} {x : Int × Int}
theorem Cell2.below (h : Cell2 w g x) (hb : Below B w w') (hg : g < B) : Cell2 w' g x := ⟨(hb.cell hg).trans h.1, (hb.cell hg).trans h.2⟩
theorem Cell2.alloc (h : Cell2 w g x) (o : Obj) : Cell2 (w.alloc o) g x := ⟨Go.Lib.cell?_alloc_marked o h.1, Go.Lib.cell?_alloc_marked o h.2⟩
theorem Cell2.new (w : World) (x : Int × Int) (t : TypeId) : Cell2 (w.alloc (.cells #[.int .i64 x.1, .int .i64 x.2] t)) w.heap.size x := by
  constructor <;> simp
end
theorem Reads.new_row (w : World) (size n : Nat) (cs : Array Value) (t : TypeId) (xs : List Value) (e : cs.toList = xs) (h : xs.length = n * size) : Reads (w.alloc (.cells cs t)) (w.heap.size + 1) size (some ⟨w.heap.size, 0, none⟩) n xs := by
  subst e
  exact Reads.new_ w size n cs t (by simpa using h)

/-- The place of the first member that is x; -1, if none is. -/
def idx (L : List (Int × Int)) (x : Int × Int) : Int := match L with
  | [] => -1
  | m :: l => if m = x then 0 else if idx l x < 0 then -1 else idx l x + 1
theorem idx_bounds (L : List (Int × Int)) (x : Int × Int) : idx L x = -1 ∨ 0 ≤ idx L x := by
  cases L with
  | nil => exact .inl rfl
  | cons m l => unfold idx; split <;> (try split) <;> omega
theorem idx_of (L : List (Int × Int)) (x : Int × Int) (k : Nat) (h : k < L.length) (e : L[k] = x) (hb : ∀ j (hj : j < k), L[j] ≠ x) : idx L x = k := by
  induction L generalizing k with
  | nil => simp at h
  | cons m l ih =>
    rcases k with _ | k
    · unfold idx
      rw [if_pos (by simpa using e)]
      rfl
    · have h0 : m ≠ x := by simpa using hb 0 (by omega)
      have := ih k (by simpa using h) (by simpa using e) fun j hj => by simpa using hb (j + 1) (by omega)
      unfold idx
      rw [if_neg h0, if_neg (by omega), this]
      omega
theorem idx_no (L : List (Int × Int)) (x : Int × Int) (hb : ∀ j (hj : j < L.length), L[j] ≠ x) : idx L x = -1 := by
  induction L with
  | nil => rfl
  | cons m l ih =>
    have h0 : m ≠ x := hb 0 (by simp)
    have := ih fun j hj => hb (j + 1) (by simpa using hj)
    unfold idx
    rw [if_neg h0, if_pos (by omega)]
end Go.Proofs.Ytbnpljcjjpokjaa.mem

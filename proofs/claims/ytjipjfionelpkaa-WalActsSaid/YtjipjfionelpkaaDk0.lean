/- Lists of changes: a row of three cells for each, and bytes behind each; slices.Clone of them. -/
import Derived.Test.YtjipjfionelpkaaWk
namespace Go.Proofs.Ytjipjfionelpkaa.dk
open Go.RowKit Go.Proofs.Ytjipjfionelpkaa.lib Go.Proofs.Ytjipjfionelpkaa.byt
set_option linter.unusedVariables false

abbrev Hd := Int × Int × Value
abbrev Pk := Int × Int × List UInt8
def pkV : List Hd → List Value
  | [] => []
  | h :: l => .int .i64 h.1 :: .int .i64 h.2.1 :: h.2.2 :: pkV l
theorem pkV_length (H : List Hd) : (pkV H).length = H.length * 3 := by
  induction H with
  | nil => rfl
  | cons h H ih => simp only [pkV, List.length_cons, ih]; omega
theorem pkV_get (H : List Hd) (k : Nat) (h : k < H.length) : (pkV H)[3 * k]? = some (.int .i64 H[k].1) ∧ (pkV H)[3 * k + 1]? = some (.int .i64 H[k].2.1) ∧ (pkV H)[3 * k + 2]? = some H[k].2.2 := by
  induction H generalizing k with
  | nil => simp at h
  | cons m H ih =>
    rcases k with _ | k
    · exact ⟨rfl, rfl, rfl⟩
    · have := ih k (by simpa using h)
      rw [show 3 * (k + 1) = 3 * k + 1 + 1 + 1 by omega]
      simpa [pkV] using this
theorem pkV_append (a b : List Hd) : pkV (a ++ b) = pkV a ++ pkV b := by
  induction a with
  | nil => rfl
  | cons m a ih => simp only [List.cons_append, pkV, ih]
theorem pkV_set (H : List Hd) (k : Nat) (h : k < H.length) (u : Value) : (pkV H).set (3 * k + 2) u = pkV (H.set k (H[k].1, H[k].2.1, u)) := by
  induction H generalizing k with
  | nil => simp at h
  | cons m H ih =>
    rcases k with _ | k
    · rfl
    · have := ih k (by simpa using h)
      rw [show 3 * (k + 1) + 2 = 3 * k + 2 + 1 + 1 + 1 by omega]
      simp only [pkV, List.set_cons_succ, List.getElem_cons_succ, this]
/-- The headers H lead to the packets P. -/
def Hold (w : World) (B : Nat) (H : List Hd) (P : List Pk) : Prop :=
  H.length = P.length ∧ ∀ i (h : i < H.length) (h' : i < P.length), H[i].1 = P[i].1 ∧ H[i].2.1 = P[i].2.1 ∧ HdB w B H[i].2.2 P[i].2.2
def RdP (w : World) (B : Nat) (A : Option Addr) (P : List Pk) : Prop := ∃ H, Reads w B 3 A P.length (pkV H) ∧ Hold w B H P
section
variable {w w' : World} {B B' : Nat} {A : Option Addr} {P : List Pk} {H : List Hd}
theorem Hold.below (h : Hold w B H P) (hb : Below B w w') : Hold w' B H P := ⟨h.1, fun i h1 h2 => let ⟨a, b, c⟩ := h.2 i h1 h2; ⟨a, b, c.below hb⟩⟩
theorem Hold.more (h : Hold w B H P) (hb : B ≤ B') : Hold w B' H P := ⟨h.1, fun i h1 h2 => let ⟨a, b, c⟩ := h.2 i h1 h2; ⟨a, b, c.more hb⟩⟩
theorem RdP.below (h : RdP w B A P) (hb : Below B w w') : RdP w' B A P := let ⟨H, h1, h2⟩ := h; ⟨H, h1.below hb, h2.below hb⟩
theorem RdP.more (h : RdP w B A P) (hb : B ≤ B') : RdP w B' A P := let ⟨H, h1, h2⟩ := h; ⟨H, h1.more hb, h2.more hb⟩
theorem RdP.alloc (h : RdP w B A P) (hB : B ≤ w.heap.size) (o : Obj) : RdP (w.alloc o) B A P := h.below ((Below.refl _ _).alloc hB _)
theorem RdP.nil : RdP w B none [] := ⟨[], ⟨rfl, fun h => absurd h (by simp)⟩, rfl, fun i h => absurd h (by simp)⟩
theorem RdP.at_ (h : RdP w B A P) {k : Nat} (hk : k < P.length) :
    ∃ ad A' c', A = some ad ∧ ad.block < B ∧ w.cell? (ad.add (k * 3)) = some (.int .i64 P[k].1) ∧ w.cell? ⟨(ad.add (k * 3)).block, (ad.add (k * 3)).off + 1, none⟩ = some (.int .i64 P[k].2.1) ∧
      w.cell? ⟨(ad.add (k * 3)).block, (ad.add (k * 3)).off + 2, none⟩ = some (.slice A' P[k].2.2.length c') ∧ RdB w B A' P[k].2.2 := by
  obtain ⟨H, h1, h2, h3⟩ := h
  obtain ⟨ad, e, hb, hc⟩ := h1.2 (by omega)
  have hkH : k < H.length := by omega
  obtain ⟨e1, e2, A', c', e3, hr⟩ := h3 k hkH hk
  obtain ⟨g1, g2, g3⟩ := pkV_get H k hkH
  have ea : ∀ j, 0 < j → (⟨(ad.add (k * 3)).block, (ad.add (k * 3)).off + j, none⟩ : Addr) = ad.add (3 * k + j) := fun j hj => by
    rw [show 3 * k + j = k * 3 + j by omega, ← add_of_add]
    generalize ad.add (k * 3) = q
    unfold Addr.add
    rw [if_neg (by omega)]
  refine ⟨ad, A', c', e, hb, ?_, ?_, ?_, hr⟩
  · rw [Nat.mul_comm, ← e1]; exact hc _ _ g1
  · rw [ea 1 (by omega), ← e2]; exact hc _ _ g2
  · rw [ea 2 (by omega), ← e3]; exact hc _ _ g3
end

theorem info_pk : (Try.prog.info? 79).map (fun i => (i.zero, i.size, i.bytes)) = some (some (.agg #[.int .i64 0, .int .i64 0, .slice none 0 0]), 3, 40) := by kernel_rfl
theorem hold_one {w : World} {B : Nat} {H : List Hd} {P : List Pk} (h : Hold w B H P) : ∀ u ∈ pkV H, u.oneCell' = true := by
  have hh : ∀ i (hi : i < H.length), H[i].2.2.oneCell' = true := fun i hi => by
    obtain ⟨_, _, A, c, e, _⟩ := h.2 i hi (by have := h.1; omega)
    rw [e]; rfl
  have key : ∀ H : List Hd, (∀ i (hi : i < H.length), H[i].2.2.oneCell' = true) → ∀ u ∈ pkV H, u.oneCell' = true := by
    intro H
    induction H with
    | nil => intro _ u hu; simp [pkV] at hu
    | cons m H ih =>
      intro hh u hu
      simp only [pkV, List.mem_cons] at hu
      rcases hu with rfl | rfl | rfl | hu
      · rfl
      · rfl
      · exact hh 0 (by simp)
      · exact ih (fun i hi => hh (i + 1) (by simpa using hi)) u hu
  exact key H hh
theorem append_pk (w : World) (B : Nat) {A : Option Addr} {n c : Nat} {H : List Hd} (hown : w.ownsRow B 79 3 (.slice A n c) n (pkV H))
    {B2 : Nat} {A2 : Option Addr} {m c2 : Nat} {H2 : List Hd} (hr : Reads w B2 3 A2 m (pkV H2)) (h1 : ∀ u ∈ pkV H2, u.oneCell' = true) (hs : n + m ≤ 1099511627776) (hB : B ≤ w.heap.size) :
    ∃ A' c' w', (Builtin.append_ #[73, 73] 73 #[.slice A n c, .slice A2 m c2]).run Try.prog w = .ok (.slice A' (n + m) c') w' ∧ w'.ownsRow B 79 3 (.slice A' (n + m) c') (n + m) (pkV (H ++ H2)) ∧ Upd w w' A (n * 3) A' ∧ Below B w w' := by
  obtain ⟨i0, hi, hz0, hz1, hz2⟩ := info_parts info_pk
  obtain ⟨A', c', w', g1, g2, g3⟩ := append_law (P := Try.prog) w B 73 73 73 79 i0 _ 3 40 Try.underlying73 hi hz0 hz1 hz2 rfl (by decide) hown (Src.of_reads Try.underlying73 (c := c2) hr h1) (by unfold maxLen; omega) (by omega) hB
  rw [← pkV_append] at g2
  exact ⟨A', c', w', g1, g2, g3, g3.below_own hown hB⟩

set_option maxHeartbeats 1000000 in
theorem cloneP_any (w : World) {B : Nat} {A : Option Addr} {n c : Nat} {P : List Pk} (hn : n = P.length) (hr : RdP w B A P) (hB : B ≤ w.heap.size) (hs : P.length ≤ 1099511627776) :
    Calls Try.prog 50 #[.slice A n c] w fun e w' => ∃ A' c' H, e = .returned (.slice A' n c') ∧ w'.ownsRow w.heap.size 79 3 (.slice A' n c') n (pkV H) ∧ Hold w' B H P ∧ Below w.heap.size w w' := by
  have heq : ∀ (a : Option Addr) (n c : Nat) (w : World), (binOp .eql 73 (.slice a n c) (.slice none 0 0)).run Try.prog w = .ok (.bool a.isNone) w := fun a n c w => Go.Lib.run_eql_slice_nil w _ _ a n c 0 0 Try.underlying73
  obtain ⟨H, hr1, hr2⟩ := hr
  rcases A with _ | ad
  · have h0 : P.length = 0 := by
      rcases Nat.eq_zero_or_pos P.length with h0 | h0
      · exact h0
      · obtain ⟨ad, e, _⟩ := hr1.2 h0
        cases e
    have hl : P = [] := List.eq_nil_of_length_eq_zero h0
    have hH : H = [] := List.eq_nil_of_length_eq_zero (by rw [hr2.1, h0])
    subst hl hH
    subst hn
    go_enter Try.func50, Try.ntmps50
    go_wp2_with fail
    go_ret
    exact ⟨none, 0, [], rfl, World.ownsRow_nil _ _ _ _, ⟨rfl, fun i h => absurd h (by simp)⟩, Below.refl _ _⟩
  · have hm := World.ownsRow_made (base := w.heap.size) (e := 79) (size := 3) w #[] 0 (Nat.le_refl _) (by decide) (by simp)
    obtain ⟨A', c', w', hrun, ho, hu, hb⟩ := append_pk (w.alloc (.cells #[] 79)) w.heap.size (H := []) hm (c2 := c) (hr1.alloc hB _) (hold_one hr2) (by omega) (by simp)
    simp only [List.nil_append, Nat.zero_add] at hrun ho
    rw [← hn] at hrun ho
    have hb' : Below w.heap.size w w' := ((Below.refl _ _).alloc (Nat.le_refl _) _).trans hb
    have HO := Lib.hid ho
    have HH := Lib.hid (hr2.below (hb'.mono hB))
    clear hn ho hu hr1 hr2 hm
    go_enter Try.func50, Try.ntmps50
    go_wp2_with (at_builtin; refine wpList_append_run rfl rfl rfl rfl hrun ?_; clear hrun)
    go_ret
    exact ⟨_, _, H, rfl, HO.out, HH.out, hb'⟩

theorem Reads.new_row' (w : World) (size n : Nat) (cs : Array Value) (t : TypeId) (xs : List Value) (e : cs.toList = xs) (h : xs.length = n * size) : Reads (w.alloc (.cells cs t)) (w.heap.size + 1) size (some ⟨w.heap.size, 0, none⟩) n xs := by
  subst e
  exact Reads.new_ w size n cs t (by simpa using h)
end Go.Proofs.Ytjipjfionelpkaa.dk

/- Lists of packets: a row of three cells for each, and bytes behind each. -/
import Derived.Test.YtnmamfgebbcehaaSameB
import Derived.Lib.SlBytesConst
import Derived.Lib.SliceRun
namespace Go.Proofs.Ytnmamfgebbcehaa.pk
open Go.RowKit Go.Proofs.Ytnmamfgebbcehaa.lib Go.Proofs.Ytnmamfgebbcehaa.byt

abbrev Hd := Int × Int × Value
abbrev Pk := Int × Int × List UInt8
def pkV : List Hd → List Value
  | [] => []
  | h :: l => .int .i64 h.1 :: .int .i64 h.2.1 :: h.2.2 :: pkV l
theorem pkV_length (H : List Hd) : (pkV H).length = H.length * 3 := by
  induction H with
  | nil => rfl
  | cons h H ih => simp only [pkV, List.length_cons, ih]; omega
theorem pkV_get (H : List Hd) (k : Nat) (h : k < H.length) : (pkV H)[3 * k]? = some (.int .i64 H[k].1) ∧ (pkV H)[3 * k + 1]? = some (.int .i64 H[k].2.1) ∧ (pkV H)[3 * k + 2]? = some H[k].2.2 := by
  induction H generalizing k with
  | nil => simp at h
  | cons m H ih =>
    rcases k with _ | k
    · exact ⟨rfl, rfl, rfl⟩
    · have := ih k (by simpa using h)
      rw [show 3 * (k + 1) = 3 * k + 1 + 1 + 1 by omega]
      simpa [pkV] using this
theorem pkV_append (a b : List Hd) : pkV (a ++ b) = pkV a ++ pkV b := by
  induction a with
  | nil => rfl
  | cons m a ih => simp only [List.cons_append, pkV, ih]
theorem pkV_set (H : List Hd) (k : Nat) (h : k < H.length) (u : Value) : (pkV H).set (3 * k + 2) u = pkV (H.set k (H[k].1, H[k].2.1, u)) := by
  induction H generalizing k with
  | nil => simp at h
  | cons m H ih =>
    rcases k with _ | k
    · rfl
    · have := ih k (by simpa using h)
      rw [show 3 * (k + 1) + 2 = 3 * k + 2 + 1 + 1 + 1 by omega]
      simp only [pkV, List.set_cons_succ, List.getElem_cons_succ, this]
/-- The headers H lead to the packets P. -/
def Hold (w : World) (B : Nat) (H : List Hd) (P : List Pk) : Prop :=
  H.length = P.length ∧ ∀ i (h : i < H.length) (h' : i < P.length), H[i].1 = P[i].1 ∧ H[i].2.1 = P[i].2.1 ∧ HdB w B H[i].2.2 P[i].2.2
def RdP (w : World) (B : Nat) (A : Option Addr) (P : List Pk) : Prop := ∃ H, Reads w B 3 A P.length (pkV H) ∧ Hold w B H P
section
variable {w w' : World} {B B' : Nat} {A : Option Addr} {P : List Pk} {H : List Hd}
theorem Hold.below (h : Hold w B H P) (hb : Below B w w') : Hold w' B H P := ⟨h.1, fun i h1 h2 => let ⟨a, b, c⟩ := h.2 i h1 h2; ⟨a, b, c.below hb⟩⟩
theorem Hold.more (h : Hold w B H P) (hb : B ≤ B') : Hold w B' H P := ⟨h.1, fun i h1 h2 => let ⟨a, b, c⟩ := h.2 i h1 h2; ⟨a, b, c.more hb⟩⟩
theorem RdP.below (h : RdP w B A P) (hb : Below B w w') : RdP w' B A P := let ⟨H, h1, h2⟩ := h; ⟨H, h1.below hb, h2.below hb⟩
theorem RdP.more (h : RdP w B A P) (hb : B ≤ B') : RdP w B' A P := let ⟨H, h1, h2⟩ := h; ⟨H, h1.more hb, h2.more hb⟩
theorem RdP.alloc (h : RdP w B A P) (hB : B ≤ w.heap.size) (o : Obj) : RdP (w.alloc o) B A P := h.below ((Below.refl _ _).alloc hB _)
theorem RdP.nil : RdP w B none [] := ⟨[], ⟨rfl, fun h => absurd h (by simp)⟩, rfl, fun i h => absurd h (by simp)⟩
theorem RdP.at_ (h : RdP w B A P) {k : Nat} (hk : k < P.length) :
    ∃ ad A' c', A = some ad ∧ ad.block < B ∧ w.cell? (ad.add (k * 3)) = some (.int .i64 P[k].1) ∧ w.cell? ⟨(ad.add (k * 3)).block, (ad.add (k * 3)).off + 1, none⟩ = some (.int .i64 P[k].2.1) ∧
      w.cell? ⟨(ad.add (k * 3)).block, (ad.add (k * 3)).off + 2, none⟩ = some (.slice A' P[k].2.2.length c') ∧ RdB w B A' P[k].2.2 := by
  obtain ⟨H, h1, h2, h3⟩ := h
  obtain ⟨ad, e, hb, hc⟩ := h1.2 (by omega)
  have hkH : k < H.length := by omega
  obtain ⟨e1, e2, A', c', e3, hr⟩ := h3 k hkH hk
  obtain ⟨g1, g2, g3⟩ := pkV_get H k hkH
  have ea : ∀ j, 0 < j → (⟨(ad.add (k * 3)).block, (ad.add (k * 3)).off + j, none⟩ : Addr) = ad.add (3 * k + j) := fun j hj => by
    rw [show 3 * k + j = k * 3 + j by omega, ← add_of_add]
    generalize ad.add (k * 3) = q
    unfold Addr.add
    rw [if_neg (by omega)]
  refine ⟨ad, A', c', e, hb, ?_, ?_, ?_, hr⟩
  · rw [Nat.mul_comm, ← e1]; exact hc _ _ g1
  · rw [ea 1 (by omega), ← e2]; exact hc _ _ g2
  · rw [ea 2 (by omega), ← e3]; exact hc _ _ g3
end

theorem info_pk : (Try.prog.info? 29).map (fun i => (i.zero, i.size, i.bytes)) = some (some (.agg #[.int .i64 0, .int .i64 0, .slice none 0 0]), 3, 40) := by kernel_rfl
/-- The header v leads to bytes of the call's own that may be written, in another block than A's. -/
def ElemB (w : World) (B : Nat) (A : Option Addr) (v : Value) (r : List UInt8) : Prop :=
  ∃ (Ai : Option Addr) (ci : Nat), v = .slice Ai r.length ci ∧ RdB w w.heap.size Ai r ∧
    ∀ ad, Ai = some ad → ad.block < w.heap.size ∧ B ≤ ad.block ∧ A.map (·.block) ≠ some ad.block ∧ ∀ j, j < r.length → w.frozen? (ad.add j) = false
theorem ElemB.hd {w : World} {B : Nat} {A : Option Addr} {v : Value} {r : List UInt8} (h : ElemB w B A v r) : HdB w w.heap.size v r :=
  let ⟨Ai, ci, e, hr, _⟩ := h; ⟨Ai, ci, e, hr⟩
theorem ElemB.below {w w' : World} {B : Nat} {A : Option Addr} {v : Value} {r : List UInt8} (h : ElemB w B A v r) {k : Nat} (hb : Below k w w') (hk : w.heap.size ≤ k) : ElemB w' B A v r := by
  have hb := hb.mono hk
  obtain ⟨Ai, ci, e, hr, ha⟩ := h
  refine ⟨Ai, ci, e, (hr.below hb).more hb.size, fun ad ea => ?_⟩
  obtain ⟨h1, h2, h3, h4⟩ := ha ad ea
  refine ⟨Nat.lt_of_lt_of_le h1 hb.size, h2, h3, fun j hj => ?_⟩
  rw [hb.frozen (by rw [block_of_add]; exact h1)]
  exact h4 j hj
/-- A write into the row A itself. -/
theorem ElemB.store {w : World} {B : Nat} {a : Addr} {v : Value} {r : List UInt8} (h : ElemB w B (some a) v r) {p : Addr} (hp : p.block = a.block) (u : Value) : ElemB (w.setCell p u) B (some a) v r := by
  obtain ⟨Ai, ci, e, hr, ha⟩ := h
  refine ⟨Ai, ci, e, ⟨hr.1, fun hn => ?_⟩, fun ad ea => ?_⟩
  · obtain ⟨ad, e2, hb, hc⟩ := hr.2 hn
    refine ⟨ad, e2, by simpa using hb, fun j u' hu' => ?_⟩
    rw [World.cell?_setCell_other w p _ u (fun e3 => by
      have := (ha ad e2).2.2.1
      simp only [Option.map_some, ne_eq, Option.some.injEq] at this
      rw [← hp, e3, block_of_add] at this
      exact this rfl)]
    exact hc j u' hu'
  · obtain ⟨h1, h2, h3, h4⟩ := ha ad ea
    exact ⟨by simpa using h1, h2, h3, fun j hj => by simpa using h4 j hj⟩
/-- A list of packets that the call owns, to its bytes. -/
def OwnP (w : World) (B : Nat) (A : Option Addr) (c : Nat) (P : List Pk) : Prop :=
  ∃ H, w.ownsRow B 29 3 (.slice A P.length c) P.length (pkV H) ∧ H.length = P.length ∧ ∀ i (h : i < H.length) (h' : i < P.length), H[i].1 = P[i].1 ∧ H[i].2.1 = P[i].2.1 ∧ ElemB w B A H[i].2.2 P[i].2.2
theorem OwnP.rd {w : World} {B : Nat} {A : Option Addr} {c : Nat} {P : List Pk} (h : OwnP w B A c P) : RdP w w.heap.size A P :=
  let ⟨H, h1, h2, h3⟩ := h; ⟨H, Reads.of_own h1, h2, fun i g1 g2 => let ⟨a, b, c⟩ := h3 i g1 g2; ⟨a, b, c.hd⟩⟩
theorem OwnP.below {w w' : World} {B : Nat} {A : Option Addr} {c : Nat} {P : List Pk} (h : OwnP w B A c P) {k : Nat} (hb : Below k w w') (hk : w.heap.size ≤ k) : OwnP w' B A c P :=
  let ⟨H, h1, h2, h3⟩ := h; ⟨H, own_below h1 hb hk, h2, fun i g1 g2 => let ⟨a, b, c⟩ := h3 i g1 g2; ⟨a, b, c.below hb hk⟩⟩

set_option maxHeartbeats 1000000 in
theorem cloneB_any (w : World) {B : Nat} {A : Option Addr} {n c : Nat} {bs : List UInt8} (hn : n = bs.length) (hr : RdB w B A bs) (hB : B ≤ w.heap.size) (hs : bs.length ≤ 1099511627776) :
    Calls Try.prog 23 #[.slice A n c] w fun e w' => ∃ A' c', e = .returned (.slice A' n c') ∧ OwnB w' w.heap.size A' c' bs ∧ Below w.heap.size w w' := by
  have heq : ∀ (a : Option Addr) (n c : Nat) (w : World), (binOp .eql 25 (.slice a n c) (.slice none 0 0)).run Try.prog w = .ok (.bool a.isNone) w := fun a n c w => Go.Lib.run_eql_slice_nil w _ _ a n c 0 0 Try.underlying25
  rcases A with _ | ad
  · have h0 : bs.length = 0 := by
      rcases Nat.eq_zero_or_pos bs.length with h0 | h0
      · exact h0
      · obtain ⟨ad, e, _⟩ := hr.2 h0
        cases e
    have hl : bs = [] := List.eq_nil_of_length_eq_zero h0
    subst hl
    subst hn
    go_enter Try.func23, Try.ntmps23
    go_wp2_with fail
    go_ret
    exact ⟨_, _, rfl, ownB_nil _ _, Below.refl _ _⟩
  · obtain ⟨A', c', w', hrun, ho, hu⟩ := append_bytes (w.alloc (.cells #[] 5)) w.heap.size (n := 0) (c := 0) (bs := []) rfl (ownB_made w w.heap.size (Nat.le_refl _)) hn (c2 := c) (hr.alloc hB _) (by simp; omega) (by simp)
    simp only [List.nil_append] at hrun ho
    rw [← hn] at hrun
    have hb' : Below w.heap.size w w' := ((Below.refl _ _).alloc (Nat.le_refl _) _).trans (hu.below_own (ownB_made w w.heap.size (Nat.le_refl _)) (by simp))
    have HO := Lib.hid ho
    clear hn ho hu
    go_enter Try.func23, Try.ntmps23
    go_wp2_with (at_builtin; refine wpList_append_run rfl rfl rfl rfl hrun ?_; clear hrun)
    go_ret
    exact ⟨_, _, rfl, HO.out, hb'⟩
end Go.Proofs.Ytnmamfgebbcehaa.pk

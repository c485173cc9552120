/- slices.Clone of packets; net's own. -/
import Derived.Test.YtnmamfgebbcehaaPkt
import Derived.Deep.RegionHeld3
import Derived.Laws.Rows
namespace Go.Proofs.Ytnmamfgebbcehaa.pk
open Go.RowKit Go.Proofs.Ytnmamfgebbcehaa.lib Go.Proofs.Ytnmamfgebbcehaa.byt

theorem results_cell_one {fn : Func} {p : Tmp} {ty : TypeId} (h : fn.results = #[.cell p ty]) (tmps : Array Value) (P : Program) (w : World) :
    (results fn tmps).run P w = ((asAddr (tmps.getD p undef)).run P w).andThen fun a w₁ => (loadVar ty a).run P w₁ := by
  simp only [results, h]
  simp [Sem.run_bind, Result.andThen]
theorem keepc {W W' : World} {a : Addr} {v : Value} (h : W.cell? a = some v) (hb : Below W.heap.size W W') : W'.cell? a = some v := by
  refine (hb.cell ?_).trans h
  rcases Nat.lt_or_ge a.block W.heap.size with h' | h'
  · exact h'
  · simp [World.cell?, Array.getElem?_eq_none h'] at h
theorem hold_one {w : World} {B : Nat} {H : List Hd} {P : List Pk} (h : Hold w B H P) : ∀ u ∈ pkV H, u.oneCell' = true := by
  have hh : ∀ i (hi : i < H.length), H[i].2.2.oneCell' = true := fun i hi => by
    obtain ⟨_, _, A, c, e, _⟩ := h.2 i hi (by have := h.1; omega)
    rw [e]; rfl
  have key : ∀ H : List Hd, (∀ i (hi : i < H.length), H[i].2.2.oneCell' = true) → ∀ u ∈ pkV H, u.oneCell' = true := by
    intro H
    induction H with
    | nil => intro _ u hu; simp [pkV] at hu
    | cons m H ih =>
      intro hh u hu
      simp only [pkV, List.mem_cons] at hu
      rcases hu with rfl | rfl | rfl | hu
      · rfl
      · rfl
      · exact hh 0 (by simp)
      · exact ih (fun i hi => hh (i + 1) (by simpa using hi)) u hu
  exact key H hh
theorem own_base {w : World} {B B' : Nat} {e : TypeId} {size : Nat} {v : Value} {n : Nat} {xs : List Value} (h : w.ownsRow B e size v n xs) (hb : B' ≤ B) : w.ownsRow B' e size v n xs :=
  ⟨h.1, h.2.imp_right fun ⟨g, cap, cur, e, h1, r⟩ => ⟨g, cap, cur, e, Nat.le_trans hb h1, r⟩⟩
theorem append_pk (w : World) (B : Nat) {A : Option Addr} {n c : Nat} {H : List Hd} (hown : w.ownsRow B 29 3 (.slice A n c) n (pkV H))
    {B2 : Nat} {A2 : Option Addr} {m c2 : Nat} {H2 : List Hd} (hr : Reads w B2 3 A2 m (pkV H2)) (h1 : ∀ u ∈ pkV H2, u.oneCell' = true) (hs : n + m ≤ 1099511627776) (hB : B ≤ w.heap.size) :
    ∃ A' c' w', (Builtin.append_ #[22, 22] 22 #[.slice A n c, .slice A2 m c2]).run Try.prog w = .ok (.slice A' (n + m) c') w' ∧ w'.ownsRow B 29 3 (.slice A' (n + m) c') (n + m) (pkV (H ++ H2)) ∧ Upd w w' A (n * 3) A' ∧ Below B w w' := by
  obtain ⟨i0, hi, hz0, hz1, hz2⟩ := info_parts info_pk
  obtain ⟨A', c', w', g1, g2, g3⟩ := append_law (P := Try.prog) w B 22 22 22 29 i0 _ 3 40 Try.underlying22 hi hz0 hz1 hz2 rfl (by decide) hown (Src.of_reads Try.underlying22 (c := c2) hr h1) (by unfold maxLen; omega) (by omega) hB
  rw [← pkV_append] at g2
  exact ⟨A', c', w', g1, g2, g3, g3.below_own hown hB⟩

set_option maxHeartbeats 1000000 in
theorem cloneP_any (w : World) {B : Nat} {A : Option Addr} {n c : Nat} {P : List Pk} (hn : n = P.length) (hr : RdP w B A P) (hB : B ≤ w.heap.size) (hs : P.length ≤ 1099511627776) :
    Calls Try.prog 28 #[.slice A n c] w fun e w' => ∃ A' c' H, e = .returned (.slice A' n c') ∧ w'.ownsRow w.heap.size 29 3 (.slice A' n c') n (pkV H) ∧ Hold w' B H P ∧ Below w.heap.size w w' := by
  have heq : ∀ (a : Option Addr) (n c : Nat) (w : World), (binOp .eql 22 (.slice a n c) (.slice none 0 0)).run Try.prog w = .ok (.bool a.isNone) w := fun a n c w => Go.Lib.run_eql_slice_nil w _ _ a n c 0 0 Try.underlying22
  obtain ⟨H, hr1, hr2⟩ := hr
  rcases A with _ | ad
  · have h0 : P.length = 0 := by
      rcases Nat.eq_zero_or_pos P.length with h0 | h0
      · exact h0
      · obtain ⟨ad, e, _⟩ := hr1.2 h0
        cases e
    have hl : P = [] := List.eq_nil_of_length_eq_zero h0
    have hH : H = [] := List.eq_nil_of_length_eq_zero (by rw [hr2.1, h0])
    subst hl hH
    subst hn
    go_enter Try.func28, Try.ntmps28
    go_wp2_with fail
    go_ret
    exact ⟨none, 0, [], rfl, World.ownsRow_nil _ _ _ _, ⟨rfl, fun i h => absurd h (by simp)⟩, Below.refl _ _⟩
  · have hm := World.ownsRow_made (base := w.heap.size) (e := 29) (size := 3) w #[] 0 (Nat.le_refl _) (by decide) (by simp)
    obtain ⟨A', c', w', hrun, ho, hu, hb⟩ := append_pk (w.alloc (.cells #[] 29)) w.heap.size (H := []) hm (c2 := c) (hr1.alloc hB _) (hold_one hr2) (by omega) (by simp)
    simp only [List.nil_append, Nat.zero_add] at hrun ho
    rw [← hn] at hrun ho
    have hb' : Below w.heap.size w w' := ((Below.refl _ _).alloc (Nat.le_refl _) _).trans hb
    have HO := Lib.hid ho
    have HH := Lib.hid (hr2.below (hb'.mono hB))
    clear hn ho hu hr1 hr2 hm
    go_enter Try.func28, Try.ntmps28
    go_wp2_with (at_builtin; refine wpList_append_run rfl rfl rfl rfl hrun ?_; clear hrun)
    go_ret
    exact ⟨_, _, H, rfl, HO.out, HH.out, hb'⟩

theorem ElemB.of_own {w : World} {B : Nat} {A A2 : Option Addr} {c2 : Nat} {bs : List UInt8} (h : OwnB w B A2 c2 bs) (hA : ∀ b, A.map (·.block) = some b → b < B) : ElemB w B A (.slice A2 bs.length c2) bs := by
  refine ⟨A2, c2, rfl, OwnB.rd h, fun ad e => ?_⟩
  subst e
  have hl := h.lt ad.block rfl
  refine ⟨hl.2, hl.1, fun e => by have := hA _ e; omega, fun j hj => ?_⟩
  rcases h.2 with ⟨e1, _⟩ | ⟨g, cap, cur, e1, _, hg, _⟩
  · cases e1
  · injection e1 with e1
    injection e1 with e1
    subst e1
    rw [show (⟨g, 0, none⟩ : Addr).add j = ⟨g, j, none⟩ from add_at g j]
    exact frozen_of_row w g j cur _ hg
theorem ElemB.base {w : World} {B B' : Nat} {A : Option Addr} {v : Value} {r : List UInt8} (h : ElemB w B A v r) (hb : B' ≤ B) : ElemB w B' A v r := by
  obtain ⟨Ai, ci, e, hr, ha⟩ := h
  exact ⟨Ai, ci, e, hr, fun ad ea => ⟨(ha ad ea).1, Nat.le_trans hb (ha ad ea).2.1, (ha ad ea).2.2⟩⟩
theorem ElemB.low {w : World} {B : Nat} {A : Option Addr} {v : Value} {r : List UInt8} (h : ElemB w B A v r) {p : Addr} (hp : p.block < B) (u : Value) : ElemB (w.setCell p u) B A v r := by
  obtain ⟨Ai, ci, e, hr, ha⟩ := h
  refine ⟨Ai, ci, e, ⟨hr.1, fun hn => ?_⟩, fun ad ea => ?_⟩
  · obtain ⟨ad, e2, hb, hc⟩ := hr.2 hn
    refine ⟨ad, e2, by simpa using hb, fun j u' hu' => ?_⟩
    rw [World.cell?_setCell_other w p _ u (fun e3 => by
      have := (ha ad e2).2.1
      rw [e3, block_of_add] at hp
      omega)]
    exact hc j u' hu'
  · obtain ⟨h1, h2, h3, h4⟩ := ha ad ea
    exact ⟨by simpa using h1, h2, h3, fun j hj => by simpa using h4 j hj⟩
theorem OwnP.low {w : World} {B : Nat} {A : Option Addr} {c : Nat} {P : List Pk} (h : OwnP w B A c P) {p : Addr} (hp : p.block < B) (u : Value) : OwnP (w.setCell p u) B A c P := by
  obtain ⟨H, h1, h2, h3⟩ := h
  exact ⟨H, ownsRow_setCell_other h1 (fun e => by have := (h1.lt _ e).1; omega) u, h2, fun i g1 g2 => let ⟨a, b, c⟩ := h3 i g1 g2; ⟨a, b, c.low hp u⟩⟩
theorem OwnP.base {w : World} {B B' : Nat} {A : Option Addr} {c : Nat} {P : List Pk} (h : OwnP w B A c P) (hb : B' ≤ B) : OwnP w B' A c P :=
  let ⟨H, h1, h2, h3⟩ := h; ⟨H, own_base h1 hb, h2, fun i g1 g2 => let ⟨a, b, c⟩ := h3 i g1 g2; ⟨a, b, c.base hb⟩⟩
/-- The first k packets' bytes are the call's own, the others those of the list that was handed in. -/
def Inv (w : World) (B base : Nat) (A : Option Addr) (n c : Nat) (P : List Pk) (k : Nat) : Prop :=
  ∃ H, w.ownsRow base 29 3 (.slice A n c) n (pkV H) ∧ H.length = P.length ∧ ∀ i (h : i < H.length) (h' : i < P.length), H[i].1 = P[i].1 ∧ H[i].2.1 = P[i].2.1 ∧ (i < k → ElemB w base A H[i].2.2 P[i].2.2) ∧ (k ≤ i → HdB w B H[i].2.2 P[i].2.2)
theorem Inv.row {w : World} {B base : Nat} {A : Option Addr} {n c : Nat} {P : List Pk} {k : Nat} (h : Inv w B base A n c P k) (hn : n = P.length) (hk : k < n) :
    ∃ g Ai ci, A = some ⟨g, 0, none⟩ ∧ base ≤ g ∧ g < w.heap.size ∧ w.cell? ⟨g, k * 3, none⟩ = some (.int .i64 (P[k]'(by omega)).1) ∧ w.cell? ⟨g, k * 3 + 1, none⟩ = some (.int .i64 (P[k]'(by omega)).2.1) ∧
      w.cell? ⟨g, k * 3 + 2, none⟩ = some (.slice Ai (P[k]'(by omega)).2.2.length ci) ∧ w.frozen? ⟨g, k * 3 + 2, none⟩ = false ∧ RdB w B Ai (P[k]'(by omega)).2.2 := by
  obtain ⟨H, h1, h2, h3⟩ := h
  obtain ⟨e1, e2, _, e3⟩ := h3 k (by omega) (by omega)
  obtain ⟨Ai, ci, e4, hr⟩ := e3 (Nat.le_refl _)
  obtain ⟨g1, g2, g3⟩ := pkV_get H k (by omega)
  rcases h1.2 with ⟨e5, h0⟩ | ⟨g, cap, cur, e5, hg, hh, _⟩
  · omega
  · injection e5 with e5 _ e6
    subst e5 e6
    refine ⟨g, Ai, ci, rfl, hg, (Array.getElem?_eq_some_iff.1 hh).1, ?_, ?_, ?_, h1.frozenAt _, hr⟩
    · rw [h1.cellAt (k * 3) (by omega), Nat.mul_comm, g1, e1]
    · rw [h1.cellAt (k * 3 + 1) (by omega), Nat.mul_comm, g2, e2]
    · rw [h1.cellAt (k * 3 + 2) (by omega), Nat.mul_comm, g3, e4]
theorem Inv.next {w wx : World} {B base : Nat} {g n c : Nat} {P : List Pk} {k : Nat} (h : Inv w B base (some ⟨g, 0, none⟩) n c P k) (hn : n = P.length) (hk : k < n) (hB : B ≤ base) (hg : base ≤ g) (hgl : g < w.heap.size)
    (hb : Below w.heap.size w wx) (hbs : base ≤ w.heap.size) {A2 : Option Addr} {c2 m : Nat} (hm : m = (P[k]'(by omega)).2.2.length) (ho : OwnB wx w.heap.size A2 c2 (P[k]'(by omega)).2.2) : Inv (wx.setCell ⟨g, k * 3 + 2, none⟩ (.slice A2 m c2)) B base (some ⟨g, 0, none⟩) n c P (k + 1) := by
  obtain ⟨H, h1, h2, h3⟩ := h
  have hkH : k < H.length := by omega
  subst hm
  have h1x := own_below h1 hb (Nat.le_refl _)
  have hst := (h1x.stored (k * 3 + 2) (.slice A2 (P[k]'(by omega)).2.2.length c2)).1
  rw [Nat.mul_comm k 3, pkV_set H k hkH] at hst
  have hblk : Below w.heap.size w wx := hb
  refine ⟨_, by rw [Nat.mul_comm k 3]; exact hst, by rw [List.length_set]; exact h2, fun i hi hi' => ?_⟩
  rw [List.length_set] at hi
  obtain ⟨e1, e2, e3, e4⟩ := h3 i hi hi'
  by_cases hik : i = k
  · subst hik
    rw [List.getElem_set_self]
    refine ⟨e1, e2, fun _ => ?_, fun h => absurd h (by omega)⟩
    have he : ElemB wx w.heap.size (some ⟨g, 0, none⟩) (.slice A2 P[i].2.2.length c2) P[i].2.2 := ElemB.of_own ho fun b e => by
      simp only [Option.map_some, Option.some.injEq] at e
      omega
    exact (he.store (p := ⟨g, i * 3 + 2, none⟩) rfl _).base hbs
  · rw [List.getElem_set_ne (fun e => hik e.symm)]
    refine ⟨e1, e2, fun h => ?_, fun h => ?_⟩
    · exact ((e3 (by omega)).below hb (Nat.le_refl _)).store (p := ⟨g, k * 3 + 2, none⟩) rfl _
    · exact (e4 (by omega)).below ((hb.mono (by omega)).setCell (by simp only; omega) _)
theorem Inv.below {w w' : World} {B base : Nat} {A : Option Addr} {n c : Nat} {P : List Pk} {k : Nat} (h : Inv w B base A n c P k) (hb : Below w.heap.size w w') (hB : B ≤ w.heap.size) : Inv w' B base A n c P k := by
  obtain ⟨H, h1, h2, h3⟩ := h
  refine ⟨H, own_below h1 hb (Nat.le_refl _), h2, fun i g1 g2 => ?_⟩
  obtain ⟨e1, e2, e3, e4⟩ := h3 i g1 g2
  exact ⟨e1, e2, fun h => (e3 h).below hb (Nat.le_refl _), fun h => (e4 h).below (hb.mono hB)⟩
theorem Inv.start {w : World} {B base : Nat} {A : Option Addr} {n c : Nat} {P : List Pk} {H : List Hd} (h : w.ownsRow base 29 3 (.slice A n c) n (pkV H)) (hh : Hold w B H P) : Inv w B base A n c P 0 :=
  ⟨H, h, hh.1, fun i g1 g2 => let ⟨a, b, c⟩ := hh.2 i g1 g2; ⟨a, b, fun h => absurd h (by omega), fun _ => c⟩⟩
theorem Inv.done {w : World} {B base : Nat} {A : Option Addr} {n c : Nat} {P : List Pk} {k : Nat} (h : Inv w B base A n c P k) (hn : n = P.length) (hk : n ≤ k) : OwnP w base A c P := by
  obtain ⟨H, h1, h2, h3⟩ := h
  subst hn
  exact ⟨H, h1, h2, fun i g1 g2 => let ⟨a, b, c, _⟩ := h3 i g1 g2; ⟨a, b, c (by omega)⟩⟩

set_option maxHeartbeats 2000000 in
theorem own_any (w : World) {B : Nat} {A : Option Addr} {n c : Nat} {P : List Pk} (next : Int) (hn : n = P.length) (hr : RdP w B A P) (hB : B ≤ w.heap.size) (hs : P.length ≤ 1099511627770) (hs2 : ∀ i (h : i < P.length), P[i].2.2.length ≤ 1099511627770) :
    Calls Try.prog 21 #[.agg #[.int .i64 next, .slice A n c]] w fun e w' => ∃ A' c', e = .returned (.agg #[.int .i64 next, .slice A' n c']) ∧ OwnP w' w.heap.size A' c' P ∧ Below w.heap.size w w' := by
  have hns : n ≤ 1099511627770 := by omega
  have HN := Lib.hid hn
  have HS2 := Lib.hid hs2
  clear hn hs2
  go_enter Try.func21, Try.ntmps21
  go_wp2_with fail
  have hszA : ((w.alloc (.cells #[.int .i64 next, .slice A n c] 24)).alloc (.cells #[.int .i64 0, .slice none 0 0] 24)).heap.size = w.heap.size + 2 := by simp
  have hbA : Below w.heap.size w ((w.alloc (.cells #[.int .i64 next, .slice A n c] 24)).alloc (.cells #[.int .i64 0, .slice none 0 0] 24)) := ((Below.refl _ _).alloc (Nat.le_refl _) _).alloc (by simp) _
  have x1 : ((w.alloc (.cells #[.int .i64 next, .slice A n c] 24)).alloc (.cells #[.int .i64 0, .slice none 0 0] 24)).cell? ⟨w.heap.size, 0, none⟩ = some (.int .i64 next) := by simp
  have x2 : ((w.alloc (.cells #[.int .i64 next, .slice A n c] 24)).alloc (.cells #[.int .i64 0, .slice none 0 0] 24)).cell? ⟨w.heap.size, 1, none⟩ = some (.slice A n c) := by simp
  have x3 : ((w.alloc (.cells #[.int .i64 next, .slice A n c] 24)).alloc (.cells #[.int .i64 0, .slice none 0 0] 24)).cell? ⟨w.heap.size + 1, 0, none⟩ = some (.int .i64 0) := by simp
  have x4 : ((w.alloc (.cells #[.int .i64 next, .slice A n c] 24)).alloc (.cells #[.int .i64 0, .slice none 0 0] 24)).cell? ⟨w.heap.size + 1, 1, none⟩ = some (.slice none 0 0) := by simp
  have f1 : ∀ j, ((w.alloc (.cells #[.int .i64 next, .slice A n c] 24)).alloc (.cells #[.int .i64 0, .slice none 0 0] 24)).frozen? ⟨w.heap.size, j, none⟩ = false := fun j => by simp
  have f2 : ∀ j, ((w.alloc (.cells #[.int .i64 next, .slice A n c] 24)).alloc (.cells #[.int .i64 0, .slice none 0 0] 24)).frozen? ⟨w.heap.size + 1, j, none⟩ = false := fun j => by simp
  generalize (w.alloc (.cells #[.int .i64 next, .slice A n c] 24)).alloc (.cells #[.int .i64 0, .slice none 0 0] 24) = V at hszA hbA x1 x2 x3 x4 f1 f2 ⊢
  refine (cloneP_any V HN.out (hr.below (hbA.mono hB)) (Nat.le_trans hB hbA.size) (by omega)).mono ?_
  rintro e w1 ⟨A', c', H0, rfl, ho, hh, hb1⟩
  have hb01 : Below w.heap.size w w1 := hbA.trans (hb1.mono hbA.size)
  have y1 := keepc x1 hb1
  have y2 := keepc x2 hb1
  have y3 := keepc x3 hb1
  have y4 := keepc x4 hb1
  have g1 : ∀ j, w1.frozen? ⟨w.heap.size, j, none⟩ = false := fun j => by rw [hb1.frozen (by simp; omega)]; exact f1 j
  have g2 : ∀ j, w1.frozen? ⟨w.heap.size + 1, j, none⟩ = false := fun j => by rw [hb1.frozen (by simp; omega)]; exact f2 j
  have hz1 := hb1.size
  have HO := Lib.hid ho
  have HH := Lib.hid hh
  clear x1 x2 x3 x4 f1 f2 ho hh hb1
  have hne : (Value.slice A' n c').ownBlock ≠ some w.heap.size := fun e => by
    have := HO.out.lt _ e
    omega
  have hb12 : Below w.heap.size w1 (w1.setCell ⟨w.heap.size, 1, none⟩ (.slice A' n c')) := (Below.refl _ _).setCell (by simp) _
  have hinv : Inv (w1.setCell ⟨w.heap.size, 1, none⟩ (.slice A' n c')) B (w.heap.size + 2) A' n c' P 0 :=
    Inv.start (by rw [← hszA]; exact ownsRow_setCell_other HO.out hne _) (HH.out.below (hb12.mono hB))
  have c1 : (w1.setCell ⟨w.heap.size, 1, none⟩ (.slice A' n c')).cell? ⟨w.heap.size, 0, none⟩ = some (.int .i64 next) := by rw [World.cell?_setCell_other w1 _ _ _ (by simp)]; exact y1
  have c2 : (w1.setCell ⟨w.heap.size, 1, none⟩ (.slice A' n c')).cell? ⟨w.heap.size, 1, none⟩ = some (.slice A' n c') := World.cell?_setCell_same w1 _ _ y2
  have c3 : (w1.setCell ⟨w.heap.size, 1, none⟩ (.slice A' n c')).cell? ⟨w.heap.size + 1, 0, none⟩ = some (.int .i64 0) := by rw [World.cell?_setCell_other w1 _ _ _ (by simp)]; exact y3
  have c4 : (w1.setCell ⟨w.heap.size, 1, none⟩ (.slice A' n c')).cell? ⟨w.heap.size + 1, 1, none⟩ = some (.slice none 0 0) := by rw [World.cell?_setCell_other w1 _ _ _ (by simp)]; exact y4
  have d2 : ∀ j, (w1.setCell ⟨w.heap.size, 1, none⟩ (.slice A' n c')).frozen? ⟨w.heap.size + 1, j, none⟩ = false := fun j => by simpa using g2 j
  have hbw2 : Below w.heap.size w (w1.setCell ⟨w.heap.size, 1, none⟩ (.slice A' n c')) := hb01.trans hb12
  have hsz2 : w.heap.size + 2 ≤ (w1.setCell ⟨w.heap.size, 1, none⟩ (.slice A' n c')).heap.size := by simp; omega
  have hf1 := g1 1
  go_wp2_with fail
  generalize w1.setCell ⟨w.heap.size, 1, none⟩ (.slice A' n c') = w2 at hinv c1 c2 c3 c4 d2 hbw2 hsz2 ⊢
  have HI := Lib.hid hinv
  clear y1 y2 y3 y4 g1 g2 HO HH hne hb12 hinv hb01 hf1 hz1 hszA hbA
  go_loopw [12] (fun i wr => ∃ k : Nat, k ≤ n ∧ i = .int .i64 k ∧ Hid (Inv wr B (w.heap.size + 2) A' n c' P k) ∧ wr.cell? ⟨w.heap.size, 0, none⟩ = some (.int .i64 next) ∧ wr.cell? ⟨w.heap.size, 1, none⟩ = some (.slice A' n c') ∧
      wr.cell? ⟨w.heap.size + 1, 0, none⟩ = some (.int .i64 0) ∧ wr.cell? ⟨w.heap.size + 1, 1, none⟩ = some (.slice none 0 0) ∧ (∀ j, wr.frozen? ⟨w.heap.size + 1, j, none⟩ = false) ∧ Below w.heap.size w wr ∧ w.heap.size + 2 ≤ wr.heap.size) (fun i _ => n - (intOf i).toNat)
  case atStart => exact ⟨0, Nat.zero_le _, rfl, HI, c1, c2, c3, c4, d2, hbw2, hsz2⟩
  case round =>
    obtain ⟨k, hk, rfl, HK, c1, c2, c3, c4, d2, hb, hsz⟩ := hrel
    by_cases hlt : k < n
    · have h1 : k < P.length := by rw [← HN.out]; exact hlt
      obtain ⟨g, Ai, ci, eA, hg, hgl, r1, r2, r3, r4, hri⟩ := HK.out.row HN.out hlt
      obtain ⟨p1, hp1⟩ : ∃ p, p = P[k].1 := ⟨_, rfl⟩
      obtain ⟨p2, hp2⟩ : ∃ p, p = P[k].2.1 := ⟨_, rfl⟩
      obtain ⟨bs, hbs⟩ : ∃ p, p = P[k].2.2 := ⟨_, rfl⟩
      obtain ⟨m, hm⟩ : ∃ m, m = bs.length := ⟨_, rfl⟩
      rw [← hp1] at r1
      rw [← hp2] at r2
      rw [← hbs, ← hm] at r3
      rw [← hbs] at hri
      have hml : m ≤ 1099511627770 := by rw [hm, hbs]; exact HS2.out k h1
      subst eA
      have hbA : Below wr.heap.size wr (wr.alloc (.cells #[.int .i64 p1, .int .i64 p2, .slice Ai m ci] 29)) := (Below.refl _ _).alloc (Nat.le_refl _) _
      have hszV : (wr.alloc (.cells #[.int .i64 p1, .int .i64 p2, .slice Ai m ci] 29)).heap.size = wr.heap.size + 1 := by simp
      have v1 := keepc c2 hbA
      have v2 : (wr.alloc (.cells #[.int .i64 p1, .int .i64 p2, .slice Ai m ci] 29)).cell? ⟨wr.heap.size, 2, none⟩ = some (.slice Ai m ci) := by simp
      have v3 := keepc r3 hbA
      have v4 : (wr.alloc (.cells #[.int .i64 p1, .int .i64 p2, .slice Ai m ci] 29)).frozen? ⟨g, k * 3 + 2, none⟩ = false := by rw [hbA.frozen (by simpa using hgl)]; exact r4
      have HP1 := Lib.hid hp1
      have HP2 := Lib.hid hp2
      have HBS := Lib.hid hbs
      have HM := Lib.hid hm
      clear hp1 hp2 hbs hm
      go_wp2_with fail
      have hriV := hri.below (hbA.mono (Nat.le_trans hB hb.size))
      have HKV := Lib.hid (HK.out.below hbA (Nat.le_trans hB hb.size))
      have e1 := keepc c1 hbA
      have e3 := keepc c3 hbA
      have e4 := keepc c4 hbA
      have d2' : ∀ j, (wr.alloc (.cells #[.int .i64 p1, .int .i64 p2, .slice Ai m ci] 29)).frozen? ⟨w.heap.size + 1, j, none⟩ = false := fun j => by rw [hbA.frozen (by simp; omega)]; exact d2 j
      have hbV : Below w.heap.size w (wr.alloc (.cells #[.int .i64 p1, .int .i64 p2, .slice Ai m ci] 29)) := hb.alloc hb.size _
      have hgV : g < (wr.alloc (.cells #[.int .i64 p1, .int .i64 p2, .slice Ai m ci] 29)).heap.size := by simp; omega
      have hsV : w.heap.size + 2 ≤ (wr.alloc (.cells #[.int .i64 p1, .int .i64 p2, .slice Ai m ci] 29)).heap.size := by simp; omega
      generalize wr.alloc (.cells #[.int .i64 p1, .int .i64 p2, .slice Ai m ci] 29) = V at v1 v2 v3 v4 HKV hriV e1 e3 e4 d2' hbV hgV hsV ⊢
      have hC : ∀ W : World, Below V.heap.size V W →
          Calls Try.prog 23 #[.slice Ai m ci] W fun e W' => ∃ A2 c2, e = .returned (.slice A2 m c2) ∧ Hid (OwnB W' V.heap.size A2 c2 bs) ∧ Below V.heap.size V W' ∧
          W'.cell? ⟨g, k * 3 + 2, none⟩ = some (.slice Ai m ci) ∧ W'.frozen? ⟨g, k * 3 + 2, none⟩ = false ∧ W'.cell? ⟨w.heap.size, 1, none⟩ = some (.slice (some ⟨g, 0, none⟩) n c') ∧ W'.cell? ⟨wr.heap.size, 2, none⟩ = some (.slice Ai m ci) := fun W h => by
        have hrW : RdB W B Ai bs := hriV.below (h.mono (by have := hbV.size; omega))
        refine (cloneB_any W HM.out hrW (by have := h.size; have := hbV.size; omega) (by have := HM.out; omega)).mono ?_
        rintro e W' ⟨A2, c2, rfl, ho, hb⟩
        have hx : Below V.heap.size V W' := h.trans (hb.mono h.size)
        exact ⟨A2, c2, rfl, Lib.hid (own_base ho h.size), hx, keepc v3 hx, by rw [hx.frozen (by simp; omega)]; exact v4, keepc v1 hx, keepc v2 hx⟩
      have ne1 : (⟨g, k * 3 + 2, none⟩ : Addr) ≠ ⟨w.heap.size, 1, none⟩ := fun e => by injection e; omega
      have ne2 : (⟨g, k * 3 + 2, none⟩ : Addr) ≠ ⟨wr.heap.size, 2, none⟩ := fun e => by injection e; omega
      have hK1 : ∀ (W : World) (u : Value), (W.cell? ⟨w.heap.size, 1, none⟩ = some (.slice (some ⟨g, 0, none⟩) n c') ∧ W.cell? ⟨wr.heap.size, 2, none⟩ = some (.slice Ai m ci)) →
          ((W.setCell ⟨g, k * 3 + 2, none⟩ u).cell? ⟨w.heap.size, 1, none⟩ = some (.slice (some ⟨g, 0, none⟩) n c') ∧ (W.setCell ⟨g, k * 3 + 2, none⟩ u).cell? ⟨wr.heap.size, 2, none⟩ = some (.slice Ai m ci)) :=
        fun W u h => ⟨by rw [World.cell?_setCell_other W _ _ _ ne1]; exact h.1, by rw [World.cell?_setCell_other W _ _ _ ne2]; exact h.2⟩
      have HC := Lib.hid hC
      have HK1 := Lib.hid hK1
      have hbq : Below V.heap.size V V := Below.refl _ _
      have hbqd : Below V.heap.size V V.drew := below_drewN (Below.refl _ _) 1
      have hkn0 : (0 : Int) ≤ k := by omega
      have hkn1 : (k : Int) < n := by omega
      clear hC hK1 ne1 ne2 hri hriV r1 r2 r3 r4 hbA hszV c1 c2 c3 c4 d2 hb
      go_region_held3 (fun W => W.cell? ⟨w.heap.size, 1, none⟩ = some (.slice (some ⟨g, 0, none⟩) n c') ∧ W.cell? ⟨wr.heap.size, 2, none⟩ = some (.slice Ai m ci))
        (first | assumption | (refine ⟨?_, ?_⟩ <;> assumption) | (apply HK1.out; first | assumption | (refine ⟨?_, ?_⟩ <;> assumption)) | go_keep)
        (first | (go_at_call 23; refine (HC.out _ (by assumption)).mono ?_; rintro e wx ⟨A2, c2, rfl, HO2, hbx, t1, t2, i1, i2⟩))
      have hI2 : Inv (wx.setCell ⟨g, k * 3 + 2, none⟩ (.slice A2 m c2)) B (w.heap.size + 2) (some ⟨g, 0, none⟩) n c' P (k + 1) :=
        Inv.next HKV.out HN.out hlt (by omega) hg hgV hbx hsV (by rw [HM.out, HBS.out]) (by rw [← HBS.out]; exact HO2.out)
      have HI2 := Lib.hid hI2
      have n1 : (⟨g, k * 3 + 2, none⟩ : Addr) ≠ ⟨w.heap.size, 0, none⟩ := fun e => by injection e; omega
      have n3 : (⟨g, k * 3 + 2, none⟩ : Addr) ≠ ⟨w.heap.size + 1, 0, none⟩ := fun e => by injection e; omega
      have n4 : (⟨g, k * 3 + 2, none⟩ : Addr) ≠ ⟨w.heap.size + 1, 1, none⟩ := fun e => by injection e; omega
      have q1 : (wx.setCell ⟨g, k * 3 + 2, none⟩ (.slice A2 m c2)).cell? ⟨w.heap.size, 0, none⟩ = some (.int .i64 next) := by rw [World.cell?_setCell_other wx _ _ _ n1]; exact keepc e1 hbx
      have q2 : (wx.setCell ⟨g, k * 3 + 2, none⟩ (.slice A2 m c2)).cell? ⟨w.heap.size, 1, none⟩ = some (.slice (some ⟨g, 0, none⟩) n c') := by
        rw [World.cell?_setCell_other wx _ _ _ (fun e => by injection e; omega)]; exact keepc v1 hbx
      have q3 : (wx.setCell ⟨g, k * 3 + 2, none⟩ (.slice A2 m c2)).cell? ⟨w.heap.size + 1, 0, none⟩ = some (.int .i64 0) := by rw [World.cell?_setCell_other wx _ _ _ n3]; exact keepc e3 hbx
      have q4 : (wx.setCell ⟨g, k * 3 + 2, none⟩ (.slice A2 m c2)).cell? ⟨w.heap.size + 1, 1, none⟩ = some (.slice none 0 0) := by rw [World.cell?_setCell_other wx _ _ _ n4]; exact keepc e4 hbx
      have q5 : ∀ j, (wx.setCell ⟨g, k * 3 + 2, none⟩ (.slice A2 m c2)).frozen? ⟨w.heap.size + 1, j, none⟩ = false := fun j => by
        have : wx.frozen? ⟨w.heap.size + 1, j, none⟩ = false := by rw [hbx.frozen (by simp; omega)]; exact d2' j
        simpa using this
      have q6 : Below w.heap.size w (wx.setCell ⟨g, k * 3 + 2, none⟩ (.slice A2 m c2)) := (hbV.trans (hbx.mono hbV.size)).setCell (by simp only; omega) _
      have q7 : w.heap.size + 2 ≤ (wx.setCell ⟨g, k * 3 + 2, none⟩ (.slice A2 m c2)).heap.size := by have := hbx.size; simp; omega
      generalize wx.setCell ⟨g, k * 3 + 2, none⟩ (.slice A2 m c2) = Wf at HI2 q1 q2 q3 q4 q5 q6 q7 ⊢
      clear hI2 HKV e1 e3 e4 v1 v2 v3 v4 d2' t1 t2 i1 i2 hbx hbq hbqd HO2 n1 n3 n4 hbV
      go_wp2_with fail
      go_roundw
      case rel => exact ⟨k + 1, by omega, by go_num, HI2, q1, q2, q3, q4, q5, q6, q7⟩
      case measure => simp [intOf] <;> omega
    · go_wp2_with fail
      have HW := Lib.hid ((((HK.out.done HN.out (by omega)).low (p := ⟨w.heap.size + 1, 0, none⟩) (by simp only; omega) (.int .i64 next)).low (p := ⟨w.heap.size + 1, 1, none⟩) (by simp only; omega) (.slice A' n c')).base (show w.heap.size ≤ w.heap.size + 2 by omega))
      refine bodyPost_ret (v := .agg #[.int .i64 next, .slice A' n c']) ?_ rfl ⟨A', c', rfl, HW.out, ((hb.setCell (by simp) _).setCell (by simp) _)⟩
      rw [results_cell_one rfl]
      go_simp
      first | done | rfl
end Go.Proofs.Ytnmamfgebbcehaa.pk

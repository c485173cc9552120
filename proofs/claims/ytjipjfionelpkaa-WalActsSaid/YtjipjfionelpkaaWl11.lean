/- What Do of a log answers: what it holds behind an act. -/
import Derived.Test.YtjipjfionelpkaaWl10
import Derived.Test.YtjipjfionelpkaaTail2
namespace Go.Proofs.Ytjipjfionelpkaa.wl
open Go.RowKit Go.Proofs.Ytjipjfionelpkaa.lib Go.Proofs.Ytjipjfionelpkaa.byt Go.Proofs.Ytjipjfionelpkaa.dk Go.Proofs.Ytjipjfionelpkaa.framePlain
set_option linter.unusedVariables false
set_option linter.unusedSimpArgs false

theorem append_hd (w : World) (B : Nat) {A : Option Addr} {n c : Nat} {H : List Value} (hown : w.ownsRow B 22 1 (.slice A n c) n H)
    {B2 : Nat} {A2 : Option Addr} {m c2 : Nat} {H2 : List Value} (hr : Reads w B2 1 A2 m H2) (h1 : ∀ u ∈ H2, u.oneCell' = true) (hs : n + m ≤ 1099511627776) (hB : B ≤ w.heap.size) :
    ∃ A' c' w', (Builtin.append_ #[43, 43] 43 #[.slice (A) (n) (c), .slice (A2) (m) (c2)]).run Try.prog (w) = .ok (.slice A' (n + m) c') w' ∧ w'.ownsRow B 22 1 (.slice A' (n + m) c') (n + m) (H ++ H2) ∧ Upd w w' A (n * 1) A' ∧ Below B w w' := by
  obtain ⟨i0, hi, hz0, hz1, hz2⟩ := info_parts info_hdr
  obtain ⟨A', c', w', g1, g2, g3⟩ := append_law (P := Try.prog) w B 43 43 43 22 i0 _ 1 24 Try.underlying43 hi hz0 hz1 hz2 rfl (by decide) hown (Src.of_reads Try.underlying43 (c := c2) hr h1) (by unfold maxLen; omega) (by omega) hB
  exact ⟨A', c', w', g1, g2, g3, g3.below_own hown hB⟩
theorem ownH_at {w : World} {g base : Nat} (hg : w.heap[g]? = some (.cells #[] 22 (0, 0))) (hb : base ≤ g) : w.ownsRow base 22 1 (.slice (some ⟨g, 0, none⟩) 0 0) 0 [] :=
  ⟨rfl, .inr ⟨g, 0, #[], rfl, hb, hg, Nat.le_refl _, by decide, rfl, rfl⟩⟩
section
variable {AL : Option Addr} {nL cL : Nat} {HL : List Value} {v : Value}
theorem row_reads (w : World) {g1 : Nat} (hg : w.heap[g1]? = some (.cells #[v] 22 (0, 0))) : Reads w w.heap.size 1 (some ⟨g1, 0, none⟩) 1 [v] := by
  refine ⟨rfl, fun _ => ⟨_, rfl, (Array.getElem?_eq_some_iff.1 hg).1, fun j u hu => ?_⟩⟩
  rw [add_at, cell_of_row _ g1 j _ _ (0, 0) hg]
  simpa using hu
theorem two_core (W : World) {base g0 g1 : Nat} (h0 : W.heap[g0]? = some (.cells #[] 22 (0, 0))) (h1 : W.heap[g1]? = some (.cells #[v] 22 (0, 0))) (hne : g0 ≠ g1) (hb0 : base ≤ g0) (hb1 : base ≤ g1) (hv : v.oneCell' = true) (hr : Reads W W.heap.size 1 AL nL HL) (hone : ∀ u ∈ HL, u.oneCell' = true) (hs : nL ≤ 1000000000) :
    ∃ A2 c2 w2 A3 c3 w3, (Builtin.append_ #[43, 43] 43 #[.slice (some ⟨g0, 0, none⟩) (0) (0), .slice (AL) (nL) (cL)]).run Try.prog (W) = .ok (.slice A2 nL c2) w2 ∧ (Builtin.append_ #[43, 43] 43 #[.slice (A2) (nL) (c2), .slice (some ⟨g1, 0, none⟩) (1) (1)]).run Try.prog (w2) = .ok (.slice A3 (nL + 1) c3) w3 ∧ w3.ownsRow base 22 1 (.slice A3 (nL + 1) c3) (nL + 1) (HL ++ [v]) ∧ Below base W w2 ∧ Below base W w3 := by
  have hg0 : g0 < W.heap.size := (Array.getElem?_eq_some_iff.1 h0).1
  have hg1 : g1 < W.heap.size := (Array.getElem?_eq_some_iff.1 h1).1
  obtain ⟨A2, c2, w2, hrun, ho, hu, hb⟩ := append_hd W base (n := 0) (c := 0) (H := []) (ownH_at h0 hb0) (c2 := cL) hr hone (by omega) (by omega)
  simp only [List.nil_append, Nat.zero_add] at hrun ho
  have h1' : w2.heap[g1]? = _ := (hu.grown.block g1 hg1 (fun e => hne (by simpa using e.symm))).trans h1
  obtain ⟨A3, c3, w3, hrun2, ho2, _, hb2⟩ := append_hd w2 base ho (c2 := 1) (row_reads w2 h1') (by intro u hu; rw [List.mem_singleton] at hu; rw [hu]; exact hv) (by omega) (by have := hb.size; omega)
  exact ⟨A2, c2, w2, A3, c3, w3, hrun, hrun2, ho2, hb, hb.trans hb2⟩
/-- The empty row, the copy, then the record's own row. -/
theorem order_A1 (V : World) (hv : v.oneCell' = true) (hr : Reads V V.heap.size 1 AL nL HL) (hone : ∀ u ∈ HL, u.oneCell' = true) (hs : nL ≤ 1000000000) :
    ∃ A2 c2 w2 A3 c3 w3, (Builtin.append_ #[43, 43] 43 #[.slice (some ⟨V.heap.size, 0, none⟩) (0) (0), .slice (AL) (nL) (cL)]).run Try.prog (V.alloc (.cells #[] 22)) = .ok (.slice A2 nL c2) w2 ∧ (Builtin.append_ #[43, 43] 43 #[.slice (A2) (nL) (c2), .slice (some ⟨w2.heap.size, 0, none⟩) (1) (1)]).run Try.prog (w2.alloc (.cells #[v] 22)) = .ok (.slice A3 (nL + 1) c3) w3 ∧ w3.ownsRow V.heap.size 22 1 (.slice A3 (nL + 1) c3) (nL + 1) (HL ++ [v]) ∧ Below V.heap.size V w2 ∧ Below V.heap.size V w3 := by
  have hb0 : Below V.heap.size V (V.alloc (.cells #[] 22)) := (Below.refl _ _).alloc (Nat.le_refl _) _
  obtain ⟨A2, c2, w2, hrun, ho, _, hb⟩ := append_hd (V.alloc (.cells #[] 22)) V.heap.size (n := 0) (c := 0) (H := []) (ownH_at (heap_alloc_new V _) (Nat.le_refl _)) (c2 := cL) (hr.below hb0) hone (by omega) hb0.size
  simp only [List.nil_append, Nat.zero_add] at hrun ho
  have hb2 := hb0.trans hb
  have hb1 : Below w2.heap.size w2 (w2.alloc (.cells #[v] 22)) := (Below.refl _ _).alloc (Nat.le_refl _) _
  obtain ⟨A3, c3, w3, hrun2, ho2, _, hb3⟩ := append_hd (w2.alloc (.cells #[v] 22)) V.heap.size (own_below ho hb1 (Nat.le_refl _)) (c2 := 1) (row_reads _ (heap_alloc_new w2 _)) (by intro u hu; rw [List.mem_singleton] at hu; rw [hu]; exact hv) (by omega) (by have := hb2.size; have := hb1.size; omega)
  exact ⟨A2, c2, w2, A3, c3, w3, hrun, hrun2, ho2, hb2, hb2.trans ((hb1.mono hb2.size).trans hb3)⟩
theorem order_A2 (V : World) (hv : v.oneCell' = true) (hr : Reads V V.heap.size 1 AL nL HL) (hone : ∀ u ∈ HL, u.oneCell' = true) (hs : nL ≤ 1000000000) :
    ∃ A2 c2 w2 A3 c3 w3, (Builtin.append_ #[43, 43] 43 #[.slice (some ⟨V.heap.size, 0, none⟩) (0) (0), .slice (AL) (nL) (cL)]).run Try.prog ((V.alloc (.cells #[] 22)).alloc (.cells #[v] 22)) = .ok (.slice A2 nL c2) w2 ∧ (Builtin.append_ #[43, 43] 43 #[.slice (A2) (nL) (c2), .slice (some ⟨V.heap.size + 1, 0, none⟩) (1) (1)]).run Try.prog (w2) = .ok (.slice A3 (nL + 1) c3) w3 ∧ w3.ownsRow V.heap.size 22 1 (.slice A3 (nL + 1) c3) (nL + 1) (HL ++ [v]) ∧ Below V.heap.size V w2 ∧ Below V.heap.size V w3 := by
  have e1 : (V.alloc (.cells #[] 22)).heap.size = V.heap.size + 1 := by simp
  have hb0 : Below V.heap.size V ((V.alloc (.cells #[] 22)).alloc (.cells #[v] 22)) := ((Below.refl _ _).alloc (Nat.le_refl _) _).alloc (by omega) _
  have h0 : ((V.alloc (.cells #[] 22)).alloc (.cells #[v] 22)).heap[V.heap.size]? = some (.cells #[] 22 (0, 0)) := (Below.heap_alloc _ _ _ (by omega)).trans (heap_alloc_new V _)
  have h1 : ((V.alloc (.cells #[] 22)).alloc (.cells #[v] 22)).heap[V.heap.size + 1]? = some (.cells #[v] 22 (0, 0)) := by
    rw [← e1]
    exact heap_alloc_new _ _
  obtain ⟨A2, c2, w2, A3, c3, w3, r1, r2, ho, b2, b3⟩ := two_core _ h0 h1 (by omega) (Nat.le_refl _) (by omega) (cL := cL) hv ((hr.below hb0).more hb0.size) hone hs
  exact ⟨A2, c2, w2, A3, c3, w3, r1, r2, ho, hb0.trans b2, hb0.trans b3⟩
theorem order_B (V : World) (hv : v.oneCell' = true) (hr : Reads V V.heap.size 1 AL nL HL) (hone : ∀ u ∈ HL, u.oneCell' = true) (hs : nL ≤ 1000000000) :
    ∃ A2 c2 w2 A3 c3 w3, (Builtin.append_ #[43, 43] 43 #[.slice (some ⟨V.heap.size + 1, 0, none⟩) (0) (0), .slice (AL) (nL) (cL)]).run Try.prog ((V.alloc (.cells #[v] 22)).alloc (.cells #[] 22)) = .ok (.slice A2 nL c2) w2 ∧ (Builtin.append_ #[43, 43] 43 #[.slice (A2) (nL) (c2), .slice (some ⟨V.heap.size, 0, none⟩) (1) (1)]).run Try.prog (w2) = .ok (.slice A3 (nL + 1) c3) w3 ∧ w3.ownsRow V.heap.size 22 1 (.slice A3 (nL + 1) c3) (nL + 1) (HL ++ [v]) ∧ Below V.heap.size V w2 ∧ Below V.heap.size V w3 := by
  have e1 : (V.alloc (.cells #[v] 22)).heap.size = V.heap.size + 1 := by simp
  have hb0 : Below V.heap.size V ((V.alloc (.cells #[v] 22)).alloc (.cells #[] 22)) := ((Below.refl _ _).alloc (Nat.le_refl _) _).alloc (by omega) _
  have h1 : ((V.alloc (.cells #[v] 22)).alloc (.cells #[] 22)).heap[V.heap.size]? = some (.cells #[v] 22 (0, 0)) := (Below.heap_alloc _ _ _ (by omega)).trans (heap_alloc_new V _)
  have h0 : ((V.alloc (.cells #[v] 22)).alloc (.cells #[] 22)).heap[V.heap.size + 1]? = some (.cells #[] 22 (0, 0)) := by
    rw [← e1]
    exact heap_alloc_new _ _
  obtain ⟨A2, c2, w2, A3, c3, w3, r1, r2, ho, b2, b3⟩ := two_core _ h0 h1 (by omega) (by omega) (Nat.le_refl _) (cL := cL) hv ((hr.below hb0).more hb0.size) hone hs
  exact ⟨A2, c2, w2, A3, c3, w3, r1, r2, ho, hb0.trans b2, hb0.trans b3⟩
end
/-- T, and what is new since w. -/
def since (w : World) (F : Nat → Prop) (b : Nat) : Prop := F b ∨ w.heap.size ≤ b
def F3 (w : World) (F : Nat → Prop) (b : Nat) : Prop := F b ∨ w.heap.size + 3 ≤ b
theorem F3_since (w : World) (F : Nat → Prop) : ∀ b, F3 w F b → since w F b := fun b h => h.imp_right fun h => Nat.le_trans (Nat.le_add_right _ _) h
theorem F3_not {w : World} {F : Nat → Prop} (hF : ∀ b, F b → b < w.heap.size) {b : Nat} (h1 : w.heap.size ≤ b) (h2 : b < w.heap.size + 3) : ¬ F3 w F b := fun h => by
  rcases h with h | h
  · have := hF b h; omega
  · omega
theorem setF {w : World} {F : Nat → Prop} {A : Option Addr} {r : List UInt8} (h : RdF w F A r) {p : Addr} (hp : ¬ F p.block) (u : Value) : RdF (w.setCell p u) F A r := h.bel ((BelF.refl F w).setCell hp u)
theorem setL {w : World} {F : Nat → Prop} {A : Option Addr} {r : List (List UInt8)} (h : RdL w F A r) {p : Addr} (hp : ¬ F p.block) (u : Value) : RdL (w.setCell p u) F A r := h.bel ((BelF.refl F w).setCell hp u)
abbrev Hd8 := List UInt8 × List (List UInt8) × Int
/-- What is held behind an act of kind 0 to 3. -/
def doH (h : Hd8) (a : Ac8) : Hd8 := if a.1 % 6 = 2 then (h.1, h.2.1, (h.2.1.length : Nat)) else if a.1 % 6 = 3 then (a.2.1, [], 0) else (h.1, h.2.1 ++ [a.2.1], h.2.2)
def RDo8 (w : World) (T : Nat → Prop) (h : Hd8) (e : Ending) (w' : World) : Prop :=
  ∃ A1 n1 c1 A2 n2 c2, e = .returned (.agg #[.slice A1 n1 c1, .slice A2 n2 c2, .int .i64 h.2.2]) ∧ n1 = h.1.length ∧ n2 = h.2.1.length ∧ RdF w' (since w T) A1 h.1 ∧ RdL w' (since w T) A2 h.2.1 ∧ Below w.heap.size w w'
set_option maxRecDepth 10000 in
set_option maxHeartbeats 2000000 in
theorem do8_any (w : World) {T : Nat → Prop} {A1 A2 Ab : Option Addr} {n1 c1 n2 c2 m cb : Nat} {p : List UInt8} {L : List (List UInt8)} {sf : Int} {a : Ac8} (hn1 : n1 = p.length) (hn2 : n2 = L.length) (h1 : RdF w T A1 p) (h2 : RdL w T A2 L) (hT : ∀ b, T b → b < w.heap.size) (hl : L.length ≤ 1000000) (h0 : 0 ≤ a.1 ∧ a.1 ≤ 255) (h4 : a.1 % 6 < 4) (hm : m = a.2.1.length) (hv : RdF w T Ab a.2.1) :
    Calls Try.prog 33 #[.agg #[.slice A1 n1 c1, .slice A2 n2 c2, .int .i64 sf], .agg #[.int .u8 a.1, .slice Ab m cb, .int .i64 a.2.2.1, .int .i64 a.2.2.2]] w (RDo8 w T (doH (p, L, sf) a)) := by
  obtain ⟨k, b, x, y⟩ := a
  simp only at h0 h4 hm hv ⊢
  obtain ⟨k0, k255⟩ := h0
  have hbV : Below w.heap.size w (((w.alloc (.cells #[.slice A1 n1 c1, .slice A2 n2 c2, .int .i64 sf] 58)).alloc (.cells #[.int .u8 k, .slice Ab m cb, .int .i64 x, .int .i64 y] 60)).alloc (.cells #[.slice none 0 0, .slice none 0 0, .int .i64 0] 58)) := low3
  have hsV : (((w.alloc (.cells #[.slice A1 n1 c1, .slice A2 n2 c2, .int .i64 sf] 58)).alloc (.cells #[.int .u8 k, .slice Ab m cb, .int .i64 x, .int .i64 y] 60)).alloc (.cells #[.slice none 0 0, .slice none 0 0, .int .i64 0] 58)).heap.size = w.heap.size + 3 := by simp
  obtain ⟨hd, ha, hz⟩ := heap3 w (.cells #[.slice A1 n1 c1, .slice A2 n2 c2, .int .i64 sf] 58) (.cells #[.int .u8 k, .slice Ab m cb, .int .i64 x, .int .i64 y] 60) (.cells #[.slice none 0 0, .slice none 0 0, .int .i64 0] 58)
  have HSV := Lib.hid hsV
  have HBV := Lib.hid hbV
  have HP3 := Lib.hid (show RdF (((w.alloc (.cells #[.slice A1 n1 c1, .slice A2 n2 c2, .int .i64 sf] 58)).alloc (.cells #[.int .u8 k, .slice Ab m cb, .int .i64 x, .int .i64 y] 60)).alloc (.cells #[.slice none 0 0, .slice none 0 0, .int .i64 0] 58)) (F3 w T) A1 p from (h1.below hbV (Nat.le_refl _)).mono fun b h => .inl h)
  have HL3 := Lib.hid (show RdL (((w.alloc (.cells #[.slice A1 n1 c1, .slice A2 n2 c2, .int .i64 sf] 58)).alloc (.cells #[.int .u8 k, .slice Ab m cb, .int .i64 x, .int .i64 y] 60)).alloc (.cells #[.slice none 0 0, .slice none 0 0, .int .i64 0] 58)) (F3 w T) A2 L from (h2.below hbV (Nat.le_refl _)).mono fun b h => .inl h)
  have HV3 := Lib.hid (show RdF (((w.alloc (.cells #[.slice A1 n1 c1, .slice A2 n2 c2, .int .i64 sf] 58)).alloc (.cells #[.int .u8 k, .slice Ab m cb, .int .i64 x, .int .i64 y] 60)).alloc (.cells #[.slice none 0 0, .slice none 0 0, .int .i64 0] 58)) (F3 w T) Ab b from (hv.below hbV (Nat.le_refl _)).mono fun b h => .inl h)
  have HF := Lib.hid hT
  have HN1 := Lib.hid hn1
  have HN2 := Lib.hid hn2
  have HLL := Lib.hid hl
  have HM := Lib.hid hm
  have d0 := cell_of_row _ w.heap.size 0 _ _ (0, 0) hd
  have d1 := cell_of_row _ w.heap.size 1 _ _ (0, 0) hd
  have d2 := cell_of_row _ w.heap.size 2 _ _ (0, 0) hd
  have df : ∀ j, (((w.alloc (.cells #[.slice A1 n1 c1, .slice A2 n2 c2, .int .i64 sf] 58)).alloc (.cells #[.int .u8 k, .slice Ab m cb, .int .i64 x, .int .i64 y] 60)).alloc (.cells #[.slice none 0 0, .slice none 0 0, .int .i64 0] 58)).frozen? ⟨w.heap.size, j, none⟩ = false := fun j => frozen_of_row _ _ j _ _ hd
  have a0 := cell_of_row _ (w.heap.size + 1) 0 _ _ (0, 0) ha
  have a1 := cell_of_row _ (w.heap.size + 1) 1 _ _ (0, 0) ha
  have a2 := cell_of_row _ (w.heap.size + 1) 2 _ _ (0, 0) ha
  have a3 := cell_of_row _ (w.heap.size + 1) 3 _ _ (0, 0) ha
  have z0 := cell_of_row _ (w.heap.size + 1 + 1) 0 _ _ (0, 0) hz
  have z1 := cell_of_row _ (w.heap.size + 1 + 1) 1 _ _ (0, 0) hz
  have z2 := cell_of_row _ (w.heap.size + 1 + 1) 2 _ _ (0, 0) hz
  have zf : ∀ j, (((w.alloc (.cells #[.slice A1 n1 c1, .slice A2 n2 c2, .int .i64 sf] 58)).alloc (.cells #[.int .u8 k, .slice Ab m cb, .int .i64 x, .int .i64 y] 60)).alloc (.cells #[.slice none 0 0, .slice none 0 0, .int .i64 0] 58)).frozen? ⟨w.heap.size + 1 + 1, j, none⟩ = false := fun j => frozen_of_row _ _ j _ _ hz
  simp only [List.getElem?_toArray, List.getElem?_cons_succ, List.getElem?_cons_zero] at d0 d1 d2 a0 a1 a2 a3 z0 z1 z2
  have h6 : k % 6 = 2 ∨ k % 6 = 3 ∨ (k % 6 ≤ 1 ∧ ¬ k % 6 = 2 ∧ ¬ k % 6 = 3) := by omega
  have hk6 : 0 ≤ k % 6 := by omega
  clear hbV hsV hd ha hz hn1 hn2 hl hm h1 h2 hT hv
  go_enter Try.func33, Try.ntmps33
  go_upto_region 1 with (fail)
  generalize (((w.alloc (.cells #[.slice A1 n1 c1, .slice A2 n2 c2, .int .i64 sf] 58)).alloc (.cells #[.int .u8 k, .slice Ab m cb, .int .i64 x, .int .i64 y] 60)).alloc (.cells #[.slice none 0 0, .slice none 0 0, .int .i64 0] 58)) = V at HSV HBV HP3 HL3 HV3 d0 d1 d2 df a0 a1 a2 a3 z0 z1 z2 zf ⊢
  rcases h6 with e | e | ⟨q1, q2, q3⟩
  · have HDO := Lib.hid (show doH (p, L, sf) (k, b, x, y) = (p, L, ((L.length : Nat) : Int)) from by unfold doH; rw [if_pos e])
    have HE2 := Lib.hid HN2.out
    have q1 : ¬ k % 6 ≤ 1 := by omega
    go_wp2_with fail
    refine bodyPost_ret (v := .agg #[.slice A1 n1 c1, .slice A2 n2 c2, .int .i64 (n2 : Nat)]) ?_ rfl ?_
    · rw [results_cell_one rfl]; go_simp; first | done | rfl
    · rw [HDO.out]
      refine ⟨A1, n1, c1, A2, n2, c2, by rw [HN2.out], HN1.out, HN2.out, ?_, ?_, ?_⟩
      · refine ReadsF.mono ?_ (F3_since w T)
        repeat (with_reducible refine setF ?_ (F3_not HF.out (by simp only; omega) (by simp only; omega)) _)
        exact HP3.out
      · refine RdL.mono ?_ (F3_since w T)
        repeat (with_reducible refine setL ?_ (F3_not HF.out (by simp only; omega) (by simp only; omega)) _)
        exact HL3.out
      · repeat (with_reducible refine Below.setCell ?_ (by simp only; omega) _)
        exact HBV.out
  · have HDO := Lib.hid (show doH (p, L, sf) (k, b, x, y) = (b, [], 0) from by unfold doH; rw [if_neg (by simp only; omega), if_pos e])
    have q1 : ¬ k % 6 ≤ 1 := by omega
    have q2 : ¬ k % 6 = 2 := by omega
    go_wp2_with fail
    refine bodyPost_ret (v := .agg #[.slice Ab m cb, .slice none 0 0, .int .i64 0]) ?_ rfl ?_
    · rw [results_cell_one rfl]; go_simp; first | done | rfl
    · rw [HDO.out]
      refine ⟨Ab, m, cb, none, 0, 0, rfl, HM.out, rfl, ?_, ?_, ?_⟩
      · refine ReadsF.mono ?_ (F3_since w T)
        repeat (with_reducible refine setF ?_ (F3_not HF.out (by simp only; omega) (by simp only; omega)) _)
        exact HV3.out
      · refine RdL.mono ?_ (F3_since w T)
        repeat (with_reducible refine setL ?_ (F3_not HF.out (by simp only; omega) (by simp only; omega)) _)
        exact RdL.nil
      · repeat (with_reducible refine Below.setCell ?_ (by simp only; omega) _)
        exact HBV.out
  · have HDO := Lib.hid (show doH (p, L, sf) (k, b, x, y) = (p, L ++ [b], sf) from by unfold doH; rw [if_neg q2, if_neg q3])
    have hone : Value.oneCell' (.slice Ab m cb) = true := rfl
    obtain ⟨HLl, hL1, hL2⟩ := HL3.out
    rw [← HN2.out] at hL1
    have hh1 : ∀ u ∈ HLl, u.oneCell' = true := fun u hu => by
      obtain ⟨i, hi, e⟩ := List.getElem_of_mem hu
      have hlen : HLl.length = L.length := by have := hL1.1.1; rw [← HN2.out]; omega
      obtain ⟨v, ev, hv⟩ := hL2 i (by omega)
      rw [List.getElem?_eq_getElem hi, e] at ev
      injection ev with ev
      rw [ev]
      exact hv.one
    have hlen : n2 ≤ 1000000000 := by have := HLL.out; have := HN2.out; omega
    have HL2 := Lib.hid hL2
    have HL1 := Lib.hid hL1
    have hcopy : Reads V.drew V.drew.heap.size 1 A2 n2 HLl := hL1.rd
    clear hL1 hL2
    go_wp2_with fail
    have hS0 : (fun X : World => (X.cell? ⟨w.heap.size, 1, none⟩ = some (.slice A2 n2 c2) ∧ X.cell? ⟨w.heap.size + 1, 1, none⟩ = some (.slice Ab m cb))) V.drew := ⟨d1, a1⟩
    refine tail.wp_region_till 9 (fun X => (X.cell? ⟨w.heap.size, 1, none⟩ = some (.slice A2 n2 c2) ∧ X.cell? ⟨w.heap.size + 1, 1, none⟩ = some (.slice Ab m cb))) (by kernel_rfl) ?_
    (refine tail.till_take 1 (v := ?_) rfl (by kernel_rfl) (by kernel_rfl) (by kernel_rfl) (by kernel_rfl) (by kernel_rfl) (fun _ _ _ h => h) (by rfl) (by assumption) ?_ ?_; rotate_left 1; (focus (intro X hX; obtain ⟨s1, s2⟩ := hX; go_simp; with_reducible rfl)); (try simp only [Act.put, List.setIfInBounds_toArray, List.set_cons_zero, List.set_cons_succ]))
    (refine tail.till_take 2 (v := ?_) rfl (by kernel_rfl) (by kernel_rfl) (by kernel_rfl) (by kernel_rfl) (by kernel_rfl) (fun _ _ _ h => h) (by rfl) (by assumption) ?_ ?_; rotate_left 1; (focus (intro X hX; obtain ⟨s1, s2⟩ := hX; go_simp; with_reducible rfl)); (try simp only [Act.put, List.setIfInBounds_toArray, List.set_cons_zero, List.set_cons_succ]))
    (refine tail.till_take 4 (v := ?_) rfl (by kernel_rfl) (by kernel_rfl) (by kernel_rfl) (by kernel_rfl) (by kernel_rfl) (fun _ _ _ h => h) (by rfl) (by assumption) ?_ ?_; rotate_left 1; (focus (intro X hX; obtain ⟨s1, s2⟩ := hX; go_simp; with_reducible rfl)); (try simp only [Act.put, List.setIfInBounds_toArray, List.set_cons_zero, List.set_cons_succ]))
    (refine tail.till_take 5 (v := ?_) rfl (by kernel_rfl) (by kernel_rfl) (by kernel_rfl) (by kernel_rfl) (by kernel_rfl) (fun _ _ _ h => h) (by rfl) (by assumption) ?_ ?_; rotate_left 1; (focus (intro X hX; obtain ⟨s1, s2⟩ := hX; go_simp; with_reducible rfl)); (try simp only [Act.put, List.setIfInBounds_toArray, List.set_cons_zero, List.set_cons_succ]))
    refine tail.till_two 0 6 (by kernel_rfl) rfl rfl ?_ ?_
    · intro K hK
      have hbE : Below V.drew.heap.size V.drew (V.drew.alloc (.cells #[] 22)) := (Below.refl _ _).alloc (Nat.le_refl _) _
      have hbS := hbE
      have hSE : (fun X : World => (X.cell? ⟨w.heap.size, 1, none⟩ = some (.slice A2 n2 c2) ∧ X.cell? ⟨w.heap.size + 1, 1, none⟩ = some (.slice Ab m cb))) (V.drew.alloc (.cells #[] 22)) := ⟨keepc (W := V.drew) d1 hbS, keepc (W := V.drew) a1 hbS⟩
      clear hbS
      go_simp
      refine hK.out _ _ (fun _ => hSE) ?_
      clear hK K
      try simp only [Act.put, List.setIfInBounds_toArray, List.set_cons_zero, List.set_cons_succ]
      refine tail.till_two 3 6 (by kernel_rfl) rfl rfl ?_ ?_
      · intro K hK
        obtain ⟨A4, c4, w2, A3, c3, w3, run1, run2, ho3, hb2, hb3⟩ := order_A1 V.drew hone hcopy hh1 hlen (cL := c2)
        have hbE : Below V.drew.heap.size V.drew (V.drew.alloc (.cells #[] 22)) := (Below.refl _ _).alloc (Nat.le_refl _) _
        have hbR : Below V.drew.heap.size V.drew (V.drew.alloc (.cells #[.slice Ab m cb] 22)) := (Below.refl _ _).alloc (Nat.le_refl _) _
        have hbS := hb2
        have hS2 : (fun X : World => (X.cell? ⟨w.heap.size, 1, none⟩ = some (.slice A2 n2 c2) ∧ X.cell? ⟨w.heap.size + 1, 1, none⟩ = some (.slice Ab m cb))) w2 := ⟨keepc (W := V.drew) d1 hbS, keepc (W := V.drew) a1 hbS⟩
        clear hbS
        have hb2R : Below V.drew.heap.size V.drew (w2.alloc (.cells #[.slice Ab m cb] 22)) := hb2.alloc hb2.size _
        have hbS := hb2R
        have hS2R : (fun X : World => (X.cell? ⟨w.heap.size, 1, none⟩ = some (.slice A2 n2 c2) ∧ X.cell? ⟨w.heap.size + 1, 1, none⟩ = some (.slice Ab m cb))) (w2.alloc (.cells #[.slice Ab m cb] 22)) := ⟨keepc (W := V.drew) d1 hbS, keepc (W := V.drew) a1 hbS⟩
        clear hbS
        have hbS := hb3
        have hS3 : (fun X : World => (X.cell? ⟨w.heap.size, 1, none⟩ = some (.slice A2 n2 c2) ∧ X.cell? ⟨w.heap.size + 1, 1, none⟩ = some (.slice Ab m cb))) w3 := ⟨keepc (W := V.drew) d1 hbS, keepc (W := V.drew) a1 hbS⟩
        clear hbS
        clear hb2R hb2 hbE hbR
        refine step_append_run rfl rfl rfl rfl run1 ?_
        refine hK.out _ _ (fun _ => hS2) ?_
        clear hK K
        try simp only [Act.put, List.setIfInBounds_toArray, List.set_cons_zero, List.set_cons_succ]
        refine tail.till_one 6 (by kernel_rfl) rfl (fun K hK => ?_)
        go_simp
        refine hK.out _ _ (fun _ => hS2R) ?_
        clear hK K
        try simp only [Act.put, List.setIfInBounds_toArray, List.set_cons_zero, List.set_cons_succ]
        refine tail.till_one 7 (by kernel_rfl) rfl (fun K hK => ?_)
        refine step_append_run rfl rfl rfl rfl run2 ?_
        refine hK.out _ _ (fun _ => hS3) ?_
        clear hK K
        try simp only [Act.put, List.setIfInBounds_toArray, List.set_cons_zero, List.set_cons_succ]
        clear hSE hS2 hS2R run1 run2
        have hbw : Below V.heap.size V w3 := ⟨hb3.os, hb3.tape, hb3.output, hb3.size, hb3.block⟩
        have HR1 := Lib.hid (show RdF w3 (F3 w T) A1 p from HP3.out.below hbw (Nat.le_refl _))
        have HR2 := Lib.hid (show RdL w3 (F3 w T) A3 (L ++ [b]) from ⟨HLl ++ [.slice Ab m cb], by
            rw [List.length_append, ← HN2.out]
            exact ReadsF.of_own ho3 (fun b h1 _ => .inr (by have := HSV.out; have h7 : V.drew.heap.size = V.heap.size := rfl; omega)), fun i hi => by
            have hln : HLl.length = L.length := by have := HL1.out.1.1; rw [← HN2.out]; omega
            by_cases hil : i < L.length
            · obtain ⟨v, ev, hv⟩ := HL2.out i hil
              refine ⟨v, by rw [List.getElem?_append_left (by omega)]; exact ev, ?_⟩
              rw [List.getElem_append_left hil]
              exact hv.bel (BelF.of hbw (Nat.le_refl _))
            · have hie : i = L.length := by rw [List.length_append, List.length_singleton] at hi; omega
              subst hie
              refine ⟨.slice Ab m cb, by rw [List.getElem?_append_right (by omega), hln]; simp, ?_⟩
              rw [List.getElem_append_right (Nat.le_refl _)]
              exact ⟨Ab, cb, by simp [HM.out], by simpa using HV3.out.below hbw (Nat.le_refl _)⟩⟩)
        have HB3 := Lib.hid (show Below w.heap.size w w3 from HBV.out.trans (hbw.mono HBV.out.size))
        have x0 := keepc (W := V.drew) d0 hb3
        have x1 := keepc (W := V.drew) d1 hb3
        have x2 := keepc (W := V.drew) d2 hb3
        have y0 := keepc (W := V.drew) z0 hb3
        have y1 := keepc (W := V.drew) z1 hb3
        have y2 := keepc (W := V.drew) z2 hb3
        have xf : ∀ j, w3.frozen? ⟨w.heap.size, j, none⟩ = false := fun j => (hb3.frozen (show (Addr.mk w.heap.size j none).block < V.drew.heap.size by have := HSV.out; have h7 : V.drew.heap.size = V.heap.size := rfl; simp only; omega)).trans (df j)
        have yf : ∀ j, w3.frozen? ⟨w.heap.size + 1 + 1, j, none⟩ = false := fun j => (hb3.frozen (show (Addr.mk (w.heap.size + 1 + 1) j none).block < V.drew.heap.size by have := HSV.out; have h7 : V.drew.heap.size = V.heap.size := rfl; simp only; omega)).trans (zf j)
        have HN3 := Lib.hid (show n2 + 1 = (L ++ [b]).length by rw [List.length_append, ← HN2.out]; rfl)
        clear ho3 hb3 hbw d0 d1 d2 z0 z1 z2 a0 a1 a2 a3 df zf hcopy hh1 hone
        (refine tail.till_take 8 (v := ?_) rfl (by kernel_rfl) (by kernel_rfl) (by kernel_rfl) (by kernel_rfl) (by kernel_rfl) (fun _ _ _ h => h) (by rfl) (by assumption) ?_ ?_; rotate_left 1; (focus (intro X hX; obtain ⟨s1, s2⟩ := hX; go_simp; with_reducible rfl)); (try simp only [Act.put, List.setIfInBounds_toArray, List.set_cons_zero, List.set_cons_succ]))
        refine tail.till_one 9 (by kernel_rfl) rfl (fun K hK => ?_)
        go_simp
        refine hK.out _ _ (fun h => absurd rfl h) ?_
        clear hK K
        refine tail.till_done (by kernel_rfl) ?_ _
        go_wp2_with fail
        refine bodyPost_ret (v := .agg #[.slice A1 n1 c1, .slice A3 (n2 + 1) c3, .int .i64 sf]) ?_ rfl ?_
        · rw [results_cell_one rfl]; go_simp; first | done | rfl
        · rw [HDO.out]
          refine ⟨A1, n1, c1, A3, (n2 + 1), c3, rfl, HN1.out, HN3.out, ?_, ?_, ?_⟩
          · refine ReadsF.mono ?_ (F3_since w T)
            repeat (with_reducible refine setF ?_ (F3_not HF.out (by simp only; omega) (by simp only; omega)) _)
            exact HR1.out
          · refine RdL.mono ?_ (F3_since w T)
            repeat (with_reducible refine setL ?_ (F3_not HF.out (by simp only; omega) (by simp only; omega)) _)
            exact HR2.out
          · repeat (with_reducible refine Below.setCell ?_ (by simp only; omega) _)
            exact HB3.out
      · intro K hK
        obtain ⟨A4, c4, w2, A3, c3, w3, run1, run2, ho3, hb2, hb3⟩ := order_A2 V.drew hone hcopy hh1 hlen (cL := c2)
        have hbE : Below V.drew.heap.size V.drew (V.drew.alloc (.cells #[] 22)) := (Below.refl _ _).alloc (Nat.le_refl _) _
        have hbR : Below V.drew.heap.size V.drew (V.drew.alloc (.cells #[.slice Ab m cb] 22)) := (Below.refl _ _).alloc (Nat.le_refl _) _
        have hbER : Below V.drew.heap.size V.drew ((V.drew.alloc (.cells #[] 22)).alloc (.cells #[.slice Ab m cb] 22)) := hbE.alloc hbE.size _
        have hbS := hbER
        have hSER : (fun X : World => (X.cell? ⟨w.heap.size, 1, none⟩ = some (.slice A2 n2 c2) ∧ X.cell? ⟨w.heap.size + 1, 1, none⟩ = some (.slice Ab m cb))) ((V.drew.alloc (.cells #[] 22)).alloc (.cells #[.slice Ab m cb] 22)) := ⟨keepc (W := V.drew) d1 hbS, keepc (W := V.drew) a1 hbS⟩
        clear hbS
        have hbS := hb2
        have hS2 : (fun X : World => (X.cell? ⟨w.heap.size, 1, none⟩ = some (.slice A2 n2 c2) ∧ X.cell? ⟨w.heap.size + 1, 1, none⟩ = some (.slice Ab m cb))) w2 := ⟨keepc (W := V.drew) d1 hbS, keepc (W := V.drew) a1 hbS⟩
        clear hbS
        have hbS := hb3
        have hS3 : (fun X : World => (X.cell? ⟨w.heap.size, 1, none⟩ = some (.slice A2 n2 c2) ∧ X.cell? ⟨w.heap.size + 1, 1, none⟩ = some (.slice Ab m cb))) w3 := ⟨keepc (W := V.drew) d1 hbS, keepc (W := V.drew) a1 hbS⟩
        clear hbS
        clear hbER hb2 hbE hbR
        go_simp
        refine hK.out _ _ (fun _ => hSER) ?_
        clear hK K
        try simp only [Act.put, List.setIfInBounds_toArray, List.set_cons_zero, List.set_cons_succ]
        refine tail.till_one 3 (by kernel_rfl) rfl (fun K hK => ?_)
        refine step_append_run rfl rfl rfl rfl run1 ?_
        refine hK.out _ _ (fun _ => hS2) ?_
        clear hK K
        try simp only [Act.put, List.setIfInBounds_toArray, List.set_cons_zero, List.set_cons_succ]
        refine tail.till_one 7 (by kernel_rfl) rfl (fun K hK => ?_)
        refine step_append_run rfl rfl rfl rfl run2 ?_
        refine hK.out _ _ (fun _ => hS3) ?_
        clear hK K
        try simp only [Act.put, List.setIfInBounds_toArray, List.set_cons_zero, List.set_cons_succ]
        clear hSE hS2 hSER run1 run2
        have hbw : Below V.heap.size V w3 := ⟨hb3.os, hb3.tape, hb3.output, hb3.size, hb3.block⟩
        have HR1 := Lib.hid (show RdF w3 (F3 w T) A1 p from HP3.out.below hbw (Nat.le_refl _))
        have HR2 := Lib.hid (show RdL w3 (F3 w T) A3 (L ++ [b]) from ⟨HLl ++ [.slice Ab m cb], by
            rw [List.length_append, ← HN2.out]
            exact ReadsF.of_own ho3 (fun b h1 _ => .inr (by have := HSV.out; have h7 : V.drew.heap.size = V.heap.size := rfl; omega)), fun i hi => by
            have hln : HLl.length = L.length := by have := HL1.out.1.1; rw [← HN2.out]; omega
            by_cases hil : i < L.length
            · obtain ⟨v, ev, hv⟩ := HL2.out i hil
              refine ⟨v, by rw [List.getElem?_append_left (by omega)]; exact ev, ?_⟩
              rw [List.getElem_append_left hil]
              exact hv.bel (BelF.of hbw (Nat.le_refl _))
            · have hie : i = L.length := by rw [List.length_append, List.length_singleton] at hi; omega
              subst hie
              refine ⟨.slice Ab m cb, by rw [List.getElem?_append_right (by omega), hln]; simp, ?_⟩
              rw [List.getElem_append_right (Nat.le_refl _)]
              exact ⟨Ab, cb, by simp [HM.out], by simpa using HV3.out.below hbw (Nat.le_refl _)⟩⟩)
        have HB3 := Lib.hid (show Below w.heap.size w w3 from HBV.out.trans (hbw.mono HBV.out.size))
        have x0 := keepc (W := V.drew) d0 hb3
        have x1 := keepc (W := V.drew) d1 hb3
        have x2 := keepc (W := V.drew) d2 hb3
        have y0 := keepc (W := V.drew) z0 hb3
        have y1 := keepc (W := V.drew) z1 hb3
        have y2 := keepc (W := V.drew) z2 hb3
        have xf : ∀ j, w3.frozen? ⟨w.heap.size, j, none⟩ = false := fun j => (hb3.frozen (show (Addr.mk w.heap.size j none).block < V.drew.heap.size by have := HSV.out; have h7 : V.drew.heap.size = V.heap.size := rfl; simp only; omega)).trans (df j)
        have yf : ∀ j, w3.frozen? ⟨w.heap.size + 1 + 1, j, none⟩ = false := fun j => (hb3.frozen (show (Addr.mk (w.heap.size + 1 + 1) j none).block < V.drew.heap.size by have := HSV.out; have h7 : V.drew.heap.size = V.heap.size := rfl; simp only; omega)).trans (zf j)
        have HN3 := Lib.hid (show n2 + 1 = (L ++ [b]).length by rw [List.length_append, ← HN2.out]; rfl)
        clear ho3 hb3 hbw d0 d1 d2 z0 z1 z2 a0 a1 a2 a3 df zf hcopy hh1 hone
        (refine tail.till_take 8 (v := ?_) rfl (by kernel_rfl) (by kernel_rfl) (by kernel_rfl) (by kernel_rfl) (by kernel_rfl) (fun _ _ _ h => h) (by rfl) (by assumption) ?_ ?_; rotate_left 1; (focus (intro X hX; obtain ⟨s1, s2⟩ := hX; go_simp; with_reducible rfl)); (try simp only [Act.put, List.setIfInBounds_toArray, List.set_cons_zero, List.set_cons_succ]))
        refine tail.till_one 9 (by kernel_rfl) rfl (fun K hK => ?_)
        go_simp
        refine hK.out _ _ (fun h => absurd rfl h) ?_
        clear hK K
        refine tail.till_done (by kernel_rfl) ?_ _
        go_wp2_with fail
        refine bodyPost_ret (v := .agg #[.slice A1 n1 c1, .slice A3 (n2 + 1) c3, .int .i64 sf]) ?_ rfl ?_
        · rw [results_cell_one rfl]; go_simp; first | done | rfl
        · rw [HDO.out]
          refine ⟨A1, n1, c1, A3, (n2 + 1), c3, rfl, HN1.out, HN3.out, ?_, ?_, ?_⟩
          · refine ReadsF.mono ?_ (F3_since w T)
            repeat (with_reducible refine setF ?_ (F3_not HF.out (by simp only; omega) (by simp only; omega)) _)
            exact HR1.out
          · refine RdL.mono ?_ (F3_since w T)
            repeat (with_reducible refine setL ?_ (F3_not HF.out (by simp only; omega) (by simp only; omega)) _)
            exact HR2.out
          · repeat (with_reducible refine Below.setCell ?_ (by simp only; omega) _)
            exact HB3.out
    · intro K hK
      obtain ⟨A4, c4, w2, A3, c3, w3, run1, run2, ho3, hb2, hb3⟩ := order_B V.drew hone hcopy hh1 hlen (cL := c2)
      have hbE : Below V.drew.heap.size V.drew (V.drew.alloc (.cells #[] 22)) := (Below.refl _ _).alloc (Nat.le_refl _) _
      have hbR : Below V.drew.heap.size V.drew (V.drew.alloc (.cells #[.slice Ab m cb] 22)) := (Below.refl _ _).alloc (Nat.le_refl _) _
      have hbS := hbR
      have hSR : (fun X : World => (X.cell? ⟨w.heap.size, 1, none⟩ = some (.slice A2 n2 c2) ∧ X.cell? ⟨w.heap.size + 1, 1, none⟩ = some (.slice Ab m cb))) (V.drew.alloc (.cells #[.slice Ab m cb] 22)) := ⟨keepc (W := V.drew) d1 hbS, keepc (W := V.drew) a1 hbS⟩
      clear hbS
      have hbRE : Below V.drew.heap.size V.drew ((V.drew.alloc (.cells #[.slice Ab m cb] 22)).alloc (.cells #[] 22)) := hbR.alloc hbR.size _
      have hbS := hbRE
      have hSRE : (fun X : World => (X.cell? ⟨w.heap.size, 1, none⟩ = some (.slice A2 n2 c2) ∧ X.cell? ⟨w.heap.size + 1, 1, none⟩ = some (.slice Ab m cb))) ((V.drew.alloc (.cells #[.slice Ab m cb] 22)).alloc (.cells #[] 22)) := ⟨keepc (W := V.drew) d1 hbS, keepc (W := V.drew) a1 hbS⟩
      clear hbS
      have hbS := hb2
      have hS2 : (fun X : World => (X.cell? ⟨w.heap.size, 1, none⟩ = some (.slice A2 n2 c2) ∧ X.cell? ⟨w.heap.size + 1, 1, none⟩ = some (.slice Ab m cb))) w2 := ⟨keepc (W := V.drew) d1 hbS, keepc (W := V.drew) a1 hbS⟩
      clear hbS
      have hbS := hb3
      have hS3 : (fun X : World => (X.cell? ⟨w.heap.size, 1, none⟩ = some (.slice A2 n2 c2) ∧ X.cell? ⟨w.heap.size + 1, 1, none⟩ = some (.slice Ab m cb))) w3 := ⟨keepc (W := V.drew) d1 hbS, keepc (W := V.drew) a1 hbS⟩
      clear hbS
      clear hbRE hb2 hbE hbR
      go_simp
      refine hK.out _ _ (fun _ => hSR) ?_
      clear hK K
      try simp only [Act.put, List.setIfInBounds_toArray, List.set_cons_zero, List.set_cons_succ]
      refine tail.till_one 0 (by kernel_rfl) rfl (fun K hK => ?_)
      go_simp
      refine hK.out _ _ (fun _ => hSRE) ?_
      clear hK K
      try simp only [Act.put, List.setIfInBounds_toArray, List.set_cons_zero, List.set_cons_succ]
      refine tail.till_one 3 (by kernel_rfl) rfl (fun K hK => ?_)
      refine step_append_run rfl rfl rfl rfl run1 ?_
      refine hK.out _ _ (fun _ => hS2) ?_
      clear hK K
      try simp only [Act.put, List.setIfInBounds_toArray, List.set_cons_zero, List.set_cons_succ]
      refine tail.till_one 7 (by kernel_rfl) rfl (fun K hK => ?_)
      refine step_append_run rfl rfl rfl rfl run2 ?_
      refine hK.out _ _ (fun _ => hS3) ?_
      clear hK K
      try simp only [Act.put, List.setIfInBounds_toArray, List.set_cons_zero, List.set_cons_succ]
      clear hSR hS2 hSRE run1 run2
      have hbw : Below V.heap.size V w3 := ⟨hb3.os, hb3.tape, hb3.output, hb3.size, hb3.block⟩
      have HR1 := Lib.hid (show RdF w3 (F3 w T) A1 p from HP3.out.below hbw (Nat.le_refl _))
      have HR2 := Lib.hid (show RdL w3 (F3 w T) A3 (L ++ [b]) from ⟨HLl ++ [.slice Ab m cb], by
          rw [List.length_append, ← HN2.out]
          exact ReadsF.of_own ho3 (fun b h1 _ => .inr (by have := HSV.out; have h7 : V.drew.heap.size = V.heap.size := rfl; omega)), fun i hi => by
          have hln : HLl.length = L.length := by have := HL1.out.1.1; rw [← HN2.out]; omega
          by_cases hil : i < L.length
          · obtain ⟨v, ev, hv⟩ := HL2.out i hil
            refine ⟨v, by rw [List.getElem?_append_left (by omega)]; exact ev, ?_⟩
            rw [List.getElem_append_left hil]
            exact hv.bel (BelF.of hbw (Nat.le_refl _))
          · have hie : i = L.length := by rw [List.length_append, List.length_singleton] at hi; omega
            subst hie
            refine ⟨.slice Ab m cb, by rw [List.getElem?_append_right (by omega), hln]; simp, ?_⟩
            rw [List.getElem_append_right (Nat.le_refl _)]
            exact ⟨Ab, cb, by simp [HM.out], by simpa using HV3.out.below hbw (Nat.le_refl _)⟩⟩)
      have HB3 := Lib.hid (show Below w.heap.size w w3 from HBV.out.trans (hbw.mono HBV.out.size))
      have x0 := keepc (W := V.drew) d0 hb3
      have x1 := keepc (W := V.drew) d1 hb3
      have x2 := keepc (W := V.drew) d2 hb3
      have y0 := keepc (W := V.drew) z0 hb3
      have y1 := keepc (W := V.drew) z1 hb3
      have y2 := keepc (W := V.drew) z2 hb3
      have xf : ∀ j, w3.frozen? ⟨w.heap.size, j, none⟩ = false := fun j => (hb3.frozen (show (Addr.mk w.heap.size j none).block < V.drew.heap.size by have := HSV.out; have h7 : V.drew.heap.size = V.heap.size := rfl; simp only; omega)).trans (df j)
      have yf : ∀ j, w3.frozen? ⟨w.heap.size + 1 + 1, j, none⟩ = false := fun j => (hb3.frozen (show (Addr.mk (w.heap.size + 1 + 1) j none).block < V.drew.heap.size by have := HSV.out; have h7 : V.drew.heap.size = V.heap.size := rfl; simp only; omega)).trans (zf j)
      have HN3 := Lib.hid (show n2 + 1 = (L ++ [b]).length by rw [List.length_append, ← HN2.out]; rfl)
      clear ho3 hb3 hbw d0 d1 d2 z0 z1 z2 a0 a1 a2 a3 df zf hcopy hh1 hone
      (refine tail.till_take 8 (v := ?_) rfl (by kernel_rfl) (by kernel_rfl) (by kernel_rfl) (by kernel_rfl) (by kernel_rfl) (fun _ _ _ h => h) (by rfl) (by assumption) ?_ ?_; rotate_left 1; (focus (intro X hX; obtain ⟨s1, s2⟩ := hX; go_simp; with_reducible rfl)); (try simp only [Act.put, List.setIfInBounds_toArray, List.set_cons_zero, List.set_cons_succ]))
      refine tail.till_one 9 (by kernel_rfl) rfl (fun K hK => ?_)
      go_simp
      refine hK.out _ _ (fun h => absurd rfl h) ?_
      clear hK K
      refine tail.till_done (by kernel_rfl) ?_ _
      go_wp2_with fail
      refine bodyPost_ret (v := .agg #[.slice A1 n1 c1, .slice A3 (n2 + 1) c3, .int .i64 sf]) ?_ rfl ?_
      · rw [results_cell_one rfl]; go_simp; first | done | rfl
      · rw [HDO.out]
        refine ⟨A1, n1, c1, A3, (n2 + 1), c3, rfl, HN1.out, HN3.out, ?_, ?_, ?_⟩
        · refine ReadsF.mono ?_ (F3_since w T)
          repeat (with_reducible refine setF ?_ (F3_not HF.out (by simp only; omega) (by simp only; omega)) _)
          exact HR1.out
        · refine RdL.mono ?_ (F3_since w T)
          repeat (with_reducible refine setL ?_ (F3_not HF.out (by simp only; omega) (by simp only; omega)) _)
          exact HR2.out
        · repeat (with_reducible refine Below.setCell ?_ (by simp only; omega) _)
          exact HB3.out
end Go.Proofs.Ytjipjfionelpkaa.wl

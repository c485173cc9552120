/- What net's Take and Drop answer. -/
import Derived.Test.YtnmamfgebbcehaaNet8
namespace Go.Proofs.Ytnmamfgebbcehaa.pk
open Go.RowKit Go.Proofs.Ytnmamfgebbcehaa.lib Go.Proofs.Ytnmamfgebbcehaa.byt

theorem results_cell_cell_tmp {fn : Func} {p q u : Tmp} {ty ty2 : TypeId} (h : fn.results = #[.cell p ty, .cell q ty2, .tmp u]) (tmps : Array Value) (P : Program) (w : World) :
    (results fn tmps).run P w = ((asAddr (tmps.getD p undef)).run P w).andThen fun a w₁ => ((loadVar ty a).run P w₁).andThen fun v w₂ => ((asAddr (tmps.getD q undef)).run P w₂).andThen fun a2 w₃ => ((loadVar ty2 a2).run P w₃).andThen fun v2 w₄ => .ok (.tuple #[v, v2, tmps.getD u undef]) w₄ := by
  simp only [results, h]
  simp [Sem.run_bind, Result.andThen]
def tkP (P : List Pk) (i : Nat) : Pk := P.getD (i % P.length) (0, 0, [])
def tkL (P : List Pk) (i : Nat) : List Pk := P.eraseIdx (i % P.length)
theorem ElemB.loose {w : World} {B : Nat} {A : Option Addr} {v : Value} {r : List UInt8} (h : ElemB w B A v r) : ElemB w B none v r := by
  obtain ⟨Ai, ci, e, hr, ha⟩ := h
  exact ⟨Ai, ci, e, hr, fun ad ea => ⟨(ha ad ea).1, (ha ad ea).2.1, by simp, (ha ad ea).2.2.2⟩⟩
theorem ElemB.nil (w : World) (B : Nat) (A : Option Addr) : ElemB w B A (.slice none 0 0) [] := ⟨none, 0, rfl, ⟨rfl, fun h => absurd h (by simp)⟩, fun ad e => by cases e⟩

theorem heap3 (w : World) (a b c : Obj) : (((w.alloc a).alloc b).alloc c).heap[w.heap.size]? = some a ∧ (((w.alloc a).alloc b).alloc c).heap[w.heap.size + 1]? = some b ∧ (((w.alloc a).alloc b).alloc c).heap[w.heap.size + 2]? = some c := by
  have h1 : (w.alloc a).heap.size = w.heap.size + 1 := by simp
  have h2 : ((w.alloc a).alloc b).heap.size = w.heap.size + 2 := by simp
  have e1 := heap_alloc_new w a
  have e2 := heap_alloc_new (w.alloc a) b
  have e3 := heap_alloc_new ((w.alloc a).alloc b) c
  rw [h1] at e2
  rw [h2] at e3
  refine ⟨?_, ?_, e3⟩
  · rw [Below.heap_alloc _ _ _ (by omega), Below.heap_alloc _ _ _ (by omega), e1]
  · rw [Below.heap_alloc _ _ _ (by omega), e2]
theorem low3 {w : World} {a b c : Obj} : Below w.heap.size w (((w.alloc a).alloc b).alloc c) :=
  (((Below.refl _ _).alloc (Nat.le_refl _) _).alloc (by rw [World.size_alloc]; omega) _).alloc (by rw [World.size_alloc, World.size_alloc]; omega) _
theorem OwnP.drew {w : World} {B : Nat} {A : Option Addr} {c : Nat} {P : List Pk} (h : OwnP w B A c P) : OwnP w.drew B A c P := h
theorem ElemB.drew {w : World} {B : Nat} {A : Option Addr} {v : Value} {r : List UInt8} (h : ElemB w B A v r) : ElemB w.drew B A v r := h
theorem below_drew {B : Nat} {a w : World} (h : Below B a w) : Below B a w.drew := below_drewN h 1
set_option maxHeartbeats 4000000 in
theorem take_none (w : World) {B : Nat} {A : Option Addr} {n c : Nat} {P : List Pk} (next : Int) (i : Nat) (hn : n = P.length) (hr : RdP w B A P) (hB : B ≤ w.heap.size) (hP : ShortP P) (h0 : n = 0) :
    Calls Try.prog 11 #[.agg #[.int .i64 next, .slice A n c], .int .i64 i] w fun e w' => ∃ A' c', e = .returned (.tuple #[.agg #[.int .i64 0, .int .i64 0, .slice none 0 0], .agg #[.int .i64 next, .slice A' 0 c'], .bool false]) ∧ OwnP w' w.heap.size A' c' [] ∧ Below w.heap.size w w' := by
  have HP := Lib.hid hP
  have hP0 : P = [] := List.eq_nil_of_length_eq_zero (by omega)
  subst hP0
  have HN := Lib.hid hn
  have hszA : (((w.alloc (.cells #[.int .i64 next, .slice A n c] 24)).alloc (.cells #[.int .i64 0, .int .i64 0, .slice none 0 0] 29)).alloc (.cells #[.int .i64 0, .slice none 0 0] 24)).heap.size = w.heap.size + 3 := by simp
  have H0 := heap3 w (.cells #[.int .i64 next, .slice A n c] 24) (.cells #[.int .i64 0, .int .i64 0, .slice none 0 0] 29) (.cells #[.int .i64 0, .slice none 0 0] 24)
  have hbA : Below w.heap.size w (((w.alloc (.cells #[.int .i64 next, .slice A n c] 24)).alloc (.cells #[.int .i64 0, .int .i64 0, .slice none 0 0] 29)).alloc (.cells #[.int .i64 0, .slice none 0 0] 24)) := low3
  have x1 : (((w.alloc (.cells #[.int .i64 next, .slice A n c] 24)).alloc (.cells #[.int .i64 0, .int .i64 0, .slice none 0 0] 29)).alloc (.cells #[.int .i64 0, .slice none 0 0] 24)).cell? ⟨w.heap.size, 0, none⟩ = some (.int .i64 next) := by rw [cell_of_row _ _ _ _ _ (0, 0) H0.1]; rfl
  have x2 : (((w.alloc (.cells #[.int .i64 next, .slice A n c] 24)).alloc (.cells #[.int .i64 0, .int .i64 0, .slice none 0 0] 29)).alloc (.cells #[.int .i64 0, .slice none 0 0] 24)).cell? ⟨w.heap.size, 1, none⟩ = some (.slice A n c) := by rw [cell_of_row _ _ _ _ _ (0, 0) H0.1]; rfl
  have x3 : (((w.alloc (.cells #[.int .i64 next, .slice A n c] 24)).alloc (.cells #[.int .i64 0, .int .i64 0, .slice none 0 0] 29)).alloc (.cells #[.int .i64 0, .slice none 0 0] 24)).cell? ⟨w.heap.size + 1, 0, none⟩ = some (.int .i64 0) := by rw [cell_of_row _ _ _ _ _ (0, 0) H0.2.1]; rfl
  have x4 : (((w.alloc (.cells #[.int .i64 next, .slice A n c] 24)).alloc (.cells #[.int .i64 0, .int .i64 0, .slice none 0 0] 29)).alloc (.cells #[.int .i64 0, .slice none 0 0] 24)).cell? ⟨w.heap.size + 1, 1, none⟩ = some (.int .i64 0) := by rw [cell_of_row _ _ _ _ _ (0, 0) H0.2.1]; rfl
  have x5 : (((w.alloc (.cells #[.int .i64 next, .slice A n c] 24)).alloc (.cells #[.int .i64 0, .int .i64 0, .slice none 0 0] 29)).alloc (.cells #[.int .i64 0, .slice none 0 0] 24)).cell? ⟨w.heap.size + 1, 2, none⟩ = some (.slice none 0 0) := by rw [cell_of_row _ _ _ _ _ (0, 0) H0.2.1]; rfl
  have x6 : (((w.alloc (.cells #[.int .i64 next, .slice A n c] 24)).alloc (.cells #[.int .i64 0, .int .i64 0, .slice none 0 0] 29)).alloc (.cells #[.int .i64 0, .slice none 0 0] 24)).cell? ⟨w.heap.size + 2, 0, none⟩ = some (.int .i64 0) := by rw [cell_of_row _ _ _ _ _ (0, 0) H0.2.2]; rfl
  have x7 : (((w.alloc (.cells #[.int .i64 next, .slice A n c] 24)).alloc (.cells #[.int .i64 0, .int .i64 0, .slice none 0 0] 29)).alloc (.cells #[.int .i64 0, .slice none 0 0] 24)).cell? ⟨w.heap.size + 2, 1, none⟩ = some (.slice none 0 0) := by rw [cell_of_row _ _ _ _ _ (0, 0) H0.2.2]; rfl
  have f1 : ∀ j, (((w.alloc (.cells #[.int .i64 next, .slice A n c] 24)).alloc (.cells #[.int .i64 0, .int .i64 0, .slice none 0 0] 29)).alloc (.cells #[.int .i64 0, .slice none 0 0] 24)).frozen? ⟨w.heap.size + 1, j, none⟩ = false := fun j => frozen_of_row _ _ j _ _ H0.2.1
  have f2 : ∀ j, (((w.alloc (.cells #[.int .i64 next, .slice A n c] 24)).alloc (.cells #[.int .i64 0, .int .i64 0, .slice none 0 0] 29)).alloc (.cells #[.int .i64 0, .slice none 0 0] 24)).frozen? ⟨w.heap.size + 2, j, none⟩ = false := fun j => frozen_of_row _ _ j _ _ H0.2.2
  clear hn hP H0
  subst h0
  go_enter Try.func11, Try.ntmps11
  go_wp2_with fail
  generalize (((w.alloc (.cells #[.int .i64 next, .slice A 0 c] 24)).alloc (.cells #[.int .i64 0, .int .i64 0, .slice none 0 0] 29)).alloc (.cells #[.int .i64 0, .slice none 0 0] 24)) = V at hbA hszA x1 x2 x3 x4 x5 x6 x7 f1 f2 ⊢
  refine (own_any V next HN.out (hr.below (hbA.mono hB)) (Nat.le_trans hB hbA.size) HP.out.1 HP.out.2).mono ?_
  rintro e w1 ⟨A1, c1, rfl, ho1, hb1⟩
  have y3 := keepc x3 hb1
  have y4 := keepc x4 hb1
  have y5 := keepc x5 hb1
  have y6 := keepc x6 hb1
  have y7 := keepc x7 hb1
  have g1 : ∀ j, w1.frozen? ⟨w.heap.size + 1, j, none⟩ = false := fun j => by rw [hb1.frozen (by simp; omega)]; exact f1 j
  have g2 : ∀ j, w1.frozen? ⟨w.heap.size + 2, j, none⟩ = false := fun j => by rw [hb1.frozen (by simp; omega)]; exact f2 j
  have HO := Lib.hid ho1
  have hbf : Below w.heap.size w w1 := hbA.trans (hb1.mono hbA.size)
  have HV := Lib.hid hszA
  clear ho1 hb1 x1 x2 x3 x4 x5 x6 x7 f1 f2 hszA
  go_wp2_with fail
  refine bodyPost_ret (v := .tuple #[.agg #[.int .i64 0, .int .i64 0, .slice none 0 0], .agg #[.int .i64 next, .slice A1 0 c1], .bool false]) ?_ rfl ⟨A1, c1, rfl, ?_, ?_⟩
  · rw [results_cell_cell_tmp rfl]
    go_simp
    first | done | rfl
  · have hv := HV.out
    refine OwnP.base (B := V.heap.size) ?_ (by omega)
    repeat (refine OwnP.low ?_ (by simp only; omega) _)
    exact HO.out
  · repeat (refine Below.setCell ?_ (by simp only; omega) _)
    exact hbf

set_option maxHeartbeats 8000000 in
theorem take_some (w : World) {B : Nat} {A : Option Addr} {n c : Nat} {P : List Pk} (next : Int) (i : Nat) (hn : n = P.length) (hr : RdP w B A P) (hB : B ≤ w.heap.size) (hP : ShortP P) (h0 : 0 < n) :
    Calls Try.prog 11 #[.agg #[.int .i64 next, .slice A n c], .int .i64 i] w fun e w' => ∃ A' c' Ab m cb, e = .returned (.tuple #[.agg #[.int .i64 (tkP P i).1, .int .i64 (tkP P i).2.1, .slice Ab m cb], .agg #[.int .i64 next, .slice A' (n - 1) c'], .bool true]) ∧ m = (tkP P i).2.2.length ∧ ElemB w' w.heap.size none (.slice Ab m cb) (tkP P i).2.2 ∧ OwnP w' w.heap.size A' c' (tkL P i) ∧ Below w.heap.size w w' := by
  have HP := Lib.hid hP
  have HN := Lib.hid hn
  obtain ⟨q, hq⟩ : ∃ q, q = i % n := ⟨_, rfl⟩
  have hqn : q < n := by rw [hq]; exact Nat.mod_lt _ h0
  have hql : q < P.length := by omega
  obtain ⟨p1, p2, bs, hp⟩ : ∃ a b d, P[q] = (a, b, d) := ⟨_, _, _, rfl⟩
  have hT : tkP P i = (p1, p2, bs) := by
    unfold tkP
    rw [← hn, ← hq, List.getD_eq_getElem?_getD, List.getElem?_eq_getElem hql, hp]
    rfl
  have hL : tkL P i = P.eraseIdx q := by
    unfold tkL
    rw [← hn, ← hq]
  rw [hT, hL]
  simp only
  obtain ⟨m, hm⟩ : ∃ m, m = bs.length := ⟨_, rfl⟩
  have hszA : (((w.alloc (.cells #[.int .i64 next, .slice A n c] 24)).alloc (.cells #[.int .i64 0, .int .i64 0, .slice none 0 0] 29)).alloc (.cells #[.int .i64 0, .slice none 0 0] 24)).heap.size = w.heap.size + 3 := by simp
  have H0 := heap3 w (.cells #[.int .i64 next, .slice A n c] 24) (.cells #[.int .i64 0, .int .i64 0, .slice none 0 0] 29) (.cells #[.int .i64 0, .slice none 0 0] 24)
  have hbA : Below w.heap.size w (((w.alloc (.cells #[.int .i64 next, .slice A n c] 24)).alloc (.cells #[.int .i64 0, .int .i64 0, .slice none 0 0] 29)).alloc (.cells #[.int .i64 0, .slice none 0 0] 24)) := low3
  have x1 : (((w.alloc (.cells #[.int .i64 next, .slice A n c] 24)).alloc (.cells #[.int .i64 0, .int .i64 0, .slice none 0 0] 29)).alloc (.cells #[.int .i64 0, .slice none 0 0] 24)).cell? ⟨w.heap.size, 0, none⟩ = some (.int .i64 next) := by rw [cell_of_row _ _ _ _ _ (0, 0) H0.1]; rfl
  have x2 : (((w.alloc (.cells #[.int .i64 next, .slice A n c] 24)).alloc (.cells #[.int .i64 0, .int .i64 0, .slice none 0 0] 29)).alloc (.cells #[.int .i64 0, .slice none 0 0] 24)).cell? ⟨w.heap.size, 1, none⟩ = some (.slice A n c) := by rw [cell_of_row _ _ _ _ _ (0, 0) H0.1]; rfl
  have x3 : (((w.alloc (.cells #[.int .i64 next, .slice A n c] 24)).alloc (.cells #[.int .i64 0, .int .i64 0, .slice none 0 0] 29)).alloc (.cells #[.int .i64 0, .slice none 0 0] 24)).cell? ⟨w.heap.size + 1, 0, none⟩ = some (.int .i64 0) := by rw [cell_of_row _ _ _ _ _ (0, 0) H0.2.1]; rfl
  have x4 : (((w.alloc (.cells #[.int .i64 next, .slice A n c] 24)).alloc (.cells #[.int .i64 0, .int .i64 0, .slice none 0 0] 29)).alloc (.cells #[.int .i64 0, .slice none 0 0] 24)).cell? ⟨w.heap.size + 1, 1, none⟩ = some (.int .i64 0) := by rw [cell_of_row _ _ _ _ _ (0, 0) H0.2.1]; rfl
  have x5 : (((w.alloc (.cells #[.int .i64 next, .slice A n c] 24)).alloc (.cells #[.int .i64 0, .int .i64 0, .slice none 0 0] 29)).alloc (.cells #[.int .i64 0, .slice none 0 0] 24)).cell? ⟨w.heap.size + 1, 2, none⟩ = some (.slice none 0 0) := by rw [cell_of_row _ _ _ _ _ (0, 0) H0.2.1]; rfl
  have x6 : (((w.alloc (.cells #[.int .i64 next, .slice A n c] 24)).alloc (.cells #[.int .i64 0, .int .i64 0, .slice none 0 0] 29)).alloc (.cells #[.int .i64 0, .slice none 0 0] 24)).cell? ⟨w.heap.size + 2, 0, none⟩ = some (.int .i64 0) := by rw [cell_of_row _ _ _ _ _ (0, 0) H0.2.2]; rfl
  have x7 : (((w.alloc (.cells #[.int .i64 next, .slice A n c] 24)).alloc (.cells #[.int .i64 0, .int .i64 0, .slice none 0 0] 29)).alloc (.cells #[.int .i64 0, .slice none 0 0] 24)).cell? ⟨w.heap.size + 2, 1, none⟩ = some (.slice none 0 0) := by rw [cell_of_row _ _ _ _ _ (0, 0) H0.2.2]; rfl
  have f1 : ∀ j, (((w.alloc (.cells #[.int .i64 next, .slice A n c] 24)).alloc (.cells #[.int .i64 0, .int .i64 0, .slice none 0 0] 29)).alloc (.cells #[.int .i64 0, .slice none 0 0] 24)).frozen? ⟨w.heap.size + 1, j, none⟩ = false := fun j => frozen_of_row _ _ j _ _ H0.2.1
  have f2 : ∀ j, (((w.alloc (.cells #[.int .i64 next, .slice A n c] 24)).alloc (.cells #[.int .i64 0, .int .i64 0, .slice none 0 0] 29)).alloc (.cells #[.int .i64 0, .slice none 0 0] 24)).frozen? ⟨w.heap.size + 2, j, none⟩ = false := fun j => frozen_of_row _ _ j _ _ H0.2.2
  have hnl : n ≤ 1099511627770 := by rw [hn]; exact hP.1
  have q0 : ((n : Int) == 0) = false := by simp only [beq_eq_false_iff_ne, ne_eq]; omega
  have q1 : ¬ (n : Int) = 0 := by omega
  have q2 : (0 : Int) ≤ q := by omega
  have q3 : (q : Int) < n := by omega
  have q5 : (q : Int) < 1099511627770 := by omega
  have HM := Lib.hid hm
  have HPQ := Lib.hid hp
  have HQ := Lib.hid hq
  clear hn hP hm hq hT hL hp H0
  go_enter Try.func11, Try.ntmps11
  go_wp2_with fail
  generalize (((w.alloc (.cells #[.int .i64 next, .slice A n c] 24)).alloc (.cells #[.int .i64 0, .int .i64 0, .slice none 0 0] 29)).alloc (.cells #[.int .i64 0, .slice none 0 0] 24)) = V at hbA hszA x1 x2 x3 x4 x5 x6 x7 f1 f2 ⊢
  refine (place_any V next A n c i h0).mono ?_
  rintro e w1 ⟨rfl, hb1⟩
  rw [← HQ.out]
  replace x1 := keepc x1 hb1
  replace x2 := keepc x2 hb1
  replace x3 := keepc x3 hb1
  replace x4 := keepc x4 hb1
  replace x5 := keepc x5 hb1
  replace x6 := keepc x6 hb1
  replace x7 := keepc x7 hb1
  replace f1 : ∀ j, w1.frozen? ⟨w.heap.size + 1, j, none⟩ = false := fun j => by rw [hb1.frozen (by simp; omega)]; exact f1 j
  replace f2 : ∀ j, w1.frozen? ⟨w.heap.size + 2, j, none⟩ = false := fun j => by rw [hb1.frozen (by simp; omega)]; exact f2 j
  have hs1 : w.heap.size + 3 ≤ w1.heap.size := by have := hb1.size; omega
  have hbw1 : Below w.heap.size w w1 := hbA.trans (hb1.mono hbA.size)
  clear hb1 hbA hszA
  go_wp2_with fail
  refine (own_any w1 next HN.out (hr.below (hbw1.mono hB)) (Nat.le_trans hB hbw1.size) HP.out.1 HP.out.2).mono ?_
  rintro e w2 ⟨A1, c1, rfl, ho2, hb2⟩
  have hbq : Below w2.heap.size w2 (w2.alloc (.cells #[.int .i64 next, .slice A1 n c1] 24)) := (Below.refl _ _).alloc (Nat.le_refl _) _
  have HO := Lib.hid ((ho2.away (x := w2.heap.size) (Nat.le_refl _)).below hbq (Nat.le_refl _))
  have hb12 : Below w1.heap.size w1 (w2.alloc (.cells #[.int .i64 next, .slice A1 n c1] 24)) := hb2.alloc hb2.size _
  have hs2 : w1.heap.size ≤ w2.heap.size := hb2.size
  have hsU : (w2.alloc (.cells #[.int .i64 next, .slice A1 n c1] 24)).heap.size = w2.heap.size + 1 := by simp
  replace x3 := keepc x3 hb12
  replace x4 := keepc x4 hb12
  replace x5 := keepc x5 hb12
  replace x6 := keepc x6 hb12
  replace x7 := keepc x7 hb12
  replace f1 : ∀ j, (w2.alloc (.cells #[.int .i64 next, .slice A1 n c1] 24)).frozen? ⟨w.heap.size + 1, j, none⟩ = false := fun j => by rw [hb12.frozen (by simp only; omega)]; exact f1 j
  replace f2 : ∀ j, (w2.alloc (.cells #[.int .i64 next, .slice A1 n c1] 24)).frozen? ⟨w.heap.size + 2, j, none⟩ = false := fun j => by rw [hb12.frozen (by simp only; omega)]; exact f2 j
  have z1 : (w2.alloc (.cells #[.int .i64 next, .slice A1 n c1] 24)).cell? ⟨w2.heap.size, 0, none⟩ = some (.int .i64 next) := by simp
  have z2 : (w2.alloc (.cells #[.int .i64 next, .slice A1 n c1] 24)).cell? ⟨w2.heap.size, 1, none⟩ = some (.slice A1 n c1) := by simp
  have z3 : ∀ j, (w2.alloc (.cells #[.int .i64 next, .slice A1 n c1] 24)).frozen? ⟨w2.heap.size, j, none⟩ = false := fun j => by simp
  clear hbq hb2 x1 x2 ho2
  have hbwU : Below w.heap.size w (w2.alloc (.cells #[.int .i64 next, .slice A1 n c1] 24)) := hbw1.trans (hb12.mono hbw1.size)
  obtain ⟨g, Ab, cb, eA, hg1, hg2, hgx, r1, r2, r3, he, hex⟩ := HO.out.row hql
  subst eA
  rw [HPQ.out] at r1 r2 r3 he hex
  simp only at r1 r2 r3 he hex
  rw [← HM.out] at r3 he hex
  have HE := Lib.hid he
  have HEX := Lib.hid hex
  clear he hex
  go_wp2_with fail
  generalize hU : w2.alloc (.cells #[.int .i64 next, .slice (some ⟨g, 0, none⟩) n c1] 24) = U at hb12 x3 x4 x5 x6 x7 f1 f2 z1 z2 z3 hbwU r1 r2 r3 HO HE hsU hg2 ⊢
  have hbT : Below U.heap.size U (U.alloc (.cells #[.int .i64 p1, .int .i64 p2, .slice Ab m cb] 29)) := (Below.refl _ _).alloc (Nat.le_refl _) _
  have hTc := heap_alloc_new U (.cells #[.int .i64 p1, .int .i64 p2, .slice Ab m cb] 29)
  have hsT : (U.alloc (.cells #[.int .i64 p1, .int .i64 p2, .slice Ab m cb] 29)).heap.size = w2.heap.size + 2 := by rw [World.size_alloc]; omega
  replace x3 := keepc x3 hbT
  replace x4 := keepc x4 hbT
  replace x5 := keepc x5 hbT
  replace x6 := keepc x6 hbT
  replace x7 := keepc x7 hbT
  replace z1 := keepc z1 hbT
  replace z2 := keepc z2 hbT
  replace z3 : ∀ j, (U.alloc (.cells #[.int .i64 p1, .int .i64 p2, .slice Ab m cb] 29)).frozen? ⟨w2.heap.size, j, none⟩ = false := fun j => by rw [hbT.frozen (by simp only; omega)]; exact z3 j
  replace f1 : ∀ j, (U.alloc (.cells #[.int .i64 p1, .int .i64 p2, .slice Ab m cb] 29)).frozen? ⟨w.heap.size + 1, j, none⟩ = false := fun j => by rw [hbT.frozen (by simp only; omega)]; exact f1 j
  replace f2 : ∀ j, (U.alloc (.cells #[.int .i64 p1, .int .i64 p2, .slice Ab m cb] 29)).frozen? ⟨w.heap.size + 2, j, none⟩ = false := fun j => by rw [hbT.frozen (by simp only; omega)]; exact f2 j
  rw [hsU] at hTc
  have HOT := Lib.hid (HO.out.below hbT (Nat.le_refl _))
  have HET := Lib.hid (HE.out.below hbT (Nat.le_refl _))
  have hbwT : Below w.heap.size w (U.alloc (.cells #[.int .i64 p1, .int .i64 p2, .slice Ab m cb] 29)) := hbwU.trans (hbT.mono hbwU.size)
  have hg3 : g < w2.heap.size + 1 := by omega
  clear hU HO HE hbT hbwU r1 r2 r3 hb12 hsU hg2
  generalize U.alloc (.cells #[.int .i64 p1, .int .i64 p2, .slice Ab m cb] 29) = T at x3 x4 x5 x6 x7 z1 z2 z3 f1 f2 hTc HOT HET hbwT hsT ⊢
  refine (deleteP_any T HN.out HOT.out hqn).mono ?_
  rintro e w3 ⟨rfl, ho3, hon⟩
  have n1 : w.heap.size + 1 ≠ g := by omega
  have n2 : w.heap.size + 2 ≠ g := by omega
  have n3 : w2.heap.size ≠ g := fun e => hgx e.symm
  have n4 : w2.heap.size + 1 ≠ g := by omega
  have mv : ∀ (b j : Nat) (v : Value), b ≠ g → T.cell? ⟨b, j, none⟩ = some v → w3.cell? ⟨b, j, none⟩ = some v := fun b j v h e => (hon.cell (p := ⟨b, j, none⟩) h).trans e
  have mvs : ∀ (b j : Nat) (v u : Value) (k : Nat), (b ≠ w2.heap.size ∨ j ≠ k) → w3.cell? ⟨b, j, none⟩ = some v → (w3.setCell ⟨w2.heap.size, k, none⟩ u).cell? ⟨b, j, none⟩ = some v := fun b j v u k h e => (World.cell?_setCell_other w3 _ _ _ (fun e => by injection e; omega)).trans e
  have mf : ∀ (b j : Nat) (u : Value) (k : Nat), b ≠ g → T.frozen? ⟨b, j, none⟩ = false → (w3.setCell ⟨w2.heap.size, k, none⟩ u).frozen? ⟨b, j, none⟩ = false := fun b j u k h e => by
    have : w3.frozen? ⟨b, j, none⟩ = false := (hon.frozen (p := ⟨b, j, none⟩) h).trans e
    simpa using this
  have c3 := mvs _ _ _ (.slice (some ⟨g, 0, none⟩) (n - 1) c1) 1 (by omega) (mv _ _ _ n1 x3)
  have c4 := mvs _ _ _ (.slice (some ⟨g, 0, none⟩) (n - 1) c1) 1 (by omega) (mv _ _ _ n1 x4)
  have c5 := mvs _ _ _ (.slice (some ⟨g, 0, none⟩) (n - 1) c1) 1 (by omega) (mv _ _ _ n1 x5)
  have c6 := mvs _ _ _ (.slice (some ⟨g, 0, none⟩) (n - 1) c1) 1 (by omega) (mv _ _ _ n2 x6)
  have c7 := mvs _ _ _ (.slice (some ⟨g, 0, none⟩) (n - 1) c1) 1 (by omega) (mv _ _ _ n2 x7)
  have d1 := mvs _ _ _ (.slice (some ⟨g, 0, none⟩) (n - 1) c1) 1 (by omega) (mv _ _ _ n3 z1)
  have d2 := World.cell?_setCell_same w3 _ (.slice (some ⟨g, 0, none⟩) (n - 1) c1) (mv _ _ _ n3 z2)
  have d3 := mvs _ _ _ (.slice (some ⟨g, 0, none⟩) (n - 1) c1) 1 (by omega) (mv (w2.heap.size + 1) 0 _ n4 (by rw [cell_of_row _ _ _ _ _ (0, 0) hTc]; rfl))
  have d4 := mvs _ _ _ (.slice (some ⟨g, 0, none⟩) (n - 1) c1) 1 (by omega) (mv (w2.heap.size + 1) 1 _ n4 (by rw [cell_of_row _ _ _ _ _ (0, 0) hTc]; rfl))
  have d5 := mvs _ _ _ (.slice (some ⟨g, 0, none⟩) (n - 1) c1) 1 (by omega) (mv (w2.heap.size + 1) 2 _ n4 (by rw [cell_of_row _ _ _ _ _ (0, 0) hTc]; rfl))
  have e1 : ∀ j, (w3.setCell ⟨w2.heap.size, 1, none⟩ (.slice (some ⟨g, 0, none⟩) (n - 1) c1)).frozen? ⟨w.heap.size + 1, j, none⟩ = false := fun j => mf _ _ _ _ n1 (f1 j)
  have e2 : ∀ j, (w3.setCell ⟨w2.heap.size, 1, none⟩ (.slice (some ⟨g, 0, none⟩) (n - 1) c1)).frozen? ⟨w.heap.size + 2, j, none⟩ = false := fun j => mf _ _ _ _ n2 (f2 j)
  have hz2 := mv _ _ _ n3 z2
  have hz3 : w3.frozen? ⟨w2.heap.size, 1, none⟩ = false := (hon.frozen (p := ⟨w2.heap.size, 1, none⟩) n3).trans (z3 1)
  have hw3 : w3.heap.size = w2.heap.size + 2 := by rw [hon.size]; exact hsT
  have HF := Lib.hid (ho3.store (p := ⟨w2.heap.size, 1, none⟩) rfl (.slice (some ⟨g, 0, none⟩) (n - 1) c1))
  have HG := Lib.hid ((HET.out.only rfl hon).other (p := ⟨w2.heap.size, 1, none⟩) HEX.out (.slice (some ⟨g, 0, none⟩) (n - 1) c1))
  have hbf : Below w.heap.size w (w3.setCell ⟨w2.heap.size, 1, none⟩ (.slice (some ⟨g, 0, none⟩) (n - 1) c1)) := (hbwT.trans (hon.below (by omega))).setCell (by simp only; omega) _
  clear mv mvs mf x3 x4 x5 x6 x7 z1 z2 z3 f1 f2 hTc HOT HET HEX hbwT hsT ho3 hon n1 n2 n3 n4 hgx hw3
  go_wp2_with fail
  generalize w3.setCell ⟨w2.heap.size, 1, none⟩ (.slice (some ⟨g, 0, none⟩) (n - 1) c1) = W at c3 c4 c5 c6 c7 d1 d2 d3 d4 d5 e1 e2 HF HG hbf ⊢
  clear hz2 hz3 hg3 hg1
  go_region
  go_wp2_with fail
  refine bodyPost_ret (v := .tuple #[.agg #[.int .i64 p1, .int .i64 p2, .slice Ab m cb], .agg #[.int .i64 next, .slice (some ⟨g, 0, none⟩) (n - 1) c1], .bool true]) ?_ rfl ⟨some ⟨g, 0, none⟩, c1, Ab, m, cb, rfl, HM.out, ?_, ?_, ?_⟩
  · rw [results_cell_cell_tmp rfl]
    go_simp
    first | done | rfl
  · refine ElemB.base (B := w1.heap.size) ?_ (by omega)
    refine ElemB.drew ?_
    repeat (refine ElemB.low ?_ (by simp only; omega) _)
    exact HG.out.loose
  · refine OwnP.base (B := w1.heap.size) ?_ (by omega)
    refine OwnP.drew ?_
    repeat (refine OwnP.low ?_ (by simp only; omega) _)
    exact HF.out.own
  · refine below_drew ?_
    repeat (refine Below.setCell ?_ (by simp only; omega) _)
    exact hbf
end Go.Proofs.Ytnmamfgebbcehaa.pk

/- Operations in memory, five cells for each; what the document's Step answers. -/
import Derived.Test.YtabjkmennijaeaaHs8
namespace Go.Proofs.Ytabjkmennijaeaa.hs
open Go.RowKit Go.Proofs.Ytabjkmennijaeaa.lib Go.Proofs.Ytabjkmennijaeaa.byt
set_option linter.unusedVariables false
set_option linter.unusedSimpArgs false

structure On where
  kind : Int
  key : ByteArray
  val : ByteArray
  old : ByteArray
  hold : Bool
def onL (d : On) : List Value := [.int .i64 d.kind, .string d.key, .string d.val, .string d.old, .bool d.hold]
theorem onL_length (d : On) : (onL d).length = 5 := rfl
def rowO (L : List On) : List Value := L.flatMap onL
theorem rowO_length (L : List On) : (rowO L).length = L.length * 5 := by
  induction L with
  | nil => rfl
  | cons d L ih => simp only [rowO, List.flatMap_cons, List.length_append, onL_length, List.length_cons] at ih ⊢; omega
theorem rowO_append (a b : List On) : rowO (a ++ b) = rowO a ++ rowO b := by simp [rowO]
theorem rowO_get (L : List On) (k : Nat) (h : k < L.length) (j : Nat) (hj : j < 5) : (rowO L)[5 * k + j]? = (onL L[k])[j]? := by
  induction L generalizing k with
  | nil => simp at h
  | cons m L ih =>
    rcases k with _ | k
    · rw [rowO, List.flatMap_cons, List.getElem?_append_left (by rw [onL_length]; omega)]
      simp
    · rw [rowO, List.flatMap_cons, List.getElem?_append_right (by rw [onL_length]; omega), onL_length, show 5 * (k + 1) + j - 5 = 5 * k + j by omega]
      exact ih k (by simpa using h)
abbrev RdO (w : World) (B : Nat) (A : Option Addr) (L : List On) : Prop := Reads w B 5 A L.length (rowO L)
abbrev OwnO (w : World) (B : Nat) (A : Option Addr) (c : Nat) (L : List On) : Prop := w.ownsRow B 27 5 (.slice A L.length c) L.length (rowO L)
theorem info_on : (Try.prog.info? 27).map (fun i => (i.zero, i.size, i.bytes)) = some (some (.agg #[.int .i64 0, .string ByteArray.empty, .string ByteArray.empty, .string ByteArray.empty, .bool false]), 5, 64) := by kernel_rfl
theorem RdO.at_ {w : World} {B : Nat} {A : Option Addr} {L : List On} (h : RdO w B A L) {k : Nat} (hk : k < L.length) : ∃ ad, A = some ad ∧ ad.block < B ∧ (w.cell? (ad.add (k * 5)) = some (.int .i64 (L[k]).kind) ∧ w.cell? ⟨(ad.add (k * 5)).block, (ad.add (k * 5)).off + 1, none⟩ = some (.string (L[k]).key) ∧ w.cell? ⟨(ad.add (k * 5)).block, (ad.add (k * 5)).off + 2, none⟩ = some (.string (L[k]).val) ∧ w.cell? ⟨(ad.add (k * 5)).block, (ad.add (k * 5)).off + 3, none⟩ = some (.string (L[k]).old) ∧ w.cell? ⟨(ad.add (k * 5)).block, (ad.add (k * 5)).off + 4, none⟩ = some (.bool (L[k]).hold)) := by
  obtain ⟨ad, e, hb, hc⟩ := h.2 (by omega)
  have ea : ∀ j, 0 < j → (⟨(ad.add (k * 5)).block, (ad.add (k * 5)).off + j, none⟩ : Addr) = ad.add (5 * k + j) := fun j hj => by
    rw [show 5 * k + j = k * 5 + j by omega, ← add_of_add]
    generalize ad.add (k * 5) = q
    unfold Addr.add
    rw [if_neg (by omega)]
  refine ⟨ad, e, hb, ?_, ?_, ?_, ?_, ?_⟩
  · have := hc (5 * k + 0) (.int .i64 L[k].kind) (by rw [rowO_get L k hk 0 (by omega)]; rfl)
    rwa [show 5 * k + 0 = k * 5 by omega] at this
  · rw [ea 1 (by omega)]; exact hc _ _ (by rw [rowO_get L k hk 1 (by omega)]; rfl)
  · rw [ea 2 (by omega)]; exact hc _ _ (by rw [rowO_get L k hk 2 (by omega)]; rfl)
  · rw [ea 3 (by omega)]; exact hc _ _ (by rw [rowO_get L k hk 3 (by omega)]; rfl)
  · rw [ea 4 (by omega)]; exact hc _ _ (by rw [rowO_get L k hk 4 (by omega)]; rfl)
def swapO (o : On) : Option ByteArray → Bool
  | none => !o.hold
  | some x => o.hold && (x.toList == o.old.toList)
/-- What a call makes of a value, its Code, what it tells. -/
def stepP (o : On) (v : Option ByteArray) : Option ByteArray × Int × Option ByteArray :=
  if o.kind = 1 then (if v.isSome then (v, 0, v) else (v, 1, none))
  else if o.kind = 2 then (some o.val, 0, none)
  else if o.kind = 3 then (none, 0, none)
  else if swapO o v = true then (some o.val, 0, none) else (v, 2, v)
def hasV (v : Option ByteArray) : Bool := v.isSome
def strV (v : Option ByteArray) : ByteArray := v.getD ⟨#[]⟩
abbrev vV (v : Option ByteArray) : Value := .agg #[.bool (hasV v), .string (strV v)]
theorem cell2 {W : World} {p q a : Addr} {u v x : Value} (h : W.cell? a = some x) (h1 : a.block ≠ p.block) (h2 : a.block ≠ q.block) : (((W.setCell p u).setCell q v).drew).cell? a = some x :=
  (World.cell?_of_block (w := W) (a := a) (by show ((W.setCell p u).setCell q v).heap[a.block]? = _; rw [heap_setCell_other _ _ _ _ h2, heap_setCell_other _ _ _ _ h1])).trans h
theorem results_cell_tmp_cell {fn : Func} {p q u : Tmp} {ty ty2 : TypeId} (h : fn.results = #[.cell p ty, .tmp u, .cell q ty2]) (tmps : Array Value) (P : Program) (w : World) :
    (results fn tmps).run P w = ((asAddr (tmps.getD p undef)).run P w).andThen fun a w₁ => ((loadVar ty a).run P w₁).andThen fun v w₂ => ((asAddr (tmps.getD q undef)).run P w₂).andThen fun a2 w₃ => ((loadVar ty2 a2).run P w₃).andThen fun v2 w₄ => .ok (.tuple #[v, tmps.getD u undef, v2]) w₄ := by
  simp only [results, h]
  simp [Sem.run_bind, Result.andThen]
set_option maxRecDepth 8000 in
set_option maxHeartbeats 1000000 in
theorem step_any (w : World) (kind : Int) (key val old : ByteArray) (hold : Bool) (v : Option ByteArray) :
    Calls Try.prog 10 #[.agg #[.int .i64 kind, .string key, .string val, .string old, .bool hold], vV v] w fun e w' => e = .returned (.tuple #[vV (stepP ⟨kind, key, val, old, hold⟩ v).1, .int .i64 (stepP ⟨kind, key, val, old, hold⟩ v).2.1, vV (stepP ⟨kind, key, val, old, hold⟩ v).2.2]) ∧ Below w.heap.size w w' := by
  obtain ⟨hv, hhv⟩ : ∃ x, x = hasV v := ⟨_, rfl⟩
  obtain ⟨sv, hsv⟩ : ∃ x, x = strV v := ⟨_, rfl⟩
  unfold vV
  rw [← hhv, ← hsv]
  have HHV := Lib.hid hhv
  have HSV := Lib.hid hsv
  clear hhv hsv
  have HB := Lib.hid (show Below w.heap.size w (((((w.alloc (.cells #[.int .i64 kind, .string key, .string val, .string old, .bool hold] 27)).alloc (.cells #[.bool hv, .string sv] 43)).alloc (.cells #[.bool false, .string ⟨#[]⟩] 43)).alloc (.cells #[.bool false, .string ⟨#[]⟩] 43)).alloc (.cells #[.bool false, .string ⟨#[]⟩] 43)) from (((((Below.refl _ _).alloc (Nat.le_refl _) _).alloc (by simp) _).alloc (by simp <;> omega) _).alloc (by simp <;> omega) _).alloc (by simp <;> omega) _)
  have e1 : (w.alloc (.cells #[.int .i64 kind, .string key, .string val, .string old, .bool hold] 27)).heap.size = w.heap.size + 1 := by simp
  have e2 : ((w.alloc (.cells #[.int .i64 kind, .string key, .string val, .string old, .bool hold] 27)).alloc (.cells #[.bool hv, .string sv] 43)).heap.size = w.heap.size + 2 := by simp
  have e3 : (((w.alloc (.cells #[.int .i64 kind, .string key, .string val, .string old, .bool hold] 27)).alloc (.cells #[.bool hv, .string sv] 43)).alloc (.cells #[.bool false, .string ⟨#[]⟩] 43)).heap.size = w.heap.size + 3 := by simp
  have e4 : ((((w.alloc (.cells #[.int .i64 kind, .string key, .string val, .string old, .bool hold] 27)).alloc (.cells #[.bool hv, .string sv] 43)).alloc (.cells #[.bool false, .string ⟨#[]⟩] 43)).alloc (.cells #[.bool false, .string ⟨#[]⟩] 43)).heap.size = w.heap.size + 4 := by simp
  have h0 : (((((w.alloc (.cells #[.int .i64 kind, .string key, .string val, .string old, .bool hold] 27)).alloc (.cells #[.bool hv, .string sv] 43)).alloc (.cells #[.bool false, .string ⟨#[]⟩] 43)).alloc (.cells #[.bool false, .string ⟨#[]⟩] 43)).alloc (.cells #[.bool false, .string ⟨#[]⟩] 43)).heap[w.heap.size]? = some (.cells #[.int .i64 kind, .string key, .string val, .string old, .bool hold] 27) := by
    rw [Below.heap_alloc _ _ _ (by omega), Below.heap_alloc _ _ _ (by omega), Below.heap_alloc _ _ _ (by omega), Below.heap_alloc _ _ _ (by omega)]
    exact heap_alloc_new w _
  have h1 : (((((w.alloc (.cells #[.int .i64 kind, .string key, .string val, .string old, .bool hold] 27)).alloc (.cells #[.bool hv, .string sv] 43)).alloc (.cells #[.bool false, .string ⟨#[]⟩] 43)).alloc (.cells #[.bool false, .string ⟨#[]⟩] 43)).alloc (.cells #[.bool false, .string ⟨#[]⟩] 43)).heap[w.heap.size + 1]? = some (.cells #[.bool hv, .string sv] 43) := by
    rw [Below.heap_alloc _ _ _ (by omega), Below.heap_alloc _ _ _ (by omega), Below.heap_alloc _ _ _ (by omega), ← e1]
    exact heap_alloc_new _ _
  have h2 : (((((w.alloc (.cells #[.int .i64 kind, .string key, .string val, .string old, .bool hold] 27)).alloc (.cells #[.bool hv, .string sv] 43)).alloc (.cells #[.bool false, .string ⟨#[]⟩] 43)).alloc (.cells #[.bool false, .string ⟨#[]⟩] 43)).alloc (.cells #[.bool false, .string ⟨#[]⟩] 43)).heap[w.heap.size + 1 + 1]? = some (.cells #[.bool false, .string ⟨#[]⟩] 43) := by
    rw [Below.heap_alloc _ _ _ (by omega), Below.heap_alloc _ _ _ (by omega), show w.heap.size + 1 + 1 = ((w.alloc (.cells #[.int .i64 kind, .string key, .string val, .string old, .bool hold] 27)).alloc (.cells #[.bool hv, .string sv] 43)).heap.size by rw [e2]]
    exact heap_alloc_new _ _
  have h3 : (((((w.alloc (.cells #[.int .i64 kind, .string key, .string val, .string old, .bool hold] 27)).alloc (.cells #[.bool hv, .string sv] 43)).alloc (.cells #[.bool false, .string ⟨#[]⟩] 43)).alloc (.cells #[.bool false, .string ⟨#[]⟩] 43)).alloc (.cells #[.bool false, .string ⟨#[]⟩] 43)).heap[w.heap.size + 1 + 1 + 1]? = some (.cells #[.bool false, .string ⟨#[]⟩] 43) := by
    rw [Below.heap_alloc _ _ _ (by omega), show w.heap.size + 1 + 1 + 1 = (((w.alloc (.cells #[.int .i64 kind, .string key, .string val, .string old, .bool hold] 27)).alloc (.cells #[.bool hv, .string sv] 43)).alloc (.cells #[.bool false, .string ⟨#[]⟩] 43)).heap.size by rw [e3]]
    exact heap_alloc_new _ _
  have h4 : (((((w.alloc (.cells #[.int .i64 kind, .string key, .string val, .string old, .bool hold] 27)).alloc (.cells #[.bool hv, .string sv] 43)).alloc (.cells #[.bool false, .string ⟨#[]⟩] 43)).alloc (.cells #[.bool false, .string ⟨#[]⟩] 43)).alloc (.cells #[.bool false, .string ⟨#[]⟩] 43)).heap[w.heap.size + 1 + 1 + 1 + 1]? = some (.cells #[.bool false, .string ⟨#[]⟩] 43) := by
    rw [show w.heap.size + 1 + 1 + 1 + 1 = ((((w.alloc (.cells #[.int .i64 kind, .string key, .string val, .string old, .bool hold] 27)).alloc (.cells #[.bool hv, .string sv] 43)).alloc (.cells #[.bool false, .string ⟨#[]⟩] 43)).alloc (.cells #[.bool false, .string ⟨#[]⟩] 43)).heap.size by rw [e4]]
    exact heap_alloc_new _ _
  have b0 := cell_of_row _ w.heap.size 0 _ _ (0, 0) h0
  have b2 := cell_of_row _ w.heap.size 2 _ _ (0, 0) h0
  have b3 := cell_of_row _ w.heap.size 3 _ _ (0, 0) h0
  have b4 := cell_of_row _ w.heap.size 4 _ _ (0, 0) h0
  have v0 := cell_of_row _ (w.heap.size + 1) 0 _ _ (0, 0) h1
  have v1 := cell_of_row _ (w.heap.size + 1) 1 _ _ (0, 0) h1
  have r0 := cell_of_row _ (w.heap.size + 1 + 1) 0 _ _ (0, 0) h2
  have r1 := cell_of_row _ (w.heap.size + 1 + 1) 1 _ _ (0, 0) h2
  have t0 := cell_of_row _ (w.heap.size + 1 + 1 + 1) 0 _ _ (0, 0) h3
  have t1 := cell_of_row _ (w.heap.size + 1 + 1 + 1) 1 _ _ (0, 0) h3
  have n0 := cell_of_row _ (w.heap.size + 1 + 1 + 1 + 1) 0 _ _ (0, 0) h4
  have n1 := cell_of_row _ (w.heap.size + 1 + 1 + 1 + 1) 1 _ _ (0, 0) h4
  have rf : ∀ j, (((((w.alloc (.cells #[.int .i64 kind, .string key, .string val, .string old, .bool hold] 27)).alloc (.cells #[.bool hv, .string sv] 43)).alloc (.cells #[.bool false, .string ⟨#[]⟩] 43)).alloc (.cells #[.bool false, .string ⟨#[]⟩] 43)).alloc (.cells #[.bool false, .string ⟨#[]⟩] 43)).frozen? ⟨w.heap.size + 1 + 1, j, none⟩ = false := fun j => frozen_of_row _ _ j _ _ h2
  have tf : ∀ j, (((((w.alloc (.cells #[.int .i64 kind, .string key, .string val, .string old, .bool hold] 27)).alloc (.cells #[.bool hv, .string sv] 43)).alloc (.cells #[.bool false, .string ⟨#[]⟩] 43)).alloc (.cells #[.bool false, .string ⟨#[]⟩] 43)).alloc (.cells #[.bool false, .string ⟨#[]⟩] 43)).frozen? ⟨w.heap.size + 1 + 1 + 1, j, none⟩ = false := fun j => frozen_of_row _ _ j _ _ h3
  simp only [List.getElem?_toArray, List.getElem?_cons_succ, List.getElem?_cons_zero] at b0 b2 b3 b4 v0 v1 r0 r1 t0 t1 n0 n1
  clear e1 e2 e3 e4 h0 h1 h2 h3 h4
  go_enter Try.func10, Try.ntmps10
  go_upto_region 2 with (fail)
  generalize (((((w.alloc (.cells #[.int .i64 kind, .string key, .string val, .string old, .bool hold] 27)).alloc (.cells #[.bool hv, .string sv] 43)).alloc (.cells #[.bool false, .string ⟨#[]⟩] 43)).alloc (.cells #[.bool false, .string ⟨#[]⟩] 43)).alloc (.cells #[.bool false, .string ⟨#[]⟩] 43)) = W at HB b0 b2 b3 b4 v0 v1 r0 r1 t0 t1 n0 n1 rf tf ⊢
  by_cases q1 : kind = 1
  · subst q1
    cases hv
    · go_wp2_with fail
      have hS0 : (fun X : World => (X.cell? ⟨w.heap.size, 2, none⟩ = some (.string val) ∧ X.cell? ⟨w.heap.size + 1, 0, none⟩ = some (.bool false) ∧ X.cell? ⟨w.heap.size + 1, 1, none⟩ = some (.string sv) ∧ X.cell? ⟨w.heap.size + 1 + 1 + 1 + 1, 0, none⟩ = some (.bool false) ∧ X.cell? ⟨w.heap.size + 1 + 1 + 1 + 1, 1, none⟩ = some (.string ⟨#[]⟩))) W.drew := ⟨b2, v0, v1, n0, n1⟩
      refine tail.wp_region_till 4 (fun X : World => (X.cell? ⟨w.heap.size, 2, none⟩ = some (.string val) ∧ X.cell? ⟨w.heap.size + 1, 0, none⟩ = some (.bool false) ∧ X.cell? ⟨w.heap.size + 1, 1, none⟩ = some (.string sv) ∧ X.cell? ⟨w.heap.size + 1 + 1 + 1 + 1, 0, none⟩ = some (.bool false) ∧ X.cell? ⟨w.heap.size + 1 + 1 + 1 + 1, 1, none⟩ = some (.string ⟨#[]⟩))) (by kernel_rfl) ?_
      (refine tail.till_take 0 (v := ?_) rfl (by kernel_rfl) (by kernel_rfl) (by kernel_rfl) (by kernel_rfl) (by kernel_rfl) (fun _ _ _ h => h) (by rfl) (by assumption) ?_ ?_; rotate_left 1; (focus (intro X hX; obtain ⟨s0, s1, s2, s3, s4⟩ := hX; go_simp; with_reducible rfl)); (try simp only [Act.put, List.setIfInBounds_toArray, List.set_cons_zero, List.set_cons_succ]))
      (refine tail.till_take 1 (v := ?_) rfl (by kernel_rfl) (by kernel_rfl) (by kernel_rfl) (by kernel_rfl) (by kernel_rfl) (fun _ _ _ h => h) (by rfl) (by assumption) ?_ ?_; rotate_left 1; (focus (intro X hX; obtain ⟨s0, s1, s2, s3, s4⟩ := hX; go_simp; with_reducible rfl)); (try simp only [Act.put, List.setIfInBounds_toArray, List.set_cons_zero, List.set_cons_succ]))
      have hS1 : (fun X : World => (X.cell? ⟨w.heap.size, 2, none⟩ = some (.string val) ∧ X.cell? ⟨w.heap.size + 1, 0, none⟩ = some (.bool false) ∧ X.cell? ⟨w.heap.size + 1, 1, none⟩ = some (.string sv) ∧ X.cell? ⟨w.heap.size + 1 + 1 + 1 + 1, 0, none⟩ = some (.bool false) ∧ X.cell? ⟨w.heap.size + 1 + 1 + 1 + 1, 1, none⟩ = some (.string ⟨#[]⟩))) (((W.setCell ⟨w.heap.size + 1 + 1, 0, none⟩ (.bool false)).setCell ⟨w.heap.size + 1 + 1, 1, none⟩ (.string sv)).drew) := ⟨cell2 b2 (by simp only; omega) (by simp only; omega), cell2 v0 (by simp only; omega) (by simp only; omega), cell2 v1 (by simp only; omega) (by simp only; omega), cell2 n0 (by simp only; omega) (by simp only; omega), cell2 n1 (by simp only; omega) (by simp only; omega)⟩
      have q0 : W.drew.cell? ⟨w.heap.size + 1 + 1, 0, none⟩ = some (.bool false) := r0
      have q1' : W.drew.cell? ⟨w.heap.size + 1 + 1, 1, none⟩ = some (.string ⟨#[]⟩) := r1
      have q2' : W.drew.cell? ⟨w.heap.size + 1 + 1 + 1, 0, none⟩ = some (.bool false) := t0
      have q3' : W.drew.cell? ⟨w.heap.size + 1 + 1 + 1, 1, none⟩ = some (.string ⟨#[]⟩) := t1
      have qf : ∀ j, W.drew.frozen? ⟨w.heap.size + 1 + 1, j, none⟩ = false := rf
      have qg : ∀ j, W.drew.frozen? ⟨w.heap.size + 1 + 1 + 1, j, none⟩ = false := tf
      refine tail.till_one 2 (by kernel_rfl) rfl (fun K hK => ?_)
      go_simp
      refine hK.out _ _ (fun _ => hS1) ?_
      clear hK K
      try simp only [Act.put, List.setIfInBounds_toArray, List.set_cons_zero, List.set_cons_succ]
      refine tail.till_one 3 (by kernel_rfl) rfl (fun K hK => ?_)
      go_simp
      refine hK.out _ _ (fun _ => hS1) ?_
      clear hK K
      try simp only [Act.put, List.setIfInBounds_toArray, List.set_cons_zero, List.set_cons_succ]
      refine tail.till_one 4 (by kernel_rfl) rfl (fun K hK => ?_)
      go_simp
      refine hK.out _ _ (fun h => absurd rfl h) ?_
      clear hK K
      try simp only [Act.put, List.setIfInBounds_toArray, List.set_cons_zero, List.set_cons_succ]
      refine tail.till_done (by kernel_rfl) ?_ _
      go_wp2_with fail
      refine bodyPost_ret (v := .tuple #[.agg #[.bool false, .string sv], .int .i64 1, .agg #[.bool false, .string ⟨#[]⟩]]) ?_ rfl ⟨?_, ?_⟩
      · rw [results_cell_tmp_cell rfl]; go_simp; first | done | rfl
      · have e1 := HHV.out
        have e2 := HSV.out
        cases v with
        | none => simp [hasV, strV] at e1 e2 <;> (try subst e2) <;> simp [stepP, swapO, vV, hasV, strV] at *
        | some x => simp [hasV, strV] at e1 e2 <;> (try subst e2) <;> simp [stepP, swapO, vV, hasV, strV] at *
      · refine below_drew ?_
        repeat (with_reducible refine Below.setCell ?_ (by simp only; omega) _)
        exact HB.out
    · go_wp2_with fail
      have hS0 : (fun X : World => (X.cell? ⟨w.heap.size, 2, none⟩ = some (.string val) ∧ X.cell? ⟨w.heap.size + 1, 0, none⟩ = some (.bool true) ∧ X.cell? ⟨w.heap.size + 1, 1, none⟩ = some (.string sv) ∧ X.cell? ⟨w.heap.size + 1 + 1 + 1 + 1, 0, none⟩ = some (.bool false) ∧ X.cell? ⟨w.heap.size + 1 + 1 + 1 + 1, 1, none⟩ = some (.string ⟨#[]⟩))) W.drew := ⟨b2, v0, v1, n0, n1⟩
      refine tail.wp_region_till 4 (fun X : World => (X.cell? ⟨w.heap.size, 2, none⟩ = some (.string val) ∧ X.cell? ⟨w.heap.size + 1, 0, none⟩ = some (.bool true) ∧ X.cell? ⟨w.heap.size + 1, 1, none⟩ = some (.string sv) ∧ X.cell? ⟨w.heap.size + 1 + 1 + 1 + 1, 0, none⟩ = some (.bool false) ∧ X.cell? ⟨w.heap.size + 1 + 1 + 1 + 1, 1, none⟩ = some (.string ⟨#[]⟩))) (by kernel_rfl) ?_
      (refine tail.till_take 0 (v := ?_) rfl (by kernel_rfl) (by kernel_rfl) (by kernel_rfl) (by kernel_rfl) (by kernel_rfl) (fun _ _ _ h => h) (by rfl) (by assumption) ?_ ?_; rotate_left 1; (focus (intro X hX; obtain ⟨s0, s1, s2, s3, s4⟩ := hX; go_simp; with_reducible rfl)); (try simp only [Act.put, List.setIfInBounds_toArray, List.set_cons_zero, List.set_cons_succ]))
      (refine tail.till_take 1 (v := ?_) rfl (by kernel_rfl) (by kernel_rfl) (by kernel_rfl) (by kernel_rfl) (by kernel_rfl) (fun _ _ _ h => h) (by rfl) (by assumption) ?_ ?_; rotate_left 1; (focus (intro X hX; obtain ⟨s0, s1, s2, s3, s4⟩ := hX; go_simp; with_reducible rfl)); (try simp only [Act.put, List.setIfInBounds_toArray, List.set_cons_zero, List.set_cons_succ]))
      have hS1 : (fun X : World => (X.cell? ⟨w.heap.size, 2, none⟩ = some (.string val) ∧ X.cell? ⟨w.heap.size + 1, 0, none⟩ = some (.bool true) ∧ X.cell? ⟨w.heap.size + 1, 1, none⟩ = some (.string sv) ∧ X.cell? ⟨w.heap.size + 1 + 1 + 1 + 1, 0, none⟩ = some (.bool false) ∧ X.cell? ⟨w.heap.size + 1 + 1 + 1 + 1, 1, none⟩ = some (.string ⟨#[]⟩))) (((W.setCell ⟨w.heap.size + 1 + 1, 0, none⟩ (.bool true)).setCell ⟨w.heap.size + 1 + 1, 1, none⟩ (.string sv)).drew) := ⟨cell2 b2 (by simp only; omega) (by simp only; omega), cell2 v0 (by simp only; omega) (by simp only; omega), cell2 v1 (by simp only; omega) (by simp only; omega), cell2 n0 (by simp only; omega) (by simp only; omega), cell2 n1 (by simp only; omega) (by simp only; omega)⟩
      have q0 : W.drew.cell? ⟨w.heap.size + 1 + 1, 0, none⟩ = some (.bool false) := r0
      have q1' : W.drew.cell? ⟨w.heap.size + 1 + 1, 1, none⟩ = some (.string ⟨#[]⟩) := r1
      have q2' : W.drew.cell? ⟨w.heap.size + 1 + 1 + 1, 0, none⟩ = some (.bool false) := t0
      have q3' : W.drew.cell? ⟨w.heap.size + 1 + 1 + 1, 1, none⟩ = some (.string ⟨#[]⟩) := t1
      have qf : ∀ j, W.drew.frozen? ⟨w.heap.size + 1 + 1, j, none⟩ = false := rf
      have qg : ∀ j, W.drew.frozen? ⟨w.heap.size + 1 + 1 + 1, j, none⟩ = false := tf
      refine tail.till_one 2 (by kernel_rfl) rfl (fun K hK => ?_)
      go_simp
      refine hK.out _ _ (fun _ => hS1) ?_
      clear hK K
      try simp only [Act.put, List.setIfInBounds_toArray, List.set_cons_zero, List.set_cons_succ]
      refine tail.till_one 3 (by kernel_rfl) rfl (fun K hK => ?_)
      go_simp
      refine hK.out _ _ (fun _ => hS1) ?_
      clear hK K
      try simp only [Act.put, List.setIfInBounds_toArray, List.set_cons_zero, List.set_cons_succ]
      refine tail.till_one 4 (by kernel_rfl) rfl (fun K hK => ?_)
      go_simp
      refine hK.out _ _ (fun h => absurd rfl h) ?_
      clear hK K
      try simp only [Act.put, List.setIfInBounds_toArray, List.set_cons_zero, List.set_cons_succ]
      refine tail.till_done (by kernel_rfl) ?_ _
      go_wp2_with fail
      refine bodyPost_ret (v := .tuple #[.agg #[.bool true, .string sv], .int .i64 0, .agg #[.bool true, .string sv]]) ?_ rfl ⟨?_, ?_⟩
      · rw [results_cell_tmp_cell rfl]; go_simp; first | done | rfl
      · have e1 := HHV.out
        have e2 := HSV.out
        cases v with
        | none => simp [hasV, strV] at e1 e2 <;> (try subst e2) <;> simp [stepP, swapO, vV, hasV, strV] at *
        | some x => simp [hasV, strV] at e1 e2 <;> (try subst e2) <;> simp [stepP, swapO, vV, hasV, strV] at *
      · refine below_drew ?_
        repeat (with_reducible refine Below.setCell ?_ (by simp only; omega) _)
        exact HB.out
  have q1b : (kind == 1) = false := beq_false_of_ne q1
  by_cases q2 : kind = 2
  · subst q2
    go_wp2_with fail
    have hS0 : (fun X : World => (X.cell? ⟨w.heap.size, 2, none⟩ = some (.string val) ∧ X.cell? ⟨w.heap.size + 1, 0, none⟩ = some (.bool hv) ∧ X.cell? ⟨w.heap.size + 1, 1, none⟩ = some (.string sv) ∧ X.cell? ⟨w.heap.size + 1 + 1 + 1 + 1, 0, none⟩ = some (.bool false) ∧ X.cell? ⟨w.heap.size + 1 + 1 + 1 + 1, 1, none⟩ = some (.string ⟨#[]⟩))) W.drew := ⟨b2, v0, v1, n0, n1⟩
    refine tail.wp_region_till 6 (fun X : World => (X.cell? ⟨w.heap.size, 2, none⟩ = some (.string val) ∧ X.cell? ⟨w.heap.size + 1, 0, none⟩ = some (.bool hv) ∧ X.cell? ⟨w.heap.size + 1, 1, none⟩ = some (.string sv) ∧ X.cell? ⟨w.heap.size + 1 + 1 + 1 + 1, 0, none⟩ = some (.bool false) ∧ X.cell? ⟨w.heap.size + 1 + 1 + 1 + 1, 1, none⟩ = some (.string ⟨#[]⟩))) (by kernel_rfl) ?_
    (refine tail.till_take 0 (v := ?_) rfl (by kernel_rfl) (by kernel_rfl) (by kernel_rfl) (by kernel_rfl) (by kernel_rfl) (fun _ _ _ h => h) (by rfl) (by assumption) ?_ ?_; rotate_left 1; (focus (intro X hX; obtain ⟨s0, s1, s2, s3, s4⟩ := hX; go_simp; with_reducible rfl)); (try simp only [Act.put, List.setIfInBounds_toArray, List.set_cons_zero, List.set_cons_succ]))
    (refine tail.till_take 1 (v := ?_) rfl (by kernel_rfl) (by kernel_rfl) (by kernel_rfl) (by kernel_rfl) (by kernel_rfl) (fun _ _ _ h => h) (by rfl) (by assumption) ?_ ?_; rotate_left 1; (focus (intro X hX; obtain ⟨s0, s1, s2, s3, s4⟩ := hX; go_simp; with_reducible rfl)); (try simp only [Act.put, List.setIfInBounds_toArray, List.set_cons_zero, List.set_cons_succ]))
    (refine tail.till_take 2 (v := ?_) rfl (by kernel_rfl) (by kernel_rfl) (by kernel_rfl) (by kernel_rfl) (by kernel_rfl) (fun _ _ _ h => h) (by rfl) (by assumption) ?_ ?_; rotate_left 1; (focus (intro X hX; obtain ⟨s0, s1, s2, s3, s4⟩ := hX; go_simp; with_reducible rfl)); (try simp only [Act.put, List.setIfInBounds_toArray, List.set_cons_zero, List.set_cons_succ]))
    (refine tail.till_take 3 (v := ?_) rfl (by kernel_rfl) (by kernel_rfl) (by kernel_rfl) (by kernel_rfl) (by kernel_rfl) (fun _ _ _ h => h) (by rfl) (by assumption) ?_ ?_; rotate_left 1; (focus (intro X hX; obtain ⟨s0, s1, s2, s3, s4⟩ := hX; go_simp; with_reducible rfl)); (try simp only [Act.put, List.setIfInBounds_toArray, List.set_cons_zero, List.set_cons_succ]))
    have hS1 : (fun X : World => (X.cell? ⟨w.heap.size, 2, none⟩ = some (.string val) ∧ X.cell? ⟨w.heap.size + 1, 0, none⟩ = some (.bool hv) ∧ X.cell? ⟨w.heap.size + 1, 1, none⟩ = some (.string sv) ∧ X.cell? ⟨w.heap.size + 1 + 1 + 1 + 1, 0, none⟩ = some (.bool false) ∧ X.cell? ⟨w.heap.size + 1 + 1 + 1 + 1, 1, none⟩ = some (.string ⟨#[]⟩))) (((W.setCell ⟨w.heap.size + 1 + 1, 0, none⟩ (.bool true)).setCell ⟨w.heap.size + 1 + 1, 1, none⟩ (.string val)).drew) := ⟨cell2 b2 (by simp only; omega) (by simp only; omega), cell2 v0 (by simp only; omega) (by simp only; omega), cell2 v1 (by simp only; omega) (by simp only; omega), cell2 n0 (by simp only; omega) (by simp only; omega), cell2 n1 (by simp only; omega) (by simp only; omega)⟩
    have q0 : W.drew.cell? ⟨w.heap.size + 1 + 1, 0, none⟩ = some (.bool false) := r0
    have q1' : W.drew.cell? ⟨w.heap.size + 1 + 1, 1, none⟩ = some (.string ⟨#[]⟩) := r1
    have q2' : W.drew.cell? ⟨w.heap.size + 1 + 1 + 1, 0, none⟩ = some (.bool false) := t0
    have q3' : W.drew.cell? ⟨w.heap.size + 1 + 1 + 1, 1, none⟩ = some (.string ⟨#[]⟩) := t1
    have qf : ∀ j, W.drew.frozen? ⟨w.heap.size + 1 + 1, j, none⟩ = false := rf
    have qg : ∀ j, W.drew.frozen? ⟨w.heap.size + 1 + 1 + 1, j, none⟩ = false := tf
    refine tail.till_one 4 (by kernel_rfl) rfl (fun K hK => ?_)
    go_simp
    refine hK.out _ _ (fun _ => hS1) ?_
    clear hK K
    try simp only [Act.put, List.setIfInBounds_toArray, List.set_cons_zero, List.set_cons_succ]
    refine tail.till_one 5 (by kernel_rfl) rfl (fun K hK => ?_)
    go_simp
    refine hK.out _ _ (fun _ => hS1) ?_
    clear hK K
    try simp only [Act.put, List.setIfInBounds_toArray, List.set_cons_zero, List.set_cons_succ]
    refine tail.till_one 6 (by kernel_rfl) rfl (fun K hK => ?_)
    go_simp
    refine hK.out _ _ (fun h => absurd rfl h) ?_
    clear hK K
    try simp only [Act.put, List.setIfInBounds_toArray, List.set_cons_zero, List.set_cons_succ]
    refine tail.till_done (by kernel_rfl) ?_ _
    go_wp2_with fail
    refine bodyPost_ret (v := .tuple #[.agg #[.bool true, .string val], .int .i64 0, .agg #[.bool false, .string ⟨#[]⟩]]) ?_ rfl ⟨?_, ?_⟩
    · rw [results_cell_tmp_cell rfl]; go_simp; first | done | rfl
    · have e1 := HHV.out
      have e2 := HSV.out
      cases v with
      | none => simp [hasV, strV] at e1 e2 <;> (try subst e2) <;> simp [stepP, swapO, vV, hasV, strV] at *
      | some x => simp [hasV, strV] at e1 e2 <;> (try subst e2) <;> simp [stepP, swapO, vV, hasV, strV] at *
    · refine below_drew ?_
      repeat (with_reducible refine Below.setCell ?_ (by simp only; omega) _)
      exact HB.out
  have q2b : (kind == 2) = false := beq_false_of_ne q2
  by_cases q3 : kind = 3
  · subst q3
    go_wp2_with fail
    have hS0 : (fun X : World => (X.cell? ⟨w.heap.size, 2, none⟩ = some (.string val) ∧ X.cell? ⟨w.heap.size + 1, 0, none⟩ = some (.bool hv) ∧ X.cell? ⟨w.heap.size + 1, 1, none⟩ = some (.string sv) ∧ X.cell? ⟨w.heap.size + 1 + 1 + 1 + 1, 0, none⟩ = some (.bool false) ∧ X.cell? ⟨w.heap.size + 1 + 1 + 1 + 1, 1, none⟩ = some (.string ⟨#[]⟩))) W.drew := ⟨b2, v0, v1, n0, n1⟩
    refine tail.wp_region_till 4 (fun X : World => (X.cell? ⟨w.heap.size, 2, none⟩ = some (.string val) ∧ X.cell? ⟨w.heap.size + 1, 0, none⟩ = some (.bool hv) ∧ X.cell? ⟨w.heap.size + 1, 1, none⟩ = some (.string sv) ∧ X.cell? ⟨w.heap.size + 1 + 1 + 1 + 1, 0, none⟩ = some (.bool false) ∧ X.cell? ⟨w.heap.size + 1 + 1 + 1 + 1, 1, none⟩ = some (.string ⟨#[]⟩))) (by kernel_rfl) ?_
    (refine tail.till_take 0 (v := ?_) rfl (by kernel_rfl) (by kernel_rfl) (by kernel_rfl) (by kernel_rfl) (by kernel_rfl) (fun _ _ _ h => h) (by rfl) (by assumption) ?_ ?_; rotate_left 1; (focus (intro X hX; obtain ⟨s0, s1, s2, s3, s4⟩ := hX; go_simp; with_reducible rfl)); (try simp only [Act.put, List.setIfInBounds_toArray, List.set_cons_zero, List.set_cons_succ]))
    (refine tail.till_take 1 (v := ?_) rfl (by kernel_rfl) (by kernel_rfl) (by kernel_rfl) (by kernel_rfl) (by kernel_rfl) (fun _ _ _ h => h) (by rfl) (by assumption) ?_ ?_; rotate_left 1; (focus (intro X hX; obtain ⟨s0, s1, s2, s3, s4⟩ := hX; go_simp; with_reducible rfl)); (try simp only [Act.put, List.setIfInBounds_toArray, List.set_cons_zero, List.set_cons_succ]))
    have hS1 : (fun X : World => (X.cell? ⟨w.heap.size, 2, none⟩ = some (.string val) ∧ X.cell? ⟨w.heap.size + 1, 0, none⟩ = some (.bool hv) ∧ X.cell? ⟨w.heap.size + 1, 1, none⟩ = some (.string sv) ∧ X.cell? ⟨w.heap.size + 1 + 1 + 1 + 1, 0, none⟩ = some (.bool false) ∧ X.cell? ⟨w.heap.size + 1 + 1 + 1 + 1, 1, none⟩ = some (.string ⟨#[]⟩))) (((W.setCell ⟨w.heap.size + 1 + 1, 0, none⟩ (.bool false)).setCell ⟨w.heap.size + 1 + 1, 1, none⟩ (.string ⟨#[]⟩)).drew) := ⟨cell2 b2 (by simp only; omega) (by simp only; omega), cell2 v0 (by simp only; omega) (by simp only; omega), cell2 v1 (by simp only; omega) (by simp only; omega), cell2 n0 (by simp only; omega) (by simp only; omega), cell2 n1 (by simp only; omega) (by simp only; omega)⟩
    have q0 : W.drew.cell? ⟨w.heap.size + 1 + 1, 0, none⟩ = some (.bool false) := r0
    have q1' : W.drew.cell? ⟨w.heap.size + 1 + 1, 1, none⟩ = some (.string ⟨#[]⟩) := r1
    have q2' : W.drew.cell? ⟨w.heap.size + 1 + 1 + 1, 0, none⟩ = some (.bool false) := t0
    have q3' : W.drew.cell? ⟨w.heap.size + 1 + 1 + 1, 1, none⟩ = some (.string ⟨#[]⟩) := t1
    have qf : ∀ j, W.drew.frozen? ⟨w.heap.size + 1 + 1, j, none⟩ = false := rf
    have qg : ∀ j, W.drew.frozen? ⟨w.heap.size + 1 + 1 + 1, j, none⟩ = false := tf
    refine tail.till_one 2 (by kernel_rfl) rfl (fun K hK => ?_)
    go_simp
    refine hK.out _ _ (fun _ => hS1) ?_
    clear hK K
    try simp only [Act.put, List.setIfInBounds_toArray, List.set_cons_zero, List.set_cons_succ]
    refine tail.till_one 3 (by kernel_rfl) rfl (fun K hK => ?_)
    go_simp
    refine hK.out _ _ (fun _ => hS1) ?_
    clear hK K
    try simp only [Act.put, List.setIfInBounds_toArray, List.set_cons_zero, List.set_cons_succ]
    refine tail.till_one 4 (by kernel_rfl) rfl (fun K hK => ?_)
    go_simp
    refine hK.out _ _ (fun h => absurd rfl h) ?_
    clear hK K
    try simp only [Act.put, List.setIfInBounds_toArray, List.set_cons_zero, List.set_cons_succ]
    refine tail.till_done (by kernel_rfl) ?_ _
    go_wp2_with fail
    refine bodyPost_ret (v := .tuple #[.agg #[.bool false, .string ⟨#[]⟩], .int .i64 0, .agg #[.bool false, .string ⟨#[]⟩]]) ?_ rfl ⟨?_, ?_⟩
    · rw [results_cell_tmp_cell rfl]; go_simp; first | done | rfl
    · have e1 := HHV.out
      have e2 := HSV.out
      cases v with
      | none => simp [hasV, strV] at e1 e2 <;> (try subst e2) <;> simp [stepP, swapO, vV, hasV, strV] at *
      | some x => simp [hasV, strV] at e1 e2 <;> (try subst e2) <;> simp [stepP, swapO, vV, hasV, strV] at *
    · refine below_drew ?_
      repeat (with_reducible refine Below.setCell ?_ (by simp only; omega) _)
      exact HB.out
  have q3b : (kind == 3) = false := beq_false_of_ne q3
  cases hv
  · cases hold
    · go_wp2_with fail
      have hS0 : (fun X : World => (X.cell? ⟨w.heap.size, 2, none⟩ = some (.string val) ∧ X.cell? ⟨w.heap.size + 1, 0, none⟩ = some (.bool false) ∧ X.cell? ⟨w.heap.size + 1, 1, none⟩ = some (.string sv) ∧ X.cell? ⟨w.heap.size + 1 + 1 + 1 + 1, 0, none⟩ = some (.bool false) ∧ X.cell? ⟨w.heap.size + 1 + 1 + 1 + 1, 1, none⟩ = some (.string ⟨#[]⟩))) W.drew := ⟨b2, v0, v1, n0, n1⟩
      refine tail.wp_region_till 6 (fun X : World => (X.cell? ⟨w.heap.size, 2, none⟩ = some (.string val) ∧ X.cell? ⟨w.heap.size + 1, 0, none⟩ = some (.bool false) ∧ X.cell? ⟨w.heap.size + 1, 1, none⟩ = some (.string sv) ∧ X.cell? ⟨w.heap.size + 1 + 1 + 1 + 1, 0, none⟩ = some (.bool false) ∧ X.cell? ⟨w.heap.size + 1 + 1 + 1 + 1, 1, none⟩ = some (.string ⟨#[]⟩))) (by kernel_rfl) ?_
      (refine tail.till_take 0 (v := ?_) rfl (by kernel_rfl) (by kernel_rfl) (by kernel_rfl) (by kernel_rfl) (by kernel_rfl) (fun _ _ _ h => h) (by rfl) (by assumption) ?_ ?_; rotate_left 1; (focus (intro X hX; obtain ⟨s0, s1, s2, s3, s4⟩ := hX; go_simp; with_reducible rfl)); (try simp only [Act.put, List.setIfInBounds_toArray, List.set_cons_zero, List.set_cons_succ]))
      (refine tail.till_take 1 (v := ?_) rfl (by kernel_rfl) (by kernel_rfl) (by kernel_rfl) (by kernel_rfl) (by kernel_rfl) (fun _ _ _ h => h) (by rfl) (by assumption) ?_ ?_; rotate_left 1; (focus (intro X hX; obtain ⟨s0, s1, s2, s3, s4⟩ := hX; go_simp; with_reducible rfl)); (try simp only [Act.put, List.setIfInBounds_toArray, List.set_cons_zero, List.set_cons_succ]))
      (refine tail.till_take 2 (v := ?_) rfl (by kernel_rfl) (by kernel_rfl) (by kernel_rfl) (by kernel_rfl) (by kernel_rfl) (fun _ _ _ h => h) (by rfl) (by assumption) ?_ ?_; rotate_left 1; (focus (intro X hX; obtain ⟨s0, s1, s2, s3, s4⟩ := hX; go_simp; with_reducible rfl)); (try simp only [Act.put, List.setIfInBounds_toArray, List.set_cons_zero, List.set_cons_succ]))
      (refine tail.till_take 3 (v := ?_) rfl (by kernel_rfl) (by kernel_rfl) (by kernel_rfl) (by kernel_rfl) (by kernel_rfl) (fun _ _ _ h => h) (by rfl) (by assumption) ?_ ?_; rotate_left 1; (focus (intro X hX; obtain ⟨s0, s1, s2, s3, s4⟩ := hX; go_simp; with_reducible rfl)); (try simp only [Act.put, List.setIfInBounds_toArray, List.set_cons_zero, List.set_cons_succ]))
      have hS1 : (fun X : World => (X.cell? ⟨w.heap.size, 2, none⟩ = some (.string val) ∧ X.cell? ⟨w.heap.size + 1, 0, none⟩ = some (.bool false) ∧ X.cell? ⟨w.heap.size + 1, 1, none⟩ = some (.string sv) ∧ X.cell? ⟨w.heap.size + 1 + 1 + 1 + 1, 0, none⟩ = some (.bool false) ∧ X.cell? ⟨w.heap.size + 1 + 1 + 1 + 1, 1, none⟩ = some (.string ⟨#[]⟩))) (((W.setCell ⟨w.heap.size + 1 + 1, 0, none⟩ (.bool true)).setCell ⟨w.heap.size + 1 + 1, 1, none⟩ (.string val)).drew) := ⟨cell2 b2 (by simp only; omega) (by simp only; omega), cell2 v0 (by simp only; omega) (by simp only; omega), cell2 v1 (by simp only; omega) (by simp only; omega), cell2 n0 (by simp only; omega) (by simp only; omega), cell2 n1 (by simp only; omega) (by simp only; omega)⟩
      have q0 : W.drew.cell? ⟨w.heap.size + 1 + 1, 0, none⟩ = some (.bool false) := r0
      have q1' : W.drew.cell? ⟨w.heap.size + 1 + 1, 1, none⟩ = some (.string ⟨#[]⟩) := r1
      have q2' : W.drew.cell? ⟨w.heap.size + 1 + 1 + 1, 0, none⟩ = some (.bool false) := t0
      have q3' : W.drew.cell? ⟨w.heap.size + 1 + 1 + 1, 1, none⟩ = some (.string ⟨#[]⟩) := t1
      have qf : ∀ j, W.drew.frozen? ⟨w.heap.size + 1 + 1, j, none⟩ = false := rf
      have qg : ∀ j, W.drew.frozen? ⟨w.heap.size + 1 + 1 + 1, j, none⟩ = false := tf
      refine tail.till_one 4 (by kernel_rfl) rfl (fun K hK => ?_)
      go_simp
      refine hK.out _ _ (fun _ => hS1) ?_
      clear hK K
      try simp only [Act.put, List.setIfInBounds_toArray, List.set_cons_zero, List.set_cons_succ]
      refine tail.till_one 5 (by kernel_rfl) rfl (fun K hK => ?_)
      go_simp
      refine hK.out _ _ (fun _ => hS1) ?_
      clear hK K
      try simp only [Act.put, List.setIfInBounds_toArray, List.set_cons_zero, List.set_cons_succ]
      refine tail.till_one 6 (by kernel_rfl) rfl (fun K hK => ?_)
      go_simp
      refine hK.out _ _ (fun h => absurd rfl h) ?_
      clear hK K
      try simp only [Act.put, List.setIfInBounds_toArray, List.set_cons_zero, List.set_cons_succ]
      refine tail.till_done (by kernel_rfl) ?_ _
      go_wp2_with fail
      refine bodyPost_ret (v := .tuple #[.agg #[.bool true, .string val], .int .i64 0, .agg #[.bool false, .string ⟨#[]⟩]]) ?_ rfl ⟨?_, ?_⟩
      · rw [results_cell_tmp_cell rfl]; go_simp; first | done | rfl
      · have e1 := HHV.out
        have e2 := HSV.out
        cases v with
        | none => simp [hasV, strV] at e1 e2 <;> (try subst e2) <;> simp [stepP, swapO, vV, hasV, strV, q1, q2, q3] at *
        | some x => simp [hasV, strV] at e1 e2 <;> (try subst e2) <;> simp [stepP, swapO, vV, hasV, strV, q1, q2, q3] at *
      · refine below_drew ?_
        repeat (with_reducible refine Below.setCell ?_ (by simp only; omega) _)
        exact HB.out
    · go_wp2_with fail
      have hS0 : (fun X : World => (X.cell? ⟨w.heap.size, 2, none⟩ = some (.string val) ∧ X.cell? ⟨w.heap.size + 1, 0, none⟩ = some (.bool false) ∧ X.cell? ⟨w.heap.size + 1, 1, none⟩ = some (.string sv) ∧ X.cell? ⟨w.heap.size + 1 + 1 + 1 + 1, 0, none⟩ = some (.bool false) ∧ X.cell? ⟨w.heap.size + 1 + 1 + 1 + 1, 1, none⟩ = some (.string ⟨#[]⟩))) W.drew := ⟨b2, v0, v1, n0, n1⟩
      refine tail.wp_region_till 4 (fun X : World => (X.cell? ⟨w.heap.size, 2, none⟩ = some (.string val) ∧ X.cell? ⟨w.heap.size + 1, 0, none⟩ = some (.bool false) ∧ X.cell? ⟨w.heap.size + 1, 1, none⟩ = some (.string sv) ∧ X.cell? ⟨w.heap.size + 1 + 1 + 1 + 1, 0, none⟩ = some (.bool false) ∧ X.cell? ⟨w.heap.size + 1 + 1 + 1 + 1, 1, none⟩ = some (.string ⟨#[]⟩))) (by kernel_rfl) ?_
      (refine tail.till_take 0 (v := ?_) rfl (by kernel_rfl) (by kernel_rfl) (by kernel_rfl) (by kernel_rfl) (by kernel_rfl) (fun _ _ _ h => h) (by rfl) (by assumption) ?_ ?_; rotate_left 1; (focus (intro X hX; obtain ⟨s0, s1, s2, s3, s4⟩ := hX; go_simp; with_reducible rfl)); (try simp only [Act.put, List.setIfInBounds_toArray, List.set_cons_zero, List.set_cons_succ]))
      (refine tail.till_take 1 (v := ?_) rfl (by kernel_rfl) (by kernel_rfl) (by kernel_rfl) (by kernel_rfl) (by kernel_rfl) (fun _ _ _ h => h) (by rfl) (by assumption) ?_ ?_; rotate_left 1; (focus (intro X hX; obtain ⟨s0, s1, s2, s3, s4⟩ := hX; go_simp; with_reducible rfl)); (try simp only [Act.put, List.setIfInBounds_toArray, List.set_cons_zero, List.set_cons_succ]))
      have hS1 : (fun X : World => (X.cell? ⟨w.heap.size, 2, none⟩ = some (.string val) ∧ X.cell? ⟨w.heap.size + 1, 0, none⟩ = some (.bool false) ∧ X.cell? ⟨w.heap.size + 1, 1, none⟩ = some (.string sv) ∧ X.cell? ⟨w.heap.size + 1 + 1 + 1 + 1, 0, none⟩ = some (.bool false) ∧ X.cell? ⟨w.heap.size + 1 + 1 + 1 + 1, 1, none⟩ = some (.string ⟨#[]⟩))) (((W.setCell ⟨w.heap.size + 1 + 1, 0, none⟩ (.bool false)).setCell ⟨w.heap.size + 1 + 1, 1, none⟩ (.string sv)).drew) := ⟨cell2 b2 (by simp only; omega) (by simp only; omega), cell2 v0 (by simp only; omega) (by simp only; omega), cell2 v1 (by simp only; omega) (by simp only; omega), cell2 n0 (by simp only; omega) (by simp only; omega), cell2 n1 (by simp only; omega) (by simp only; omega)⟩
      have q0 : W.drew.cell? ⟨w.heap.size + 1 + 1, 0, none⟩ = some (.bool false) := r0
      have q1' : W.drew.cell? ⟨w.heap.size + 1 + 1, 1, none⟩ = some (.string ⟨#[]⟩) := r1
      have q2' : W.drew.cell? ⟨w.heap.size + 1 + 1 + 1, 0, none⟩ = some (.bool false) := t0
      have q3' : W.drew.cell? ⟨w.heap.size + 1 + 1 + 1, 1, none⟩ = some (.string ⟨#[]⟩) := t1
      have qf : ∀ j, W.drew.frozen? ⟨w.heap.size + 1 + 1, j, none⟩ = false := rf
      have qg : ∀ j, W.drew.frozen? ⟨w.heap.size + 1 + 1 + 1, j, none⟩ = false := tf
      refine tail.till_one 2 (by kernel_rfl) rfl (fun K hK => ?_)
      go_simp
      refine hK.out _ _ (fun _ => hS1) ?_
      clear hK K
      try simp only [Act.put, List.setIfInBounds_toArray, List.set_cons_zero, List.set_cons_succ]
      refine tail.till_one 3 (by kernel_rfl) rfl (fun K hK => ?_)
      go_simp
      refine hK.out _ _ (fun _ => hS1) ?_
      clear hK K
      try simp only [Act.put, List.setIfInBounds_toArray, List.set_cons_zero, List.set_cons_succ]
      refine tail.till_one 4 (by kernel_rfl) rfl (fun K hK => ?_)
      go_simp
      refine hK.out _ _ (fun h => absurd rfl h) ?_
      clear hK K
      try simp only [Act.put, List.setIfInBounds_toArray, List.set_cons_zero, List.set_cons_succ]
      refine tail.till_done (by kernel_rfl) ?_ _
      go_wp2_with fail
      refine bodyPost_ret (v := .tuple #[.agg #[.bool false, .string sv], .int .i64 2, .agg #[.bool false, .string sv]]) ?_ rfl ⟨?_, ?_⟩
      · rw [results_cell_tmp_cell rfl]; go_simp; first | done | rfl
      · have e1 := HHV.out
        have e2 := HSV.out
        cases v with
        | none => simp [hasV, strV] at e1 e2 <;> (try subst e2) <;> simp [stepP, swapO, vV, hasV, strV, q1, q2, q3] at *
        | some x => simp [hasV, strV] at e1 e2 <;> (try subst e2) <;> simp [stepP, swapO, vV, hasV, strV, q1, q2, q3] at *
      · refine below_drew ?_
        repeat (with_reducible refine Below.setCell ?_ (by simp only; omega) _)
        exact HB.out
  · cases hold
    · go_wp2_with fail
      have hS0 : (fun X : World => (X.cell? ⟨w.heap.size, 2, none⟩ = some (.string val) ∧ X.cell? ⟨w.heap.size + 1, 0, none⟩ = some (.bool true) ∧ X.cell? ⟨w.heap.size + 1, 1, none⟩ = some (.string sv) ∧ X.cell? ⟨w.heap.size + 1 + 1 + 1 + 1, 0, none⟩ = some (.bool false) ∧ X.cell? ⟨w.heap.size + 1 + 1 + 1 + 1, 1, none⟩ = some (.string ⟨#[]⟩))) W.drew := ⟨b2, v0, v1, n0, n1⟩
      refine tail.wp_region_till 4 (fun X : World => (X.cell? ⟨w.heap.size, 2, none⟩ = some (.string val) ∧ X.cell? ⟨w.heap.size + 1, 0, none⟩ = some (.bool true) ∧ X.cell? ⟨w.heap.size + 1, 1, none⟩ = some (.string sv) ∧ X.cell? ⟨w.heap.size + 1 + 1 + 1 + 1, 0, none⟩ = some (.bool false) ∧ X.cell? ⟨w.heap.size + 1 + 1 + 1 + 1, 1, none⟩ = some (.string ⟨#[]⟩))) (by kernel_rfl) ?_
      (refine tail.till_take 0 (v := ?_) rfl (by kernel_rfl) (by kernel_rfl) (by kernel_rfl) (by kernel_rfl) (by kernel_rfl) (fun _ _ _ h => h) (by rfl) (by assumption) ?_ ?_; rotate_left 1; (focus (intro X hX; obtain ⟨s0, s1, s2, s3, s4⟩ := hX; go_simp; with_reducible rfl)); (try simp only [Act.put, List.setIfInBounds_toArray, List.set_cons_zero, List.set_cons_succ]))
      (refine tail.till_take 1 (v := ?_) rfl (by kernel_rfl) (by kernel_rfl) (by kernel_rfl) (by kernel_rfl) (by kernel_rfl) (fun _ _ _ h => h) (by rfl) (by assumption) ?_ ?_; rotate_left 1; (focus (intro X hX; obtain ⟨s0, s1, s2, s3, s4⟩ := hX; go_simp; with_reducible rfl)); (try simp only [Act.put, List.setIfInBounds_toArray, List.set_cons_zero, List.set_cons_succ]))
      have hS1 : (fun X : World => (X.cell? ⟨w.heap.size, 2, none⟩ = some (.string val) ∧ X.cell? ⟨w.heap.size + 1, 0, none⟩ = some (.bool true) ∧ X.cell? ⟨w.heap.size + 1, 1, none⟩ = some (.string sv) ∧ X.cell? ⟨w.heap.size + 1 + 1 + 1 + 1, 0, none⟩ = some (.bool false) ∧ X.cell? ⟨w.heap.size + 1 + 1 + 1 + 1, 1, none⟩ = some (.string ⟨#[]⟩))) (((W.setCell ⟨w.heap.size + 1 + 1, 0, none⟩ (.bool true)).setCell ⟨w.heap.size + 1 + 1, 1, none⟩ (.string sv)).drew) := ⟨cell2 b2 (by simp only; omega) (by simp only; omega), cell2 v0 (by simp only; omega) (by simp only; omega), cell2 v1 (by simp only; omega) (by simp only; omega), cell2 n0 (by simp only; omega) (by simp only; omega), cell2 n1 (by simp only; omega) (by simp only; omega)⟩
      have q0 : W.drew.cell? ⟨w.heap.size + 1 + 1, 0, none⟩ = some (.bool false) := r0
      have q1' : W.drew.cell? ⟨w.heap.size + 1 + 1, 1, none⟩ = some (.string ⟨#[]⟩) := r1
      have q2' : W.drew.cell? ⟨w.heap.size + 1 + 1 + 1, 0, none⟩ = some (.bool false) := t0
      have q3' : W.drew.cell? ⟨w.heap.size + 1 + 1 + 1, 1, none⟩ = some (.string ⟨#[]⟩) := t1
      have qf : ∀ j, W.drew.frozen? ⟨w.heap.size + 1 + 1, j, none⟩ = false := rf
      have qg : ∀ j, W.drew.frozen? ⟨w.heap.size + 1 + 1 + 1, j, none⟩ = false := tf
      refine tail.till_one 2 (by kernel_rfl) rfl (fun K hK => ?_)
      go_simp
      refine hK.out _ _ (fun _ => hS1) ?_
      clear hK K
      try simp only [Act.put, List.setIfInBounds_toArray, List.set_cons_zero, List.set_cons_succ]
      refine tail.till_one 3 (by kernel_rfl) rfl (fun K hK => ?_)
      go_simp
      refine hK.out _ _ (fun _ => hS1) ?_
      clear hK K
      try simp only [Act.put, List.setIfInBounds_toArray, List.set_cons_zero, List.set_cons_succ]
      refine tail.till_one 4 (by kernel_rfl) rfl (fun K hK => ?_)
      go_simp
      refine hK.out _ _ (fun h => absurd rfl h) ?_
      clear hK K
      try simp only [Act.put, List.setIfInBounds_toArray, List.set_cons_zero, List.set_cons_succ]
      refine tail.till_done (by kernel_rfl) ?_ _
      go_wp2_with fail
      refine bodyPost_ret (v := .tuple #[.agg #[.bool true, .string sv], .int .i64 2, .agg #[.bool true, .string sv]]) ?_ rfl ⟨?_, ?_⟩
      · rw [results_cell_tmp_cell rfl]; go_simp; first | done | rfl
      · have e1 := HHV.out
        have e2 := HSV.out
        cases v with
        | none => simp [hasV, strV] at e1 e2 <;> (try subst e2) <;> simp [stepP, swapO, vV, hasV, strV, q1, q2, q3] at *
        | some x => simp [hasV, strV] at e1 e2 <;> (try subst e2) <;> simp [stepP, swapO, vV, hasV, strV, q1, q2, q3] at *
      · refine below_drew ?_
        repeat (with_reducible refine Below.setCell ?_ (by simp only; omega) _)
        exact HB.out
    · cases hxo : (sv.toList == old.toList)
      · go_wp2_with fail
        have hS0 : (fun X : World => (X.cell? ⟨w.heap.size, 2, none⟩ = some (.string val) ∧ X.cell? ⟨w.heap.size + 1, 0, none⟩ = some (.bool true) ∧ X.cell? ⟨w.heap.size + 1, 1, none⟩ = some (.string sv) ∧ X.cell? ⟨w.heap.size + 1 + 1 + 1 + 1, 0, none⟩ = some (.bool false) ∧ X.cell? ⟨w.heap.size + 1 + 1 + 1 + 1, 1, none⟩ = some (.string ⟨#[]⟩))) W.drew := ⟨b2, v0, v1, n0, n1⟩
        refine tail.wp_region_till 4 (fun X : World => (X.cell? ⟨w.heap.size, 2, none⟩ = some (.string val) ∧ X.cell? ⟨w.heap.size + 1, 0, none⟩ = some (.bool true) ∧ X.cell? ⟨w.heap.size + 1, 1, none⟩ = some (.string sv) ∧ X.cell? ⟨w.heap.size + 1 + 1 + 1 + 1, 0, none⟩ = some (.bool false) ∧ X.cell? ⟨w.heap.size + 1 + 1 + 1 + 1, 1, none⟩ = some (.string ⟨#[]⟩))) (by kernel_rfl) ?_
        (refine tail.till_take 0 (v := ?_) rfl (by kernel_rfl) (by kernel_rfl) (by kernel_rfl) (by kernel_rfl) (by kernel_rfl) (fun _ _ _ h => h) (by rfl) (by assumption) ?_ ?_; rotate_left 1; (focus (intro X hX; obtain ⟨s0, s1, s2, s3, s4⟩ := hX; go_simp; with_reducible rfl)); (try simp only [Act.put, List.setIfInBounds_toArray, List.set_cons_zero, List.set_cons_succ]))
        (refine tail.till_take 1 (v := ?_) rfl (by kernel_rfl) (by kernel_rfl) (by kernel_rfl) (by kernel_rfl) (by kernel_rfl) (fun _ _ _ h => h) (by rfl) (by assumption) ?_ ?_; rotate_left 1; (focus (intro X hX; obtain ⟨s0, s1, s2, s3, s4⟩ := hX; go_simp; with_reducible rfl)); (try simp only [Act.put, List.setIfInBounds_toArray, List.set_cons_zero, List.set_cons_succ]))
        have hS1 : (fun X : World => (X.cell? ⟨w.heap.size, 2, none⟩ = some (.string val) ∧ X.cell? ⟨w.heap.size + 1, 0, none⟩ = some (.bool true) ∧ X.cell? ⟨w.heap.size + 1, 1, none⟩ = some (.string sv) ∧ X.cell? ⟨w.heap.size + 1 + 1 + 1 + 1, 0, none⟩ = some (.bool false) ∧ X.cell? ⟨w.heap.size + 1 + 1 + 1 + 1, 1, none⟩ = some (.string ⟨#[]⟩))) (((W.setCell ⟨w.heap.size + 1 + 1, 0, none⟩ (.bool true)).setCell ⟨w.heap.size + 1 + 1, 1, none⟩ (.string sv)).drew) := ⟨cell2 b2 (by simp only; omega) (by simp only; omega), cell2 v0 (by simp only; omega) (by simp only; omega), cell2 v1 (by simp only; omega) (by simp only; omega), cell2 n0 (by simp only; omega) (by simp only; omega), cell2 n1 (by simp only; omega) (by simp only; omega)⟩
        have q0 : W.drew.cell? ⟨w.heap.size + 1 + 1, 0, none⟩ = some (.bool false) := r0
        have q1' : W.drew.cell? ⟨w.heap.size + 1 + 1, 1, none⟩ = some (.string ⟨#[]⟩) := r1
        have q2' : W.drew.cell? ⟨w.heap.size + 1 + 1 + 1, 0, none⟩ = some (.bool false) := t0
        have q3' : W.drew.cell? ⟨w.heap.size + 1 + 1 + 1, 1, none⟩ = some (.string ⟨#[]⟩) := t1
        have qf : ∀ j, W.drew.frozen? ⟨w.heap.size + 1 + 1, j, none⟩ = false := rf
        have qg : ∀ j, W.drew.frozen? ⟨w.heap.size + 1 + 1 + 1, j, none⟩ = false := tf
        refine tail.till_one 2 (by kernel_rfl) rfl (fun K hK => ?_)
        go_simp
        refine hK.out _ _ (fun _ => hS1) ?_
        clear hK K
        try simp only [Act.put, List.setIfInBounds_toArray, List.set_cons_zero, List.set_cons_succ]
        refine tail.till_one 3 (by kernel_rfl) rfl (fun K hK => ?_)
        go_simp
        refine hK.out _ _ (fun _ => hS1) ?_
        clear hK K
        try simp only [Act.put, List.setIfInBounds_toArray, List.set_cons_zero, List.set_cons_succ]
        refine tail.till_one 4 (by kernel_rfl) rfl (fun K hK => ?_)
        go_simp
        refine hK.out _ _ (fun h => absurd rfl h) ?_
        clear hK K
        try simp only [Act.put, List.setIfInBounds_toArray, List.set_cons_zero, List.set_cons_succ]
        refine tail.till_done (by kernel_rfl) ?_ _
        go_wp2_with fail
        refine bodyPost_ret (v := .tuple #[.agg #[.bool true, .string sv], .int .i64 2, .agg #[.bool true, .string sv]]) ?_ rfl ⟨?_, ?_⟩
        · rw [results_cell_tmp_cell rfl]; go_simp; first | done | rfl
        · have e1 := HHV.out
          have e2 := HSV.out
          cases v with
          | none => simp [hasV, strV] at e1 e2 <;> (try subst e2) <;> simp [stepP, swapO, vV, hasV, strV, q1, q2, q3, hxo] at *
          | some x => simp [hasV, strV] at e1 e2 <;> (try subst e2) <;> simp [stepP, swapO, vV, hasV, strV, q1, q2, q3, hxo] at *
        · refine below_drew ?_
          repeat (with_reducible refine Below.setCell ?_ (by simp only; omega) _)
          exact HB.out
      · go_wp2_with fail
        have hS0 : (fun X : World => (X.cell? ⟨w.heap.size, 2, none⟩ = some (.string val) ∧ X.cell? ⟨w.heap.size + 1, 0, none⟩ = some (.bool true) ∧ X.cell? ⟨w.heap.size + 1, 1, none⟩ = some (.string sv) ∧ X.cell? ⟨w.heap.size + 1 + 1 + 1 + 1, 0, none⟩ = some (.bool false) ∧ X.cell? ⟨w.heap.size + 1 + 1 + 1 + 1, 1, none⟩ = some (.string ⟨#[]⟩))) W.drew := ⟨b2, v0, v1, n0, n1⟩
        refine tail.wp_region_till 6 (fun X : World => (X.cell? ⟨w.heap.size, 2, none⟩ = some (.string val) ∧ X.cell? ⟨w.heap.size + 1, 0, none⟩ = some (.bool true) ∧ X.cell? ⟨w.heap.size + 1, 1, none⟩ = some (.string sv) ∧ X.cell? ⟨w.heap.size + 1 + 1 + 1 + 1, 0, none⟩ = some (.bool false) ∧ X.cell? ⟨w.heap.size + 1 + 1 + 1 + 1, 1, none⟩ = some (.string ⟨#[]⟩))) (by kernel_rfl) ?_
        (refine tail.till_take 0 (v := ?_) rfl (by kernel_rfl) (by kernel_rfl) (by kernel_rfl) (by kernel_rfl) (by kernel_rfl) (fun _ _ _ h => h) (by rfl) (by assumption) ?_ ?_; rotate_left 1; (focus (intro X hX; obtain ⟨s0, s1, s2, s3, s4⟩ := hX; go_simp; with_reducible rfl)); (try simp only [Act.put, List.setIfInBounds_toArray, List.set_cons_zero, List.set_cons_succ]))
        (refine tail.till_take 1 (v := ?_) rfl (by kernel_rfl) (by kernel_rfl) (by kernel_rfl) (by kernel_rfl) (by kernel_rfl) (fun _ _ _ h => h) (by rfl) (by assumption) ?_ ?_; rotate_left 1; (focus (intro X hX; obtain ⟨s0, s1, s2, s3, s4⟩ := hX; go_simp; with_reducible rfl)); (try simp only [Act.put, List.setIfInBounds_toArray, List.set_cons_zero, List.set_cons_succ]))
        (refine tail.till_take 2 (v := ?_) rfl (by kernel_rfl) (by kernel_rfl) (by kernel_rfl) (by kernel_rfl) (by kernel_rfl) (fun _ _ _ h => h) (by rfl) (by assumption) ?_ ?_; rotate_left 1; (focus (intro X hX; obtain ⟨s0, s1, s2, s3, s4⟩ := hX; go_simp; with_reducible rfl)); (try simp only [Act.put, List.setIfInBounds_toArray, List.set_cons_zero, List.set_cons_succ]))
        (refine tail.till_take 3 (v := ?_) rfl (by kernel_rfl) (by kernel_rfl) (by kernel_rfl) (by kernel_rfl) (by kernel_rfl) (fun _ _ _ h => h) (by rfl) (by assumption) ?_ ?_; rotate_left 1; (focus (intro X hX; obtain ⟨s0, s1, s2, s3, s4⟩ := hX; go_simp; with_reducible rfl)); (try simp only [Act.put, List.setIfInBounds_toArray, List.set_cons_zero, List.set_cons_succ]))
        have hS1 : (fun X : World => (X.cell? ⟨w.heap.size, 2, none⟩ = some (.string val) ∧ X.cell? ⟨w.heap.size + 1, 0, none⟩ = some (.bool true) ∧ X.cell? ⟨w.heap.size + 1, 1, none⟩ = some (.string sv) ∧ X.cell? ⟨w.heap.size + 1 + 1 + 1 + 1, 0, none⟩ = some (.bool false) ∧ X.cell? ⟨w.heap.size + 1 + 1 + 1 + 1, 1, none⟩ = some (.string ⟨#[]⟩))) (((W.setCell ⟨w.heap.size + 1 + 1, 0, none⟩ (.bool true)).setCell ⟨w.heap.size + 1 + 1, 1, none⟩ (.string val)).drew) := ⟨cell2 b2 (by simp only; omega) (by simp only; omega), cell2 v0 (by simp only; omega) (by simp only; omega), cell2 v1 (by simp only; omega) (by simp only; omega), cell2 n0 (by simp only; omega) (by simp only; omega), cell2 n1 (by simp only; omega) (by simp only; omega)⟩
        have q0 : W.drew.cell? ⟨w.heap.size + 1 + 1, 0, none⟩ = some (.bool false) := r0
        have q1' : W.drew.cell? ⟨w.heap.size + 1 + 1, 1, none⟩ = some (.string ⟨#[]⟩) := r1
        have q2' : W.drew.cell? ⟨w.heap.size + 1 + 1 + 1, 0, none⟩ = some (.bool false) := t0
        have q3' : W.drew.cell? ⟨w.heap.size + 1 + 1 + 1, 1, none⟩ = some (.string ⟨#[]⟩) := t1
        have qf : ∀ j, W.drew.frozen? ⟨w.heap.size + 1 + 1, j, none⟩ = false := rf
        have qg : ∀ j, W.drew.frozen? ⟨w.heap.size + 1 + 1 + 1, j, none⟩ = false := tf
        refine tail.till_one 4 (by kernel_rfl) rfl (fun K hK => ?_)
        go_simp
        refine hK.out _ _ (fun _ => hS1) ?_
        clear hK K
        try simp only [Act.put, List.setIfInBounds_toArray, List.set_cons_zero, List.set_cons_succ]
        refine tail.till_one 5 (by kernel_rfl) rfl (fun K hK => ?_)
        go_simp
        refine hK.out _ _ (fun _ => hS1) ?_
        clear hK K
        try simp only [Act.put, List.setIfInBounds_toArray, List.set_cons_zero, List.set_cons_succ]
        refine tail.till_one 6 (by kernel_rfl) rfl (fun K hK => ?_)
        go_simp
        refine hK.out _ _ (fun h => absurd rfl h) ?_
        clear hK K
        try simp only [Act.put, List.setIfInBounds_toArray, List.set_cons_zero, List.set_cons_succ]
        refine tail.till_done (by kernel_rfl) ?_ _
        go_wp2_with fail
        refine bodyPost_ret (v := .tuple #[.agg #[.bool true, .string val], .int .i64 0, .agg #[.bool false, .string ⟨#[]⟩]]) ?_ rfl ⟨?_, ?_⟩
        · rw [results_cell_tmp_cell rfl]; go_simp; first | done | rfl
        · have e1 := HHV.out
          have e2 := HSV.out
          cases v with
          | none => simp [hasV, strV] at e1 e2 <;> (try subst e2) <;> simp [stepP, swapO, vV, hasV, strV, q1, q2, q3, hxo] at *
          | some x => simp [hasV, strV] at e1 e2 <;> (try subst e2) <;> simp [stepP, swapO, vV, hasV, strV, q1, q2, q3, hxo] at *
        · refine below_drew ?_
          repeat (with_reducible refine Below.setCell ?_ (by simp only; omega) _)
          exact HB.out
end Go.Proofs.Ytabjkmennijaeaa.hs

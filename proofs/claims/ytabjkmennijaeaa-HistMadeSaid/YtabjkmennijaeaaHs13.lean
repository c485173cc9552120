/- slices.Sort and slices.Compact at two equal strings. -/
import Derived.Test.YtabjkmennijaeaaHs12
namespace Go.Proofs.Ytabjkmennijaeaa.hs
open Go.RowKit Go.Proofs.Ytabjkmennijaeaa.lib Go.Proofs.Ytabjkmennijaeaa.byt
set_option linter.unusedVariables false
set_option linter.unusedSimpArgs false

theorem isNaN_str (w : World) (s : ByteArray) : Calls Try.prog 38 #[.string s] w fun e w' => e = .returned (.bool false) ∧ w = w' := by
  go_enter Try.func38, Try.ntmps38
  go_wp2_with fail
  go_ret
  exact ⟨by simp, rfl⟩
theorem less_self : ∀ l, Op.bytesLess l l = false
  | [] => rfl
  | b :: l => by
    unfold Op.bytesLess
    simp [less_self l]
theorem less_same (w : World) (s : ByteArray) : Calls Try.prog 28 #[.string s, .string s] w fun e w' => e = .returned (.bool false) ∧ w = w' := by
  go_enter Try.func28, Try.ntmps28
  go_wp2_with fail
  refine (isNaN_str w s).mono ?_
  rintro e w1 ⟨rfl, rfl⟩
  go_wp2_with fail
  go_ret
  exact ⟨by simp [less_self], rfl⟩
set_option maxRecDepth 30000 in
theorem len64_two (w : World) : Calls Try.prog 32 #[.int .u64 2] w fun e w' => e = .returned (.int .i64 2) ∧ w = w' := by
  go_enter Try.func32, Try.ntmps32
  go_wp2_with fail
  go_ret
  exact ⟨by kernel_rfl, rfl⟩
theorem len_two (w : World) : Calls Try.prog 21 #[.int .u64 2] w fun e w' => e = .returned (.int .i64 2) ∧ w = w' := by
  go_enter Try.func21, Try.ntmps21
  go_wp2_with fail
  refine (len64_two w).mono ?_
  rintro e w1 ⟨rfl, rfl⟩
  go_wp2_with fail
  go_ret
  exact ⟨by simp, rfl⟩
set_option maxHeartbeats 1000000 in
theorem insertion_two (w : World) (g c : Nat) (s : ByteArray) (h0 : w.cell? ⟨g, 0, none⟩ = some (.string s)) (h1 : w.cell? ⟨g, 1, none⟩ = some (.string s)) :
    Calls Try.prog 22 #[.slice (some ⟨g, 0, none⟩) 2 c, .int .i64 0, .int .i64 2] w fun e w' => (∃ v, e = .returned v) ∧ Below w.heap.size w w' := by
  go_enter Try.func22, Try.ntmps22
  have H0 := Lib.hid h0
  have H1 := Lib.hid h1
  clear h0 h1
  go_wp2_with fail
  go_loopw [6] (fun vi wr => ∃ i : Nat, (i = 1 ∨ i = 2) ∧ vi = .int .i64 i ∧ Hid (Below w.heap.size w wr)) (fun vi _ => 2 - (intOf vi).toNat)
  case atStart => exact ⟨1, .inl rfl, rfl, Lib.hid (Below.refl _ _)⟩
  case round =>
    obtain ⟨i, hi, rfl, HB⟩ := hrel
    rcases hi with rfl | rfl
    · go_wp2_with fail
      go_loopw [7] (fun vi wr => vi = .int .i64 1 ∧ Hid (Below w.heap.size w wr)) (fun vi _ => 0)
      case atStart => exact ⟨rfl, HB⟩
      case round =>
        clear HB
        obtain ⟨rfl, HB⟩ := hrel
        have s0 := keepc H0.out HB.out
        have s1 := keepc H1.out HB.out
        go_wp2_with fail
        have hS0 : (fun X : World => (X.cell? ⟨g, 0, none⟩ = some (.string s) ∧ X.cell? ⟨g, 1, none⟩ = some (.string s))) wr.drew := ⟨s0, s1⟩
        have HB2 := Lib.hid (below_drew HB.out)
        clear s0 s1
        refine tail.wp_region_till 14 (fun X : World => (X.cell? ⟨g, 0, none⟩ = some (.string s) ∧ X.cell? ⟨g, 1, none⟩ = some (.string s))) (by kernel_rfl) ?_
        (refine tail.till_take 0 (v := ?_) rfl (by kernel_rfl) (by kernel_rfl) (by kernel_rfl) (by kernel_rfl) (by kernel_rfl) (fun _ _ _ h => h) (by rfl) (by assumption) ?_ ?_; rotate_left 1; (focus (intro X hX; obtain ⟨s0, s1⟩ := hX; go_simp; with_reducible rfl)); (try simp only [Act.put, List.setIfInBounds_toArray, List.set_cons_zero, List.set_cons_succ]))
        (refine tail.till_take 1 (v := ?_) rfl (by kernel_rfl) (by kernel_rfl) (by kernel_rfl) (by kernel_rfl) (by kernel_rfl) (fun _ _ _ h => h) (by rfl) (by assumption) ?_ ?_; rotate_left 1; (focus (intro X hX; obtain ⟨s0, s1⟩ := hX; go_simp; with_reducible rfl)); (try simp only [Act.put, List.setIfInBounds_toArray, List.set_cons_zero, List.set_cons_succ]))
        (refine tail.till_take 2 (v := ?_) rfl (by kernel_rfl) (by kernel_rfl) (by kernel_rfl) (by kernel_rfl) (by kernel_rfl) (fun _ _ _ h => h) (by rfl) (by assumption) ?_ ?_; rotate_left 1; (focus (intro X hX; obtain ⟨s0, s1⟩ := hX; go_simp; with_reducible rfl)); (try simp only [Act.put, List.setIfInBounds_toArray, List.set_cons_zero, List.set_cons_succ]))
        (refine tail.till_take 3 (v := ?_) rfl (by kernel_rfl) (by kernel_rfl) (by kernel_rfl) (by kernel_rfl) (by kernel_rfl) (fun _ _ _ h => h) (by rfl) (by assumption) ?_ ?_; rotate_left 1; (focus (intro X hX; obtain ⟨s0, s1⟩ := hX; go_simp; with_reducible rfl)); (try simp only [Act.put, List.setIfInBounds_toArray, List.set_cons_zero, List.set_cons_succ]))
        (refine tail.till_take 4 (v := ?_) rfl (by kernel_rfl) (by kernel_rfl) (by kernel_rfl) (by kernel_rfl) (by kernel_rfl) (fun _ _ _ h => h) (by rfl) (by assumption) ?_ ?_; rotate_left 1; (focus (intro X hX; obtain ⟨s0, s1⟩ := hX; go_simp; with_reducible rfl)); (try simp only [Act.put, List.setIfInBounds_toArray, List.set_cons_zero, List.set_cons_succ]))
        (refine tail.till_take 5 (v := ?_) rfl (by kernel_rfl) (by kernel_rfl) (by kernel_rfl) (by kernel_rfl) (by kernel_rfl) (fun _ _ _ h => h) (by rfl) (by assumption) ?_ ?_; rotate_left 1; (focus (intro X hX; obtain ⟨s0, s1⟩ := hX; go_simp; with_reducible rfl)); (try simp only [Act.put, List.setIfInBounds_toArray, List.set_cons_zero, List.set_cons_succ]))
        (refine tail.till_take 6 (v := ?_) rfl (by kernel_rfl) (by kernel_rfl) (by kernel_rfl) (by kernel_rfl) (by kernel_rfl) (fun _ _ _ h => h) (by rfl) (by assumption) ?_ ?_; rotate_left 1; (focus (intro X hX; obtain ⟨s0, s1⟩ := hX; go_simp; with_reducible rfl)); (try simp only [Act.put, List.setIfInBounds_toArray, List.set_cons_zero, List.set_cons_succ]))
        (refine tail.till_take 7 (v := ?_) rfl (by kernel_rfl) (by kernel_rfl) (by kernel_rfl) (by kernel_rfl) (by kernel_rfl) (fun _ _ _ h => h) (by rfl) (by assumption) ?_ ?_; rotate_left 1; (focus (intro X hX; obtain ⟨s0, s1⟩ := hX; go_simp; with_reducible rfl)); (try simp only [Act.put, List.setIfInBounds_toArray, List.set_cons_zero, List.set_cons_succ]))
        (refine tail.till_take 8 (v := ?_) rfl (by kernel_rfl) (by kernel_rfl) (by kernel_rfl) (by kernel_rfl) (by kernel_rfl) (fun _ _ _ h => h) (by rfl) (by assumption) ?_ ?_; rotate_left 1; (focus (intro X hX; obtain ⟨s0, s1⟩ := hX; go_simp; with_reducible rfl)); (try simp only [Act.put, List.setIfInBounds_toArray, List.set_cons_zero, List.set_cons_succ]))
        (refine tail.till_take 9 (v := ?_) rfl (by kernel_rfl) (by kernel_rfl) (by kernel_rfl) (by kernel_rfl) (by kernel_rfl) (fun _ _ _ h => h) (by rfl) (by assumption) ?_ ?_; rotate_left 1; (focus (intro X hX; obtain ⟨s0, s1⟩ := hX; go_simp; with_reducible rfl)); (try simp only [Act.put, List.setIfInBounds_toArray, List.set_cons_zero, List.set_cons_succ]))
        (refine tail.till_take 10 (v := ?_) rfl (by kernel_rfl) (by kernel_rfl) (by kernel_rfl) (by kernel_rfl) (by kernel_rfl) (fun _ _ _ h => h) (by rfl) (by assumption) ?_ ?_; rotate_left 1; (focus (intro X hX; obtain ⟨s0, s1⟩ := hX; go_simp; with_reducible rfl)); (try simp only [Act.put, List.setIfInBounds_toArray, List.set_cons_zero, List.set_cons_succ]))
        rw [show IntKind.i64.wrap 0 = 0 from by decide]
        (refine tail.till_take 11 (v := ?_) rfl (by kernel_rfl) (by kernel_rfl) (by kernel_rfl) (by kernel_rfl) (by kernel_rfl) (fun _ _ _ h => h) (by rfl) (by assumption) ?_ ?_; rotate_left 1; (focus (intro X hX; obtain ⟨s0, s1⟩ := hX; go_simp; with_reducible rfl)); (try simp only [Act.put, List.setIfInBounds_toArray, List.set_cons_zero, List.set_cons_succ]))
        (refine tail.till_take 12 (v := ?_) rfl (by kernel_rfl) (by kernel_rfl) (by kernel_rfl) (by kernel_rfl) (by kernel_rfl) (fun _ _ _ h => h) (by rfl) (by assumption) ?_ ?_; rotate_left 1; (focus (intro X hX; obtain ⟨s0, s1⟩ := hX; go_simp; with_reducible rfl)); (try simp only [Act.put, List.setIfInBounds_toArray, List.set_cons_zero, List.set_cons_succ]))
        refine tail.till_one 13 (by kernel_rfl) rfl (fun K hK => ?_)
        go_simp
        go_at_call 28
        refine (less_same wr.drew s).mono ?_
        rintro e6 w6 ⟨rfl, rfl⟩
        refine hK.out _ _ (fun _ => hS0) ?_
        clear hK K
        try simp only [Act.put, List.setIfInBounds_toArray, List.set_cons_zero, List.set_cons_succ]
        refine tail.till_one 14 (by kernel_rfl) rfl (fun K hK => ?_)
        go_simp
        refine hK.out _ _ (fun h => absurd rfl h) ?_
        clear hK K
        try simp only [Act.put, List.setIfInBounds_toArray, List.set_cons_zero, List.set_cons_succ]
        refine tail.till_done (by kernel_rfl) ?_ _
        go_wp2_with fail
        go_roundw
        case rel => exact ⟨2, .inr rfl, by go_num, HB2⟩
        case measure => simp [intOf] <;> omega
    · go_wp2_with fail
      refine bodyPost_end (results_none rfl _ _ _) rfl ?_
      exact ⟨⟨_, rfl⟩, HB.out⟩
set_option maxHeartbeats 1000000 in
theorem pdq_two (w : World) (g c : Nat) (s : ByteArray) (lim : Int) (h0 : w.cell? ⟨g, 0, none⟩ = some (.string s)) (h1 : w.cell? ⟨g, 1, none⟩ = some (.string s)) :
    Calls Try.prog 20 #[.slice (some ⟨g, 0, none⟩) 2 c, .int .i64 0, .int .i64 2, .int .i64 lim] w fun e w' => (∃ v, e = .returned v) ∧ Below w.heap.size w w' := by
  go_enter Try.func20, Try.ntmps20
  have H0 := Lib.hid h0
  have H1 := Lib.hid h1
  clear h0 h1
  go_wp2_with fail
  go_loopw [1, 2] (fun va vb wr => va = .int .i64 0 ∧ vb = .int .i64 2 ∧ wr = w) (fun va vb _ => 0)
  case atStart => exact ⟨rfl, rfl, rfl⟩
  case round =>
    obtain ⟨rfl, rfl, rfl⟩ := hrel
    go_wp2_with fail
    refine (insertion_two wr g c s H0.out H1.out).mono ?_
    rintro e w6 ⟨⟨v, rfl⟩, hb⟩
    have HB := Lib.hid hb
    clear hb
    go_wp2_with fail
    refine bodyPost_ret (results_none rfl _ _ _) rfl ?_
    exact ⟨⟨_, rfl⟩, HB.out⟩
theorem sort_two (w : World) (g c : Nat) (s : ByteArray) (h0 : w.cell? ⟨g, 0, none⟩ = some (.string s)) (h1 : w.cell? ⟨g, 1, none⟩ = some (.string s)) :
    Calls Try.prog 16 #[.slice (some ⟨g, 0, none⟩) 2 c] w fun e w' => (∃ v, e = .returned v) ∧ Below w.heap.size w w' := by
  go_enter Try.func16, Try.ntmps16
  have H0 := Lib.hid h0
  have H1 := Lib.hid h1
  clear h0 h1
  go_wp2_with fail
  refine (len_two w).mono ?_
  rintro e w1 ⟨rfl, rfl⟩
  go_wp2_with fail
  refine (pdq_two w g c s 2 H0.out H1.out).mono ?_
  rintro e w6 ⟨⟨v, rfl⟩, hb⟩
  have HB := Lib.hid hb
  clear hb
  go_wp2_with fail
  refine bodyPost_end (results_none rfl _ _ _) rfl ?_
  exact ⟨⟨_, rfl⟩, HB.out⟩
set_option maxHeartbeats 1000000 in
theorem compact_two (w : World) (B g c : Nat) (s : ByteArray) (cur : Array Value) (t : TypeId) (hh : w.heap[g]? = some (.cells cur t (0, 0))) (hB : B ≤ g) (hc : 2 ≤ c) (h0 : w.cell? ⟨g, 0, none⟩ = some (.string s)) (h1 : w.cell? ⟨g, 1, none⟩ = some (.string s)) :
    Calls Try.prog 17 #[.slice (some ⟨g, 0, none⟩) 2 c] w fun e w' => e = .returned (.slice (some ⟨g, 0, none⟩) 1 c) ∧ Below B w w' := by
  go_enter Try.func17, Try.ntmps17
  have hc1 : ¬ c = 1 := by omega
  have H0 := Lib.hid h0
  have H1 := Lib.hid h1
  have HH := Lib.hid hh
  have hf : ∀ j, w.frozen? ⟨g, j, none⟩ = false := fun j => frozen_of_row _ _ j _ _ hh
  have HF := Lib.hid hf
  clear hh h0 h1 hf
  go_wp2_with fail
  go_loopw [3] (fun va wr => va = .int .i64 1 ∧ wr = w) (fun va _ => 0)
  case atStart => exact ⟨rfl, rfl⟩
  case round =>
    obtain ⟨rfl, rfl⟩ := hrel
    have s0 := H0.out
    have s1 := H1.out
    go_wp2_with fail
    go_quiet (fail)
    go_wp2_with fail
    have HB0 := Lib.hid (show Below B wr (wr.drewN nq) from below_drewN (Below.refl _ _) nq)
    have z0 : (wr.drewN nq).cell? ⟨g, 0, none⟩ = some (.string s) := s0
    have z1 : (wr.drewN nq).cell? ⟨g, 1, none⟩ = some (.string s) := s1
    have hf2 : ∀ j, (wr.drewN nq).frozen? ⟨g, j, none⟩ = false := HF.out
    have HF2 := Lib.hid hf2
    have Z1 := Lib.hid z1
    clear s0 s1 H0 H1 HF HH z0 z1 hf2
    generalize wr.drewN nq = W at HB0 HF2 Z1 ⊢
    go_loopw [3, 5] (fun vt vk wr2 => vt = .int .i64 1 ∧ vk = .int .i64 1 ∧ Hid (wr2 = W)) (fun _ _ _ => 0)
    case atStart => exact ⟨rfl, rfl, Lib.hid rfl⟩
    case round =>
      obtain ⟨rfl, rfl, HW⟩ := hrel
      have hW := HW.out
      subst hW
      have hcl : ∀ ty, (Builtin.clear_ #[40] ty #[.slice (some ⟨g, 1, none⟩) 1 (c - 1)]).run Try.prog wr = .ok (.tuple #[]) (wr.setCells g 1 (List.replicate 1 (.string ByteArray.empty))) :=
        fun ty => Lib.run_clear_slice (P := Try.prog) wr 40 9 ty (.string ByteArray.empty) Try.underlying40 (fun w => by first | rfl | simp [go_sem]) rfl rfl g 1 1 (c - 1) (by omega)
          (by intro j hj; have hj0 : j = 0 := by omega
              subst hj0; rw [show 1 + 0 = 1 from rfl, Z1.out]; rfl) (fun j hj => HF2.out _)
      go_wp2_with fail
      go_ret
      exact ⟨rfl, by first | exact HB0.out.setCell (p := ⟨g, 1, none⟩) hB _ | (simp only [World.setCells, List.replicate]; exact HB0.out.setCell (p := ⟨g, 1, none⟩) hB _)⟩
theorem grown_below {w w' : World} {B : Nat} {e : TypeId} {size n c : Nat} {A : Option Addr} {xs : List Value} (ho : w.ownsRow B e size (.slice A n c) n xs) (hg : w.grownBy w' (bl A)) (hB : B ≤ w.heap.size) : Below B w w' := by
  refine ⟨hg.os, hg.tape, hg.output, hg.size, fun b hb => hg.block b (by omega) fun h => ?_⟩
  obtain ⟨-, ho⟩ := ho
  rcases ho with ⟨h2, -⟩ | ⟨g, cap, cur, hv, hgB, -⟩
  · injection h2 with h2 _ _
    subst h2
    cases h
  · injection hv with h2 _ _
    subst h2
    have h3 : some b = some g := h
    injection h3 with h3
    omega
set_option maxHeartbeats 1000000 in
theorem keys_two (w : World) {A : Option Addr} {c : Nat} {L : List Dn} {s : ByteArray} (hL : L.length = 2) (hs : ∀ d ∈ L, d.key = s ∧ keyK d.kind = true) (hr : RdD w w.heap.size A L) :
    Calls Try.prog 9 #[.slice A 2 c] w fun e w' => (∃ g c', e = .returned (.slice (some ⟨g, 0, none⟩) 1 c')) ∧ Below w.heap.size w w' := by
  have HN := Lib.hid hL
  have HR := Lib.hid hr
  have HS := Lib.hid hs
  clear hL hr hs
  go_enter Try.func9, Try.ntmps9
  go_wp2_with fail
  go_loopw [3, 8] (fun vo vi wr => ∃ (k : Nat) (Ao : Option Addr) (co : Nat), k ≤ 2 ∧ vi = .int .i64 k ∧ vo = .slice Ao k co ∧ Hid (wr.ownsRow w.heap.size 9 1 (.slice Ao k co) k (List.replicate k (.string s))) ∧ Hid (Below w.heap.size w wr)) (fun _ vi _ => 2 - (intOf vi).toNat)
  case atStart => exact ⟨0, none, 0, Nat.zero_le _, rfl, rfl, Lib.hid (World.ownsRow_nil _ _ _ _), Lib.hid (Below.refl _ _)⟩
  case round =>
    obtain ⟨k, Ao, co, hk, rfl, rfl, HO, HB⟩ := hrel
    by_cases hlt : k < 2
    · have hkl : k < L.length := by rw [HN.out]; exact hlt
      obtain ⟨ad, rfl, -, hc⟩ := RdD.at_ (w := wr) (HR.out.below HB.out) hkl
      obtain ⟨d, hd⟩ : ∃ d, d = L[k] := ⟨_, rfl⟩
      rw [← hd] at hc
      have HD := Lib.hid (HS.out d (by rw [hd]; exact List.getElem_mem hkl))
      obtain ⟨k0, k1, k2, k3, k4, k5, k6, k7, k8, k9, k10, k11, k12, k13, k14⟩ := hc.all
      have hi0 : (0 : Int) ≤ k := by omega
      have hi1 : (k : Int) < 2 := by omega
      have hbA : Below wr.heap.size wr (wr.alloc (.cells #[.int .i64 0, .int .i64 0, .int .i64 0, .int .i64 0, .int .i64 (d).kind, .string (d).key, .string (d).val, .string (d).old, .bool (d).hold, .int .i64 (d).fr, .int .i64 (d).to, .int .i64 (d).code, .string (d).rv, .bool (d).has, .complex .f64 0 0] 36)) := (Below.refl _ _).alloc (Nat.le_refl _) _
      have hrow := heap_alloc_new wr (.cells #[.int .i64 0, .int .i64 0, .int .i64 0, .int .i64 0, .int .i64 (d).kind, .string (d).key, .string (d).val, .string (d).old, .bool (d).hold, .int .i64 (d).fr, .int .i64 (d).to, .int .i64 (d).code, .string (d).rv, .bool (d).has, .complex .f64 0 0] 36)
      have z : ∀ j, (wr.alloc (.cells #[.int .i64 0, .int .i64 0, .int .i64 0, .int .i64 0, .int .i64 (d).kind, .string (d).key, .string (d).val, .string (d).old, .bool (d).hold, .int .i64 (d).fr, .int .i64 (d).to, .int .i64 (d).code, .string (d).rv, .bool (d).has, .complex .f64 0 0] 36)).cell? ⟨wr.heap.size, j, none⟩ = (dnL d)[j]? := fun j => by rw [cell_of_row _ _ _ _ _ (0, 0) hrow]; simp [dnL]
      have z4 := z 4
      have z5 := z 5
      simp only [dnL, List.getElem?_cons_succ, List.getElem?_cons_zero] at z4 z5
      have HBA := Lib.hid hbA
      have HO2 := Lib.hid (own_below HO.out HBA.out (Nat.le_refl _))
      have HB2 := Lib.hid (HB.out.trans (HBA.out.mono HB.out.size))
      clear hc hd hkl hrow z hbA HO HB
      go_wp2_with (rw [store_cx]; go_simp)
      clear k0 k1 k2 k3 k4 k5 k6 k7 k8 k9 k10 k11 k12 k13 k14 HBA
      generalize wr.alloc (.cells #[.int .i64 0, .int .i64 0, .int .i64 0, .int .i64 0, .int .i64 (d).kind, .string (d).key, .string (d).val, .string (d).old, .bool (d).hold, .int .i64 (d).fr, .int .i64 (d).to, .int .i64 (d).code, .string (d).rv, .bool (d).has, .complex .f64 0 0] 36) = W at z4 z5 HO2 HB2 ⊢
      rw [HD.out.1] at z5
      refine (ofKey_any W d.kind).mono ?_
      rintro e w2 ⟨rfl, rfl⟩
      rw [HD.out.2]
      obtain ⟨A9, c9, w9, hrun, ho9, hg9, hnew9⟩ := append_string W w.heap.size HO2.out (.string s) rfl (by omega) HB2.out.size
      have hrow9 : List.replicate (k + 1) (Value.string s) = List.replicate k (.string s) ++ [.string s] := by rw [List.replicate_succ']
      have HO9 := Lib.hid (show w9.ownsRow w.heap.size 9 1 (.slice A9 (k + 1) c9) (k + 1) (List.replicate (k + 1) (.string s)) from by rw [hrow9]; exact ho9)
      have HB9 := Lib.hid (HB2.out.trans (grown_below HO2.out hg9 HB2.out.size))
      clear ho9 hg9 hnew9 hrow9
      go_wp2_with (at_builtin; refine wpList_append_run rfl rfl rfl rfl hrun ?_; clear hrun)
      go_roundw
      case rel => exact ⟨k + 1, A9, c9, by omega, by go_num, rfl, HO9, HB9⟩
      case measure => simp [intOf] <;> omega
    · obtain rfl : k = 2 := by omega
      obtain ⟨hlen, h⟩ := HO.out
      rcases h with ⟨-, h⟩ | ⟨g, cap, cur, hv, hgB, hh, hcap, -, hsz, htk⟩
      · omega
      · injection hv with e1 e2 e3
        subst e1
        subst e3
        have hcell : ∀ j, j < 2 → wr.cell? ⟨g, j, none⟩ = some (.string s) := fun j hj => by
          rw [cell_of_row _ _ _ _ _ (0, 0) hh]
          have : (cur.toList.take (2 * 1))[j]? = some (Value.string s) := by rw [htk, List.getElem?_replicate, if_pos hj]
          rw [List.getElem?_take_of_lt (by omega)] at this
          simpa using this
        have HC := Lib.hid hcell
        have HH := Lib.hid hh
        clear hcell hh htk hlen
        go_wp2_with fail
        refine (sort_two wr g co s (HC.out 0 (by omega)) (HC.out 1 (by omega))).mono ?_
        rintro e w2 ⟨⟨v, rfl⟩, hb2⟩
        have HB2 := Lib.hid (HB.out.trans (hb2.mono HB.out.size))
        have hgs : g < wr.heap.size := (Array.getElem?_eq_some_iff.1 HH.out).1
        have HH2 := Lib.hid ((hb2.block g hgs).trans HH.out)
        have HC2 := Lib.hid (show ∀ j, j < 2 → w2.cell? ⟨g, j, none⟩ = some (.string s) from fun j hj => keepc (HC.out j hj) hb2)
        clear hb2 hgs
        go_wp2_with fail
        refine (compact_two w2 w.heap.size g co s cur _ HH2.out hgB (by omega) (HC2.out 0 (by omega)) (HC2.out 1 (by omega))).mono ?_
        rintro e w3 ⟨rfl, hb3⟩
        have HB3 := Lib.hid (HB2.out.trans hb3)
        clear hb3
        go_wp2_with fail
        go_ret
        exact ⟨⟨_, _, rfl⟩, HB3.out⟩
end Go.Proofs.Ytabjkmennijaeaa.hs

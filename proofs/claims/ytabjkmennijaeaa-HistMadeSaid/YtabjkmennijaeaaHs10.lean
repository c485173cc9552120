/- What Made answers: calls done one by one. -/
import Derived.Test.YtabjkmennijaeaaHs9b
namespace Go.Proofs.Ytabjkmennijaeaa.hs
open Go.RowKit Go.Proofs.Ytabjkmennijaeaa.lib Go.Proofs.Ytabjkmennijaeaa.byt Go.Proofs.Ytabjkmennijaeaa.tail
set_option linter.unusedVariables false
set_option linter.unusedSimpArgs false
set_option maxRecDepth 8000 in
set_option maxHeartbeats 4000000 in
theorem made_any (w : World) {A : Option Addr} {n c : Nat} {ops : List On} (hn : n = ops.length) (hr : RdO w w.heap.size A ops) {As : Option Addr} {ns cs : Nat} {S : List UInt8} (hns : ns = S.length) (hrs : RdB w w.heap.size As S) (hbig : n ≤ 100) :
    Calls Try.prog 6 #[.slice A n c, .slice As ns cs] w fun e w' => ∃ A' c', e = .returned (.slice A' n c') ∧ OwnD w' w.heap.size A' c' (madeN ops S n) ∧ (madeN ops S n).length = n ∧ Below w.heap.size w w' := by
  have HN := Lib.hid hn
  have HR := Lib.hid hr
  have HNS := Lib.hid hns
  have HRS := Lib.hid hrs
  clear hn hr hns hrs
  have hb0 : Below w.heap.size w (w.alloc (.cells #[.bool false, .string ⟨#[]⟩] 43)) := (Below.refl _ _).alloc (Nat.le_refl _) _
  have HP0 := Lib.hid (show (w.alloc (.cells #[.bool false, .string ⟨#[]⟩] 43)).heap[w.heap.size]? = some (.cells #[.bool (hasV (valN ops 0)), .string (strV (valN ops 0))] 43 (0, 0)) from heap_alloc_new w _)
  have HB0 := Lib.hid hb0
  have HZ0 := Lib.hid (show w.heap.size + 1 ≤ (w.alloc (.cells #[.bool false, .string ⟨#[]⟩] 43)).heap.size from by simp)
  clear hb0
  go_enter Try.func6, Try.ntmps6
  go_wp2_with fail
  generalize w.alloc (.cells #[.bool false, .string ⟨#[]⟩] 43) = W0 at HP0 HB0 HZ0 ⊢
  obtain ⟨pv, hpv⟩ : ∃ x, x = w.heap.size := ⟨_, rfl⟩
  rw [← hpv] at HP0 ⊢
  have HPV := Lib.hid hpv
  clear hpv
  go_loopw [5, 7] (fun vo vi wr => ∃ (k : Nat) (Ao : Option Addr) (co : Nat), k ≤ n ∧ vi = .int .i64 k ∧ vo = .slice Ao k co ∧ Hid (wr.ownsRow (w.heap.size + 1) 36 15 (.slice Ao k co) k (rowD (madeN ops S k))) ∧ Hid ((madeN ops S k).length = k) ∧ Hid (wr.heap[pv]? = some (.cells #[.bool (hasV (valN ops k)), .string (strV (valN ops k))] 43 (0, 0))) ∧ Hid (Below w.heap.size w wr) ∧ Hid (w.heap.size + 1 ≤ wr.heap.size)) (fun _ vi _ => n - (intOf vi).toNat)
  case atStart => exact ⟨0, none, 0, Nat.zero_le _, rfl, rfl, Lib.hid (World.ownsRow_nil _ _ _ _), Lib.hid rfl, HP0, HB0, HZ0⟩
  case round =>
    obtain ⟨k, Ao, co, hk, rfl, rfl, HO, HLN, HP, HB, HZ⟩ := hrel
    clear HP0 HB0 HZ0
    by_cases hlt : k < n
    · have hkl : k < ops.length := by rw [← HN.out]; exact hlt
      obtain ⟨ad, rfl, hadb, o0, o1, o2, o3, o4⟩ := RdO.at_ (w := wr) (HR.out.below HB.out) hkl
      obtain ⟨o, ho⟩ : ∃ o, o = ops[k] := ⟨_, rfl⟩
      rw [← ho] at o0 o1 o2 o3 o4
      have HOE := Lib.hid (show ops[k]? = some o from by rw [ho]; exact List.getElem?_eq_getElem hkl)
      have HAB := Lib.hid (show (ad.add (k * 5)).block < w.heap.size from by rw [block_of_add]; exact hadb)
      obtain ⟨v, hv⟩ : ∃ v, v = valN ops k := ⟨_, rfl⟩
      have HV := Lib.hid hv
      rw [← hv] at HP
      have v0 := cell_of_row _ pv 0 _ _ (0, 0) HP.out
      have v1 := cell_of_row _ pv 1 _ _ (0, 0) HP.out
      simp only [List.getElem?_toArray, List.getElem?_cons_succ, List.getElem?_cons_zero] at v0 v1
      have hk0 : (0 : Int) ≤ k := by omega
      have hk1 : (k : Int) < n := by omega
      clear ho hv hkl hadb
      go_wp2_with fail
      have hS0 : (fun X : World => (X.cell? (ad.add (k * 5)) = some (.int .i64 o.kind) ∧ X.cell? ⟨(ad.add (k * 5)).block, (ad.add (k * 5)).off + 1, none⟩ = some (.string o.key) ∧ X.cell? ⟨(ad.add (k * 5)).block, (ad.add (k * 5)).off + 2, none⟩ = some (.string o.val) ∧ X.cell? ⟨(ad.add (k * 5)).block, (ad.add (k * 5)).off + 3, none⟩ = some (.string o.old) ∧ X.cell? ⟨(ad.add (k * 5)).block, (ad.add (k * 5)).off + 4, none⟩ = some (.bool o.hold) ∧ X.cell? ⟨pv, 0, none⟩ = some (.bool (hasV v)) ∧ X.cell? ⟨pv, 1, none⟩ = some (.string (strV v)))) wr.drew := ⟨o0, o1, o2, o3, o4, v0, v1⟩
      have hbX : Below wr.heap.size wr wr.drew := below_drew (Below.refl _ _)
      refine wp_region_till 14 (fun X : World => (X.cell? (ad.add (k * 5)) = some (.int .i64 o.kind) ∧ X.cell? ⟨(ad.add (k * 5)).block, (ad.add (k * 5)).off + 1, none⟩ = some (.string o.key) ∧ X.cell? ⟨(ad.add (k * 5)).block, (ad.add (k * 5)).off + 2, none⟩ = some (.string o.val) ∧ X.cell? ⟨(ad.add (k * 5)).block, (ad.add (k * 5)).off + 3, none⟩ = some (.string o.old) ∧ X.cell? ⟨(ad.add (k * 5)).block, (ad.add (k * 5)).off + 4, none⟩ = some (.bool o.hold) ∧ X.cell? ⟨pv, 0, none⟩ = some (.bool (hasV v)) ∧ X.cell? ⟨pv, 1, none⟩ = some (.string (strV v)))) (by kernel_rfl) ?_
      (refine till_take 0 (v := ?_) rfl (by kernel_rfl) (by kernel_rfl) (by kernel_rfl) (by kernel_rfl) (by kernel_rfl) (fun _ _ _ h => h) (by rfl) (by assumption) ?_ ?_; rotate_left 1; (focus (intro X hX; obtain ⟨s0, s1, s2, s3, s4, s5, s6⟩ := hX; go_simp; with_reducible rfl)); (try simp only [Act.put, List.setIfInBounds_toArray, List.set_cons_zero, List.set_cons_succ]))
      (refine till_take 1 (v := ?_) rfl (by kernel_rfl) (by kernel_rfl) (by kernel_rfl) (by kernel_rfl) (by kernel_rfl) (fun _ _ _ h => h) (by rfl) (by assumption) ?_ ?_; rotate_left 1; (focus (intro X hX; obtain ⟨s0, s1, s2, s3, s4, s5, s6⟩ := hX; go_simp; with_reducible rfl)); (try simp only [Act.put, List.setIfInBounds_toArray, List.set_cons_zero, List.set_cons_succ]))
      (refine till_take 2 (v := ?_) rfl (by kernel_rfl) (by kernel_rfl) (by kernel_rfl) (by kernel_rfl) (by kernel_rfl) (fun _ _ _ h => h) (by rfl) (by assumption) ?_ ?_; rotate_left 1; (focus (intro X hX; obtain ⟨s0, s1, s2, s3, s4, s5, s6⟩ := hX; go_simp; with_reducible rfl)); (try simp only [Act.put, List.setIfInBounds_toArray, List.set_cons_zero, List.set_cons_succ]))
      (refine till_take 3 (v := ?_) rfl (by kernel_rfl) (by kernel_rfl) (by kernel_rfl) (by kernel_rfl) (by kernel_rfl) (fun _ _ _ h => h) (by rfl) (by assumption) ?_ ?_; rotate_left 1; (focus (intro X hX; obtain ⟨s0, s1, s2, s3, s4, s5, s6⟩ := hX; go_simp; with_reducible rfl)); (try simp only [Act.put, List.setIfInBounds_toArray, List.set_cons_zero, List.set_cons_succ]))
      (refine till_take 4 (v := ?_) rfl (by kernel_rfl) (by kernel_rfl) (by kernel_rfl) (by kernel_rfl) (by kernel_rfl) (fun _ _ _ h => h) (by rfl) (by assumption) ?_ ?_; rotate_left 1; (focus (intro X hX; obtain ⟨s0, s1, s2, s3, s4, s5, s6⟩ := hX; go_simp; with_reducible rfl)); (try simp only [Act.put, List.setIfInBounds_toArray, List.set_cons_zero, List.set_cons_succ]))
      refine till_three 5 10 11 (by kernel_rfl) rfl rfl rfl ?_ ?_ ?_
      · intro K hK
        go_simp
        go_at_call 10
        refine (step_any wr.drew o.kind o.key o.val o.old o.hold v).mono ?_
        rintro e6 w6 ⟨rfl, hb6⟩
        have hS6 : (fun X : World => (X.cell? (ad.add (k * 5)) = some (.int .i64 o.kind) ∧ X.cell? ⟨(ad.add (k * 5)).block, (ad.add (k * 5)).off + 1, none⟩ = some (.string o.key) ∧ X.cell? ⟨(ad.add (k * 5)).block, (ad.add (k * 5)).off + 2, none⟩ = some (.string o.val) ∧ X.cell? ⟨(ad.add (k * 5)).block, (ad.add (k * 5)).off + 3, none⟩ = some (.string o.old) ∧ X.cell? ⟨(ad.add (k * 5)).block, (ad.add (k * 5)).off + 4, none⟩ = some (.bool o.hold) ∧ X.cell? ⟨pv, 0, none⟩ = some (.bool (hasV v)) ∧ X.cell? ⟨pv, 1, none⟩ = some (.string (strV v)))) w6 := ⟨keepc hS0.1 hb6, keepc hS0.2.1 hb6, keepc hS0.2.2.1 hb6, keepc hS0.2.2.2.1 hb6, keepc hS0.2.2.2.2.1 hb6, keepc hS0.2.2.2.2.2.1 hb6, keepc hS0.2.2.2.2.2.2 hb6⟩
        have hbY6 : Below wr.heap.size wr w6 := (hbX).trans (hb6.mono (hbX).size)
        refine hK.out _ _ (fun _ => hS6) ?_
        clear hK K
        try simp only [Act.put, List.setIfInBounds_toArray, List.set_cons_zero, List.set_cons_succ]
        (refine till_take 6 (v := ?_) rfl (by kernel_rfl) (by kernel_rfl) (by kernel_rfl) (by kernel_rfl) (by kernel_rfl) (fun _ _ _ h => h) (by rfl) (by assumption) ?_ ?_; rotate_left 1; (focus (intro X hX; obtain ⟨s0, s1, s2, s3, s4, s5, s6⟩ := hX; go_simp; with_reducible rfl)); (try simp only [Act.put, List.setIfInBounds_toArray, List.set_cons_zero, List.set_cons_succ]))
        (refine till_take 7 (v := ?_) rfl (by kernel_rfl) (by kernel_rfl) (by kernel_rfl) (by kernel_rfl) (by kernel_rfl) (fun _ _ _ h => h) (by rfl) (by assumption) ?_ ?_; rotate_left 1; (focus (intro X hX; obtain ⟨s0, s1, s2, s3, s4, s5, s6⟩ := hX; go_simp; with_reducible rfl)); (try simp only [Act.put, List.setIfInBounds_toArray, List.set_cons_zero, List.set_cons_succ]))
        (refine till_take 8 (v := ?_) rfl (by kernel_rfl) (by kernel_rfl) (by kernel_rfl) (by kernel_rfl) (by kernel_rfl) (fun _ _ _ h => h) (by rfl) (by assumption) ?_ ?_; rotate_left 1; (focus (intro X hX; obtain ⟨s0, s1, s2, s3, s4, s5, s6⟩ := hX; go_simp; with_reducible rfl)); (try simp only [Act.put, List.setIfInBounds_toArray, List.set_cons_zero, List.set_cons_succ]))
        (refine till_take 9 (v := ?_) rfl (by kernel_rfl) (by kernel_rfl) (by kernel_rfl) (by kernel_rfl) (by kernel_rfl) (fun _ _ _ h => h) (by rfl) (by assumption) ?_ ?_; rotate_left 1; (focus (intro X hX; obtain ⟨s0, s1, s2, s3, s4, s5, s6⟩ := hX; go_simp; with_reducible rfl)); (try simp only [Act.put, List.setIfInBounds_toArray, List.set_cons_zero, List.set_cons_succ]))
        refine till_two 10 11 (by kernel_rfl) rfl rfl ?_ ?_
        · intro K hK
          have hbA8 : Below w6.heap.size w6 (w6.alloc (.cells #[.bool false, .string ⟨#[]⟩] 43)) := (Below.refl _ _).alloc (Nat.le_refl _) _
          have hS8a : (fun X : World => (X.cell? (ad.add (k * 5)) = some (.int .i64 o.kind) ∧ X.cell? ⟨(ad.add (k * 5)).block, (ad.add (k * 5)).off + 1, none⟩ = some (.string o.key) ∧ X.cell? ⟨(ad.add (k * 5)).block, (ad.add (k * 5)).off + 2, none⟩ = some (.string o.val) ∧ X.cell? ⟨(ad.add (k * 5)).block, (ad.add (k * 5)).off + 3, none⟩ = some (.string o.old) ∧ X.cell? ⟨(ad.add (k * 5)).block, (ad.add (k * 5)).off + 4, none⟩ = some (.bool o.hold) ∧ X.cell? ⟨pv, 0, none⟩ = some (.bool (hasV v)) ∧ X.cell? ⟨pv, 1, none⟩ = some (.string (strV v)))) (w6.alloc (.cells #[.bool false, .string ⟨#[]⟩] 43)) := ⟨keepc hS6.1 hbA8, keepc hS6.2.1 hbA8, keepc hS6.2.2.1 hbA8, keepc hS6.2.2.2.1 hbA8, keepc hS6.2.2.2.2.1 hbA8, keepc hS6.2.2.2.2.2.1 hbA8, keepc hS6.2.2.2.2.2.2 hbA8⟩
          have hbY8 : Below wr.heap.size wr (w6.alloc (.cells #[.bool false, .string ⟨#[]⟩] 43)) := (hbY6).trans (hbA8.mono (hbY6).size)
          go_simp
          refine hK.out _ _ (fun _ => hS8a) ?_
          clear hK K
          try simp only [Act.put, List.setIfInBounds_toArray, List.set_cons_zero, List.set_cons_succ]
          have hz8 : (w6.alloc (.cells #[.bool false, .string ⟨#[]⟩] 43)).heap[w6.heap.size]? = some (.cells #[.bool false, .string ⟨#[]⟩] 43) := by have := heap_alloc_new w6 (.cells #[.bool false, .string ⟨#[]⟩] 43); rwa [show w6.heap.size = w6.heap.size by first | rfl | simp] at this
          refine till_one 11 (by kernel_rfl) rfl (fun K hK => ?_)
          have hbA10 : Below (w6.alloc (.cells #[.bool false, .string ⟨#[]⟩] 43)).heap.size (w6.alloc (.cells #[.bool false, .string ⟨#[]⟩] 43)) ((w6.alloc (.cells #[.bool false, .string ⟨#[]⟩] 43)).alloc (.cells #[.bool false, .string ⟨#[]⟩] 43)) := (Below.refl _ _).alloc (Nat.le_refl _) _
          have hS10a : (fun X : World => (X.cell? (ad.add (k * 5)) = some (.int .i64 o.kind) ∧ X.cell? ⟨(ad.add (k * 5)).block, (ad.add (k * 5)).off + 1, none⟩ = some (.string o.key) ∧ X.cell? ⟨(ad.add (k * 5)).block, (ad.add (k * 5)).off + 2, none⟩ = some (.string o.val) ∧ X.cell? ⟨(ad.add (k * 5)).block, (ad.add (k * 5)).off + 3, none⟩ = some (.string o.old) ∧ X.cell? ⟨(ad.add (k * 5)).block, (ad.add (k * 5)).off + 4, none⟩ = some (.bool o.hold) ∧ X.cell? ⟨pv, 0, none⟩ = some (.bool (hasV v)) ∧ X.cell? ⟨pv, 1, none⟩ = some (.string (strV v)))) ((w6.alloc (.cells #[.bool false, .string ⟨#[]⟩] 43)).alloc (.cells #[.bool false, .string ⟨#[]⟩] 43)) := ⟨keepc hS8a.1 hbA10, keepc hS8a.2.1 hbA10, keepc hS8a.2.2.1 hbA10, keepc hS8a.2.2.2.1 hbA10, keepc hS8a.2.2.2.2.1 hbA10, keepc hS8a.2.2.2.2.2.1 hbA10, keepc hS8a.2.2.2.2.2.2 hbA10⟩
          have hbY10 : Below wr.heap.size wr ((w6.alloc (.cells #[.bool false, .string ⟨#[]⟩] 43)).alloc (.cells #[.bool false, .string ⟨#[]⟩] 43)) := (hbY8).trans (hbA10.mono (hbY8).size)
          go_simp
          refine hK.out _ _ (fun _ => hS10a) ?_
          clear hK K
          try simp only [Act.put, List.setIfInBounds_toArray, List.set_cons_zero, List.set_cons_succ]
          have hz10 : ((w6.alloc (.cells #[.bool false, .string ⟨#[]⟩] 43)).alloc (.cells #[.bool false, .string ⟨#[]⟩] 43)).heap[w6.heap.size + 1]? = some (.cells #[.bool false, .string ⟨#[]⟩] 43) := by have := heap_alloc_new (w6.alloc (.cells #[.bool false, .string ⟨#[]⟩] 43)) (.cells #[.bool false, .string ⟨#[]⟩] 43); rwa [show (w6.alloc (.cells #[.bool false, .string ⟨#[]⟩] 43)).heap.size = w6.heap.size + 1 by first | rfl | simp] at this
          have HSY := Lib.hid (show (((w6.alloc (.cells #[.bool false, .string ⟨#[]⟩] 43)).alloc (.cells #[.bool false, .string ⟨#[]⟩] 43)).cell? (ad.add (k * 5)) = some (.int .i64 o.kind) ∧ ((w6.alloc (.cells #[.bool false, .string ⟨#[]⟩] 43)).alloc (.cells #[.bool false, .string ⟨#[]⟩] 43)).cell? ⟨(ad.add (k * 5)).block, (ad.add (k * 5)).off + 1, none⟩ = some (.string o.key) ∧ ((w6.alloc (.cells #[.bool false, .string ⟨#[]⟩] 43)).alloc (.cells #[.bool false, .string ⟨#[]⟩] 43)).cell? ⟨(ad.add (k * 5)).block, (ad.add (k * 5)).off + 2, none⟩ = some (.string o.val) ∧ ((w6.alloc (.cells #[.bool false, .string ⟨#[]⟩] 43)).alloc (.cells #[.bool false, .string ⟨#[]⟩] 43)).cell? ⟨(ad.add (k * 5)).block, (ad.add (k * 5)).off + 3, none⟩ = some (.string o.old) ∧ ((w6.alloc (.cells #[.bool false, .string ⟨#[]⟩] 43)).alloc (.cells #[.bool false, .string ⟨#[]⟩] 43)).cell? ⟨(ad.add (k * 5)).block, (ad.add (k * 5)).off + 4, none⟩ = some (.bool o.hold) ∧ ((w6.alloc (.cells #[.bool false, .string ⟨#[]⟩] 43)).alloc (.cells #[.bool false, .string ⟨#[]⟩] 43)).cell? ⟨pv, 0, none⟩ = some (.bool (hasV v)) ∧ ((w6.alloc (.cells #[.bool false, .string ⟨#[]⟩] 43)).alloc (.cells #[.bool false, .string ⟨#[]⟩] 43)).cell? ⟨pv, 1, none⟩ = some (.string (strV v))) from hS10a)
          have HBY := Lib.hid (show Below wr.heap.size wr ((w6.alloc (.cells #[.bool false, .string ⟨#[]⟩] 43)).alloc (.cells #[.bool false, .string ⟨#[]⟩] 43)) from hbY10)
          have HZ8 := Lib.hid (show ((w6.alloc (.cells #[.bool false, .string ⟨#[]⟩] 43)).alloc (.cells #[.bool false, .string ⟨#[]⟩] 43)).heap[w6.heap.size]? = some (.cells #[.bool false, .string ⟨#[]⟩] 43) from ((hbA10.block _ (by first | (simp; done) | (simp; omega) | (have hh6 := hb6.size; simp at hh6; omega) | (have hh6 := hb6.size; simp at hh6 ⊢; omega))).trans hz8))
          have HZ10 := Lib.hid (show ((w6.alloc (.cells #[.bool false, .string ⟨#[]⟩] 43)).alloc (.cells #[.bool false, .string ⟨#[]⟩] 43)).heap[w6.heap.size + 1]? = some (.cells #[.bool false, .string ⟨#[]⟩] 43) from hz10)
          have HNE0 := Lib.hid (show w6.heap.size ≠ w6.heap.size + 1 ∧ wr.heap.size ≤ w6.heap.size ∧ wr.heap.size ≤ w6.heap.size + 1 from by
            have hh6 := hb6.size
            have hwd : wr.drew.heap.size = wr.heap.size := rfl
            try simp only [World.size_alloc] at hh6
            try rw [hwd] at hh6
            omega)
          clear hS0 hbX o0 o1 o2 o3 o4 v0 v1 hS6 hbY6 hb6 hbA8 hS8a hbY8 hz8 hbA10 hS10a hbY10 hz10
          generalize ((w6.alloc (.cells #[.bool false, .string ⟨#[]⟩] 43)).alloc (.cells #[.bool false, .string ⟨#[]⟩] 43)) = Y at HSY HBY HZ8 HZ10 ⊢
          obtain ⟨b10, hb10⟩ : ∃ x, x = w6.heap.size + 1 := ⟨_, rfl⟩
          obtain ⟨b8, hb8⟩ : ∃ x, x = w6.heap.size := ⟨_, rfl⟩
          have HNE := Lib.hid (show b8 ≠ b10 ∧ wr.heap.size ≤ b8 ∧ wr.heap.size ≤ b10 from by rw [hb8, hb10]; exact HNE0.out)
          rw [← hb10] at HZ10 ⊢
          rw [← hb8] at HZ8 ⊢
          clear hb8 hb10 HNE0
          obtain ⟨st, hst⟩ : ∃ x, x = stepP ⟨o.kind, o.key, o.val, o.old, o.hold⟩ v := ⟨_, rfl⟩
          rw [← hst]
          have HST := Lib.hid hst
          clear hst
          have hpvlt : pv < wr.heap.size := by have := HPV.out; have := HZ.out; omega
          have hadlt : (ad.add (k * 5)).block < wr.heap.size := by have := HAB.out; have := HZ.out; omega
          obtain ⟨hne, hn8, hn10⟩ := HNE.out
          have y80 := cell_of_row _ b8 0 _ _ (0, 0) HZ8.out
          have y81 := cell_of_row _ b8 1 _ _ (0, 0) HZ8.out
          have yf : ∀ j, Y.frozen? ⟨b8, j, none⟩ = false := fun j => frozen_of_row _ _ j _ _ HZ8.out
          simp only [List.getElem?_toArray, List.getElem?_cons_succ, List.getElem?_cons_zero] at y80 y81
          have ha8 : (ad.add (k * 5)).block ≠ b8 := by omega
          have hp8 : pv ≠ b8 := by omega
          have hS12 : (fun X : World => (X.cell? (ad.add (k * 5)) = some (.int .i64 o.kind) ∧ X.cell? ⟨(ad.add (k * 5)).block, (ad.add (k * 5)).off + 1, none⟩ = some (.string o.key) ∧ X.cell? ⟨(ad.add (k * 5)).block, (ad.add (k * 5)).off + 2, none⟩ = some (.string o.val) ∧ X.cell? ⟨(ad.add (k * 5)).block, (ad.add (k * 5)).off + 3, none⟩ = some (.string o.old) ∧ X.cell? ⟨(ad.add (k * 5)).block, (ad.add (k * 5)).off + 4, none⟩ = some (.bool o.hold) ∧ X.cell? ⟨pv, 0, none⟩ = some (.bool (hasV v)) ∧ X.cell? ⟨pv, 1, none⟩ = some (.string (strV v)))) ((Y.setCell ⟨b8, 0, none⟩ (.bool (hasV st.1))).setCell ⟨b8, 1, none⟩ (.string (strV st.1))) := by
            obtain ⟨s0, s1, s2, s3, s4, s5, s6⟩ := HSY.out
            exact ⟨cell2n _ _ s0 ha8, cell2n _ _ s1 ha8, cell2n _ _ s2 ha8, cell2n _ _ s3 ha8, cell2n _ _ s4 ha8, cell2n _ _ s5 hp8, cell2n _ _ s6 hp8⟩
          refine till_one 12 (by kernel_rfl) rfl (fun K hK => ?_)
          go_simp
          refine hK.out _ _ (fun _ => hS12) ?_
          clear hK K y80 y81 yf
          try simp only [Act.put, List.setIfInBounds_toArray, List.set_cons_zero, List.set_cons_succ]
          have HZ8b := Lib.hid (set2 HZ8.out (.bool (hasV st.1)) (.string (strV st.1)))
          have HZ10b := Lib.hid ((heap2 (w := Y) (d := b8) (.bool (hasV st.1)) (.string (strV st.1)) (Ne.symm hne)).trans HZ10.out)
          have HBY2 := Lib.hid ((HBY.out.setCell (p := ⟨b8, 0, none⟩) hn8 (.bool (hasV st.1))).setCell (p := ⟨b8, 1, none⟩) hn8 (.string (strV st.1)))
          clear HZ8 HZ10 HBY HSY
          generalize (Y.setCell ⟨b8, 0, none⟩ (.bool (hasV st.1))).setCell ⟨b8, 1, none⟩ (.string (strV st.1)) = Y2 at HZ8b HZ10b HBY2 hS12 ⊢
          refine till_one 13 (by kernel_rfl) rfl (fun K hK => ?_)
          go_simp
          refine hK.out _ _ (fun _ => hS12) ?_
          clear hK K
          try simp only [Act.put, List.setIfInBounds_toArray, List.set_cons_zero, List.set_cons_succ]
          have y80 := cell_of_row _ b10 0 _ _ (0, 0) HZ10b.out
          have y81 := cell_of_row _ b10 1 _ _ (0, 0) HZ10b.out
          have yf : ∀ j, Y2.frozen? ⟨b10, j, none⟩ = false := fun j => frozen_of_row _ _ j _ _ HZ10b.out
          simp only [List.getElem?_toArray, List.getElem?_cons_succ, List.getElem?_cons_zero] at y80 y81
          refine till_one 14 (by kernel_rfl) rfl (fun K hK => ?_)
          go_simp
          refine hK.out _ _ (fun h => absurd rfl h) ?_
          clear hK K y80 y81 yf
          try simp only [Act.put, List.setIfInBounds_toArray, List.set_cons_zero, List.set_cons_succ]
          refine till_done (by kernel_rfl) ?_ _
          have hp10 : pv ≠ b10 := by omega
          have ha10 : (ad.add (k * 5)).block ≠ b10 := by omega
          have HU8 := Lib.hid ((heap2 (w := Y2) (d := b10) (.bool (hasV st.2.2)) (.string (strV st.2.2)) hne).trans HZ8b.out)
          have HU10 := Lib.hid (set2 HZ10b.out (.bool (hasV st.2.2)) (.string (strV st.2.2)))
          have HBU := Lib.hid ((HBY2.out.setCell (p := ⟨b10, 0, none⟩) hn10 (.bool (hasV st.2.2))).setCell (p := ⟨b10, 1, none⟩) hn10 (.string (strV st.2.2)))
          have HUO := Lib.hid (show ∀ p x, p.block = (ad.add (k * 5)).block → Y2.cell? p = some x → ((Y2.setCell ⟨b10, 0, none⟩ (.bool (hasV st.2.2))).setCell ⟨b10, 1, none⟩ (.string (strV st.2.2))).cell? p = some x from fun p x hp hx => cell2n _ _ hx (by rw [hp]; exact ha10))
          clear HZ8b HZ10b HBY2
          obtain ⟨s0, s1, s2, s3, s4, -, -⟩ := hS12
          replace s0 := HUO.out _ _ (by rfl) s0
          replace s1 := HUO.out _ _ (by rfl) s1
          replace s2 := HUO.out _ _ (by rfl) s2
          replace s3 := HUO.out _ _ (by rfl) s3
          replace s4 := HUO.out _ _ (by rfl) s4
          clear HUO
          generalize (Y2.setCell ⟨b10, 0, none⟩ (.bool (hasV st.2.2))).setCell ⟨b10, 1, none⟩ (.string (strV st.2.2)) = U at HU8 HU10 HBU s0 s1 s2 s3 s4 ⊢
          have HUP := Lib.hid ((HBU.out.block pv hpvlt).trans HP.out)
          have u0 := cell_of_row _ b8 0 _ _ (0, 0) HU8.out
          have u1 := cell_of_row _ b8 1 _ _ (0, 0) HU8.out
          have p0 := cell_of_row _ pv 0 _ _ (0, 0) HUP.out
          have p1 := cell_of_row _ pv 1 _ _ (0, 0) HUP.out
          have pf : ∀ j, U.frozen? ⟨pv, j, none⟩ = false := fun j => frozen_of_row _ _ j _ _ HUP.out
          simp only [List.getElem?_toArray, List.getElem?_cons_succ, List.getElem?_cons_zero] at u0 u1 p0 p1
          have hap : (ad.add (k * 5)).block ≠ pv := by have := HAB.out; have := HPV.out; omega
          have HU2 := Lib.hid (set2 HUP.out (.bool (hasV st.1)) (.string (strV st.1)))
          have HU210 := Lib.hid ((heap2 (w := U) (d := pv) (.bool (hasV st.1)) (.string (strV st.1)) (Ne.symm hp10)).trans HU10.out)
          have HO2 := Lib.hid (row_set (d := pv) (o := 1) (row_set (d := pv) (o := 0) (own_below HO.out HBU.out (Nat.le_refl _)) (fun e => by have := (row_lt HO.out e).1; have := HPV.out; omega) (.bool (hasV st.1))) (fun e => by have := (row_lt HO.out e).1; have := HPV.out; omega) (.string (strV st.1)))
          have HB2 := Lib.hid (show Below w.heap.size w ((U.setCell ⟨pv, 0, none⟩ (.bool (hasV st.1))).setCell ⟨pv, 1, none⟩ (.string (strV st.1))) from ((HB.out.trans (HBU.out.mono (Nat.le_trans (Nat.le_succ _) HZ.out))).setCell (p := ⟨pv, 0, none⟩) (by simp only; have := HPV.out; omega) _).setCell (p := ⟨pv, 1, none⟩) (by simp only; have := HPV.out; omega) _)
          have HZ2 := Lib.hid (show w.heap.size + 1 ≤ ((U.setCell ⟨pv, 0, none⟩ (.bool (hasV st.1))).setCell ⟨pv, 1, none⟩ (.string (strV st.1))).heap.size from by simpa using Nat.le_trans HZ.out HBU.out.size)
          have HT := Lib.hid (show (fun X : World => (X.cell? (ad.add (k * 5)) = some (.int .i64 o.kind) ∧ X.cell? ⟨(ad.add (k * 5)).block, (ad.add (k * 5)).off + 1, none⟩ = some (.string o.key) ∧ X.cell? ⟨(ad.add (k * 5)).block, (ad.add (k * 5)).off + 2, none⟩ = some (.string o.val) ∧ X.cell? ⟨(ad.add (k * 5)).block, (ad.add (k * 5)).off + 3, none⟩ = some (.string o.old) ∧ X.cell? ⟨(ad.add (k * 5)).block, (ad.add (k * 5)).off + 4, none⟩ = some (.bool o.hold) ∧ X.cell? ⟨b10, 0, none⟩ = some (.bool (hasV st.2.2)) ∧ X.cell? ⟨b10, 1, none⟩ = some (.string (strV st.2.2)))) ((U.setCell ⟨pv, 0, none⟩ (.bool (hasV st.1))).setCell ⟨pv, 1, none⟩ (.string (strV st.1))) from by
            have c0 := cell_of_row _ b10 0 _ _ (0, 0) HU210.out
            have c1 := cell_of_row _ b10 1 _ _ (0, 0) HU210.out
            simp only [List.getElem?_toArray, List.getElem?_cons_succ, List.getElem?_cons_zero] at c0 c1
            exact ⟨cell2n _ _ s0 hap, cell2n _ _ s1 hap, cell2n _ _ s2 hap, cell2n _ _ s3 hap, cell2n _ _ s4 hap, c0, c1⟩)
          have HBA := Lib.hid (show bl Ao ≠ some b10 from fun e => by have := (row_lt HO.out e).2; omega)
          clear s0 s1 s2 s3 s4 hap HUP HU8 HU10 HBU HO HP HB HZ hp10 ha10 hp8 ha8 hpvlt hadlt hne hn8 hn10 HNE
          by_cases hks : k < ns
          · have hksl : k < S.length := by rw [← HNS.out]; exact hks
            have hrb := HRS.out.below HB2.out
            obtain ⟨sd, sx, rfl, -, hsx, hsc⟩ := Reads.at_ hrb hksl
            obtain ⟨sN, hsN⟩ : ∃ x, x = spr S k := ⟨_, rfl⟩
            have hsc' : ((U.setCell ⟨pv, 0, none⟩ (.bool (hasV st.1))).setCell ⟨pv, 1, none⟩ (.string (strV st.1))).cell? (sd.add k) = some (.int .u8 (sN : Int)) := by
              rw [hsc, ← hsx, bytesV, List.getElem?_map, List.getElem?_eq_getElem hksl, hsN]
              simp [spr, List.getElem?_eq_getElem hksl]
            have hs255 : sN ≤ 255 := by rw [hsN]; simp only [spr, List.getElem?_eq_getElem hksl, Option.map_some, Option.getD_some]; have := S[k].toNat_lt; omega
            have HSN := Lib.hid hsN
            have hks0 : (k : Int) < ns := by omega
            clear hsN hsc hsx hrb hksl
            go_wp2_with fail
            try clear hsc'
            generalize (U.setCell ⟨pv, 0, none⟩ (.bool (hasV st.1))).setCell ⟨pv, 1, none⟩ (.string (strV st.1)) = X at HU2 HU210 HO2 HB2 HZ2 HT ⊢
            clear u0 u1 p0 p1 pf
            have hS2 : (fun X : World => (X.cell? (ad.add (k * 5)) = some (.int .i64 o.kind) ∧ X.cell? ⟨(ad.add (k * 5)).block, (ad.add (k * 5)).off + 1, none⟩ = some (.string o.key) ∧ X.cell? ⟨(ad.add (k * 5)).block, (ad.add (k * 5)).off + 2, none⟩ = some (.string o.val) ∧ X.cell? ⟨(ad.add (k * 5)).block, (ad.add (k * 5)).off + 3, none⟩ = some (.string o.old) ∧ X.cell? ⟨(ad.add (k * 5)).block, (ad.add (k * 5)).off + 4, none⟩ = some (.bool o.hold) ∧ X.cell? ⟨b10, 0, none⟩ = some (.bool (hasV st.2.2)) ∧ X.cell? ⟨b10, 1, none⟩ = some (.string (strV st.2.2)))) X.drew := HT.out
            refine wp_region_till 22 (fun X : World => (X.cell? (ad.add (k * 5)) = some (.int .i64 o.kind) ∧ X.cell? ⟨(ad.add (k * 5)).block, (ad.add (k * 5)).off + 1, none⟩ = some (.string o.key) ∧ X.cell? ⟨(ad.add (k * 5)).block, (ad.add (k * 5)).off + 2, none⟩ = some (.string o.val) ∧ X.cell? ⟨(ad.add (k * 5)).block, (ad.add (k * 5)).off + 3, none⟩ = some (.string o.old) ∧ X.cell? ⟨(ad.add (k * 5)).block, (ad.add (k * 5)).off + 4, none⟩ = some (.bool o.hold) ∧ X.cell? ⟨b10, 0, none⟩ = some (.bool (hasV st.2.2)) ∧ X.cell? ⟨b10, 1, none⟩ = some (.string (strV st.2.2)))) (by kernel_rfl) ?_
            (refine till_take 0 (v := ?_) rfl (by kernel_rfl) (by kernel_rfl) (by kernel_rfl) (by kernel_rfl) (by kernel_rfl) (fun _ _ _ h => h) (by rfl) (by assumption) ?_ ?_; rotate_left 1; (focus (intro X hX; obtain ⟨s0, s1, s2, s3, s4, s5, s6⟩ := hX; go_simp; with_reducible rfl)); (try simp only [Act.put, List.setIfInBounds_toArray, List.set_cons_zero, List.set_cons_succ]))
            (refine till_take 1 (v := ?_) rfl (by kernel_rfl) (by kernel_rfl) (by kernel_rfl) (by kernel_rfl) (by kernel_rfl) (fun _ _ _ h => h) (by rfl) (by assumption) ?_ ?_; rotate_left 1; (focus (intro X hX; obtain ⟨s0, s1, s2, s3, s4, s5, s6⟩ := hX; go_simp; with_reducible rfl)); (try simp only [Act.put, List.setIfInBounds_toArray, List.set_cons_zero, List.set_cons_succ]))
            (refine till_take 2 (v := ?_) rfl (by kernel_rfl) (by kernel_rfl) (by kernel_rfl) (by kernel_rfl) (by kernel_rfl) (fun _ _ _ h => h) (by rfl) (by assumption) ?_ ?_; rotate_left 1; (focus (intro X hX; obtain ⟨s0, s1, s2, s3, s4, s5, s6⟩ := hX; go_simp; with_reducible rfl)); (try simp only [Act.put, List.setIfInBounds_toArray, List.set_cons_zero, List.set_cons_succ]))
            (refine till_take 3 (v := ?_) rfl (by kernel_rfl) (by kernel_rfl) (by kernel_rfl) (by kernel_rfl) (by kernel_rfl) (fun _ _ _ h => h) (by rfl) (by assumption) ?_ ?_; rotate_left 1; (focus (intro X hX; obtain ⟨s0, s1, s2, s3, s4, s5, s6⟩ := hX; go_simp; with_reducible rfl)); (try simp only [Act.put, List.setIfInBounds_toArray, List.set_cons_zero, List.set_cons_succ]))
            (refine till_take 4 (v := ?_) rfl (by kernel_rfl) (by kernel_rfl) (by kernel_rfl) (by kernel_rfl) (by kernel_rfl) (fun _ _ _ h => h) (by rfl) (by assumption) ?_ ?_; rotate_left 1; (focus (intro X hX; obtain ⟨s0, s1, s2, s3, s4, s5, s6⟩ := hX; go_simp; with_reducible rfl)); (try simp only [Act.put, List.setIfInBounds_toArray, List.set_cons_zero, List.set_cons_succ]))
            (refine till_take 5 (v := ?_) rfl (by kernel_rfl) (by kernel_rfl) (by kernel_rfl) (by kernel_rfl) (by kernel_rfl) (fun _ _ _ h => h) (by rfl) (by assumption) ?_ ?_; rotate_left 1; (focus (intro X hX; obtain ⟨s0, s1, s2, s3, s4, s5, s6⟩ := hX; go_simp; with_reducible rfl)); (try simp only [Act.put, List.setIfInBounds_toArray, List.set_cons_zero, List.set_cons_succ]))
            (refine till_take 6 (v := ?_) rfl (by kernel_rfl) (by kernel_rfl) (by kernel_rfl) (by kernel_rfl) (by kernel_rfl) (fun _ _ _ h => h) (by rfl) (by assumption) ?_ ?_; rotate_left 1; (focus (intro X hX; obtain ⟨s0, s1, s2, s3, s4, s5, s6⟩ := hX; go_simp; with_reducible rfl)); (try simp only [Act.put, List.setIfInBounds_toArray, List.set_cons_zero, List.set_cons_succ]))
            (refine till_take 7 (v := ?_) rfl (by kernel_rfl) (by kernel_rfl) (by kernel_rfl) (by kernel_rfl) (by kernel_rfl) (fun _ _ _ h => h) (by rfl) (by assumption) ?_ ?_; rotate_left 1; (focus (intro X hX; obtain ⟨s0, s1, s2, s3, s4, s5, s6⟩ := hX; go_simp; with_reducible rfl)); (try simp only [Act.put, List.setIfInBounds_toArray, List.set_cons_zero, List.set_cons_succ]))
            (refine till_take 8 (v := ?_) rfl (by kernel_rfl) (by kernel_rfl) (by kernel_rfl) (by kernel_rfl) (by kernel_rfl) (fun _ _ _ h => h) (by rfl) (by assumption) ?_ ?_; rotate_left 1; (focus (intro X hX; obtain ⟨s0, s1, s2, s3, s4, s5, s6⟩ := hX; go_simp; with_reducible rfl)); (try simp only [Act.put, List.setIfInBounds_toArray, List.set_cons_zero, List.set_cons_succ]))
            (refine till_take 9 (v := ?_) rfl (by kernel_rfl) (by kernel_rfl) (by kernel_rfl) (by kernel_rfl) (by kernel_rfl) (fun _ _ _ h => h) (by rfl) (by assumption) ?_ ?_; rotate_left 1; (focus (intro X hX; obtain ⟨s0, s1, s2, s3, s4, s5, s6⟩ := hX; go_simp; with_reducible rfl)); (try simp only [Act.put, List.setIfInBounds_toArray, List.set_cons_zero, List.set_cons_succ]))
            (refine till_take 10 (v := ?_) rfl (by kernel_rfl) (by kernel_rfl) (by kernel_rfl) (by kernel_rfl) (by kernel_rfl) (fun _ _ _ h => h) (by rfl) (by assumption) ?_ ?_; rotate_left 1; (focus (intro X hX; obtain ⟨s0, s1, s2, s3, s4, s5, s6⟩ := hX; go_simp; with_reducible rfl)); (try simp only [Act.put, List.setIfInBounds_toArray, List.set_cons_zero, List.set_cons_succ]))
            (refine till_take 11 (v := ?_) rfl (by kernel_rfl) (by kernel_rfl) (by kernel_rfl) (by kernel_rfl) (by kernel_rfl) (fun _ _ _ h => h) (by rfl) (by assumption) ?_ ?_; rotate_left 1; (focus (intro X hX; obtain ⟨s0, s1, s2, s3, s4, s5, s6⟩ := hX; go_simp; with_reducible rfl)); (try simp only [Act.put, List.setIfInBounds_toArray, List.set_cons_zero, List.set_cons_succ]))
            (refine till_take 12 (v := ?_) rfl (by kernel_rfl) (by kernel_rfl) (by kernel_rfl) (by kernel_rfl) (by kernel_rfl) (fun _ _ _ h => h) (by rfl) (by assumption) ?_ ?_; rotate_left 1; (focus (intro X hX; obtain ⟨s0, s1, s2, s3, s4, s5, s6⟩ := hX; go_simp; with_reducible rfl)); (try simp only [Act.put, List.setIfInBounds_toArray, List.set_cons_zero, List.set_cons_succ]))
            (refine till_take 13 (v := ?_) rfl (by kernel_rfl) (by kernel_rfl) (by kernel_rfl) (by kernel_rfl) (by kernel_rfl) (fun _ _ _ h => h) (by rfl) (by assumption) ?_ ?_; rotate_left 1; (focus (intro X hX; obtain ⟨s0, s1, s2, s3, s4, s5, s6⟩ := hX; go_simp; with_reducible rfl)); (try simp only [Act.put, List.setIfInBounds_toArray, List.set_cons_zero, List.set_cons_succ]))
            (refine till_take 14 (v := ?_) rfl (by kernel_rfl) (by kernel_rfl) (by kernel_rfl) (by kernel_rfl) (by kernel_rfl) (fun _ _ _ h => h) (by rfl) (by assumption) ?_ ?_; rotate_left 1; (focus (intro X hX; obtain ⟨s0, s1, s2, s3, s4, s5, s6⟩ := hX; go_simp; with_reducible rfl)); (try simp only [Act.put, List.setIfInBounds_toArray, List.set_cons_zero, List.set_cons_succ]))
            (refine till_take 15 (v := ?_) rfl (by kernel_rfl) (by kernel_rfl) (by kernel_rfl) (by kernel_rfl) (by kernel_rfl) (fun _ _ _ h => h) (by rfl) (by assumption) ?_ ?_; rotate_left 1; (focus (intro X hX; obtain ⟨s0, s1, s2, s3, s4, s5, s6⟩ := hX; go_simp; with_reducible rfl)); (try simp only [Act.put, List.setIfInBounds_toArray, List.set_cons_zero, List.set_cons_succ]))
            (refine till_take 16 (v := ?_) rfl (by kernel_rfl) (by kernel_rfl) (by kernel_rfl) (by kernel_rfl) (by kernel_rfl) (fun _ _ _ h => h) (by rfl) (by assumption) ?_ ?_; rotate_left 1; (focus (intro X hX; obtain ⟨s0, s1, s2, s3, s4, s5, s6⟩ := hX; go_simp; with_reducible rfl)); (try simp only [Act.put, List.setIfInBounds_toArray, List.set_cons_zero, List.set_cons_succ]))
            (refine till_take 17 (v := ?_) rfl (by kernel_rfl) (by kernel_rfl) (by kernel_rfl) (by kernel_rfl) (by kernel_rfl) (fun _ _ _ h => h) (by rfl) (by assumption) ?_ ?_; rotate_left 1; (focus (intro X hX; obtain ⟨s0, s1, s2, s3, s4, s5, s6⟩ := hX; go_simp; with_reducible rfl)); (try simp only [Act.put, List.setIfInBounds_toArray, List.set_cons_zero, List.set_cons_succ]))
            (refine till_take 18 (v := ?_) rfl (by kernel_rfl) (by kernel_rfl) (by kernel_rfl) (by kernel_rfl) (by kernel_rfl) (fun _ _ _ h => h) (by rfl) (by assumption) ?_ ?_; rotate_left 1; (focus (intro X hX; obtain ⟨s0, s1, s2, s3, s4, s5, s6⟩ := hX; go_simp; with_reducible rfl)); (try simp only [Act.put, List.setIfInBounds_toArray, List.set_cons_zero, List.set_cons_succ]))
            (refine till_take 19 (v := ?_) rfl (by kernel_rfl) (by kernel_rfl) (by kernel_rfl) (by kernel_rfl) (by kernel_rfl) (fun _ _ _ h => h) (by rfl) (by assumption) ?_ ?_; rotate_left 1; (focus (intro X hX; obtain ⟨s0, s1, s2, s3, s4, s5, s6⟩ := hX; go_simp; with_reducible rfl)); (try simp only [Act.put, List.setIfInBounds_toArray, List.set_cons_zero, List.set_cons_succ]))
            obtain ⟨d, hd⟩ : ∃ x : Dn, x = ⟨o.kind, o.key, o.val, o.old, o.hold, IntKind.i64.wrap (100 + 10 * (k : Int) - ((sN : Int)).tmod 40), IntKind.i64.wrap (100 + 10 * (k : Int) + IntKind.i64.wrap (IntKind.i64.wrap ((sN : Int) / 40) * 10)), st.2.1, strV st.2.2, hasV st.2.2⟩ := ⟨_, rfl⟩
            have hdm : d = madeAt ops S k o := by
              rw [hd]
              unfold madeAt
              have e1 : stepP o (valN ops k) = st := by rw [← HV.out, HST.out]
              rw [e1, ← HSN.out]
              have e2 : IntKind.i64.wrap (100 + 10 * (k : Int) - ((sN : Int)).tmod 40) = 100 + 10 * (k : Int) - ((sN % 40 : Nat) : Int) := by rw [Int.tmod_eq_emod_of_nonneg (by omega), wrap_small _ (by omega) (by omega)]; omega
              have e3 : IntKind.i64.wrap (100 + 10 * (k : Int) + IntKind.i64.wrap (IntKind.i64.wrap ((sN : Int) / 40) * 10)) = 100 + 10 * (k : Int) + ((sN / 40 * 10 : Nat) : Int) := by rw [wrap_small ((sN : Int) / 40) (by omega) (by omega), wrap_small ((sN : Int) / 40 * 10) (by omega) (by omega), wrap_small _ (by omega) (by omega)]; omega
              rw [e2, e3]
            obtain ⟨A9, c9, w9, hrun, ho9, hg9, -, hb9⟩ := append_dn X.drew (w.heap.size + 1) (A := Ao) (n := k) (c := co) (L := madeN ops S k) HLN.out.symm HO2.out d (by omega) HZ2.out
            have hbl : b10 < X.heap.size := (Array.getElem?_eq_some_iff.1 HU210.out).1
            have hw9 : w9.heap[b10]? = X.heap[b10]? := hg9.block b10 hbl (fun e => HBA.out e.symm)
            have hbA : Below X.drew.heap.size X.drew (X.drew.alloc (.cells #[.int .i64 0, .int .i64 0, .int .i64 0, .int .i64 0, .int .i64 (d).kind, .string (d).key, .string (d).val, .string (d).old, .bool (d).hold, .int .i64 (d).fr, .int .i64 (d).to, .int .i64 (d).code, .string (d).rv, .bool (d).has, .complex .f64 0 0] 36)) := (Below.refl _ _).alloc (Nat.le_refl _) _
            have hS20 : (fun X : World => (X.cell? (ad.add (k * 5)) = some (.int .i64 o.kind) ∧ X.cell? ⟨(ad.add (k * 5)).block, (ad.add (k * 5)).off + 1, none⟩ = some (.string o.key) ∧ X.cell? ⟨(ad.add (k * 5)).block, (ad.add (k * 5)).off + 2, none⟩ = some (.string o.val) ∧ X.cell? ⟨(ad.add (k * 5)).block, (ad.add (k * 5)).off + 3, none⟩ = some (.string o.old) ∧ X.cell? ⟨(ad.add (k * 5)).block, (ad.add (k * 5)).off + 4, none⟩ = some (.bool o.hold) ∧ X.cell? ⟨b10, 0, none⟩ = some (.bool (hasV st.2.2)) ∧ X.cell? ⟨b10, 1, none⟩ = some (.string (strV st.2.2)))) (X.drew.alloc (.cells #[.int .i64 0, .int .i64 0, .int .i64 0, .int .i64 0, .int .i64 (d).kind, .string (d).key, .string (d).val, .string (d).old, .bool (d).hold, .int .i64 (d).fr, .int .i64 (d).to, .int .i64 (d).code, .string (d).rv, .bool (d).has, .complex .f64 0 0] 36)) := ⟨keepc hS2.1 hbA, keepc hS2.2.1 hbA, keepc hS2.2.2.1 hbA, keepc hS2.2.2.2.1 hbA, keepc hS2.2.2.2.2.1 hbA, keepc hS2.2.2.2.2.2.1 hbA, keepc hS2.2.2.2.2.2.2 hbA⟩
            have hadw : (ad.add (k * 5)).block < w.heap.size + 1 := by have := HAB.out; omega
            have hkp : ∀ p x, p.block = (ad.add (k * 5)).block → X.cell? p = some x → w9.cell? p = some x := fun p x hp hx => (World.cell?_of_block (w := X) (hb9.block p.block (by rw [hp]; exact hadw))).trans hx
            have hkb : ∀ j x, X.cell? ⟨b10, j, none⟩ = some x → w9.cell? ⟨b10, j, none⟩ = some x := fun j x hx => (World.cell?_of_block (w := X) (a := ⟨b10, j, none⟩) hw9).trans hx
            have hS21 : (fun X : World => (X.cell? (ad.add (k * 5)) = some (.int .i64 o.kind) ∧ X.cell? ⟨(ad.add (k * 5)).block, (ad.add (k * 5)).off + 1, none⟩ = some (.string o.key) ∧ X.cell? ⟨(ad.add (k * 5)).block, (ad.add (k * 5)).off + 2, none⟩ = some (.string o.val) ∧ X.cell? ⟨(ad.add (k * 5)).block, (ad.add (k * 5)).off + 3, none⟩ = some (.string o.old) ∧ X.cell? ⟨(ad.add (k * 5)).block, (ad.add (k * 5)).off + 4, none⟩ = some (.bool o.hold) ∧ X.cell? ⟨b10, 0, none⟩ = some (.bool (hasV st.2.2)) ∧ X.cell? ⟨b10, 1, none⟩ = some (.string (strV st.2.2)))) w9 := ⟨hkp _ _ (by rfl) hS2.1, hkp _ _ (by rfl) hS2.2.1, hkp _ _ (by rfl) hS2.2.2.1, hkp _ _ (by rfl) hS2.2.2.2.1, hkp _ _ (by rfl) hS2.2.2.2.2.1, hkb _ _ hS2.2.2.2.2.2.1, hkb _ _ hS2.2.2.2.2.2.2⟩
            have hmk : madeN ops S (k + 1) = madeN ops S k ++ [madeAt ops S k o] := by show (match ops[k]? with | some o => _ | none => _) = _; rw [HOE.out]
            have hvk : valN ops (k + 1) = st.1 := by show (match ops[k]? with | some o => _ | none => _) = _; rw [HOE.out, HST.out, HV.out]
            have HO9 := Lib.hid (show w9.ownsRow (w.heap.size + 1) 36 15 (.slice A9 (k + 1) c9) (k + 1) (rowD (madeN ops S (k + 1))) from by rw [hmk, ← hdm]; exact ho9)
            have HL9 := Lib.hid (show (madeN ops S (k + 1)).length = k + 1 from by rw [hmk, List.length_append, HLN.out]; rfl)
            have HP9 := Lib.hid (show w9.heap[pv]? = some (.cells #[.bool (hasV (valN ops (k + 1))), .string (strV (valN ops (k + 1)))] 43 (0, 0)) from by rw [hvk]; exact (hb9.block pv (by have := HPV.out; omega)).trans HU2.out)
            have HB9 := Lib.hid (show Below w.heap.size w w9 from (below_drew HB2.out).trans (hb9.mono (Nat.le_succ _)))
            have HZ9 := Lib.hid (show w.heap.size + 1 ≤ w9.heap.size from Nat.le_trans HZ2.out hb9.size)
            clear hmk hvk hdm ho9 hg9 hb9 hbl hw9 hbA hadw hkp hkb
            subst hd
            refine till_one 20 (by kernel_rfl) rfl (fun K hK => ?_)
            go_simp
            refine hK.out _ _ (fun _ => hS20) ?_
            clear hK K hS20
            try simp only [Act.put, List.setIfInBounds_toArray, List.set_cons_zero, List.set_cons_succ]
            refine till_one 21 (by kernel_rfl) rfl (fun K hK => ?_)
            refine step_append_run rfl rfl rfl rfl hrun ?_
            refine hK.out _ _ (fun _ => hS21) ?_
            clear hK K hrun
            try simp only [Act.put, List.setIfInBounds_toArray, List.set_cons_zero, List.set_cons_succ]
            refine till_one 22 (by kernel_rfl) rfl (fun K hK => ?_)
            go_simp
            refine hK.out _ _ (fun h => absurd rfl h) ?_
            clear hK K hS21
            try simp only [Act.put, List.setIfInBounds_toArray, List.set_cons_zero, List.set_cons_succ]
            refine till_done (by kernel_rfl) ?_ _
            clear HO2 HB2 HZ2 HU2 HU210 HT hS2
            go_wp2_with fail
            go_roundw
            case rel => exact ⟨k + 1, A9, c9, by omega, by go_num, rfl, HO9, HL9, HP9, HB9, HZ9⟩
            case measure => simp [intOf] <;> omega
          · obtain ⟨sN, hsN⟩ : ∃ x, x = spr S k := ⟨_, rfl⟩
            have hs0 : sN = 0 := by
              rw [hsN]
              unfold spr
              rw [List.getElem?_eq_none (by have := HNS.out; omega)]
              rfl
            have HSN := Lib.hid hsN
            have hs255 : sN ≤ 255 := by omega
            clear hsN
            go_wp2_with fail
            try clear hsc'
            generalize (U.setCell ⟨pv, 0, none⟩ (.bool (hasV st.1))).setCell ⟨pv, 1, none⟩ (.string (strV st.1)) = X at HU2 HU210 HO2 HB2 HZ2 HT ⊢
            clear u0 u1 p0 p1 pf
            have hS2 : (fun X : World => (X.cell? (ad.add (k * 5)) = some (.int .i64 o.kind) ∧ X.cell? ⟨(ad.add (k * 5)).block, (ad.add (k * 5)).off + 1, none⟩ = some (.string o.key) ∧ X.cell? ⟨(ad.add (k * 5)).block, (ad.add (k * 5)).off + 2, none⟩ = some (.string o.val) ∧ X.cell? ⟨(ad.add (k * 5)).block, (ad.add (k * 5)).off + 3, none⟩ = some (.string o.old) ∧ X.cell? ⟨(ad.add (k * 5)).block, (ad.add (k * 5)).off + 4, none⟩ = some (.bool o.hold) ∧ X.cell? ⟨b10, 0, none⟩ = some (.bool (hasV st.2.2)) ∧ X.cell? ⟨b10, 1, none⟩ = some (.string (strV st.2.2)))) X.drew := HT.out
            refine wp_region_till 22 (fun X : World => (X.cell? (ad.add (k * 5)) = some (.int .i64 o.kind) ∧ X.cell? ⟨(ad.add (k * 5)).block, (ad.add (k * 5)).off + 1, none⟩ = some (.string o.key) ∧ X.cell? ⟨(ad.add (k * 5)).block, (ad.add (k * 5)).off + 2, none⟩ = some (.string o.val) ∧ X.cell? ⟨(ad.add (k * 5)).block, (ad.add (k * 5)).off + 3, none⟩ = some (.string o.old) ∧ X.cell? ⟨(ad.add (k * 5)).block, (ad.add (k * 5)).off + 4, none⟩ = some (.bool o.hold) ∧ X.cell? ⟨b10, 0, none⟩ = some (.bool (hasV st.2.2)) ∧ X.cell? ⟨b10, 1, none⟩ = some (.string (strV st.2.2)))) (by kernel_rfl) ?_
            (refine till_take 0 (v := ?_) rfl (by kernel_rfl) (by kernel_rfl) (by kernel_rfl) (by kernel_rfl) (by kernel_rfl) (fun _ _ _ h => h) (by rfl) (by assumption) ?_ ?_; rotate_left 1; (focus (intro X hX; obtain ⟨s0, s1, s2, s3, s4, s5, s6⟩ := hX; go_simp; with_reducible rfl)); (try simp only [Act.put, List.setIfInBounds_toArray, List.set_cons_zero, List.set_cons_succ]))
            (refine till_take 1 (v := ?_) rfl (by kernel_rfl) (by kernel_rfl) (by kernel_rfl) (by kernel_rfl) (by kernel_rfl) (fun _ _ _ h => h) (by rfl) (by assumption) ?_ ?_; rotate_left 1; (focus (intro X hX; obtain ⟨s0, s1, s2, s3, s4, s5, s6⟩ := hX; go_simp; with_reducible rfl)); (try simp only [Act.put, List.setIfInBounds_toArray, List.set_cons_zero, List.set_cons_succ]))
            (refine till_take 2 (v := ?_) rfl (by kernel_rfl) (by kernel_rfl) (by kernel_rfl) (by kernel_rfl) (by kernel_rfl) (fun _ _ _ h => h) (by rfl) (by assumption) ?_ ?_; rotate_left 1; (focus (intro X hX; obtain ⟨s0, s1, s2, s3, s4, s5, s6⟩ := hX; go_simp; with_reducible rfl)); (try simp only [Act.put, List.setIfInBounds_toArray, List.set_cons_zero, List.set_cons_succ]))
            (refine till_take 3 (v := ?_) rfl (by kernel_rfl) (by kernel_rfl) (by kernel_rfl) (by kernel_rfl) (by kernel_rfl) (fun _ _ _ h => h) (by rfl) (by assumption) ?_ ?_; rotate_left 1; (focus (intro X hX; obtain ⟨s0, s1, s2, s3, s4, s5, s6⟩ := hX; go_simp; with_reducible rfl)); (try simp only [Act.put, List.setIfInBounds_toArray, List.set_cons_zero, List.set_cons_succ]))
            (refine till_take 4 (v := ?_) rfl (by kernel_rfl) (by kernel_rfl) (by kernel_rfl) (by kernel_rfl) (by kernel_rfl) (fun _ _ _ h => h) (by rfl) (by assumption) ?_ ?_; rotate_left 1; (focus (intro X hX; obtain ⟨s0, s1, s2, s3, s4, s5, s6⟩ := hX; go_simp; with_reducible rfl)); (try simp only [Act.put, List.setIfInBounds_toArray, List.set_cons_zero, List.set_cons_succ]))
            (refine till_take 5 (v := ?_) rfl (by kernel_rfl) (by kernel_rfl) (by kernel_rfl) (by kernel_rfl) (by kernel_rfl) (fun _ _ _ h => h) (by rfl) (by assumption) ?_ ?_; rotate_left 1; (focus (intro X hX; obtain ⟨s0, s1, s2, s3, s4, s5, s6⟩ := hX; go_simp; with_reducible rfl)); (try simp only [Act.put, List.setIfInBounds_toArray, List.set_cons_zero, List.set_cons_succ]))
            (refine till_take 6 (v := ?_) rfl (by kernel_rfl) (by kernel_rfl) (by kernel_rfl) (by kernel_rfl) (by kernel_rfl) (fun _ _ _ h => h) (by rfl) (by assumption) ?_ ?_; rotate_left 1; (focus (intro X hX; obtain ⟨s0, s1, s2, s3, s4, s5, s6⟩ := hX; go_simp; with_reducible rfl)); (try simp only [Act.put, List.setIfInBounds_toArray, List.set_cons_zero, List.set_cons_succ]))
            (refine till_take 7 (v := ?_) rfl (by kernel_rfl) (by kernel_rfl) (by kernel_rfl) (by kernel_rfl) (by kernel_rfl) (fun _ _ _ h => h) (by rfl) (by assumption) ?_ ?_; rotate_left 1; (focus (intro X hX; obtain ⟨s0, s1, s2, s3, s4, s5, s6⟩ := hX; go_simp; with_reducible rfl)); (try simp only [Act.put, List.setIfInBounds_toArray, List.set_cons_zero, List.set_cons_succ]))
            (refine till_take 8 (v := ?_) rfl (by kernel_rfl) (by kernel_rfl) (by kernel_rfl) (by kernel_rfl) (by kernel_rfl) (fun _ _ _ h => h) (by rfl) (by assumption) ?_ ?_; rotate_left 1; (focus (intro X hX; obtain ⟨s0, s1, s2, s3, s4, s5, s6⟩ := hX; go_simp; with_reducible rfl)); (try simp only [Act.put, List.setIfInBounds_toArray, List.set_cons_zero, List.set_cons_succ]))
            (refine till_take 9 (v := ?_) rfl (by kernel_rfl) (by kernel_rfl) (by kernel_rfl) (by kernel_rfl) (by kernel_rfl) (fun _ _ _ h => h) (by rfl) (by assumption) ?_ ?_; rotate_left 1; (focus (intro X hX; obtain ⟨s0, s1, s2, s3, s4, s5, s6⟩ := hX; go_simp; with_reducible rfl)); (try simp only [Act.put, List.setIfInBounds_toArray, List.set_cons_zero, List.set_cons_succ]))
            (refine till_take 10 (v := ?_) rfl (by kernel_rfl) (by kernel_rfl) (by kernel_rfl) (by kernel_rfl) (by kernel_rfl) (fun _ _ _ h => h) (by rfl) (by assumption) ?_ ?_; rotate_left 1; (focus (intro X hX; obtain ⟨s0, s1, s2, s3, s4, s5, s6⟩ := hX; go_simp; with_reducible rfl)); (try simp only [Act.put, List.setIfInBounds_toArray, List.set_cons_zero, List.set_cons_succ]))
            (refine till_take 11 (v := ?_) rfl (by kernel_rfl) (by kernel_rfl) (by kernel_rfl) (by kernel_rfl) (by kernel_rfl) (fun _ _ _ h => h) (by rfl) (by assumption) ?_ ?_; rotate_left 1; (focus (intro X hX; obtain ⟨s0, s1, s2, s3, s4, s5, s6⟩ := hX; go_simp; with_reducible rfl)); (try simp only [Act.put, List.setIfInBounds_toArray, List.set_cons_zero, List.set_cons_succ]))
            (refine till_take 12 (v := ?_) rfl (by kernel_rfl) (by kernel_rfl) (by kernel_rfl) (by kernel_rfl) (by kernel_rfl) (fun _ _ _ h => h) (by rfl) (by assumption) ?_ ?_; rotate_left 1; (focus (intro X hX; obtain ⟨s0, s1, s2, s3, s4, s5, s6⟩ := hX; go_simp; with_reducible rfl)); (try simp only [Act.put, List.setIfInBounds_toArray, List.set_cons_zero, List.set_cons_succ]))
            (refine till_take 13 (v := ?_) rfl (by kernel_rfl) (by kernel_rfl) (by kernel_rfl) (by kernel_rfl) (by kernel_rfl) (fun _ _ _ h => h) (by rfl) (by assumption) ?_ ?_; rotate_left 1; (focus (intro X hX; obtain ⟨s0, s1, s2, s3, s4, s5, s6⟩ := hX; go_simp; with_reducible rfl)); (try simp only [Act.put, List.setIfInBounds_toArray, List.set_cons_zero, List.set_cons_succ]))
            (refine till_take 14 (v := ?_) rfl (by kernel_rfl) (by kernel_rfl) (by kernel_rfl) (by kernel_rfl) (by kernel_rfl) (fun _ _ _ h => h) (by rfl) (by assumption) ?_ ?_; rotate_left 1; (focus (intro X hX; obtain ⟨s0, s1, s2, s3, s4, s5, s6⟩ := hX; go_simp; with_reducible rfl)); (try simp only [Act.put, List.setIfInBounds_toArray, List.set_cons_zero, List.set_cons_succ]))
            (refine till_take 15 (v := ?_) rfl (by kernel_rfl) (by kernel_rfl) (by kernel_rfl) (by kernel_rfl) (by kernel_rfl) (fun _ _ _ h => h) (by rfl) (by assumption) ?_ ?_; rotate_left 1; (focus (intro X hX; obtain ⟨s0, s1, s2, s3, s4, s5, s6⟩ := hX; go_simp; with_reducible rfl)); (try simp only [Act.put, List.setIfInBounds_toArray, List.set_cons_zero, List.set_cons_succ]))
            (refine till_take 16 (v := ?_) rfl (by kernel_rfl) (by kernel_rfl) (by kernel_rfl) (by kernel_rfl) (by kernel_rfl) (fun _ _ _ h => h) (by rfl) (by assumption) ?_ ?_; rotate_left 1; (focus (intro X hX; obtain ⟨s0, s1, s2, s3, s4, s5, s6⟩ := hX; go_simp; with_reducible rfl)); (try simp only [Act.put, List.setIfInBounds_toArray, List.set_cons_zero, List.set_cons_succ]))
            (refine till_take 17 (v := ?_) rfl (by kernel_rfl) (by kernel_rfl) (by kernel_rfl) (by kernel_rfl) (by kernel_rfl) (fun _ _ _ h => h) (by rfl) (by assumption) ?_ ?_; rotate_left 1; (focus (intro X hX; obtain ⟨s0, s1, s2, s3, s4, s5, s6⟩ := hX; go_simp; with_reducible rfl)); (try simp only [Act.put, List.setIfInBounds_toArray, List.set_cons_zero, List.set_cons_succ]))
            (refine till_take 18 (v := ?_) rfl (by kernel_rfl) (by kernel_rfl) (by kernel_rfl) (by kernel_rfl) (by kernel_rfl) (fun _ _ _ h => h) (by rfl) (by assumption) ?_ ?_; rotate_left 1; (focus (intro X hX; obtain ⟨s0, s1, s2, s3, s4, s5, s6⟩ := hX; go_simp; with_reducible rfl)); (try simp only [Act.put, List.setIfInBounds_toArray, List.set_cons_zero, List.set_cons_succ]))
            (refine till_take 19 (v := ?_) rfl (by kernel_rfl) (by kernel_rfl) (by kernel_rfl) (by kernel_rfl) (by kernel_rfl) (fun _ _ _ h => h) (by rfl) (by assumption) ?_ ?_; rotate_left 1; (focus (intro X hX; obtain ⟨s0, s1, s2, s3, s4, s5, s6⟩ := hX; go_simp; with_reducible rfl)); (try simp only [Act.put, List.setIfInBounds_toArray, List.set_cons_zero, List.set_cons_succ]))
            obtain ⟨d, hd⟩ : ∃ x : Dn, x = ⟨o.kind, o.key, o.val, o.old, o.hold, IntKind.i64.wrap (100 + 10 * (k : Int)), IntKind.i64.wrap (100 + 10 * (k : Int) + IntKind.i64.wrap (IntKind.i64.wrap 0 * 10)), st.2.1, strV st.2.2, hasV st.2.2⟩ := ⟨_, rfl⟩
            have hdm : d = madeAt ops S k o := by
              rw [hd]
              unfold madeAt
              have e1 : stepP o (valN ops k) = st := by rw [← HV.out, HST.out]
              rw [e1, ← HSN.out]
              have e2 : IntKind.i64.wrap (100 + 10 * (k : Int)) = 100 + 10 * (k : Int) - ((sN % 40 : Nat) : Int) := by rw [wrap_small _ (by omega) (by omega)]; omega
              have e3 : IntKind.i64.wrap (100 + 10 * (k : Int) + IntKind.i64.wrap (IntKind.i64.wrap 0 * 10)) = 100 + 10 * (k : Int) + ((sN / 40 * 10 : Nat) : Int) := by rw [wrap_small 0 (by omega) (by omega), wrap_small (0 * 10) (by omega) (by omega), wrap_small _ (by omega) (by omega)]; omega
              rw [e2, e3]
            obtain ⟨A9, c9, w9, hrun, ho9, hg9, -, hb9⟩ := append_dn X.drew (w.heap.size + 1) (A := Ao) (n := k) (c := co) (L := madeN ops S k) HLN.out.symm HO2.out d (by omega) HZ2.out
            have hbl : b10 < X.heap.size := (Array.getElem?_eq_some_iff.1 HU210.out).1
            have hw9 : w9.heap[b10]? = X.heap[b10]? := hg9.block b10 hbl (fun e => HBA.out e.symm)
            have hbA : Below X.drew.heap.size X.drew (X.drew.alloc (.cells #[.int .i64 0, .int .i64 0, .int .i64 0, .int .i64 0, .int .i64 (d).kind, .string (d).key, .string (d).val, .string (d).old, .bool (d).hold, .int .i64 (d).fr, .int .i64 (d).to, .int .i64 (d).code, .string (d).rv, .bool (d).has, .complex .f64 0 0] 36)) := (Below.refl _ _).alloc (Nat.le_refl _) _
            have hS20 : (fun X : World => (X.cell? (ad.add (k * 5)) = some (.int .i64 o.kind) ∧ X.cell? ⟨(ad.add (k * 5)).block, (ad.add (k * 5)).off + 1, none⟩ = some (.string o.key) ∧ X.cell? ⟨(ad.add (k * 5)).block, (ad.add (k * 5)).off + 2, none⟩ = some (.string o.val) ∧ X.cell? ⟨(ad.add (k * 5)).block, (ad.add (k * 5)).off + 3, none⟩ = some (.string o.old) ∧ X.cell? ⟨(ad.add (k * 5)).block, (ad.add (k * 5)).off + 4, none⟩ = some (.bool o.hold) ∧ X.cell? ⟨b10, 0, none⟩ = some (.bool (hasV st.2.2)) ∧ X.cell? ⟨b10, 1, none⟩ = some (.string (strV st.2.2)))) (X.drew.alloc (.cells #[.int .i64 0, .int .i64 0, .int .i64 0, .int .i64 0, .int .i64 (d).kind, .string (d).key, .string (d).val, .string (d).old, .bool (d).hold, .int .i64 (d).fr, .int .i64 (d).to, .int .i64 (d).code, .string (d).rv, .bool (d).has, .complex .f64 0 0] 36)) := ⟨keepc hS2.1 hbA, keepc hS2.2.1 hbA, keepc hS2.2.2.1 hbA, keepc hS2.2.2.2.1 hbA, keepc hS2.2.2.2.2.1 hbA, keepc hS2.2.2.2.2.2.1 hbA, keepc hS2.2.2.2.2.2.2 hbA⟩
            have hadw : (ad.add (k * 5)).block < w.heap.size + 1 := by have := HAB.out; omega
            have hkp : ∀ p x, p.block = (ad.add (k * 5)).block → X.cell? p = some x → w9.cell? p = some x := fun p x hp hx => (World.cell?_of_block (w := X) (hb9.block p.block (by rw [hp]; exact hadw))).trans hx
            have hkb : ∀ j x, X.cell? ⟨b10, j, none⟩ = some x → w9.cell? ⟨b10, j, none⟩ = some x := fun j x hx => (World.cell?_of_block (w := X) (a := ⟨b10, j, none⟩) hw9).trans hx
            have hS21 : (fun X : World => (X.cell? (ad.add (k * 5)) = some (.int .i64 o.kind) ∧ X.cell? ⟨(ad.add (k * 5)).block, (ad.add (k * 5)).off + 1, none⟩ = some (.string o.key) ∧ X.cell? ⟨(ad.add (k * 5)).block, (ad.add (k * 5)).off + 2, none⟩ = some (.string o.val) ∧ X.cell? ⟨(ad.add (k * 5)).block, (ad.add (k * 5)).off + 3, none⟩ = some (.string o.old) ∧ X.cell? ⟨(ad.add (k * 5)).block, (ad.add (k * 5)).off + 4, none⟩ = some (.bool o.hold) ∧ X.cell? ⟨b10, 0, none⟩ = some (.bool (hasV st.2.2)) ∧ X.cell? ⟨b10, 1, none⟩ = some (.string (strV st.2.2)))) w9 := ⟨hkp _ _ (by rfl) hS2.1, hkp _ _ (by rfl) hS2.2.1, hkp _ _ (by rfl) hS2.2.2.1, hkp _ _ (by rfl) hS2.2.2.2.1, hkp _ _ (by rfl) hS2.2.2.2.2.1, hkb _ _ hS2.2.2.2.2.2.1, hkb _ _ hS2.2.2.2.2.2.2⟩
            have hmk : madeN ops S (k + 1) = madeN ops S k ++ [madeAt ops S k o] := by show (match ops[k]? with | some o => _ | none => _) = _; rw [HOE.out]
            have hvk : valN ops (k + 1) = st.1 := by show (match ops[k]? with | some o => _ | none => _) = _; rw [HOE.out, HST.out, HV.out]
            have HO9 := Lib.hid (show w9.ownsRow (w.heap.size + 1) 36 15 (.slice A9 (k + 1) c9) (k + 1) (rowD (madeN ops S (k + 1))) from by rw [hmk, ← hdm]; exact ho9)
            have HL9 := Lib.hid (show (madeN ops S (k + 1)).length = k + 1 from by rw [hmk, List.length_append, HLN.out]; rfl)
            have HP9 := Lib.hid (show w9.heap[pv]? = some (.cells #[.bool (hasV (valN ops (k + 1))), .string (strV (valN ops (k + 1)))] 43 (0, 0)) from by rw [hvk]; exact (hb9.block pv (by have := HPV.out; omega)).trans HU2.out)
            have HB9 := Lib.hid (show Below w.heap.size w w9 from (below_drew HB2.out).trans (hb9.mono (Nat.le_succ _)))
            have HZ9 := Lib.hid (show w.heap.size + 1 ≤ w9.heap.size from Nat.le_trans HZ2.out hb9.size)
            clear hmk hvk hdm ho9 hg9 hb9 hbl hw9 hbA hadw hkp hkb
            subst hd
            refine till_one 20 (by kernel_rfl) rfl (fun K hK => ?_)
            go_simp
            refine hK.out _ _ (fun _ => hS20) ?_
            clear hK K hS20
            try simp only [Act.put, List.setIfInBounds_toArray, List.set_cons_zero, List.set_cons_succ]
            refine till_one 21 (by kernel_rfl) rfl (fun K hK => ?_)
            refine step_append_run rfl rfl rfl rfl hrun ?_
            refine hK.out _ _ (fun _ => hS21) ?_
            clear hK K hrun
            try simp only [Act.put, List.setIfInBounds_toArray, List.set_cons_zero, List.set_cons_succ]
            refine till_one 22 (by kernel_rfl) rfl (fun K hK => ?_)
            go_simp
            refine hK.out _ _ (fun h => absurd rfl h) ?_
            clear hK K hS21
            try simp only [Act.put, List.setIfInBounds_toArray, List.set_cons_zero, List.set_cons_succ]
            refine till_done (by kernel_rfl) ?_ _
            clear HO2 HB2 HZ2 HU2 HU210 HT hS2
            go_wp2_with fail
            go_roundw
            case rel => exact ⟨k + 1, A9, c9, by omega, by go_num, rfl, HO9, HL9, HP9, HB9, HZ9⟩
            case measure => simp [intOf] <;> omega
        · intro K hK
          have hbA10 : Below w6.heap.size w6 (w6.alloc (.cells #[.bool false, .string ⟨#[]⟩] 43)) := (Below.refl _ _).alloc (Nat.le_refl _) _
          have hS10a : (fun X : World => (X.cell? (ad.add (k * 5)) = some (.int .i64 o.kind) ∧ X.cell? ⟨(ad.add (k * 5)).block, (ad.add (k * 5)).off + 1, none⟩ = some (.string o.key) ∧ X.cell? ⟨(ad.add (k * 5)).block, (ad.add (k * 5)).off + 2, none⟩ = some (.string o.val) ∧ X.cell? ⟨(ad.add (k * 5)).block, (ad.add (k * 5)).off + 3, none⟩ = some (.string o.old) ∧ X.cell? ⟨(ad.add (k * 5)).block, (ad.add (k * 5)).off + 4, none⟩ = some (.bool o.hold) ∧ X.cell? ⟨pv, 0, none⟩ = some (.bool (hasV v)) ∧ X.cell? ⟨pv, 1, none⟩ = some (.string (strV v)))) (w6.alloc (.cells #[.bool false, .string ⟨#[]⟩] 43)) := ⟨keepc hS6.1 hbA10, keepc hS6.2.1 hbA10, keepc hS6.2.2.1 hbA10, keepc hS6.2.2.2.1 hbA10, keepc hS6.2.2.2.2.1 hbA10, keepc hS6.2.2.2.2.2.1 hbA10, keepc hS6.2.2.2.2.2.2 hbA10⟩
          have hbY10 : Below wr.heap.size wr (w6.alloc (.cells #[.bool false, .string ⟨#[]⟩] 43)) := (hbY6).trans (hbA10.mono (hbY6).size)
          go_simp
          refine hK.out _ _ (fun _ => hS10a) ?_
          clear hK K
          try simp only [Act.put, List.setIfInBounds_toArray, List.set_cons_zero, List.set_cons_succ]
          have hz10 : (w6.alloc (.cells #[.bool false, .string ⟨#[]⟩] 43)).heap[w6.heap.size]? = some (.cells #[.bool false, .string ⟨#[]⟩] 43) := by have := heap_alloc_new w6 (.cells #[.bool false, .string ⟨#[]⟩] 43); rwa [show w6.heap.size = w6.heap.size by first | rfl | simp] at this
          refine till_one 10 (by kernel_rfl) rfl (fun K hK => ?_)
          have hbA8 : Below (w6.alloc (.cells #[.bool false, .string ⟨#[]⟩] 43)).heap.size (w6.alloc (.cells #[.bool false, .string ⟨#[]⟩] 43)) ((w6.alloc (.cells #[.bool false, .string ⟨#[]⟩] 43)).alloc (.cells #[.bool false, .string ⟨#[]⟩] 43)) := (Below.refl _ _).alloc (Nat.le_refl _) _
          have hS8a : (fun X : World => (X.cell? (ad.add (k * 5)) = some (.int .i64 o.kind) ∧ X.cell? ⟨(ad.add (k * 5)).block, (ad.add (k * 5)).off + 1, none⟩ = some (.string o.key) ∧ X.cell? ⟨(ad.add (k * 5)).block, (ad.add (k * 5)).off + 2, none⟩ = some (.string o.val) ∧ X.cell? ⟨(ad.add (k * 5)).block, (ad.add (k * 5)).off + 3, none⟩ = some (.string o.old) ∧ X.cell? ⟨(ad.add (k * 5)).block, (ad.add (k * 5)).off + 4, none⟩ = some (.bool o.hold) ∧ X.cell? ⟨pv, 0, none⟩ = some (.bool (hasV v)) ∧ X.cell? ⟨pv, 1, none⟩ = some (.string (strV v)))) ((w6.alloc (.cells #[.bool false, .string ⟨#[]⟩] 43)).alloc (.cells #[.bool false, .string ⟨#[]⟩] 43)) := ⟨keepc hS10a.1 hbA8, keepc hS10a.2.1 hbA8, keepc hS10a.2.2.1 hbA8, keepc hS10a.2.2.2.1 hbA8, keepc hS10a.2.2.2.2.1 hbA8, keepc hS10a.2.2.2.2.2.1 hbA8, keepc hS10a.2.2.2.2.2.2 hbA8⟩
          have hbY8 : Below wr.heap.size wr ((w6.alloc (.cells #[.bool false, .string ⟨#[]⟩] 43)).alloc (.cells #[.bool false, .string ⟨#[]⟩] 43)) := (hbY10).trans (hbA8.mono (hbY10).size)
          go_simp
          refine hK.out _ _ (fun _ => hS8a) ?_
          clear hK K
          try simp only [Act.put, List.setIfInBounds_toArray, List.set_cons_zero, List.set_cons_succ]
          have hz8 : ((w6.alloc (.cells #[.bool false, .string ⟨#[]⟩] 43)).alloc (.cells #[.bool false, .string ⟨#[]⟩] 43)).heap[w6.heap.size + 1]? = some (.cells #[.bool false, .string ⟨#[]⟩] 43) := by have := heap_alloc_new (w6.alloc (.cells #[.bool false, .string ⟨#[]⟩] 43)) (.cells #[.bool false, .string ⟨#[]⟩] 43); rwa [show (w6.alloc (.cells #[.bool false, .string ⟨#[]⟩] 43)).heap.size = w6.heap.size + 1 by first | rfl | simp] at this
          have HSY := Lib.hid (show (((w6.alloc (.cells #[.bool false, .string ⟨#[]⟩] 43)).alloc (.cells #[.bool false, .string ⟨#[]⟩] 43)).cell? (ad.add (k * 5)) = some (.int .i64 o.kind) ∧ ((w6.alloc (.cells #[.bool false, .string ⟨#[]⟩] 43)).alloc (.cells #[.bool false, .string ⟨#[]⟩] 43)).cell? ⟨(ad.add (k * 5)).block, (ad.add (k * 5)).off + 1, none⟩ = some (.string o.key) ∧ ((w6.alloc (.cells #[.bool false, .string ⟨#[]⟩] 43)).alloc (.cells #[.bool false, .string ⟨#[]⟩] 43)).cell? ⟨(ad.add (k * 5)).block, (ad.add (k * 5)).off + 2, none⟩ = some (.string o.val) ∧ ((w6.alloc (.cells #[.bool false, .string ⟨#[]⟩] 43)).alloc (.cells #[.bool false, .string ⟨#[]⟩] 43)).cell? ⟨(ad.add (k * 5)).block, (ad.add (k * 5)).off + 3, none⟩ = some (.string o.old) ∧ ((w6.alloc (.cells #[.bool false, .string ⟨#[]⟩] 43)).alloc (.cells #[.bool false, .string ⟨#[]⟩] 43)).cell? ⟨(ad.add (k * 5)).block, (ad.add (k * 5)).off + 4, none⟩ = some (.bool o.hold) ∧ ((w6.alloc (.cells #[.bool false, .string ⟨#[]⟩] 43)).alloc (.cells #[.bool false, .string ⟨#[]⟩] 43)).cell? ⟨pv, 0, none⟩ = some (.bool (hasV v)) ∧ ((w6.alloc (.cells #[.bool false, .string ⟨#[]⟩] 43)).alloc (.cells #[.bool false, .string ⟨#[]⟩] 43)).cell? ⟨pv, 1, none⟩ = some (.string (strV v))) from hS8a)
          have HBY := Lib.hid (show Below wr.heap.size wr ((w6.alloc (.cells #[.bool false, .string ⟨#[]⟩] 43)).alloc (.cells #[.bool false, .string ⟨#[]⟩] 43)) from hbY8)
          have HZ8 := Lib.hid (show ((w6.alloc (.cells #[.bool false, .string ⟨#[]⟩] 43)).alloc (.cells #[.bool false, .string ⟨#[]⟩] 43)).heap[w6.heap.size + 1]? = some (.cells #[.bool false, .string ⟨#[]⟩] 43) from hz8)
          have HZ10 := Lib.hid (show ((w6.alloc (.cells #[.bool false, .string ⟨#[]⟩] 43)).alloc (.cells #[.bool false, .string ⟨#[]⟩] 43)).heap[w6.heap.size]? = some (.cells #[.bool false, .string ⟨#[]⟩] 43) from ((hbA8.block _ (by first | (simp; done) | (simp; omega) | (have hh6 := hb6.size; simp at hh6; omega) | (have hh6 := hb6.size; simp at hh6 ⊢; omega))).trans hz10))
          have HNE0 := Lib.hid (show w6.heap.size + 1 ≠ w6.heap.size ∧ wr.heap.size ≤ w6.heap.size + 1 ∧ wr.heap.size ≤ w6.heap.size from by
            have hh6 := hb6.size
            have hwd : wr.drew.heap.size = wr.heap.size := rfl
            try simp only [World.size_alloc] at hh6
            try rw [hwd] at hh6
            omega)
          clear hS0 hbX o0 o1 o2 o3 o4 v0 v1 hS6 hbY6 hb6 hbA10 hS10a hbY10 hz10 hbA8 hS8a hbY8 hz8
          generalize ((w6.alloc (.cells #[.bool false, .string ⟨#[]⟩] 43)).alloc (.cells #[.bool false, .string ⟨#[]⟩] 43)) = Y at HSY HBY HZ8 HZ10 ⊢
          obtain ⟨b8, hb8⟩ : ∃ x, x = w6.heap.size + 1 := ⟨_, rfl⟩
          obtain ⟨b10, hb10⟩ : ∃ x, x = w6.heap.size := ⟨_, rfl⟩
          have HNE := Lib.hid (show b8 ≠ b10 ∧ wr.heap.size ≤ b8 ∧ wr.heap.size ≤ b10 from by rw [hb8, hb10]; exact HNE0.out)
          rw [← hb8] at HZ8 ⊢
          rw [← hb10] at HZ10 ⊢
          clear hb8 hb10 HNE0
          obtain ⟨st, hst⟩ : ∃ x, x = stepP ⟨o.kind, o.key, o.val, o.old, o.hold⟩ v := ⟨_, rfl⟩
          rw [← hst]
          have HST := Lib.hid hst
          clear hst
          have hpvlt : pv < wr.heap.size := by have := HPV.out; have := HZ.out; omega
          have hadlt : (ad.add (k * 5)).block < wr.heap.size := by have := HAB.out; have := HZ.out; omega
          obtain ⟨hne, hn8, hn10⟩ := HNE.out
          have y80 := cell_of_row _ b8 0 _ _ (0, 0) HZ8.out
          have y81 := cell_of_row _ b8 1 _ _ (0, 0) HZ8.out
          have yf : ∀ j, Y.frozen? ⟨b8, j, none⟩ = false := fun j => frozen_of_row _ _ j _ _ HZ8.out
          simp only [List.getElem?_toArray, List.getElem?_cons_succ, List.getElem?_cons_zero] at y80 y81
          have ha8 : (ad.add (k * 5)).block ≠ b8 := by omega
          have hp8 : pv ≠ b8 := by omega
          have hS12 : (fun X : World => (X.cell? (ad.add (k * 5)) = some (.int .i64 o.kind) ∧ X.cell? ⟨(ad.add (k * 5)).block, (ad.add (k * 5)).off + 1, none⟩ = some (.string o.key) ∧ X.cell? ⟨(ad.add (k * 5)).block, (ad.add (k * 5)).off + 2, none⟩ = some (.string o.val) ∧ X.cell? ⟨(ad.add (k * 5)).block, (ad.add (k * 5)).off + 3, none⟩ = some (.string o.old) ∧ X.cell? ⟨(ad.add (k * 5)).block, (ad.add (k * 5)).off + 4, none⟩ = some (.bool o.hold) ∧ X.cell? ⟨pv, 0, none⟩ = some (.bool (hasV v)) ∧ X.cell? ⟨pv, 1, none⟩ = some (.string (strV v)))) ((Y.setCell ⟨b8, 0, none⟩ (.bool (hasV st.1))).setCell ⟨b8, 1, none⟩ (.string (strV st.1))) := by
            obtain ⟨s0, s1, s2, s3, s4, s5, s6⟩ := HSY.out
            exact ⟨cell2n _ _ s0 ha8, cell2n _ _ s1 ha8, cell2n _ _ s2 ha8, cell2n _ _ s3 ha8, cell2n _ _ s4 ha8, cell2n _ _ s5 hp8, cell2n _ _ s6 hp8⟩
          refine till_one 12 (by kernel_rfl) rfl (fun K hK => ?_)
          go_simp
          refine hK.out _ _ (fun _ => hS12) ?_
          clear hK K y80 y81 yf
          try simp only [Act.put, List.setIfInBounds_toArray, List.set_cons_zero, List.set_cons_succ]
          have HZ8b := Lib.hid (set2 HZ8.out (.bool (hasV st.1)) (.string (strV st.1)))
          have HZ10b := Lib.hid ((heap2 (w := Y) (d := b8) (.bool (hasV st.1)) (.string (strV st.1)) (Ne.symm hne)).trans HZ10.out)
          have HBY2 := Lib.hid ((HBY.out.setCell (p := ⟨b8, 0, none⟩) hn8 (.bool (hasV st.1))).setCell (p := ⟨b8, 1, none⟩) hn8 (.string (strV st.1)))
          clear HZ8 HZ10 HBY HSY
          generalize (Y.setCell ⟨b8, 0, none⟩ (.bool (hasV st.1))).setCell ⟨b8, 1, none⟩ (.string (strV st.1)) = Y2 at HZ8b HZ10b HBY2 hS12 ⊢
          refine till_one 13 (by kernel_rfl) rfl (fun K hK => ?_)
          go_simp
          refine hK.out _ _ (fun _ => hS12) ?_
          clear hK K
          try simp only [Act.put, List.setIfInBounds_toArray, List.set_cons_zero, List.set_cons_succ]
          have y80 := cell_of_row _ b10 0 _ _ (0, 0) HZ10b.out
          have y81 := cell_of_row _ b10 1 _ _ (0, 0) HZ10b.out
          have yf : ∀ j, Y2.frozen? ⟨b10, j, none⟩ = false := fun j => frozen_of_row _ _ j _ _ HZ10b.out
          simp only [List.getElem?_toArray, List.getElem?_cons_succ, List.getElem?_cons_zero] at y80 y81
          refine till_one 14 (by kernel_rfl) rfl (fun K hK => ?_)
          go_simp
          refine hK.out _ _ (fun h => absurd rfl h) ?_
          clear hK K y80 y81 yf
          try simp only [Act.put, List.setIfInBounds_toArray, List.set_cons_zero, List.set_cons_succ]
          refine till_done (by kernel_rfl) ?_ _
          have hp10 : pv ≠ b10 := by omega
          have ha10 : (ad.add (k * 5)).block ≠ b10 := by omega
          have HU8 := Lib.hid ((heap2 (w := Y2) (d := b10) (.bool (hasV st.2.2)) (.string (strV st.2.2)) hne).trans HZ8b.out)
          have HU10 := Lib.hid (set2 HZ10b.out (.bool (hasV st.2.2)) (.string (strV st.2.2)))
          have HBU := Lib.hid ((HBY2.out.setCell (p := ⟨b10, 0, none⟩) hn10 (.bool (hasV st.2.2))).setCell (p := ⟨b10, 1, none⟩) hn10 (.string (strV st.2.2)))
          have HUO := Lib.hid (show ∀ p x, p.block = (ad.add (k * 5)).block → Y2.cell? p = some x → ((Y2.setCell ⟨b10, 0, none⟩ (.bool (hasV st.2.2))).setCell ⟨b10, 1, none⟩ (.string (strV st.2.2))).cell? p = some x from fun p x hp hx => cell2n _ _ hx (by rw [hp]; exact ha10))
          clear HZ8b HZ10b HBY2
          obtain ⟨s0, s1, s2, s3, s4, -, -⟩ := hS12
          replace s0 := HUO.out _ _ (by rfl) s0
          replace s1 := HUO.out _ _ (by rfl) s1
          replace s2 := HUO.out _ _ (by rfl) s2
          replace s3 := HUO.out _ _ (by rfl) s3
          replace s4 := HUO.out _ _ (by rfl) s4
          clear HUO
          generalize (Y2.setCell ⟨b10, 0, none⟩ (.bool (hasV st.2.2))).setCell ⟨b10, 1, none⟩ (.string (strV st.2.2)) = U at HU8 HU10 HBU s0 s1 s2 s3 s4 ⊢
          have HUP := Lib.hid ((HBU.out.block pv hpvlt).trans HP.out)
          have u0 := cell_of_row _ b8 0 _ _ (0, 0) HU8.out
          have u1 := cell_of_row _ b8 1 _ _ (0, 0) HU8.out
          have p0 := cell_of_row _ pv 0 _ _ (0, 0) HUP.out
          have p1 := cell_of_row _ pv 1 _ _ (0, 0) HUP.out
          have pf : ∀ j, U.frozen? ⟨pv, j, none⟩ = false := fun j => frozen_of_row _ _ j _ _ HUP.out
          simp only [List.getElem?_toArray, List.getElem?_cons_succ, List.getElem?_cons_zero] at u0 u1 p0 p1
          have hap : (ad.add (k * 5)).block ≠ pv := by have := HAB.out; have := HPV.out; omega
          have HU2 := Lib.hid (set2 HUP.out (.bool (hasV st.1)) (.string (strV st.1)))
          have HU210 := Lib.hid ((heap2 (w := U) (d := pv) (.bool (hasV st.1)) (.string (strV st.1)) (Ne.symm hp10)).trans HU10.out)
          have HO2 := Lib.hid (row_set (d := pv) (o := 1) (row_set (d := pv) (o := 0) (own_below HO.out HBU.out (Nat.le_refl _)) (fun e => by have := (row_lt HO.out e).1; have := HPV.out; omega) (.bool (hasV st.1))) (fun e => by have := (row_lt HO.out e).1; have := HPV.out; omega) (.string (strV st.1)))
          have HB2 := Lib.hid (show Below w.heap.size w ((U.setCell ⟨pv, 0, none⟩ (.bool (hasV st.1))).setCell ⟨pv, 1, none⟩ (.string (strV st.1))) from ((HB.out.trans (HBU.out.mono (Nat.le_trans (Nat.le_succ _) HZ.out))).setCell (p := ⟨pv, 0, none⟩) (by simp only; have := HPV.out; omega) _).setCell (p := ⟨pv, 1, none⟩) (by simp only; have := HPV.out; omega) _)
          have HZ2 := Lib.hid (show w.heap.size + 1 ≤ ((U.setCell ⟨pv, 0, none⟩ (.bool (hasV st.1))).setCell ⟨pv, 1, none⟩ (.string (strV st.1))).heap.size from by simpa using Nat.le_trans HZ.out HBU.out.size)
          have HT := Lib.hid (show (fun X : World => (X.cell? (ad.add (k * 5)) = some (.int .i64 o.kind) ∧ X.cell? ⟨(ad.add (k * 5)).block, (ad.add (k * 5)).off + 1, none⟩ = some (.string o.key) ∧ X.cell? ⟨(ad.add (k * 5)).block, (ad.add (k * 5)).off + 2, none⟩ = some (.string o.val) ∧ X.cell? ⟨(ad.add (k * 5)).block, (ad.add (k * 5)).off + 3, none⟩ = some (.string o.old) ∧ X.cell? ⟨(ad.add (k * 5)).block, (ad.add (k * 5)).off + 4, none⟩ = some (.bool o.hold) ∧ X.cell? ⟨b10, 0, none⟩ = some (.bool (hasV st.2.2)) ∧ X.cell? ⟨b10, 1, none⟩ = some (.string (strV st.2.2)))) ((U.setCell ⟨pv, 0, none⟩ (.bool (hasV st.1))).setCell ⟨pv, 1, none⟩ (.string (strV st.1))) from by
            have c0 := cell_of_row _ b10 0 _ _ (0, 0) HU210.out
            have c1 := cell_of_row _ b10 1 _ _ (0, 0) HU210.out
            simp only [List.getElem?_toArray, List.getElem?_cons_succ, List.getElem?_cons_zero] at c0 c1
            exact ⟨cell2n _ _ s0 hap, cell2n _ _ s1 hap, cell2n _ _ s2 hap, cell2n _ _ s3 hap, cell2n _ _ s4 hap, c0, c1⟩)
          have HBA := Lib.hid (show bl Ao ≠ some b10 from fun e => by have := (row_lt HO.out e).2; omega)
          clear s0 s1 s2 s3 s4 hap HUP HU8 HU10 HBU HO HP HB HZ hp10 ha10 hp8 ha8 hpvlt hadlt hne hn8 hn10 HNE
          by_cases hks : k < ns
          · have hksl : k < S.length := by rw [← HNS.out]; exact hks
            have hrb := HRS.out.below HB2.out
            obtain ⟨sd, sx, rfl, -, hsx, hsc⟩ := Reads.at_ hrb hksl
            obtain ⟨sN, hsN⟩ : ∃ x, x = spr S k := ⟨_, rfl⟩
            have hsc' : ((U.setCell ⟨pv, 0, none⟩ (.bool (hasV st.1))).setCell ⟨pv, 1, none⟩ (.string (strV st.1))).cell? (sd.add k) = some (.int .u8 (sN : Int)) := by
              rw [hsc, ← hsx, bytesV, List.getElem?_map, List.getElem?_eq_getElem hksl, hsN]
              simp [spr, List.getElem?_eq_getElem hksl]
            have hs255 : sN ≤ 255 := by rw [hsN]; simp only [spr, List.getElem?_eq_getElem hksl, Option.map_some, Option.getD_some]; have := S[k].toNat_lt; omega
            have HSN := Lib.hid hsN
            have hks0 : (k : Int) < ns := by omega
            clear hsN hsc hsx hrb hksl
            go_wp2_with fail
            try clear hsc'
            generalize (U.setCell ⟨pv, 0, none⟩ (.bool (hasV st.1))).setCell ⟨pv, 1, none⟩ (.string (strV st.1)) = X at HU2 HU210 HO2 HB2 HZ2 HT ⊢
            clear u0 u1 p0 p1 pf
            have hS2 : (fun X : World => (X.cell? (ad.add (k * 5)) = some (.int .i64 o.kind) ∧ X.cell? ⟨(ad.add (k * 5)).block, (ad.add (k * 5)).off + 1, none⟩ = some (.string o.key) ∧ X.cell? ⟨(ad.add (k * 5)).block, (ad.add (k * 5)).off + 2, none⟩ = some (.string o.val) ∧ X.cell? ⟨(ad.add (k * 5)).block, (ad.add (k * 5)).off + 3, none⟩ = some (.string o.old) ∧ X.cell? ⟨(ad.add (k * 5)).block, (ad.add (k * 5)).off + 4, none⟩ = some (.bool o.hold) ∧ X.cell? ⟨b10, 0, none⟩ = some (.bool (hasV st.2.2)) ∧ X.cell? ⟨b10, 1, none⟩ = some (.string (strV st.2.2)))) X.drew := HT.out
            refine wp_region_till 22 (fun X : World => (X.cell? (ad.add (k * 5)) = some (.int .i64 o.kind) ∧ X.cell? ⟨(ad.add (k * 5)).block, (ad.add (k * 5)).off + 1, none⟩ = some (.string o.key) ∧ X.cell? ⟨(ad.add (k * 5)).block, (ad.add (k * 5)).off + 2, none⟩ = some (.string o.val) ∧ X.cell? ⟨(ad.add (k * 5)).block, (ad.add (k * 5)).off + 3, none⟩ = some (.string o.old) ∧ X.cell? ⟨(ad.add (k * 5)).block, (ad.add (k * 5)).off + 4, none⟩ = some (.bool o.hold) ∧ X.cell? ⟨b10, 0, none⟩ = some (.bool (hasV st.2.2)) ∧ X.cell? ⟨b10, 1, none⟩ = some (.string (strV st.2.2)))) (by kernel_rfl) ?_
            (refine till_take 0 (v := ?_) rfl (by kernel_rfl) (by kernel_rfl) (by kernel_rfl) (by kernel_rfl) (by kernel_rfl) (fun _ _ _ h => h) (by rfl) (by assumption) ?_ ?_; rotate_left 1; (focus (intro X hX; obtain ⟨s0, s1, s2, s3, s4, s5, s6⟩ := hX; go_simp; with_reducible rfl)); (try simp only [Act.put, List.setIfInBounds_toArray, List.set_cons_zero, List.set_cons_succ]))
            (refine till_take 1 (v := ?_) rfl (by kernel_rfl) (by kernel_rfl) (by kernel_rfl) (by kernel_rfl) (by kernel_rfl) (fun _ _ _ h => h) (by rfl) (by assumption) ?_ ?_; rotate_left 1; (focus (intro X hX; obtain ⟨s0, s1, s2, s3, s4, s5, s6⟩ := hX; go_simp; with_reducible rfl)); (try simp only [Act.put, List.setIfInBounds_toArray, List.set_cons_zero, List.set_cons_succ]))
            (refine till_take 2 (v := ?_) rfl (by kernel_rfl) (by kernel_rfl) (by kernel_rfl) (by kernel_rfl) (by kernel_rfl) (fun _ _ _ h => h) (by rfl) (by assumption) ?_ ?_; rotate_left 1; (focus (intro X hX; obtain ⟨s0, s1, s2, s3, s4, s5, s6⟩ := hX; go_simp; with_reducible rfl)); (try simp only [Act.put, List.setIfInBounds_toArray, List.set_cons_zero, List.set_cons_succ]))
            (refine till_take 3 (v := ?_) rfl (by kernel_rfl) (by kernel_rfl) (by kernel_rfl) (by kernel_rfl) (by kernel_rfl) (fun _ _ _ h => h) (by rfl) (by assumption) ?_ ?_; rotate_left 1; (focus (intro X hX; obtain ⟨s0, s1, s2, s3, s4, s5, s6⟩ := hX; go_simp; with_reducible rfl)); (try simp only [Act.put, List.setIfInBounds_toArray, List.set_cons_zero, List.set_cons_succ]))
            (refine till_take 4 (v := ?_) rfl (by kernel_rfl) (by kernel_rfl) (by kernel_rfl) (by kernel_rfl) (by kernel_rfl) (fun _ _ _ h => h) (by rfl) (by assumption) ?_ ?_; rotate_left 1; (focus (intro X hX; obtain ⟨s0, s1, s2, s3, s4, s5, s6⟩ := hX; go_simp; with_reducible rfl)); (try simp only [Act.put, List.setIfInBounds_toArray, List.set_cons_zero, List.set_cons_succ]))
            (refine till_take 5 (v := ?_) rfl (by kernel_rfl) (by kernel_rfl) (by kernel_rfl) (by kernel_rfl) (by kernel_rfl) (fun _ _ _ h => h) (by rfl) (by assumption) ?_ ?_; rotate_left 1; (focus (intro X hX; obtain ⟨s0, s1, s2, s3, s4, s5, s6⟩ := hX; go_simp; with_reducible rfl)); (try simp only [Act.put, List.setIfInBounds_toArray, List.set_cons_zero, List.set_cons_succ]))
            (refine till_take 6 (v := ?_) rfl (by kernel_rfl) (by kernel_rfl) (by kernel_rfl) (by kernel_rfl) (by kernel_rfl) (fun _ _ _ h => h) (by rfl) (by assumption) ?_ ?_; rotate_left 1; (focus (intro X hX; obtain ⟨s0, s1, s2, s3, s4, s5, s6⟩ := hX; go_simp; with_reducible rfl)); (try simp only [Act.put, List.setIfInBounds_toArray, List.set_cons_zero, List.set_cons_succ]))
            (refine till_take 7 (v := ?_) rfl (by kernel_rfl) (by kernel_rfl) (by kernel_rfl) (by kernel_rfl) (by kernel_rfl) (fun _ _ _ h => h) (by rfl) (by assumption) ?_ ?_; rotate_left 1; (focus (intro X hX; obtain ⟨s0, s1, s2, s3, s4, s5, s6⟩ := hX; go_simp; with_reducible rfl)); (try simp only [Act.put, List.setIfInBounds_toArray, List.set_cons_zero, List.set_cons_succ]))
            (refine till_take 8 (v := ?_) rfl (by kernel_rfl) (by kernel_rfl) (by kernel_rfl) (by kernel_rfl) (by kernel_rfl) (fun _ _ _ h => h) (by rfl) (by assumption) ?_ ?_; rotate_left 1; (focus (intro X hX; obtain ⟨s0, s1, s2, s3, s4, s5, s6⟩ := hX; go_simp; with_reducible rfl)); (try simp only [Act.put, List.setIfInBounds_toArray, List.set_cons_zero, List.set_cons_succ]))
            (refine till_take 9 (v := ?_) rfl (by kernel_rfl) (by kernel_rfl) (by kernel_rfl) (by kernel_rfl) (by kernel_rfl) (fun _ _ _ h => h) (by rfl) (by assumption) ?_ ?_; rotate_left 1; (focus (intro X hX; obtain ⟨s0, s1, s2, s3, s4, s5, s6⟩ := hX; go_simp; with_reducible rfl)); (try simp only [Act.put, List.setIfInBounds_toArray, List.set_cons_zero, List.set_cons_succ]))
            (refine till_take 10 (v := ?_) rfl (by kernel_rfl) (by kernel_rfl) (by kernel_rfl) (by kernel_rfl) (by kernel_rfl) (fun _ _ _ h => h) (by rfl) (by assumption) ?_ ?_; rotate_left 1; (focus (intro X hX; obtain ⟨s0, s1, s2, s3, s4, s5, s6⟩ := hX; go_simp; with_reducible rfl)); (try simp only [Act.put, List.setIfInBounds_toArray, List.set_cons_zero, List.set_cons_succ]))
            (refine till_take 11 (v := ?_) rfl (by kernel_rfl) (by kernel_rfl) (by kernel_rfl) (by kernel_rfl) (by kernel_rfl) (fun _ _ _ h => h) (by rfl) (by assumption) ?_ ?_; rotate_left 1; (focus (intro X hX; obtain ⟨s0, s1, s2, s3, s4, s5, s6⟩ := hX; go_simp; with_reducible rfl)); (try simp only [Act.put, List.setIfInBounds_toArray, List.set_cons_zero, List.set_cons_succ]))
            (refine till_take 12 (v := ?_) rfl (by kernel_rfl) (by kernel_rfl) (by kernel_rfl) (by kernel_rfl) (by kernel_rfl) (fun _ _ _ h => h) (by rfl) (by assumption) ?_ ?_; rotate_left 1; (focus (intro X hX; obtain ⟨s0, s1, s2, s3, s4, s5, s6⟩ := hX; go_simp; with_reducible rfl)); (try simp only [Act.put, List.setIfInBounds_toArray, List.set_cons_zero, List.set_cons_succ]))
            (refine till_take 13 (v := ?_) rfl (by kernel_rfl) (by kernel_rfl) (by kernel_rfl) (by kernel_rfl) (by kernel_rfl) (fun _ _ _ h => h) (by rfl) (by assumption) ?_ ?_; rotate_left 1; (focus (intro X hX; obtain ⟨s0, s1, s2, s3, s4, s5, s6⟩ := hX; go_simp; with_reducible rfl)); (try simp only [Act.put, List.setIfInBounds_toArray, List.set_cons_zero, List.set_cons_succ]))
            (refine till_take 14 (v := ?_) rfl (by kernel_rfl) (by kernel_rfl) (by kernel_rfl) (by kernel_rfl) (by kernel_rfl) (fun _ _ _ h => h) (by rfl) (by assumption) ?_ ?_; rotate_left 1; (focus (intro X hX; obtain ⟨s0, s1, s2, s3, s4, s5, s6⟩ := hX; go_simp; with_reducible rfl)); (try simp only [Act.put, List.setIfInBounds_toArray, List.set_cons_zero, List.set_cons_succ]))
            (refine till_take 15 (v := ?_) rfl (by kernel_rfl) (by kernel_rfl) (by kernel_rfl) (by kernel_rfl) (by kernel_rfl) (fun _ _ _ h => h) (by rfl) (by assumption) ?_ ?_; rotate_left 1; (focus (intro X hX; obtain ⟨s0, s1, s2, s3, s4, s5, s6⟩ := hX; go_simp; with_reducible rfl)); (try simp only [Act.put, List.setIfInBounds_toArray, List.set_cons_zero, List.set_cons_succ]))
            (refine till_take 16 (v := ?_) rfl (by kernel_rfl) (by kernel_rfl) (by kernel_rfl) (by kernel_rfl) (by kernel_rfl) (fun _ _ _ h => h) (by rfl) (by assumption) ?_ ?_; rotate_left 1; (focus (intro X hX; obtain ⟨s0, s1, s2, s3, s4, s5, s6⟩ := hX; go_simp; with_reducible rfl)); (try simp only [Act.put, List.setIfInBounds_toArray, List.set_cons_zero, List.set_cons_succ]))
            (refine till_take 17 (v := ?_) rfl (by kernel_rfl) (by kernel_rfl) (by kernel_rfl) (by kernel_rfl) (by kernel_rfl) (fun _ _ _ h => h) (by rfl) (by assumption) ?_ ?_; rotate_left 1; (focus (intro X hX; obtain ⟨s0, s1, s2, s3, s4, s5, s6⟩ := hX; go_simp; with_reducible rfl)); (try simp only [Act.put, List.setIfInBounds_toArray, List.set_cons_zero, List.set_cons_succ]))
            (refine till_take 18 (v := ?_) rfl (by kernel_rfl) (by kernel_rfl) (by kernel_rfl) (by kernel_rfl) (by kernel_rfl) (fun _ _ _ h => h) (by rfl) (by assumption) ?_ ?_; rotate_left 1; (focus (intro X hX; obtain ⟨s0, s1, s2, s3, s4, s5, s6⟩ := hX; go_simp; with_reducible rfl)); (try simp only [Act.put, List.setIfInBounds_toArray, List.set_cons_zero, List.set_cons_succ]))
            (refine till_take 19 (v := ?_) rfl (by kernel_rfl) (by kernel_rfl) (by kernel_rfl) (by kernel_rfl) (by kernel_rfl) (fun _ _ _ h => h) (by rfl) (by assumption) ?_ ?_; rotate_left 1; (focus (intro X hX; obtain ⟨s0, s1, s2, s3, s4, s5, s6⟩ := hX; go_simp; with_reducible rfl)); (try simp only [Act.put, List.setIfInBounds_toArray, List.set_cons_zero, List.set_cons_succ]))
            obtain ⟨d, hd⟩ : ∃ x : Dn, x = ⟨o.kind, o.key, o.val, o.old, o.hold, IntKind.i64.wrap (100 + 10 * (k : Int) - ((sN : Int)).tmod 40), IntKind.i64.wrap (100 + 10 * (k : Int) + IntKind.i64.wrap (IntKind.i64.wrap ((sN : Int) / 40) * 10)), st.2.1, strV st.2.2, hasV st.2.2⟩ := ⟨_, rfl⟩
            have hdm : d = madeAt ops S k o := by
              rw [hd]
              unfold madeAt
              have e1 : stepP o (valN ops k) = st := by rw [← HV.out, HST.out]
              rw [e1, ← HSN.out]
              have e2 : IntKind.i64.wrap (100 + 10 * (k : Int) - ((sN : Int)).tmod 40) = 100 + 10 * (k : Int) - ((sN % 40 : Nat) : Int) := by rw [Int.tmod_eq_emod_of_nonneg (by omega), wrap_small _ (by omega) (by omega)]; omega
              have e3 : IntKind.i64.wrap (100 + 10 * (k : Int) + IntKind.i64.wrap (IntKind.i64.wrap ((sN : Int) / 40) * 10)) = 100 + 10 * (k : Int) + ((sN / 40 * 10 : Nat) : Int) := by rw [wrap_small ((sN : Int) / 40) (by omega) (by omega), wrap_small ((sN : Int) / 40 * 10) (by omega) (by omega), wrap_small _ (by omega) (by omega)]; omega
              rw [e2, e3]
            obtain ⟨A9, c9, w9, hrun, ho9, hg9, -, hb9⟩ := append_dn X.drew (w.heap.size + 1) (A := Ao) (n := k) (c := co) (L := madeN ops S k) HLN.out.symm HO2.out d (by omega) HZ2.out
            have hbl : b10 < X.heap.size := (Array.getElem?_eq_some_iff.1 HU210.out).1
            have hw9 : w9.heap[b10]? = X.heap[b10]? := hg9.block b10 hbl (fun e => HBA.out e.symm)
            have hbA : Below X.drew.heap.size X.drew (X.drew.alloc (.cells #[.int .i64 0, .int .i64 0, .int .i64 0, .int .i64 0, .int .i64 (d).kind, .string (d).key, .string (d).val, .string (d).old, .bool (d).hold, .int .i64 (d).fr, .int .i64 (d).to, .int .i64 (d).code, .string (d).rv, .bool (d).has, .complex .f64 0 0] 36)) := (Below.refl _ _).alloc (Nat.le_refl _) _
            have hS20 : (fun X : World => (X.cell? (ad.add (k * 5)) = some (.int .i64 o.kind) ∧ X.cell? ⟨(ad.add (k * 5)).block, (ad.add (k * 5)).off + 1, none⟩ = some (.string o.key) ∧ X.cell? ⟨(ad.add (k * 5)).block, (ad.add (k * 5)).off + 2, none⟩ = some (.string o.val) ∧ X.cell? ⟨(ad.add (k * 5)).block, (ad.add (k * 5)).off + 3, none⟩ = some (.string o.old) ∧ X.cell? ⟨(ad.add (k * 5)).block, (ad.add (k * 5)).off + 4, none⟩ = some (.bool o.hold) ∧ X.cell? ⟨b10, 0, none⟩ = some (.bool (hasV st.2.2)) ∧ X.cell? ⟨b10, 1, none⟩ = some (.string (strV st.2.2)))) (X.drew.alloc (.cells #[.int .i64 0, .int .i64 0, .int .i64 0, .int .i64 0, .int .i64 (d).kind, .string (d).key, .string (d).val, .string (d).old, .bool (d).hold, .int .i64 (d).fr, .int .i64 (d).to, .int .i64 (d).code, .string (d).rv, .bool (d).has, .complex .f64 0 0] 36)) := ⟨keepc hS2.1 hbA, keepc hS2.2.1 hbA, keepc hS2.2.2.1 hbA, keepc hS2.2.2.2.1 hbA, keepc hS2.2.2.2.2.1 hbA, keepc hS2.2.2.2.2.2.1 hbA, keepc hS2.2.2.2.2.2.2 hbA⟩
            have hadw : (ad.add (k * 5)).block < w.heap.size + 1 := by have := HAB.out; omega
            have hkp : ∀ p x, p.block = (ad.add (k * 5)).block → X.cell? p = some x → w9.cell? p = some x := fun p x hp hx => (World.cell?_of_block (w := X) (hb9.block p.block (by rw [hp]; exact hadw))).trans hx
            have hkb : ∀ j x, X.cell? ⟨b10, j, none⟩ = some x → w9.cell? ⟨b10, j, none⟩ = some x := fun j x hx => (World.cell?_of_block (w := X) (a := ⟨b10, j, none⟩) hw9).trans hx
            have hS21 : (fun X : World => (X.cell? (ad.add (k * 5)) = some (.int .i64 o.kind) ∧ X.cell? ⟨(ad.add (k * 5)).block, (ad.add (k * 5)).off + 1, none⟩ = some (.string o.key) ∧ X.cell? ⟨(ad.add (k * 5)).block, (ad.add (k * 5)).off + 2, none⟩ = some (.string o.val) ∧ X.cell? ⟨(ad.add (k * 5)).block, (ad.add (k * 5)).off + 3, none⟩ = some (.string o.old) ∧ X.cell? ⟨(ad.add (k * 5)).block, (ad.add (k * 5)).off + 4, none⟩ = some (.bool o.hold) ∧ X.cell? ⟨b10, 0, none⟩ = some (.bool (hasV st.2.2)) ∧ X.cell? ⟨b10, 1, none⟩ = some (.string (strV st.2.2)))) w9 := ⟨hkp _ _ (by rfl) hS2.1, hkp _ _ (by rfl) hS2.2.1, hkp _ _ (by rfl) hS2.2.2.1, hkp _ _ (by rfl) hS2.2.2.2.1, hkp _ _ (by rfl) hS2.2.2.2.2.1, hkb _ _ hS2.2.2.2.2.2.1, hkb _ _ hS2.2.2.2.2.2.2⟩
            have hmk : madeN ops S (k + 1) = madeN ops S k ++ [madeAt ops S k o] := by show (match ops[k]? with | some o => _ | none => _) = _; rw [HOE.out]
            have hvk : valN ops (k + 1) = st.1 := by show (match ops[k]? with | some o => _ | none => _) = _; rw [HOE.out, HST.out, HV.out]
            have HO9 := Lib.hid (show w9.ownsRow (w.heap.size + 1) 36 15 (.slice A9 (k + 1) c9) (k + 1) (rowD (madeN ops S (k + 1))) from by rw [hmk, ← hdm]; exact ho9)
            have HL9 := Lib.hid (show (madeN ops S (k + 1)).length = k + 1 from by rw [hmk, List.length_append, HLN.out]; rfl)
            have HP9 := Lib.hid (show w9.heap[pv]? = some (.cells #[.bool (hasV (valN ops (k + 1))), .string (strV (valN ops (k + 1)))] 43 (0, 0)) from by rw [hvk]; exact (hb9.block pv (by have := HPV.out; omega)).trans HU2.out)
            have HB9 := Lib.hid (show Below w.heap.size w w9 from (below_drew HB2.out).trans (hb9.mono (Nat.le_succ _)))
            have HZ9 := Lib.hid (show w.heap.size + 1 ≤ w9.heap.size from Nat.le_trans HZ2.out hb9.size)
            clear hmk hvk hdm ho9 hg9 hb9 hbl hw9 hbA hadw hkp hkb
            subst hd
            refine till_one 20 (by kernel_rfl) rfl (fun K hK => ?_)
            go_simp
            refine hK.out _ _ (fun _ => hS20) ?_
            clear hK K hS20
            try simp only [Act.put, List.setIfInBounds_toArray, List.set_cons_zero, List.set_cons_succ]
            refine till_one 21 (by kernel_rfl) rfl (fun K hK => ?_)
            refine step_append_run rfl rfl rfl rfl hrun ?_
            refine hK.out _ _ (fun _ => hS21) ?_
            clear hK K hrun
            try simp only [Act.put, List.setIfInBounds_toArray, List.set_cons_zero, List.set_cons_succ]
            refine till_one 22 (by kernel_rfl) rfl (fun K hK => ?_)
            go_simp
            refine hK.out _ _ (fun h => absurd rfl h) ?_
            clear hK K hS21
            try simp only [Act.put, List.setIfInBounds_toArray, List.set_cons_zero, List.set_cons_succ]
            refine till_done (by kernel_rfl) ?_ _
            clear HO2 HB2 HZ2 HU2 HU210 HT hS2
            go_wp2_with fail
            go_roundw
            case rel => exact ⟨k + 1, A9, c9, by omega, by go_num, rfl, HO9, HL9, HP9, HB9, HZ9⟩
            case measure => simp [intOf] <;> omega
          · obtain ⟨sN, hsN⟩ : ∃ x, x = spr S k := ⟨_, rfl⟩
            have hs0 : sN = 0 := by
              rw [hsN]
              unfold spr
              rw [List.getElem?_eq_none (by have := HNS.out; omega)]
              rfl
            have HSN := Lib.hid hsN
            have hs255 : sN ≤ 255 := by omega
            clear hsN
            go_wp2_with fail
            try clear hsc'
            generalize (U.setCell ⟨pv, 0, none⟩ (.bool (hasV st.1))).setCell ⟨pv, 1, none⟩ (.string (strV st.1)) = X at HU2 HU210 HO2 HB2 HZ2 HT ⊢
            clear u0 u1 p0 p1 pf
            have hS2 : (fun X : World => (X.cell? (ad.add (k * 5)) = some (.int .i64 o.kind) ∧ X.cell? ⟨(ad.add (k * 5)).block, (ad.add (k * 5)).off + 1, none⟩ = some (.string o.key) ∧ X.cell? ⟨(ad.add (k * 5)).block, (ad.add (k * 5)).off + 2, none⟩ = some (.string o.val) ∧ X.cell? ⟨(ad.add (k * 5)).block, (ad.add (k * 5)).off + 3, none⟩ = some (.string o.old) ∧ X.cell? ⟨(ad.add (k * 5)).block, (ad.add (k * 5)).off + 4, none⟩ = some (.bool o.hold) ∧ X.cell? ⟨b10, 0, none⟩ = some (.bool (hasV st.2.2)) ∧ X.cell? ⟨b10, 1, none⟩ = some (.string (strV st.2.2)))) X.drew := HT.out
            refine wp_region_till 22 (fun X : World => (X.cell? (ad.add (k * 5)) = some (.int .i64 o.kind) ∧ X.cell? ⟨(ad.add (k * 5)).block, (ad.add (k * 5)).off + 1, none⟩ = some (.string o.key) ∧ X.cell? ⟨(ad.add (k * 5)).block, (ad.add (k * 5)).off + 2, none⟩ = some (.string o.val) ∧ X.cell? ⟨(ad.add (k * 5)).block, (ad.add (k * 5)).off + 3, none⟩ = some (.string o.old) ∧ X.cell? ⟨(ad.add (k * 5)).block, (ad.add (k * 5)).off + 4, none⟩ = some (.bool o.hold) ∧ X.cell? ⟨b10, 0, none⟩ = some (.bool (hasV st.2.2)) ∧ X.cell? ⟨b10, 1, none⟩ = some (.string (strV st.2.2)))) (by kernel_rfl) ?_
            (refine till_take 0 (v := ?_) rfl (by kernel_rfl) (by kernel_rfl) (by kernel_rfl) (by kernel_rfl) (by kernel_rfl) (fun _ _ _ h => h) (by rfl) (by assumption) ?_ ?_; rotate_left 1; (focus (intro X hX; obtain ⟨s0, s1, s2, s3, s4, s5, s6⟩ := hX; go_simp; with_reducible rfl)); (try simp only [Act.put, List.setIfInBounds_toArray, List.set_cons_zero, List.set_cons_succ]))
            (refine till_take 1 (v := ?_) rfl (by kernel_rfl) (by kernel_rfl) (by kernel_rfl) (by kernel_rfl) (by kernel_rfl) (fun _ _ _ h => h) (by rfl) (by assumption) ?_ ?_; rotate_left 1; (focus (intro X hX; obtain ⟨s0, s1, s2, s3, s4, s5, s6⟩ := hX; go_simp; with_reducible rfl)); (try simp only [Act.put, List.setIfInBounds_toArray, List.set_cons_zero, List.set_cons_succ]))
            (refine till_take 2 (v := ?_) rfl (by kernel_rfl) (by kernel_rfl) (by kernel_rfl) (by kernel_rfl) (by kernel_rfl) (fun _ _ _ h => h) (by rfl) (by assumption) ?_ ?_; rotate_left 1; (focus (intro X hX; obtain ⟨s0, s1, s2, s3, s4, s5, s6⟩ := hX; go_simp; with_reducible rfl)); (try simp only [Act.put, List.setIfInBounds_toArray, List.set_cons_zero, List.set_cons_succ]))
            (refine till_take 3 (v := ?_) rfl (by kernel_rfl) (by kernel_rfl) (by kernel_rfl) (by kernel_rfl) (by kernel_rfl) (fun _ _ _ h => h) (by rfl) (by assumption) ?_ ?_; rotate_left 1; (focus (intro X hX; obtain ⟨s0, s1, s2, s3, s4, s5, s6⟩ := hX; go_simp; with_reducible rfl)); (try simp only [Act.put, List.setIfInBounds_toArray, List.set_cons_zero, List.set_cons_succ]))
            (refine till_take 4 (v := ?_) rfl (by kernel_rfl) (by kernel_rfl) (by kernel_rfl) (by kernel_rfl) (by kernel_rfl) (fun _ _ _ h => h) (by rfl) (by assumption) ?_ ?_; rotate_left 1; (focus (intro X hX; obtain ⟨s0, s1, s2, s3, s4, s5, s6⟩ := hX; go_simp; with_reducible rfl)); (try simp only [Act.put, List.setIfInBounds_toArray, List.set_cons_zero, List.set_cons_succ]))
            (refine till_take 5 (v := ?_) rfl (by kernel_rfl) (by kernel_rfl) (by kernel_rfl) (by kernel_rfl) (by kernel_rfl) (fun _ _ _ h => h) (by rfl) (by assumption) ?_ ?_; rotate_left 1; (focus (intro X hX; obtain ⟨s0, s1, s2, s3, s4, s5, s6⟩ := hX; go_simp; with_reducible rfl)); (try simp only [Act.put, List.setIfInBounds_toArray, List.set_cons_zero, List.set_cons_succ]))
            (refine till_take 6 (v := ?_) rfl (by kernel_rfl) (by kernel_rfl) (by kernel_rfl) (by kernel_rfl) (by kernel_rfl) (fun _ _ _ h => h) (by rfl) (by assumption) ?_ ?_; rotate_left 1; (focus (intro X hX; obtain ⟨s0, s1, s2, s3, s4, s5, s6⟩ := hX; go_simp; with_reducible rfl)); (try simp only [Act.put, List.setIfInBounds_toArray, List.set_cons_zero, List.set_cons_succ]))
            (refine till_take 7 (v := ?_) rfl (by kernel_rfl) (by kernel_rfl) (by kernel_rfl) (by kernel_rfl) (by kernel_rfl) (fun _ _ _ h => h) (by rfl) (by assumption) ?_ ?_; rotate_left 1; (focus (intro X hX; obtain ⟨s0, s1, s2, s3, s4, s5, s6⟩ := hX; go_simp; with_reducible rfl)); (try simp only [Act.put, List.setIfInBounds_toArray, List.set_cons_zero, List.set_cons_succ]))
            (refine till_take 8 (v := ?_) rfl (by kernel_rfl) (by kernel_rfl) (by kernel_rfl) (by kernel_rfl) (by kernel_rfl) (fun _ _ _ h => h) (by rfl) (by assumption) ?_ ?_; rotate_left 1; (focus (intro X hX; obtain ⟨s0, s1, s2, s3, s4, s5, s6⟩ := hX; go_simp; with_reducible rfl)); (try simp only [Act.put, List.setIfInBounds_toArray, List.set_cons_zero, List.set_cons_succ]))
            (refine till_take 9 (v := ?_) rfl (by kernel_rfl) (by kernel_rfl) (by kernel_rfl) (by kernel_rfl) (by kernel_rfl) (fun _ _ _ h => h) (by rfl) (by assumption) ?_ ?_; rotate_left 1; (focus (intro X hX; obtain ⟨s0, s1, s2, s3, s4, s5, s6⟩ := hX; go_simp; with_reducible rfl)); (try simp only [Act.put, List.setIfInBounds_toArray, List.set_cons_zero, List.set_cons_succ]))
            (refine till_take 10 (v := ?_) rfl (by kernel_rfl) (by kernel_rfl) (by kernel_rfl) (by kernel_rfl) (by kernel_rfl) (fun _ _ _ h => h) (by rfl) (by assumption) ?_ ?_; rotate_left 1; (focus (intro X hX; obtain ⟨s0, s1, s2, s3, s4, s5, s6⟩ := hX; go_simp; with_reducible rfl)); (try simp only [Act.put, List.setIfInBounds_toArray, List.set_cons_zero, List.set_cons_succ]))
            (refine till_take 11 (v := ?_) rfl (by kernel_rfl) (by kernel_rfl) (by kernel_rfl) (by kernel_rfl) (by kernel_rfl) (fun _ _ _ h => h) (by rfl) (by assumption) ?_ ?_; rotate_left 1; (focus (intro X hX; obtain ⟨s0, s1, s2, s3, s4, s5, s6⟩ := hX; go_simp; with_reducible rfl)); (try simp only [Act.put, List.setIfInBounds_toArray, List.set_cons_zero, List.set_cons_succ]))
            (refine till_take 12 (v := ?_) rfl (by kernel_rfl) (by kernel_rfl) (by kernel_rfl) (by kernel_rfl) (by kernel_rfl) (fun _ _ _ h => h) (by rfl) (by assumption) ?_ ?_; rotate_left 1; (focus (intro X hX; obtain ⟨s0, s1, s2, s3, s4, s5, s6⟩ := hX; go_simp; with_reducible rfl)); (try simp only [Act.put, List.setIfInBounds_toArray, List.set_cons_zero, List.set_cons_succ]))
            (refine till_take 13 (v := ?_) rfl (by kernel_rfl) (by kernel_rfl) (by kernel_rfl) (by kernel_rfl) (by kernel_rfl) (fun _ _ _ h => h) (by rfl) (by assumption) ?_ ?_; rotate_left 1; (focus (intro X hX; obtain ⟨s0, s1, s2, s3, s4, s5, s6⟩ := hX; go_simp; with_reducible rfl)); (try simp only [Act.put, List.setIfInBounds_toArray, List.set_cons_zero, List.set_cons_succ]))
            (refine till_take 14 (v := ?_) rfl (by kernel_rfl) (by kernel_rfl) (by kernel_rfl) (by kernel_rfl) (by kernel_rfl) (fun _ _ _ h => h) (by rfl) (by assumption) ?_ ?_; rotate_left 1; (focus (intro X hX; obtain ⟨s0, s1, s2, s3, s4, s5, s6⟩ := hX; go_simp; with_reducible rfl)); (try simp only [Act.put, List.setIfInBounds_toArray, List.set_cons_zero, List.set_cons_succ]))
            (refine till_take 15 (v := ?_) rfl (by kernel_rfl) (by kernel_rfl) (by kernel_rfl) (by kernel_rfl) (by kernel_rfl) (fun _ _ _ h => h) (by rfl) (by assumption) ?_ ?_; rotate_left 1; (focus (intro X hX; obtain ⟨s0, s1, s2, s3, s4, s5, s6⟩ := hX; go_simp; with_reducible rfl)); (try simp only [Act.put, List.setIfInBounds_toArray, List.set_cons_zero, List.set_cons_succ]))
            (refine till_take 16 (v := ?_) rfl (by kernel_rfl) (by kernel_rfl) (by kernel_rfl) (by kernel_rfl) (by kernel_rfl) (fun _ _ _ h => h) (by rfl) (by assumption) ?_ ?_; rotate_left 1; (focus (intro X hX; obtain ⟨s0, s1, s2, s3, s4, s5, s6⟩ := hX; go_simp; with_reducible rfl)); (try simp only [Act.put, List.setIfInBounds_toArray, List.set_cons_zero, List.set_cons_succ]))
            (refine till_take 17 (v := ?_) rfl (by kernel_rfl) (by kernel_rfl) (by kernel_rfl) (by kernel_rfl) (by kernel_rfl) (fun _ _ _ h => h) (by rfl) (by assumption) ?_ ?_; rotate_left 1; (focus (intro X hX; obtain ⟨s0, s1, s2, s3, s4, s5, s6⟩ := hX; go_simp; with_reducible rfl)); (try simp only [Act.put, List.setIfInBounds_toArray, List.set_cons_zero, List.set_cons_succ]))
            (refine till_take 18 (v := ?_) rfl (by kernel_rfl) (by kernel_rfl) (by kernel_rfl) (by kernel_rfl) (by kernel_rfl) (fun _ _ _ h => h) (by rfl) (by assumption) ?_ ?_; rotate_left 1; (focus (intro X hX; obtain ⟨s0, s1, s2, s3, s4, s5, s6⟩ := hX; go_simp; with_reducible rfl)); (try simp only [Act.put, List.setIfInBounds_toArray, List.set_cons_zero, List.set_cons_succ]))
            (refine till_take 19 (v := ?_) rfl (by kernel_rfl) (by kernel_rfl) (by kernel_rfl) (by kernel_rfl) (by kernel_rfl) (fun _ _ _ h => h) (by rfl) (by assumption) ?_ ?_; rotate_left 1; (focus (intro X hX; obtain ⟨s0, s1, s2, s3, s4, s5, s6⟩ := hX; go_simp; with_reducible rfl)); (try simp only [Act.put, List.setIfInBounds_toArray, List.set_cons_zero, List.set_cons_succ]))
            obtain ⟨d, hd⟩ : ∃ x : Dn, x = ⟨o.kind, o.key, o.val, o.old, o.hold, IntKind.i64.wrap (100 + 10 * (k : Int)), IntKind.i64.wrap (100 + 10 * (k : Int) + IntKind.i64.wrap (IntKind.i64.wrap 0 * 10)), st.2.1, strV st.2.2, hasV st.2.2⟩ := ⟨_, rfl⟩
            have hdm : d = madeAt ops S k o := by
              rw [hd]
              unfold madeAt
              have e1 : stepP o (valN ops k) = st := by rw [← HV.out, HST.out]
              rw [e1, ← HSN.out]
              have e2 : IntKind.i64.wrap (100 + 10 * (k : Int)) = 100 + 10 * (k : Int) - ((sN % 40 : Nat) : Int) := by rw [wrap_small _ (by omega) (by omega)]; omega
              have e3 : IntKind.i64.wrap (100 + 10 * (k : Int) + IntKind.i64.wrap (IntKind.i64.wrap 0 * 10)) = 100 + 10 * (k : Int) + ((sN / 40 * 10 : Nat) : Int) := by rw [wrap_small 0 (by omega) (by omega), wrap_small (0 * 10) (by omega) (by omega), wrap_small _ (by omega) (by omega)]; omega
              rw [e2, e3]
            obtain ⟨A9, c9, w9, hrun, ho9, hg9, -, hb9⟩ := append_dn X.drew (w.heap.size + 1) (A := Ao) (n := k) (c := co) (L := madeN ops S k) HLN.out.symm HO2.out d (by omega) HZ2.out
            have hbl : b10 < X.heap.size := (Array.getElem?_eq_some_iff.1 HU210.out).1
            have hw9 : w9.heap[b10]? = X.heap[b10]? := hg9.block b10 hbl (fun e => HBA.out e.symm)
            have hbA : Below X.drew.heap.size X.drew (X.drew.alloc (.cells #[.int .i64 0, .int .i64 0, .int .i64 0, .int .i64 0, .int .i64 (d).kind, .string (d).key, .string (d).val, .string (d).old, .bool (d).hold, .int .i64 (d).fr, .int .i64 (d).to, .int .i64 (d).code, .string (d).rv, .bool (d).has, .complex .f64 0 0] 36)) := (Below.refl _ _).alloc (Nat.le_refl _) _
            have hS20 : (fun X : World => (X.cell? (ad.add (k * 5)) = some (.int .i64 o.kind) ∧ X.cell? ⟨(ad.add (k * 5)).block, (ad.add (k * 5)).off + 1, none⟩ = some (.string o.key) ∧ X.cell? ⟨(ad.add (k * 5)).block, (ad.add (k * 5)).off + 2, none⟩ = some (.string o.val) ∧ X.cell? ⟨(ad.add (k * 5)).block, (ad.add (k * 5)).off + 3, none⟩ = some (.string o.old) ∧ X.cell? ⟨(ad.add (k * 5)).block, (ad.add (k * 5)).off + 4, none⟩ = some (.bool o.hold) ∧ X.cell? ⟨b10, 0, none⟩ = some (.bool (hasV st.2.2)) ∧ X.cell? ⟨b10, 1, none⟩ = some (.string (strV st.2.2)))) (X.drew.alloc (.cells #[.int .i64 0, .int .i64 0, .int .i64 0, .int .i64 0, .int .i64 (d).kind, .string (d).key, .string (d).val, .string (d).old, .bool (d).hold, .int .i64 (d).fr, .int .i64 (d).to, .int .i64 (d).code, .string (d).rv, .bool (d).has, .complex .f64 0 0] 36)) := ⟨keepc hS2.1 hbA, keepc hS2.2.1 hbA, keepc hS2.2.2.1 hbA, keepc hS2.2.2.2.1 hbA, keepc hS2.2.2.2.2.1 hbA, keepc hS2.2.2.2.2.2.1 hbA, keepc hS2.2.2.2.2.2.2 hbA⟩
            have hadw : (ad.add (k * 5)).block < w.heap.size + 1 := by have := HAB.out; omega
            have hkp : ∀ p x, p.block = (ad.add (k * 5)).block → X.cell? p = some x → w9.cell? p = some x := fun p x hp hx => (World.cell?_of_block (w := X) (hb9.block p.block (by rw [hp]; exact hadw))).trans hx
            have hkb : ∀ j x, X.cell? ⟨b10, j, none⟩ = some x → w9.cell? ⟨b10, j, none⟩ = some x := fun j x hx => (World.cell?_of_block (w := X) (a := ⟨b10, j, none⟩) hw9).trans hx
            have hS21 : (fun X : World => (X.cell? (ad.add (k * 5)) = some (.int .i64 o.kind) ∧ X.cell? ⟨(ad.add (k * 5)).block, (ad.add (k * 5)).off + 1, none⟩ = some (.string o.key) ∧ X.cell? ⟨(ad.add (k * 5)).block, (ad.add (k * 5)).off + 2, none⟩ = some (.string o.val) ∧ X.cell? ⟨(ad.add (k * 5)).block, (ad.add (k * 5)).off + 3, none⟩ = some (.string o.old) ∧ X.cell? ⟨(ad.add (k * 5)).block, (ad.add (k * 5)).off + 4, none⟩ = some (.bool o.hold) ∧ X.cell? ⟨b10, 0, none⟩ = some (.bool (hasV st.2.2)) ∧ X.cell? ⟨b10, 1, none⟩ = some (.string (strV st.2.2)))) w9 := ⟨hkp _ _ (by rfl) hS2.1, hkp _ _ (by rfl) hS2.2.1, hkp _ _ (by rfl) hS2.2.2.1, hkp _ _ (by rfl) hS2.2.2.2.1, hkp _ _ (by rfl) hS2.2.2.2.2.1, hkb _ _ hS2.2.2.2.2.2.1, hkb _ _ hS2.2.2.2.2.2.2⟩
            have hmk : madeN ops S (k + 1) = madeN ops S k ++ [madeAt ops S k o] := by show (match ops[k]? with | some o => _ | none => _) = _; rw [HOE.out]
            have hvk : valN ops (k + 1) = st.1 := by show (match ops[k]? with | some o => _ | none => _) = _; rw [HOE.out, HST.out, HV.out]
            have HO9 := Lib.hid (show w9.ownsRow (w.heap.size + 1) 36 15 (.slice A9 (k + 1) c9) (k + 1) (rowD (madeN ops S (k + 1))) from by rw [hmk, ← hdm]; exact ho9)
            have HL9 := Lib.hid (show (madeN ops S (k + 1)).length = k + 1 from by rw [hmk, List.length_append, HLN.out]; rfl)
            have HP9 := Lib.hid (show w9.heap[pv]? = some (.cells #[.bool (hasV (valN ops (k + 1))), .string (strV (valN ops (k + 1)))] 43 (0, 0)) from by rw [hvk]; exact (hb9.block pv (by have := HPV.out; omega)).trans HU2.out)
            have HB9 := Lib.hid (show Below w.heap.size w w9 from (below_drew HB2.out).trans (hb9.mono (Nat.le_succ _)))
            have HZ9 := Lib.hid (show w.heap.size + 1 ≤ w9.heap.size from Nat.le_trans HZ2.out hb9.size)
            clear hmk hvk hdm ho9 hg9 hb9 hbl hw9 hbA hadw hkp hkb
            subst hd
            refine till_one 20 (by kernel_rfl) rfl (fun K hK => ?_)
            go_simp
            refine hK.out _ _ (fun _ => hS20) ?_
            clear hK K hS20
            try simp only [Act.put, List.setIfInBounds_toArray, List.set_cons_zero, List.set_cons_succ]
            refine till_one 21 (by kernel_rfl) rfl (fun K hK => ?_)
            refine step_append_run rfl rfl rfl rfl hrun ?_
            refine hK.out _ _ (fun _ => hS21) ?_
            clear hK K hrun
            try simp only [Act.put, List.setIfInBounds_toArray, List.set_cons_zero, List.set_cons_succ]
            refine till_one 22 (by kernel_rfl) rfl (fun K hK => ?_)
            go_simp
            refine hK.out _ _ (fun h => absurd rfl h) ?_
            clear hK K hS21
            try simp only [Act.put, List.setIfInBounds_toArray, List.set_cons_zero, List.set_cons_succ]
            refine till_done (by kernel_rfl) ?_ _
            clear HO2 HB2 HZ2 HU2 HU210 HT hS2
            go_wp2_with fail
            go_roundw
            case rel => exact ⟨k + 1, A9, c9, by omega, by go_num, rfl, HO9, HL9, HP9, HB9, HZ9⟩
            case measure => simp [intOf] <;> omega
      · intro K hK
        have hbA8 : Below wr.drew.heap.size wr.drew (wr.drew.alloc (.cells #[.bool false, .string ⟨#[]⟩] 43)) := (Below.refl _ _).alloc (Nat.le_refl _) _
        have hS8a : (fun X : World => (X.cell? (ad.add (k * 5)) = some (.int .i64 o.kind) ∧ X.cell? ⟨(ad.add (k * 5)).block, (ad.add (k * 5)).off + 1, none⟩ = some (.string o.key) ∧ X.cell? ⟨(ad.add (k * 5)).block, (ad.add (k * 5)).off + 2, none⟩ = some (.string o.val) ∧ X.cell? ⟨(ad.add (k * 5)).block, (ad.add (k * 5)).off + 3, none⟩ = some (.string o.old) ∧ X.cell? ⟨(ad.add (k * 5)).block, (ad.add (k * 5)).off + 4, none⟩ = some (.bool o.hold) ∧ X.cell? ⟨pv, 0, none⟩ = some (.bool (hasV v)) ∧ X.cell? ⟨pv, 1, none⟩ = some (.string (strV v)))) (wr.drew.alloc (.cells #[.bool false, .string ⟨#[]⟩] 43)) := ⟨keepc hS0.1 hbA8, keepc hS0.2.1 hbA8, keepc hS0.2.2.1 hbA8, keepc hS0.2.2.2.1 hbA8, keepc hS0.2.2.2.2.1 hbA8, keepc hS0.2.2.2.2.2.1 hbA8, keepc hS0.2.2.2.2.2.2 hbA8⟩
        have hbY8 : Below wr.heap.size wr (wr.drew.alloc (.cells #[.bool false, .string ⟨#[]⟩] 43)) := (hbX).trans (hbA8.mono (hbX).size)
        go_simp
        refine hK.out _ _ (fun _ => hS8a) ?_
        clear hK K
        try simp only [Act.put, List.setIfInBounds_toArray, List.set_cons_zero, List.set_cons_succ]
        have hz8 : (wr.drew.alloc (.cells #[.bool false, .string ⟨#[]⟩] 43)).heap[wr.heap.size]? = some (.cells #[.bool false, .string ⟨#[]⟩] 43) := by have := heap_alloc_new wr.drew (.cells #[.bool false, .string ⟨#[]⟩] 43); rwa [show wr.drew.heap.size = wr.heap.size by first | rfl | simp] at this
        refine till_two 5 11 (by kernel_rfl) rfl rfl ?_ ?_
        · intro K hK
          go_simp
          go_at_call 10
          refine (step_any (wr.drew.alloc (.cells #[.bool false, .string ⟨#[]⟩] 43)) o.kind o.key o.val o.old o.hold v).mono ?_
          rintro e6 w6 ⟨rfl, hb6⟩
          have hS6 : (fun X : World => (X.cell? (ad.add (k * 5)) = some (.int .i64 o.kind) ∧ X.cell? ⟨(ad.add (k * 5)).block, (ad.add (k * 5)).off + 1, none⟩ = some (.string o.key) ∧ X.cell? ⟨(ad.add (k * 5)).block, (ad.add (k * 5)).off + 2, none⟩ = some (.string o.val) ∧ X.cell? ⟨(ad.add (k * 5)).block, (ad.add (k * 5)).off + 3, none⟩ = some (.string o.old) ∧ X.cell? ⟨(ad.add (k * 5)).block, (ad.add (k * 5)).off + 4, none⟩ = some (.bool o.hold) ∧ X.cell? ⟨pv, 0, none⟩ = some (.bool (hasV v)) ∧ X.cell? ⟨pv, 1, none⟩ = some (.string (strV v)))) w6 := ⟨keepc hS8a.1 hb6, keepc hS8a.2.1 hb6, keepc hS8a.2.2.1 hb6, keepc hS8a.2.2.2.1 hb6, keepc hS8a.2.2.2.2.1 hb6, keepc hS8a.2.2.2.2.2.1 hb6, keepc hS8a.2.2.2.2.2.2 hb6⟩
          have hbY6 : Below wr.heap.size wr w6 := (hbY8).trans (hb6.mono (hbY8).size)
          refine hK.out _ _ (fun _ => hS6) ?_
          clear hK K
          try simp only [Act.put, List.setIfInBounds_toArray, List.set_cons_zero, List.set_cons_succ]
          (refine till_take 6 (v := ?_) rfl (by kernel_rfl) (by kernel_rfl) (by kernel_rfl) (by kernel_rfl) (by kernel_rfl) (fun _ _ _ h => h) (by rfl) (by assumption) ?_ ?_; rotate_left 1; (focus (intro X hX; obtain ⟨s0, s1, s2, s3, s4, s5, s6⟩ := hX; go_simp; with_reducible rfl)); (try simp only [Act.put, List.setIfInBounds_toArray, List.set_cons_zero, List.set_cons_succ]))
          (refine till_take 7 (v := ?_) rfl (by kernel_rfl) (by kernel_rfl) (by kernel_rfl) (by kernel_rfl) (by kernel_rfl) (fun _ _ _ h => h) (by rfl) (by assumption) ?_ ?_; rotate_left 1; (focus (intro X hX; obtain ⟨s0, s1, s2, s3, s4, s5, s6⟩ := hX; go_simp; with_reducible rfl)); (try simp only [Act.put, List.setIfInBounds_toArray, List.set_cons_zero, List.set_cons_succ]))
          (refine till_take 8 (v := ?_) rfl (by kernel_rfl) (by kernel_rfl) (by kernel_rfl) (by kernel_rfl) (by kernel_rfl) (fun _ _ _ h => h) (by rfl) (by assumption) ?_ ?_; rotate_left 1; (focus (intro X hX; obtain ⟨s0, s1, s2, s3, s4, s5, s6⟩ := hX; go_simp; with_reducible rfl)); (try simp only [Act.put, List.setIfInBounds_toArray, List.set_cons_zero, List.set_cons_succ]))
          (refine till_take 9 (v := ?_) rfl (by kernel_rfl) (by kernel_rfl) (by kernel_rfl) (by kernel_rfl) (by kernel_rfl) (fun _ _ _ h => h) (by rfl) (by assumption) ?_ ?_; rotate_left 1; (focus (intro X hX; obtain ⟨s0, s1, s2, s3, s4, s5, s6⟩ := hX; go_simp; with_reducible rfl)); (try simp only [Act.put, List.setIfInBounds_toArray, List.set_cons_zero, List.set_cons_succ]))
          refine till_one 11 (by kernel_rfl) rfl (fun K hK => ?_)
          have hbA10 : Below w6.heap.size w6 (w6.alloc (.cells #[.bool false, .string ⟨#[]⟩] 43)) := (Below.refl _ _).alloc (Nat.le_refl _) _
          have hS10a : (fun X : World => (X.cell? (ad.add (k * 5)) = some (.int .i64 o.kind) ∧ X.cell? ⟨(ad.add (k * 5)).block, (ad.add (k * 5)).off + 1, none⟩ = some (.string o.key) ∧ X.cell? ⟨(ad.add (k * 5)).block, (ad.add (k * 5)).off + 2, none⟩ = some (.string o.val) ∧ X.cell? ⟨(ad.add (k * 5)).block, (ad.add (k * 5)).off + 3, none⟩ = some (.string o.old) ∧ X.cell? ⟨(ad.add (k * 5)).block, (ad.add (k * 5)).off + 4, none⟩ = some (.bool o.hold) ∧ X.cell? ⟨pv, 0, none⟩ = some (.bool (hasV v)) ∧ X.cell? ⟨pv, 1, none⟩ = some (.string (strV v)))) (w6.alloc (.cells #[.bool false, .string ⟨#[]⟩] 43)) := ⟨keepc hS6.1 hbA10, keepc hS6.2.1 hbA10, keepc hS6.2.2.1 hbA10, keepc hS6.2.2.2.1 hbA10, keepc hS6.2.2.2.2.1 hbA10, keepc hS6.2.2.2.2.2.1 hbA10, keepc hS6.2.2.2.2.2.2 hbA10⟩
          have hbY10 : Below wr.heap.size wr (w6.alloc (.cells #[.bool false, .string ⟨#[]⟩] 43)) := (hbY6).trans (hbA10.mono (hbY6).size)
          go_simp
          refine hK.out _ _ (fun _ => hS10a) ?_
          clear hK K
          try simp only [Act.put, List.setIfInBounds_toArray, List.set_cons_zero, List.set_cons_succ]
          have hz10 : (w6.alloc (.cells #[.bool false, .string ⟨#[]⟩] 43)).heap[w6.heap.size]? = some (.cells #[.bool false, .string ⟨#[]⟩] 43) := by have := heap_alloc_new w6 (.cells #[.bool false, .string ⟨#[]⟩] 43); rwa [show w6.heap.size = w6.heap.size by first | rfl | simp] at this
          have HSY := Lib.hid (show ((w6.alloc (.cells #[.bool false, .string ⟨#[]⟩] 43)).cell? (ad.add (k * 5)) = some (.int .i64 o.kind) ∧ (w6.alloc (.cells #[.bool false, .string ⟨#[]⟩] 43)).cell? ⟨(ad.add (k * 5)).block, (ad.add (k * 5)).off + 1, none⟩ = some (.string o.key) ∧ (w6.alloc (.cells #[.bool false, .string ⟨#[]⟩] 43)).cell? ⟨(ad.add (k * 5)).block, (ad.add (k * 5)).off + 2, none⟩ = some (.string o.val) ∧ (w6.alloc (.cells #[.bool false, .string ⟨#[]⟩] 43)).cell? ⟨(ad.add (k * 5)).block, (ad.add (k * 5)).off + 3, none⟩ = some (.string o.old) ∧ (w6.alloc (.cells #[.bool false, .string ⟨#[]⟩] 43)).cell? ⟨(ad.add (k * 5)).block, (ad.add (k * 5)).off + 4, none⟩ = some (.bool o.hold) ∧ (w6.alloc (.cells #[.bool false, .string ⟨#[]⟩] 43)).cell? ⟨pv, 0, none⟩ = some (.bool (hasV v)) ∧ (w6.alloc (.cells #[.bool false, .string ⟨#[]⟩] 43)).cell? ⟨pv, 1, none⟩ = some (.string (strV v))) from hS10a)
          have HBY := Lib.hid (show Below wr.heap.size wr (w6.alloc (.cells #[.bool false, .string ⟨#[]⟩] 43)) from hbY10)
          have HZ8 := Lib.hid (show (w6.alloc (.cells #[.bool false, .string ⟨#[]⟩] 43)).heap[wr.heap.size]? = some (.cells #[.bool false, .string ⟨#[]⟩] 43) from ((hbA10.block _ (by first | (simp; done) | (simp; omega) | (have hh6 := hb6.size; simp at hh6; omega) | (have hh6 := hb6.size; simp at hh6 ⊢; omega))).trans ((hb6.block _ (by first | (simp; done) | (simp; omega) | (have hh6 := hb6.size; simp at hh6; omega) | (have hh6 := hb6.size; simp at hh6 ⊢; omega))).trans hz8)))
          have HZ10 := Lib.hid (show (w6.alloc (.cells #[.bool false, .string ⟨#[]⟩] 43)).heap[w6.heap.size]? = some (.cells #[.bool false, .string ⟨#[]⟩] 43) from hz10)
          have HNE0 := Lib.hid (show wr.heap.size ≠ w6.heap.size ∧ wr.heap.size ≤ wr.heap.size ∧ wr.heap.size ≤ w6.heap.size from by
            have hh6 := hb6.size
            have hwd : wr.drew.heap.size = wr.heap.size := rfl
            try simp only [World.size_alloc] at hh6
            try rw [hwd] at hh6
            omega)
          clear hS0 hbX o0 o1 o2 o3 o4 v0 v1 hbA8 hS8a hbY8 hz8 hS6 hbY6 hb6 hbA10 hS10a hbY10 hz10
          generalize (w6.alloc (.cells #[.bool false, .string ⟨#[]⟩] 43)) = Y at HSY HBY HZ8 HZ10 ⊢
          obtain ⟨b8, hb8⟩ : ∃ x, x = wr.heap.size := ⟨_, rfl⟩
          obtain ⟨b10, hb10⟩ : ∃ x, x = w6.heap.size := ⟨_, rfl⟩
          have HNE := Lib.hid (show b8 ≠ b10 ∧ wr.heap.size ≤ b8 ∧ wr.heap.size ≤ b10 from by rw [hb8, hb10]; exact HNE0.out)
          rw [← hb8] at HZ8 ⊢
          rw [← hb10] at HZ10 ⊢
          clear hb8 hb10 HNE0
          obtain ⟨st, hst⟩ : ∃ x, x = stepP ⟨o.kind, o.key, o.val, o.old, o.hold⟩ v := ⟨_, rfl⟩
          rw [← hst]
          have HST := Lib.hid hst
          clear hst
          have hpvlt : pv < wr.heap.size := by have := HPV.out; have := HZ.out; omega
          have hadlt : (ad.add (k * 5)).block < wr.heap.size := by have := HAB.out; have := HZ.out; omega
          obtain ⟨hne, hn8, hn10⟩ := HNE.out
          have y80 := cell_of_row _ b8 0 _ _ (0, 0) HZ8.out
          have y81 := cell_of_row _ b8 1 _ _ (0, 0) HZ8.out
          have yf : ∀ j, Y.frozen? ⟨b8, j, none⟩ = false := fun j => frozen_of_row _ _ j _ _ HZ8.out
          simp only [List.getElem?_toArray, List.getElem?_cons_succ, List.getElem?_cons_zero] at y80 y81
          have ha8 : (ad.add (k * 5)).block ≠ b8 := by omega
          have hp8 : pv ≠ b8 := by omega
          have hS12 : (fun X : World => (X.cell? (ad.add (k * 5)) = some (.int .i64 o.kind) ∧ X.cell? ⟨(ad.add (k * 5)).block, (ad.add (k * 5)).off + 1, none⟩ = some (.string o.key) ∧ X.cell? ⟨(ad.add (k * 5)).block, (ad.add (k * 5)).off + 2, none⟩ = some (.string o.val) ∧ X.cell? ⟨(ad.add (k * 5)).block, (ad.add (k * 5)).off + 3, none⟩ = some (.string o.old) ∧ X.cell? ⟨(ad.add (k * 5)).block, (ad.add (k * 5)).off + 4, none⟩ = some (.bool o.hold) ∧ X.cell? ⟨pv, 0, none⟩ = some (.bool (hasV v)) ∧ X.cell? ⟨pv, 1, none⟩ = some (.string (strV v)))) ((Y.setCell ⟨b8, 0, none⟩ (.bool (hasV st.1))).setCell ⟨b8, 1, none⟩ (.string (strV st.1))) := by
            obtain ⟨s0, s1, s2, s3, s4, s5, s6⟩ := HSY.out
            exact ⟨cell2n _ _ s0 ha8, cell2n _ _ s1 ha8, cell2n _ _ s2 ha8, cell2n _ _ s3 ha8, cell2n _ _ s4 ha8, cell2n _ _ s5 hp8, cell2n _ _ s6 hp8⟩
          refine till_one 12 (by kernel_rfl) rfl (fun K hK => ?_)
          go_simp
          refine hK.out _ _ (fun _ => hS12) ?_
          clear hK K y80 y81 yf
          try simp only [Act.put, List.setIfInBounds_toArray, List.set_cons_zero, List.set_cons_succ]
          have HZ8b := Lib.hid (set2 HZ8.out (.bool (hasV st.1)) (.string (strV st.1)))
          have HZ10b := Lib.hid ((heap2 (w := Y) (d := b8) (.bool (hasV st.1)) (.string (strV st.1)) (Ne.symm hne)).trans HZ10.out)
          have HBY2 := Lib.hid ((HBY.out.setCell (p := ⟨b8, 0, none⟩) hn8 (.bool (hasV st.1))).setCell (p := ⟨b8, 1, none⟩) hn8 (.string (strV st.1)))
          clear HZ8 HZ10 HBY HSY
          generalize (Y.setCell ⟨b8, 0, none⟩ (.bool (hasV st.1))).setCell ⟨b8, 1, none⟩ (.string (strV st.1)) = Y2 at HZ8b HZ10b HBY2 hS12 ⊢
          refine till_one 13 (by kernel_rfl) rfl (fun K hK => ?_)
          go_simp
          refine hK.out _ _ (fun _ => hS12) ?_
          clear hK K
          try simp only [Act.put, List.setIfInBounds_toArray, List.set_cons_zero, List.set_cons_succ]
          have y80 := cell_of_row _ b10 0 _ _ (0, 0) HZ10b.out
          have y81 := cell_of_row _ b10 1 _ _ (0, 0) HZ10b.out
          have yf : ∀ j, Y2.frozen? ⟨b10, j, none⟩ = false := fun j => frozen_of_row _ _ j _ _ HZ10b.out
          simp only [List.getElem?_toArray, List.getElem?_cons_succ, List.getElem?_cons_zero] at y80 y81
          refine till_one 14 (by kernel_rfl) rfl (fun K hK => ?_)
          go_simp
          refine hK.out _ _ (fun h => absurd rfl h) ?_
          clear hK K y80 y81 yf
          try simp only [Act.put, List.setIfInBounds_toArray, List.set_cons_zero, List.set_cons_succ]
          refine till_done (by kernel_rfl) ?_ _
          have hp10 : pv ≠ b10 := by omega
          have ha10 : (ad.add (k * 5)).block ≠ b10 := by omega
          have HU8 := Lib.hid ((heap2 (w := Y2) (d := b10) (.bool (hasV st.2.2)) (.string (strV st.2.2)) hne).trans HZ8b.out)
          have HU10 := Lib.hid (set2 HZ10b.out (.bool (hasV st.2.2)) (.string (strV st.2.2)))
          have HBU := Lib.hid ((HBY2.out.setCell (p := ⟨b10, 0, none⟩) hn10 (.bool (hasV st.2.2))).setCell (p := ⟨b10, 1, none⟩) hn10 (.string (strV st.2.2)))
          have HUO := Lib.hid (show ∀ p x, p.block = (ad.add (k * 5)).block → Y2.cell? p = some x → ((Y2.setCell ⟨b10, 0, none⟩ (.bool (hasV st.2.2))).setCell ⟨b10, 1, none⟩ (.string (strV st.2.2))).cell? p = some x from fun p x hp hx => cell2n _ _ hx (by rw [hp]; exact ha10))
          clear HZ8b HZ10b HBY2
          obtain ⟨s0, s1, s2, s3, s4, -, -⟩ := hS12
          replace s0 := HUO.out _ _ (by rfl) s0
          replace s1 := HUO.out _ _ (by rfl) s1
          replace s2 := HUO.out _ _ (by rfl) s2
          replace s3 := HUO.out _ _ (by rfl) s3
          replace s4 := HUO.out _ _ (by rfl) s4
          clear HUO
          generalize (Y2.setCell ⟨b10, 0, none⟩ (.bool (hasV st.2.2))).setCell ⟨b10, 1, none⟩ (.string (strV st.2.2)) = U at HU8 HU10 HBU s0 s1 s2 s3 s4 ⊢
          have HUP := Lib.hid ((HBU.out.block pv hpvlt).trans HP.out)
          have u0 := cell_of_row _ b8 0 _ _ (0, 0) HU8.out
          have u1 := cell_of_row _ b8 1 _ _ (0, 0) HU8.out
          have p0 := cell_of_row _ pv 0 _ _ (0, 0) HUP.out
          have p1 := cell_of_row _ pv 1 _ _ (0, 0) HUP.out
          have pf : ∀ j, U.frozen? ⟨pv, j, none⟩ = false := fun j => frozen_of_row _ _ j _ _ HUP.out
          simp only [List.getElem?_toArray, List.getElem?_cons_succ, List.getElem?_cons_zero] at u0 u1 p0 p1
          have hap : (ad.add (k * 5)).block ≠ pv := by have := HAB.out; have := HPV.out; omega
          have HU2 := Lib.hid (set2 HUP.out (.bool (hasV st.1)) (.string (strV st.1)))
          have HU210 := Lib.hid ((heap2 (w := U) (d := pv) (.bool (hasV st.1)) (.string (strV st.1)) (Ne.symm hp10)).trans HU10.out)
          have HO2 := Lib.hid (row_set (d := pv) (o := 1) (row_set (d := pv) (o := 0) (own_below HO.out HBU.out (Nat.le_refl _)) (fun e => by have := (row_lt HO.out e).1; have := HPV.out; omega) (.bool (hasV st.1))) (fun e => by have := (row_lt HO.out e).1; have := HPV.out; omega) (.string (strV st.1)))
          have HB2 := Lib.hid (show Below w.heap.size w ((U.setCell ⟨pv, 0, none⟩ (.bool (hasV st.1))).setCell ⟨pv, 1, none⟩ (.string (strV st.1))) from ((HB.out.trans (HBU.out.mono (Nat.le_trans (Nat.le_succ _) HZ.out))).setCell (p := ⟨pv, 0, none⟩) (by simp only; have := HPV.out; omega) _).setCell (p := ⟨pv, 1, none⟩) (by simp only; have := HPV.out; omega) _)
          have HZ2 := Lib.hid (show w.heap.size + 1 ≤ ((U.setCell ⟨pv, 0, none⟩ (.bool (hasV st.1))).setCell ⟨pv, 1, none⟩ (.string (strV st.1))).heap.size from by simpa using Nat.le_trans HZ.out HBU.out.size)
          have HT := Lib.hid (show (fun X : World => (X.cell? (ad.add (k * 5)) = some (.int .i64 o.kind) ∧ X.cell? ⟨(ad.add (k * 5)).block, (ad.add (k * 5)).off + 1, none⟩ = some (.string o.key) ∧ X.cell? ⟨(ad.add (k * 5)).block, (ad.add (k * 5)).off + 2, none⟩ = some (.string o.val) ∧ X.cell? ⟨(ad.add (k * 5)).block, (ad.add (k * 5)).off + 3, none⟩ = some (.string o.old) ∧ X.cell? ⟨(ad.add (k * 5)).block, (ad.add (k * 5)).off + 4, none⟩ = some (.bool o.hold) ∧ X.cell? ⟨b10, 0, none⟩ = some (.bool (hasV st.2.2)) ∧ X.cell? ⟨b10, 1, none⟩ = some (.string (strV st.2.2)))) ((U.setCell ⟨pv, 0, none⟩ (.bool (hasV st.1))).setCell ⟨pv, 1, none⟩ (.string (strV st.1))) from by
            have c0 := cell_of_row _ b10 0 _ _ (0, 0) HU210.out
            have c1 := cell_of_row _ b10 1 _ _ (0, 0) HU210.out
            simp only [List.getElem?_toArray, List.getElem?_cons_succ, List.getElem?_cons_zero] at c0 c1
            exact ⟨cell2n _ _ s0 hap, cell2n _ _ s1 hap, cell2n _ _ s2 hap, cell2n _ _ s3 hap, cell2n _ _ s4 hap, c0, c1⟩)
          have HBA := Lib.hid (show bl Ao ≠ some b10 from fun e => by have := (row_lt HO.out e).2; omega)
          clear s0 s1 s2 s3 s4 hap HUP HU8 HU10 HBU HO HP HB HZ hp10 ha10 hp8 ha8 hpvlt hadlt hne hn8 hn10 HNE
          by_cases hks : k < ns
          · have hksl : k < S.length := by rw [← HNS.out]; exact hks
            have hrb := HRS.out.below HB2.out
            obtain ⟨sd, sx, rfl, -, hsx, hsc⟩ := Reads.at_ hrb hksl
            obtain ⟨sN, hsN⟩ : ∃ x, x = spr S k := ⟨_, rfl⟩
            have hsc' : ((U.setCell ⟨pv, 0, none⟩ (.bool (hasV st.1))).setCell ⟨pv, 1, none⟩ (.string (strV st.1))).cell? (sd.add k) = some (.int .u8 (sN : Int)) := by
              rw [hsc, ← hsx, bytesV, List.getElem?_map, List.getElem?_eq_getElem hksl, hsN]
              simp [spr, List.getElem?_eq_getElem hksl]
            have hs255 : sN ≤ 255 := by rw [hsN]; simp only [spr, List.getElem?_eq_getElem hksl, Option.map_some, Option.getD_some]; have := S[k].toNat_lt; omega
            have HSN := Lib.hid hsN
            have hks0 : (k : Int) < ns := by omega
            clear hsN hsc hsx hrb hksl
            go_wp2_with fail
            try clear hsc'
            generalize (U.setCell ⟨pv, 0, none⟩ (.bool (hasV st.1))).setCell ⟨pv, 1, none⟩ (.string (strV st.1)) = X at HU2 HU210 HO2 HB2 HZ2 HT ⊢
            clear u0 u1 p0 p1 pf
            have hS2 : (fun X : World => (X.cell? (ad.add (k * 5)) = some (.int .i64 o.kind) ∧ X.cell? ⟨(ad.add (k * 5)).block, (ad.add (k * 5)).off + 1, none⟩ = some (.string o.key) ∧ X.cell? ⟨(ad.add (k * 5)).block, (ad.add (k * 5)).off + 2, none⟩ = some (.string o.val) ∧ X.cell? ⟨(ad.add (k * 5)).block, (ad.add (k * 5)).off + 3, none⟩ = some (.string o.old) ∧ X.cell? ⟨(ad.add (k * 5)).block, (ad.add (k * 5)).off + 4, none⟩ = some (.bool o.hold) ∧ X.cell? ⟨b10, 0, none⟩ = some (.bool (hasV st.2.2)) ∧ X.cell? ⟨b10, 1, none⟩ = some (.string (strV st.2.2)))) X.drew := HT.out
            refine wp_region_till 22 (fun X : World => (X.cell? (ad.add (k * 5)) = some (.int .i64 o.kind) ∧ X.cell? ⟨(ad.add (k * 5)).block, (ad.add (k * 5)).off + 1, none⟩ = some (.string o.key) ∧ X.cell? ⟨(ad.add (k * 5)).block, (ad.add (k * 5)).off + 2, none⟩ = some (.string o.val) ∧ X.cell? ⟨(ad.add (k * 5)).block, (ad.add (k * 5)).off + 3, none⟩ = some (.string o.old) ∧ X.cell? ⟨(ad.add (k * 5)).block, (ad.add (k * 5)).off + 4, none⟩ = some (.bool o.hold) ∧ X.cell? ⟨b10, 0, none⟩ = some (.bool (hasV st.2.2)) ∧ X.cell? ⟨b10, 1, none⟩ = some (.string (strV st.2.2)))) (by kernel_rfl) ?_
            (refine till_take 0 (v := ?_) rfl (by kernel_rfl) (by kernel_rfl) (by kernel_rfl) (by kernel_rfl) (by kernel_rfl) (fun _ _ _ h => h) (by rfl) (by assumption) ?_ ?_; rotate_left 1; (focus (intro X hX; obtain ⟨s0, s1, s2, s3, s4, s5, s6⟩ := hX; go_simp; with_reducible rfl)); (try simp only [Act.put, List.setIfInBounds_toArray, List.set_cons_zero, List.set_cons_succ]))
            (refine till_take 1 (v := ?_) rfl (by kernel_rfl) (by kernel_rfl) (by kernel_rfl) (by kernel_rfl) (by kernel_rfl) (fun _ _ _ h => h) (by rfl) (by assumption) ?_ ?_; rotate_left 1; (focus (intro X hX; obtain ⟨s0, s1, s2, s3, s4, s5, s6⟩ := hX; go_simp; with_reducible rfl)); (try simp only [Act.put, List.setIfInBounds_toArray, List.set_cons_zero, List.set_cons_succ]))
            (refine till_take 2 (v := ?_) rfl (by kernel_rfl) (by kernel_rfl) (by kernel_rfl) (by kernel_rfl) (by kernel_rfl) (fun _ _ _ h => h) (by rfl) (by assumption) ?_ ?_; rotate_left 1; (focus (intro X hX; obtain ⟨s0, s1, s2, s3, s4, s5, s6⟩ := hX; go_simp; with_reducible rfl)); (try simp only [Act.put, List.setIfInBounds_toArray, List.set_cons_zero, List.set_cons_succ]))
            (refine till_take 3 (v := ?_) rfl (by kernel_rfl) (by kernel_rfl) (by kernel_rfl) (by kernel_rfl) (by kernel_rfl) (fun _ _ _ h => h) (by rfl) (by assumption) ?_ ?_; rotate_left 1; (focus (intro X hX; obtain ⟨s0, s1, s2, s3, s4, s5, s6⟩ := hX; go_simp; with_reducible rfl)); (try simp only [Act.put, List.setIfInBounds_toArray, List.set_cons_zero, List.set_cons_succ]))
            (refine till_take 4 (v := ?_) rfl (by kernel_rfl) (by kernel_rfl) (by kernel_rfl) (by kernel_rfl) (by kernel_rfl) (fun _ _ _ h => h) (by rfl) (by assumption) ?_ ?_; rotate_left 1; (focus (intro X hX; obtain ⟨s0, s1, s2, s3, s4, s5, s6⟩ := hX; go_simp; with_reducible rfl)); (try simp only [Act.put, List.setIfInBounds_toArray, List.set_cons_zero, List.set_cons_succ]))
            (refine till_take 5 (v := ?_) rfl (by kernel_rfl) (by kernel_rfl) (by kernel_rfl) (by kernel_rfl) (by kernel_rfl) (fun _ _ _ h => h) (by rfl) (by assumption) ?_ ?_; rotate_left 1; (focus (intro X hX; obtain ⟨s0, s1, s2, s3, s4, s5, s6⟩ := hX; go_simp; with_reducible rfl)); (try simp only [Act.put, List.setIfInBounds_toArray, List.set_cons_zero, List.set_cons_succ]))
            (refine till_take 6 (v := ?_) rfl (by kernel_rfl) (by kernel_rfl) (by kernel_rfl) (by kernel_rfl) (by kernel_rfl) (fun _ _ _ h => h) (by rfl) (by assumption) ?_ ?_; rotate_left 1; (focus (intro X hX; obtain ⟨s0, s1, s2, s3, s4, s5, s6⟩ := hX; go_simp; with_reducible rfl)); (try simp only [Act.put, List.setIfInBounds_toArray, List.set_cons_zero, List.set_cons_succ]))
            (refine till_take 7 (v := ?_) rfl (by kernel_rfl) (by kernel_rfl) (by kernel_rfl) (by kernel_rfl) (by kernel_rfl) (fun _ _ _ h => h) (by rfl) (by assumption) ?_ ?_; rotate_left 1; (focus (intro X hX; obtain ⟨s0, s1, s2, s3, s4, s5, s6⟩ := hX; go_simp; with_reducible rfl)); (try simp only [Act.put, List.setIfInBounds_toArray, List.set_cons_zero, List.set_cons_succ]))
            (refine till_take 8 (v := ?_) rfl (by kernel_rfl) (by kernel_rfl) (by kernel_rfl) (by kernel_rfl) (by kernel_rfl) (fun _ _ _ h => h) (by rfl) (by assumption) ?_ ?_; rotate_left 1; (focus (intro X hX; obtain ⟨s0, s1, s2, s3, s4, s5, s6⟩ := hX; go_simp; with_reducible rfl)); (try simp only [Act.put, List.setIfInBounds_toArray, List.set_cons_zero, List.set_cons_succ]))
            (refine till_take 9 (v := ?_) rfl (by kernel_rfl) (by kernel_rfl) (by kernel_rfl) (by kernel_rfl) (by kernel_rfl) (fun _ _ _ h => h) (by rfl) (by assumption) ?_ ?_; rotate_left 1; (focus (intro X hX; obtain ⟨s0, s1, s2, s3, s4, s5, s6⟩ := hX; go_simp; with_reducible rfl)); (try simp only [Act.put, List.setIfInBounds_toArray, List.set_cons_zero, List.set_cons_succ]))
            (refine till_take 10 (v := ?_) rfl (by kernel_rfl) (by kernel_rfl) (by kernel_rfl) (by kernel_rfl) (by kernel_rfl) (fun _ _ _ h => h) (by rfl) (by assumption) ?_ ?_; rotate_left 1; (focus (intro X hX; obtain ⟨s0, s1, s2, s3, s4, s5, s6⟩ := hX; go_simp; with_reducible rfl)); (try simp only [Act.put, List.setIfInBounds_toArray, List.set_cons_zero, List.set_cons_succ]))
            (refine till_take 11 (v := ?_) rfl (by kernel_rfl) (by kernel_rfl) (by kernel_rfl) (by kernel_rfl) (by kernel_rfl) (fun _ _ _ h => h) (by rfl) (by assumption) ?_ ?_; rotate_left 1; (focus (intro X hX; obtain ⟨s0, s1, s2, s3, s4, s5, s6⟩ := hX; go_simp; with_reducible rfl)); (try simp only [Act.put, List.setIfInBounds_toArray, List.set_cons_zero, List.set_cons_succ]))
            (refine till_take 12 (v := ?_) rfl (by kernel_rfl) (by kernel_rfl) (by kernel_rfl) (by kernel_rfl) (by kernel_rfl) (fun _ _ _ h => h) (by rfl) (by assumption) ?_ ?_; rotate_left 1; (focus (intro X hX; obtain ⟨s0, s1, s2, s3, s4, s5, s6⟩ := hX; go_simp; with_reducible rfl)); (try simp only [Act.put, List.setIfInBounds_toArray, List.set_cons_zero, List.set_cons_succ]))
            (refine till_take 13 (v := ?_) rfl (by kernel_rfl) (by kernel_rfl) (by kernel_rfl) (by kernel_rfl) (by kernel_rfl) (fun _ _ _ h => h) (by rfl) (by assumption) ?_ ?_; rotate_left 1; (focus (intro X hX; obtain ⟨s0, s1, s2, s3, s4, s5, s6⟩ := hX; go_simp; with_reducible rfl)); (try simp only [Act.put, List.setIfInBounds_toArray, List.set_cons_zero, List.set_cons_succ]))
            (refine till_take 14 (v := ?_) rfl (by kernel_rfl) (by kernel_rfl) (by kernel_rfl) (by kernel_rfl) (by kernel_rfl) (fun _ _ _ h => h) (by rfl) (by assumption) ?_ ?_; rotate_left 1; (focus (intro X hX; obtain ⟨s0, s1, s2, s3, s4, s5, s6⟩ := hX; go_simp; with_reducible rfl)); (try simp only [Act.put, List.setIfInBounds_toArray, List.set_cons_zero, List.set_cons_succ]))
            (refine till_take 15 (v := ?_) rfl (by kernel_rfl) (by kernel_rfl) (by kernel_rfl) (by kernel_rfl) (by kernel_rfl) (fun _ _ _ h => h) (by rfl) (by assumption) ?_ ?_; rotate_left 1; (focus (intro X hX; obtain ⟨s0, s1, s2, s3, s4, s5, s6⟩ := hX; go_simp; with_reducible rfl)); (try simp only [Act.put, List.setIfInBounds_toArray, List.set_cons_zero, List.set_cons_succ]))
            (refine till_take 16 (v := ?_) rfl (by kernel_rfl) (by kernel_rfl) (by kernel_rfl) (by kernel_rfl) (by kernel_rfl) (fun _ _ _ h => h) (by rfl) (by assumption) ?_ ?_; rotate_left 1; (focus (intro X hX; obtain ⟨s0, s1, s2, s3, s4, s5, s6⟩ := hX; go_simp; with_reducible rfl)); (try simp only [Act.put, List.setIfInBounds_toArray, List.set_cons_zero, List.set_cons_succ]))
            (refine till_take 17 (v := ?_) rfl (by kernel_rfl) (by kernel_rfl) (by kernel_rfl) (by kernel_rfl) (by kernel_rfl) (fun _ _ _ h => h) (by rfl) (by assumption) ?_ ?_; rotate_left 1; (focus (intro X hX; obtain ⟨s0, s1, s2, s3, s4, s5, s6⟩ := hX; go_simp; with_reducible rfl)); (try simp only [Act.put, List.setIfInBounds_toArray, List.set_cons_zero, List.set_cons_succ]))
            (refine till_take 18 (v := ?_) rfl (by kernel_rfl) (by kernel_rfl) (by kernel_rfl) (by kernel_rfl) (by kernel_rfl) (fun _ _ _ h => h) (by rfl) (by assumption) ?_ ?_; rotate_left 1; (focus (intro X hX; obtain ⟨s0, s1, s2, s3, s4, s5, s6⟩ := hX; go_simp; with_reducible rfl)); (try simp only [Act.put, List.setIfInBounds_toArray, List.set_cons_zero, List.set_cons_succ]))
            (refine till_take 19 (v := ?_) rfl (by kernel_rfl) (by kernel_rfl) (by kernel_rfl) (by kernel_rfl) (by kernel_rfl) (fun _ _ _ h => h) (by rfl) (by assumption) ?_ ?_; rotate_left 1; (focus (intro X hX; obtain ⟨s0, s1, s2, s3, s4, s5, s6⟩ := hX; go_simp; with_reducible rfl)); (try simp only [Act.put, List.setIfInBounds_toArray, List.set_cons_zero, List.set_cons_succ]))
            obtain ⟨d, hd⟩ : ∃ x : Dn, x = ⟨o.kind, o.key, o.val, o.old, o.hold, IntKind.i64.wrap (100 + 10 * (k : Int) - ((sN : Int)).tmod 40), IntKind.i64.wrap (100 + 10 * (k : Int) + IntKind.i64.wrap (IntKind.i64.wrap ((sN : Int) / 40) * 10)), st.2.1, strV st.2.2, hasV st.2.2⟩ := ⟨_, rfl⟩
            have hdm : d = madeAt ops S k o := by
              rw [hd]
              unfold madeAt
              have e1 : stepP o (valN ops k) = st := by rw [← HV.out, HST.out]
              rw [e1, ← HSN.out]
              have e2 : IntKind.i64.wrap (100 + 10 * (k : Int) - ((sN : Int)).tmod 40) = 100 + 10 * (k : Int) - ((sN % 40 : Nat) : Int) := by rw [Int.tmod_eq_emod_of_nonneg (by omega), wrap_small _ (by omega) (by omega)]; omega
              have e3 : IntKind.i64.wrap (100 + 10 * (k : Int) + IntKind.i64.wrap (IntKind.i64.wrap ((sN : Int) / 40) * 10)) = 100 + 10 * (k : Int) + ((sN / 40 * 10 : Nat) : Int) := by rw [wrap_small ((sN : Int) / 40) (by omega) (by omega), wrap_small ((sN : Int) / 40 * 10) (by omega) (by omega), wrap_small _ (by omega) (by omega)]; omega
              rw [e2, e3]
            obtain ⟨A9, c9, w9, hrun, ho9, hg9, -, hb9⟩ := append_dn X.drew (w.heap.size + 1) (A := Ao) (n := k) (c := co) (L := madeN ops S k) HLN.out.symm HO2.out d (by omega) HZ2.out
            have hbl : b10 < X.heap.size := (Array.getElem?_eq_some_iff.1 HU210.out).1
            have hw9 : w9.heap[b10]? = X.heap[b10]? := hg9.block b10 hbl (fun e => HBA.out e.symm)
            have hbA : Below X.drew.heap.size X.drew (X.drew.alloc (.cells #[.int .i64 0, .int .i64 0, .int .i64 0, .int .i64 0, .int .i64 (d).kind, .string (d).key, .string (d).val, .string (d).old, .bool (d).hold, .int .i64 (d).fr, .int .i64 (d).to, .int .i64 (d).code, .string (d).rv, .bool (d).has, .complex .f64 0 0] 36)) := (Below.refl _ _).alloc (Nat.le_refl _) _
            have hS20 : (fun X : World => (X.cell? (ad.add (k * 5)) = some (.int .i64 o.kind) ∧ X.cell? ⟨(ad.add (k * 5)).block, (ad.add (k * 5)).off + 1, none⟩ = some (.string o.key) ∧ X.cell? ⟨(ad.add (k * 5)).block, (ad.add (k * 5)).off + 2, none⟩ = some (.string o.val) ∧ X.cell? ⟨(ad.add (k * 5)).block, (ad.add (k * 5)).off + 3, none⟩ = some (.string o.old) ∧ X.cell? ⟨(ad.add (k * 5)).block, (ad.add (k * 5)).off + 4, none⟩ = some (.bool o.hold) ∧ X.cell? ⟨b10, 0, none⟩ = some (.bool (hasV st.2.2)) ∧ X.cell? ⟨b10, 1, none⟩ = some (.string (strV st.2.2)))) (X.drew.alloc (.cells #[.int .i64 0, .int .i64 0, .int .i64 0, .int .i64 0, .int .i64 (d).kind, .string (d).key, .string (d).val, .string (d).old, .bool (d).hold, .int .i64 (d).fr, .int .i64 (d).to, .int .i64 (d).code, .string (d).rv, .bool (d).has, .complex .f64 0 0] 36)) := ⟨keepc hS2.1 hbA, keepc hS2.2.1 hbA, keepc hS2.2.2.1 hbA, keepc hS2.2.2.2.1 hbA, keepc hS2.2.2.2.2.1 hbA, keepc hS2.2.2.2.2.2.1 hbA, keepc hS2.2.2.2.2.2.2 hbA⟩
            have hadw : (ad.add (k * 5)).block < w.heap.size + 1 := by have := HAB.out; omega
            have hkp : ∀ p x, p.block = (ad.add (k * 5)).block → X.cell? p = some x → w9.cell? p = some x := fun p x hp hx => (World.cell?_of_block (w := X) (hb9.block p.block (by rw [hp]; exact hadw))).trans hx
            have hkb : ∀ j x, X.cell? ⟨b10, j, none⟩ = some x → w9.cell? ⟨b10, j, none⟩ = some x := fun j x hx => (World.cell?_of_block (w := X) (a := ⟨b10, j, none⟩) hw9).trans hx
            have hS21 : (fun X : World => (X.cell? (ad.add (k * 5)) = some (.int .i64 o.kind) ∧ X.cell? ⟨(ad.add (k * 5)).block, (ad.add (k * 5)).off + 1, none⟩ = some (.string o.key) ∧ X.cell? ⟨(ad.add (k * 5)).block, (ad.add (k * 5)).off + 2, none⟩ = some (.string o.val) ∧ X.cell? ⟨(ad.add (k * 5)).block, (ad.add (k * 5)).off + 3, none⟩ = some (.string o.old) ∧ X.cell? ⟨(ad.add (k * 5)).block, (ad.add (k * 5)).off + 4, none⟩ = some (.bool o.hold) ∧ X.cell? ⟨b10, 0, none⟩ = some (.bool (hasV st.2.2)) ∧ X.cell? ⟨b10, 1, none⟩ = some (.string (strV st.2.2)))) w9 := ⟨hkp _ _ (by rfl) hS2.1, hkp _ _ (by rfl) hS2.2.1, hkp _ _ (by rfl) hS2.2.2.1, hkp _ _ (by rfl) hS2.2.2.2.1, hkp _ _ (by rfl) hS2.2.2.2.2.1, hkb _ _ hS2.2.2.2.2.2.1, hkb _ _ hS2.2.2.2.2.2.2⟩
            have hmk : madeN ops S (k + 1) = madeN ops S k ++ [madeAt ops S k o] := by show (match ops[k]? with | some o => _ | none => _) = _; rw [HOE.out]
            have hvk : valN ops (k + 1) = st.1 := by show (match ops[k]? with | some o => _ | none => _) = _; rw [HOE.out, HST.out, HV.out]
            have HO9 := Lib.hid (show w9.ownsRow (w.heap.size + 1) 36 15 (.slice A9 (k + 1) c9) (k + 1) (rowD (madeN ops S (k + 1))) from by rw [hmk, ← hdm]; exact ho9)
            have HL9 := Lib.hid (show (madeN ops S (k + 1)).length = k + 1 from by rw [hmk, List.length_append, HLN.out]; rfl)
            have HP9 := Lib.hid (show w9.heap[pv]? = some (.cells #[.bool (hasV (valN ops (k + 1))), .string (strV (valN ops (k + 1)))] 43 (0, 0)) from by rw [hvk]; exact (hb9.block pv (by have := HPV.out; omega)).trans HU2.out)
            have HB9 := Lib.hid (show Below w.heap.size w w9 from (below_drew HB2.out).trans (hb9.mono (Nat.le_succ _)))
            have HZ9 := Lib.hid (show w.heap.size + 1 ≤ w9.heap.size from Nat.le_trans HZ2.out hb9.size)
            clear hmk hvk hdm ho9 hg9 hb9 hbl hw9 hbA hadw hkp hkb
            subst hd
            refine till_one 20 (by kernel_rfl) rfl (fun K hK => ?_)
            go_simp
            refine hK.out _ _ (fun _ => hS20) ?_
            clear hK K hS20
            try simp only [Act.put, List.setIfInBounds_toArray, List.set_cons_zero, List.set_cons_succ]
            refine till_one 21 (by kernel_rfl) rfl (fun K hK => ?_)
            refine step_append_run rfl rfl rfl rfl hrun ?_
            refine hK.out _ _ (fun _ => hS21) ?_
            clear hK K hrun
            try simp only [Act.put, List.setIfInBounds_toArray, List.set_cons_zero, List.set_cons_succ]
            refine till_one 22 (by kernel_rfl) rfl (fun K hK => ?_)
            go_simp
            refine hK.out _ _ (fun h => absurd rfl h) ?_
            clear hK K hS21
            try simp only [Act.put, List.setIfInBounds_toArray, List.set_cons_zero, List.set_cons_succ]
            refine till_done (by kernel_rfl) ?_ _
            clear HO2 HB2 HZ2 HU2 HU210 HT hS2
            go_wp2_with fail
            go_roundw
            case rel => exact ⟨k + 1, A9, c9, by omega, by go_num, rfl, HO9, HL9, HP9, HB9, HZ9⟩
            case measure => simp [intOf] <;> omega
          · obtain ⟨sN, hsN⟩ : ∃ x, x = spr S k := ⟨_, rfl⟩
            have hs0 : sN = 0 := by
              rw [hsN]
              unfold spr
              rw [List.getElem?_eq_none (by have := HNS.out; omega)]
              rfl
            have HSN := Lib.hid hsN
            have hs255 : sN ≤ 255 := by omega
            clear hsN
            go_wp2_with fail
            try clear hsc'
            generalize (U.setCell ⟨pv, 0, none⟩ (.bool (hasV st.1))).setCell ⟨pv, 1, none⟩ (.string (strV st.1)) = X at HU2 HU210 HO2 HB2 HZ2 HT ⊢
            clear u0 u1 p0 p1 pf
            have hS2 : (fun X : World => (X.cell? (ad.add (k * 5)) = some (.int .i64 o.kind) ∧ X.cell? ⟨(ad.add (k * 5)).block, (ad.add (k * 5)).off + 1, none⟩ = some (.string o.key) ∧ X.cell? ⟨(ad.add (k * 5)).block, (ad.add (k * 5)).off + 2, none⟩ = some (.string o.val) ∧ X.cell? ⟨(ad.add (k * 5)).block, (ad.add (k * 5)).off + 3, none⟩ = some (.string o.old) ∧ X.cell? ⟨(ad.add (k * 5)).block, (ad.add (k * 5)).off + 4, none⟩ = some (.bool o.hold) ∧ X.cell? ⟨b10, 0, none⟩ = some (.bool (hasV st.2.2)) ∧ X.cell? ⟨b10, 1, none⟩ = some (.string (strV st.2.2)))) X.drew := HT.out
            refine wp_region_till 22 (fun X : World => (X.cell? (ad.add (k * 5)) = some (.int .i64 o.kind) ∧ X.cell? ⟨(ad.add (k * 5)).block, (ad.add (k * 5)).off + 1, none⟩ = some (.string o.key) ∧ X.cell? ⟨(ad.add (k * 5)).block, (ad.add (k * 5)).off + 2, none⟩ = some (.string o.val) ∧ X.cell? ⟨(ad.add (k * 5)).block, (ad.add (k * 5)).off + 3, none⟩ = some (.string o.old) ∧ X.cell? ⟨(ad.add (k * 5)).block, (ad.add (k * 5)).off + 4, none⟩ = some (.bool o.hold) ∧ X.cell? ⟨b10, 0, none⟩ = some (.bool (hasV st.2.2)) ∧ X.cell? ⟨b10, 1, none⟩ = some (.string (strV st.2.2)))) (by kernel_rfl) ?_
            (refine till_take 0 (v := ?_) rfl (by kernel_rfl) (by kernel_rfl) (by kernel_rfl) (by kernel_rfl) (by kernel_rfl) (fun _ _ _ h => h) (by rfl) (by assumption) ?_ ?_; rotate_left 1; (focus (intro X hX; obtain ⟨s0, s1, s2, s3, s4, s5, s6⟩ := hX; go_simp; with_reducible rfl)); (try simp only [Act.put, List.setIfInBounds_toArray, List.set_cons_zero, List.set_cons_succ]))
            (refine till_take 1 (v := ?_) rfl (by kernel_rfl) (by kernel_rfl) (by kernel_rfl) (by kernel_rfl) (by kernel_rfl) (fun _ _ _ h => h) (by rfl) (by assumption) ?_ ?_; rotate_left 1; (focus (intro X hX; obtain ⟨s0, s1, s2, s3, s4, s5, s6⟩ := hX; go_simp; with_reducible rfl)); (try simp only [Act.put, List.setIfInBounds_toArray, List.set_cons_zero, List.set_cons_succ]))
            (refine till_take 2 (v := ?_) rfl (by kernel_rfl) (by kernel_rfl) (by kernel_rfl) (by kernel_rfl) (by kernel_rfl) (fun _ _ _ h => h) (by rfl) (by assumption) ?_ ?_; rotate_left 1; (focus (intro X hX; obtain ⟨s0, s1, s2, s3, s4, s5, s6⟩ := hX; go_simp; with_reducible rfl)); (try simp only [Act.put, List.setIfInBounds_toArray, List.set_cons_zero, List.set_cons_succ]))
            (refine till_take 3 (v := ?_) rfl (by kernel_rfl) (by kernel_rfl) (by kernel_rfl) (by kernel_rfl) (by kernel_rfl) (fun _ _ _ h => h) (by rfl) (by assumption) ?_ ?_; rotate_left 1; (focus (intro X hX; obtain ⟨s0, s1, s2, s3, s4, s5, s6⟩ := hX; go_simp; with_reducible rfl)); (try simp only [Act.put, List.setIfInBounds_toArray, List.set_cons_zero, List.set_cons_succ]))
            (refine till_take 4 (v := ?_) rfl (by kernel_rfl) (by kernel_rfl) (by kernel_rfl) (by kernel_rfl) (by kernel_rfl) (fun _ _ _ h => h) (by rfl) (by assumption) ?_ ?_; rotate_left 1; (focus (intro X hX; obtain ⟨s0, s1, s2, s3, s4, s5, s6⟩ := hX; go_simp; with_reducible rfl)); (try simp only [Act.put, List.setIfInBounds_toArray, List.set_cons_zero, List.set_cons_succ]))
            (refine till_take 5 (v := ?_) rfl (by kernel_rfl) (by kernel_rfl) (by kernel_rfl) (by kernel_rfl) (by kernel_rfl) (fun _ _ _ h => h) (by rfl) (by assumption) ?_ ?_; rotate_left 1; (focus (intro X hX; obtain ⟨s0, s1, s2, s3, s4, s5, s6⟩ := hX; go_simp; with_reducible rfl)); (try simp only [Act.put, List.setIfInBounds_toArray, List.set_cons_zero, List.set_cons_succ]))
            (refine till_take 6 (v := ?_) rfl (by kernel_rfl) (by kernel_rfl) (by kernel_rfl) (by kernel_rfl) (by kernel_rfl) (fun _ _ _ h => h) (by rfl) (by assumption) ?_ ?_; rotate_left 1; (focus (intro X hX; obtain ⟨s0, s1, s2, s3, s4, s5, s6⟩ := hX; go_simp; with_reducible rfl)); (try simp only [Act.put, List.setIfInBounds_toArray, List.set_cons_zero, List.set_cons_succ]))
            (refine till_take 7 (v := ?_) rfl (by kernel_rfl) (by kernel_rfl) (by kernel_rfl) (by kernel_rfl) (by kernel_rfl) (fun _ _ _ h => h) (by rfl) (by assumption) ?_ ?_; rotate_left 1; (focus (intro X hX; obtain ⟨s0, s1, s2, s3, s4, s5, s6⟩ := hX; go_simp; with_reducible rfl)); (try simp only [Act.put, List.setIfInBounds_toArray, List.set_cons_zero, List.set_cons_succ]))
            (refine till_take 8 (v := ?_) rfl (by kernel_rfl) (by kernel_rfl) (by kernel_rfl) (by kernel_rfl) (by kernel_rfl) (fun _ _ _ h => h) (by rfl) (by assumption) ?_ ?_; rotate_left 1; (focus (intro X hX; obtain ⟨s0, s1, s2, s3, s4, s5, s6⟩ := hX; go_simp; with_reducible rfl)); (try simp only [Act.put, List.setIfInBounds_toArray, List.set_cons_zero, List.set_cons_succ]))
            (refine till_take 9 (v := ?_) rfl (by kernel_rfl) (by kernel_rfl) (by kernel_rfl) (by kernel_rfl) (by kernel_rfl) (fun _ _ _ h => h) (by rfl) (by assumption) ?_ ?_; rotate_left 1; (focus (intro X hX; obtain ⟨s0, s1, s2, s3, s4, s5, s6⟩ := hX; go_simp; with_reducible rfl)); (try simp only [Act.put, List.setIfInBounds_toArray, List.set_cons_zero, List.set_cons_succ]))
            (refine till_take 10 (v := ?_) rfl (by kernel_rfl) (by kernel_rfl) (by kernel_rfl) (by kernel_rfl) (by kernel_rfl) (fun _ _ _ h => h) (by rfl) (by assumption) ?_ ?_; rotate_left 1; (focus (intro X hX; obtain ⟨s0, s1, s2, s3, s4, s5, s6⟩ := hX; go_simp; with_reducible rfl)); (try simp only [Act.put, List.setIfInBounds_toArray, List.set_cons_zero, List.set_cons_succ]))
            (refine till_take 11 (v := ?_) rfl (by kernel_rfl) (by kernel_rfl) (by kernel_rfl) (by kernel_rfl) (by kernel_rfl) (fun _ _ _ h => h) (by rfl) (by assumption) ?_ ?_; rotate_left 1; (focus (intro X hX; obtain ⟨s0, s1, s2, s3, s4, s5, s6⟩ := hX; go_simp; with_reducible rfl)); (try simp only [Act.put, List.setIfInBounds_toArray, List.set_cons_zero, List.set_cons_succ]))
            (refine till_take 12 (v := ?_) rfl (by kernel_rfl) (by kernel_rfl) (by kernel_rfl) (by kernel_rfl) (by kernel_rfl) (fun _ _ _ h => h) (by rfl) (by assumption) ?_ ?_; rotate_left 1; (focus (intro X hX; obtain ⟨s0, s1, s2, s3, s4, s5, s6⟩ := hX; go_simp; with_reducible rfl)); (try simp only [Act.put, List.setIfInBounds_toArray, List.set_cons_zero, List.set_cons_succ]))
            (refine till_take 13 (v := ?_) rfl (by kernel_rfl) (by kernel_rfl) (by kernel_rfl) (by kernel_rfl) (by kernel_rfl) (fun _ _ _ h => h) (by rfl) (by assumption) ?_ ?_; rotate_left 1; (focus (intro X hX; obtain ⟨s0, s1, s2, s3, s4, s5, s6⟩ := hX; go_simp; with_reducible rfl)); (try simp only [Act.put, List.setIfInBounds_toArray, List.set_cons_zero, List.set_cons_succ]))
            (refine till_take 14 (v := ?_) rfl (by kernel_rfl) (by kernel_rfl) (by kernel_rfl) (by kernel_rfl) (by kernel_rfl) (fun _ _ _ h => h) (by rfl) (by assumption) ?_ ?_; rotate_left 1; (focus (intro X hX; obtain ⟨s0, s1, s2, s3, s4, s5, s6⟩ := hX; go_simp; with_reducible rfl)); (try simp only [Act.put, List.setIfInBounds_toArray, List.set_cons_zero, List.set_cons_succ]))
            (refine till_take 15 (v := ?_) rfl (by kernel_rfl) (by kernel_rfl) (by kernel_rfl) (by kernel_rfl) (by kernel_rfl) (fun _ _ _ h => h) (by rfl) (by assumption) ?_ ?_; rotate_left 1; (focus (intro X hX; obtain ⟨s0, s1, s2, s3, s4, s5, s6⟩ := hX; go_simp; with_reducible rfl)); (try simp only [Act.put, List.setIfInBounds_toArray, List.set_cons_zero, List.set_cons_succ]))
            (refine till_take 16 (v := ?_) rfl (by kernel_rfl) (by kernel_rfl) (by kernel_rfl) (by kernel_rfl) (by kernel_rfl) (fun _ _ _ h => h) (by rfl) (by assumption) ?_ ?_; rotate_left 1; (focus (intro X hX; obtain ⟨s0, s1, s2, s3, s4, s5, s6⟩ := hX; go_simp; with_reducible rfl)); (try simp only [Act.put, List.setIfInBounds_toArray, List.set_cons_zero, List.set_cons_succ]))
            (refine till_take 17 (v := ?_) rfl (by kernel_rfl) (by kernel_rfl) (by kernel_rfl) (by kernel_rfl) (by kernel_rfl) (fun _ _ _ h => h) (by rfl) (by assumption) ?_ ?_; rotate_left 1; (focus (intro X hX; obtain ⟨s0, s1, s2, s3, s4, s5, s6⟩ := hX; go_simp; with_reducible rfl)); (try simp only [Act.put, List.setIfInBounds_toArray, List.set_cons_zero, List.set_cons_succ]))
            (refine till_take 18 (v := ?_) rfl (by kernel_rfl) (by kernel_rfl) (by kernel_rfl) (by kernel_rfl) (by kernel_rfl) (fun _ _ _ h => h) (by rfl) (by assumption) ?_ ?_; rotate_left 1; (focus (intro X hX; obtain ⟨s0, s1, s2, s3, s4, s5, s6⟩ := hX; go_simp; with_reducible rfl)); (try simp only [Act.put, List.setIfInBounds_toArray, List.set_cons_zero, List.set_cons_succ]))
            (refine till_take 19 (v := ?_) rfl (by kernel_rfl) (by kernel_rfl) (by kernel_rfl) (by kernel_rfl) (by kernel_rfl) (fun _ _ _ h => h) (by rfl) (by assumption) ?_ ?_; rotate_left 1; (focus (intro X hX; obtain ⟨s0, s1, s2, s3, s4, s5, s6⟩ := hX; go_simp; with_reducible rfl)); (try simp only [Act.put, List.setIfInBounds_toArray, List.set_cons_zero, List.set_cons_succ]))
            obtain ⟨d, hd⟩ : ∃ x : Dn, x = ⟨o.kind, o.key, o.val, o.old, o.hold, IntKind.i64.wrap (100 + 10 * (k : Int)), IntKind.i64.wrap (100 + 10 * (k : Int) + IntKind.i64.wrap (IntKind.i64.wrap 0 * 10)), st.2.1, strV st.2.2, hasV st.2.2⟩ := ⟨_, rfl⟩
            have hdm : d = madeAt ops S k o := by
              rw [hd]
              unfold madeAt
              have e1 : stepP o (valN ops k) = st := by rw [← HV.out, HST.out]
              rw [e1, ← HSN.out]
              have e2 : IntKind.i64.wrap (100 + 10 * (k : Int)) = 100 + 10 * (k : Int) - ((sN % 40 : Nat) : Int) := by rw [wrap_small _ (by omega) (by omega)]; omega
              have e3 : IntKind.i64.wrap (100 + 10 * (k : Int) + IntKind.i64.wrap (IntKind.i64.wrap 0 * 10)) = 100 + 10 * (k : Int) + ((sN / 40 * 10 : Nat) : Int) := by rw [wrap_small 0 (by omega) (by omega), wrap_small (0 * 10) (by omega) (by omega), wrap_small _ (by omega) (by omega)]; omega
              rw [e2, e3]
            obtain ⟨A9, c9, w9, hrun, ho9, hg9, -, hb9⟩ := append_dn X.drew (w.heap.size + 1) (A := Ao) (n := k) (c := co) (L := madeN ops S k) HLN.out.symm HO2.out d (by omega) HZ2.out
            have hbl : b10 < X.heap.size := (Array.getElem?_eq_some_iff.1 HU210.out).1
            have hw9 : w9.heap[b10]? = X.heap[b10]? := hg9.block b10 hbl (fun e => HBA.out e.symm)
            have hbA : Below X.drew.heap.size X.drew (X.drew.alloc (.cells #[.int .i64 0, .int .i64 0, .int .i64 0, .int .i64 0, .int .i64 (d).kind, .string (d).key, .string (d).val, .string (d).old, .bool (d).hold, .int .i64 (d).fr, .int .i64 (d).to, .int .i64 (d).code, .string (d).rv, .bool (d).has, .complex .f64 0 0] 36)) := (Below.refl _ _).alloc (Nat.le_refl _) _
            have hS20 : (fun X : World => (X.cell? (ad.add (k * 5)) = some (.int .i64 o.kind) ∧ X.cell? ⟨(ad.add (k * 5)).block, (ad.add (k * 5)).off + 1, none⟩ = some (.string o.key) ∧ X.cell? ⟨(ad.add (k * 5)).block, (ad.add (k * 5)).off + 2, none⟩ = some (.string o.val) ∧ X.cell? ⟨(ad.add (k * 5)).block, (ad.add (k * 5)).off + 3, none⟩ = some (.string o.old) ∧ X.cell? ⟨(ad.add (k * 5)).block, (ad.add (k * 5)).off + 4, none⟩ = some (.bool o.hold) ∧ X.cell? ⟨b10, 0, none⟩ = some (.bool (hasV st.2.2)) ∧ X.cell? ⟨b10, 1, none⟩ = some (.string (strV st.2.2)))) (X.drew.alloc (.cells #[.int .i64 0, .int .i64 0, .int .i64 0, .int .i64 0, .int .i64 (d).kind, .string (d).key, .string (d).val, .string (d).old, .bool (d).hold, .int .i64 (d).fr, .int .i64 (d).to, .int .i64 (d).code, .string (d).rv, .bool (d).has, .complex .f64 0 0] 36)) := ⟨keepc hS2.1 hbA, keepc hS2.2.1 hbA, keepc hS2.2.2.1 hbA, keepc hS2.2.2.2.1 hbA, keepc hS2.2.2.2.2.1 hbA, keepc hS2.2.2.2.2.2.1 hbA, keepc hS2.2.2.2.2.2.2 hbA⟩
            have hadw : (ad.add (k * 5)).block < w.heap.size + 1 := by have := HAB.out; omega
            have hkp : ∀ p x, p.block = (ad.add (k * 5)).block → X.cell? p = some x → w9.cell? p = some x := fun p x hp hx => (World.cell?_of_block (w := X) (hb9.block p.block (by rw [hp]; exact hadw))).trans hx
            have hkb : ∀ j x, X.cell? ⟨b10, j, none⟩ = some x → w9.cell? ⟨b10, j, none⟩ = some x := fun j x hx => (World.cell?_of_block (w := X) (a := ⟨b10, j, none⟩) hw9).trans hx
            have hS21 : (fun X : World => (X.cell? (ad.add (k * 5)) = some (.int .i64 o.kind) ∧ X.cell? ⟨(ad.add (k * 5)).block, (ad.add (k * 5)).off + 1, none⟩ = some (.string o.key) ∧ X.cell? ⟨(ad.add (k * 5)).block, (ad.add (k * 5)).off + 2, none⟩ = some (.string o.val) ∧ X.cell? ⟨(ad.add (k * 5)).block, (ad.add (k * 5)).off + 3, none⟩ = some (.string o.old) ∧ X.cell? ⟨(ad.add (k * 5)).block, (ad.add (k * 5)).off + 4, none⟩ = some (.bool o.hold) ∧ X.cell? ⟨b10, 0, none⟩ = some (.bool (hasV st.2.2)) ∧ X.cell? ⟨b10, 1, none⟩ = some (.string (strV st.2.2)))) w9 := ⟨hkp _ _ (by rfl) hS2.1, hkp _ _ (by rfl) hS2.2.1, hkp _ _ (by rfl) hS2.2.2.1, hkp _ _ (by rfl) hS2.2.2.2.1, hkp _ _ (by rfl) hS2.2.2.2.2.1, hkb _ _ hS2.2.2.2.2.2.1, hkb _ _ hS2.2.2.2.2.2.2⟩
            have hmk : madeN ops S (k + 1) = madeN ops S k ++ [madeAt ops S k o] := by show (match ops[k]? with | some o => _ | none => _) = _; rw [HOE.out]
            have hvk : valN ops (k + 1) = st.1 := by show (match ops[k]? with | some o => _ | none => _) = _; rw [HOE.out, HST.out, HV.out]
            have HO9 := Lib.hid (show w9.ownsRow (w.heap.size + 1) 36 15 (.slice A9 (k + 1) c9) (k + 1) (rowD (madeN ops S (k + 1))) from by rw [hmk, ← hdm]; exact ho9)
            have HL9 := Lib.hid (show (madeN ops S (k + 1)).length = k + 1 from by rw [hmk, List.length_append, HLN.out]; rfl)
            have HP9 := Lib.hid (show w9.heap[pv]? = some (.cells #[.bool (hasV (valN ops (k + 1))), .string (strV (valN ops (k + 1)))] 43 (0, 0)) from by rw [hvk]; exact (hb9.block pv (by have := HPV.out; omega)).trans HU2.out)
            have HB9 := Lib.hid (show Below w.heap.size w w9 from (below_drew HB2.out).trans (hb9.mono (Nat.le_succ _)))
            have HZ9 := Lib.hid (show w.heap.size + 1 ≤ w9.heap.size from Nat.le_trans HZ2.out hb9.size)
            clear hmk hvk hdm ho9 hg9 hb9 hbl hw9 hbA hadw hkp hkb
            subst hd
            refine till_one 20 (by kernel_rfl) rfl (fun K hK => ?_)
            go_simp
            refine hK.out _ _ (fun _ => hS20) ?_
            clear hK K hS20
            try simp only [Act.put, List.setIfInBounds_toArray, List.set_cons_zero, List.set_cons_succ]
            refine till_one 21 (by kernel_rfl) rfl (fun K hK => ?_)
            refine step_append_run rfl rfl rfl rfl hrun ?_
            refine hK.out _ _ (fun _ => hS21) ?_
            clear hK K hrun
            try simp only [Act.put, List.setIfInBounds_toArray, List.set_cons_zero, List.set_cons_succ]
            refine till_one 22 (by kernel_rfl) rfl (fun K hK => ?_)
            go_simp
            refine hK.out _ _ (fun h => absurd rfl h) ?_
            clear hK K hS21
            try simp only [Act.put, List.setIfInBounds_toArray, List.set_cons_zero, List.set_cons_succ]
            refine till_done (by kernel_rfl) ?_ _
            clear HO2 HB2 HZ2 HU2 HU210 HT hS2
            go_wp2_with fail
            go_roundw
            case rel => exact ⟨k + 1, A9, c9, by omega, by go_num, rfl, HO9, HL9, HP9, HB9, HZ9⟩
            case measure => simp [intOf] <;> omega
        · intro K hK
          have hbA10 : Below (wr.drew.alloc (.cells #[.bool false, .string ⟨#[]⟩] 43)).heap.size (wr.drew.alloc (.cells #[.bool false, .string ⟨#[]⟩] 43)) ((wr.drew.alloc (.cells #[.bool false, .string ⟨#[]⟩] 43)).alloc (.cells #[.bool false, .string ⟨#[]⟩] 43)) := (Below.refl _ _).alloc (Nat.le_refl _) _
          have hS10a : (fun X : World => (X.cell? (ad.add (k * 5)) = some (.int .i64 o.kind) ∧ X.cell? ⟨(ad.add (k * 5)).block, (ad.add (k * 5)).off + 1, none⟩ = some (.string o.key) ∧ X.cell? ⟨(ad.add (k * 5)).block, (ad.add (k * 5)).off + 2, none⟩ = some (.string o.val) ∧ X.cell? ⟨(ad.add (k * 5)).block, (ad.add (k * 5)).off + 3, none⟩ = some (.string o.old) ∧ X.cell? ⟨(ad.add (k * 5)).block, (ad.add (k * 5)).off + 4, none⟩ = some (.bool o.hold) ∧ X.cell? ⟨pv, 0, none⟩ = some (.bool (hasV v)) ∧ X.cell? ⟨pv, 1, none⟩ = some (.string (strV v)))) ((wr.drew.alloc (.cells #[.bool false, .string ⟨#[]⟩] 43)).alloc (.cells #[.bool false, .string ⟨#[]⟩] 43)) := ⟨keepc hS8a.1 hbA10, keepc hS8a.2.1 hbA10, keepc hS8a.2.2.1 hbA10, keepc hS8a.2.2.2.1 hbA10, keepc hS8a.2.2.2.2.1 hbA10, keepc hS8a.2.2.2.2.2.1 hbA10, keepc hS8a.2.2.2.2.2.2 hbA10⟩
          have hbY10 : Below wr.heap.size wr ((wr.drew.alloc (.cells #[.bool false, .string ⟨#[]⟩] 43)).alloc (.cells #[.bool false, .string ⟨#[]⟩] 43)) := (hbY8).trans (hbA10.mono (hbY8).size)
          go_simp
          refine hK.out _ _ (fun _ => hS10a) ?_
          clear hK K
          try simp only [Act.put, List.setIfInBounds_toArray, List.set_cons_zero, List.set_cons_succ]
          have hz10 : ((wr.drew.alloc (.cells #[.bool false, .string ⟨#[]⟩] 43)).alloc (.cells #[.bool false, .string ⟨#[]⟩] 43)).heap[wr.heap.size + 1]? = some (.cells #[.bool false, .string ⟨#[]⟩] 43) := by have := heap_alloc_new (wr.drew.alloc (.cells #[.bool false, .string ⟨#[]⟩] 43)) (.cells #[.bool false, .string ⟨#[]⟩] 43); rwa [show (wr.drew.alloc (.cells #[.bool false, .string ⟨#[]⟩] 43)).heap.size = wr.heap.size + 1 by first | rfl | simp] at this
          refine till_one 5 (by kernel_rfl) rfl (fun K hK => ?_)
          go_simp
          go_at_call 10
          refine (step_any ((wr.drew.alloc (.cells #[.bool false, .string ⟨#[]⟩] 43)).alloc (.cells #[.bool false, .string ⟨#[]⟩] 43)) o.kind o.key o.val o.old o.hold v).mono ?_
          rintro e6 w6 ⟨rfl, hb6⟩
          have hS6 : (fun X : World => (X.cell? (ad.add (k * 5)) = some (.int .i64 o.kind) ∧ X.cell? ⟨(ad.add (k * 5)).block, (ad.add (k * 5)).off + 1, none⟩ = some (.string o.key) ∧ X.cell? ⟨(ad.add (k * 5)).block, (ad.add (k * 5)).off + 2, none⟩ = some (.string o.val) ∧ X.cell? ⟨(ad.add (k * 5)).block, (ad.add (k * 5)).off + 3, none⟩ = some (.string o.old) ∧ X.cell? ⟨(ad.add (k * 5)).block, (ad.add (k * 5)).off + 4, none⟩ = some (.bool o.hold) ∧ X.cell? ⟨pv, 0, none⟩ = some (.bool (hasV v)) ∧ X.cell? ⟨pv, 1, none⟩ = some (.string (strV v)))) w6 := ⟨keepc hS10a.1 hb6, keepc hS10a.2.1 hb6, keepc hS10a.2.2.1 hb6, keepc hS10a.2.2.2.1 hb6, keepc hS10a.2.2.2.2.1 hb6, keepc hS10a.2.2.2.2.2.1 hb6, keepc hS10a.2.2.2.2.2.2 hb6⟩
          have hbY6 : Below wr.heap.size wr w6 := (hbY10).trans (hb6.mono (hbY10).size)
          refine hK.out _ _ (fun _ => hS6) ?_
          clear hK K
          try simp only [Act.put, List.setIfInBounds_toArray, List.set_cons_zero, List.set_cons_succ]
          (refine till_take 6 (v := ?_) rfl (by kernel_rfl) (by kernel_rfl) (by kernel_rfl) (by kernel_rfl) (by kernel_rfl) (fun _ _ _ h => h) (by rfl) (by assumption) ?_ ?_; rotate_left 1; (focus (intro X hX; obtain ⟨s0, s1, s2, s3, s4, s5, s6⟩ := hX; go_simp; with_reducible rfl)); (try simp only [Act.put, List.setIfInBounds_toArray, List.set_cons_zero, List.set_cons_succ]))
          (refine till_take 7 (v := ?_) rfl (by kernel_rfl) (by kernel_rfl) (by kernel_rfl) (by kernel_rfl) (by kernel_rfl) (fun _ _ _ h => h) (by rfl) (by assumption) ?_ ?_; rotate_left 1; (focus (intro X hX; obtain ⟨s0, s1, s2, s3, s4, s5, s6⟩ := hX; go_simp; with_reducible rfl)); (try simp only [Act.put, List.setIfInBounds_toArray, List.set_cons_zero, List.set_cons_succ]))
          (refine till_take 8 (v := ?_) rfl (by kernel_rfl) (by kernel_rfl) (by kernel_rfl) (by kernel_rfl) (by kernel_rfl) (fun _ _ _ h => h) (by rfl) (by assumption) ?_ ?_; rotate_left 1; (focus (intro X hX; obtain ⟨s0, s1, s2, s3, s4, s5, s6⟩ := hX; go_simp; with_reducible rfl)); (try simp only [Act.put, List.setIfInBounds_toArray, List.set_cons_zero, List.set_cons_succ]))
          (refine till_take 9 (v := ?_) rfl (by kernel_rfl) (by kernel_rfl) (by kernel_rfl) (by kernel_rfl) (by kernel_rfl) (fun _ _ _ h => h) (by rfl) (by assumption) ?_ ?_; rotate_left 1; (focus (intro X hX; obtain ⟨s0, s1, s2, s3, s4, s5, s6⟩ := hX; go_simp; with_reducible rfl)); (try simp only [Act.put, List.setIfInBounds_toArray, List.set_cons_zero, List.set_cons_succ]))
          have HSY := Lib.hid (show (w6.cell? (ad.add (k * 5)) = some (.int .i64 o.kind) ∧ w6.cell? ⟨(ad.add (k * 5)).block, (ad.add (k * 5)).off + 1, none⟩ = some (.string o.key) ∧ w6.cell? ⟨(ad.add (k * 5)).block, (ad.add (k * 5)).off + 2, none⟩ = some (.string o.val) ∧ w6.cell? ⟨(ad.add (k * 5)).block, (ad.add (k * 5)).off + 3, none⟩ = some (.string o.old) ∧ w6.cell? ⟨(ad.add (k * 5)).block, (ad.add (k * 5)).off + 4, none⟩ = some (.bool o.hold) ∧ w6.cell? ⟨pv, 0, none⟩ = some (.bool (hasV v)) ∧ w6.cell? ⟨pv, 1, none⟩ = some (.string (strV v))) from hS6)
          have HBY := Lib.hid (show Below wr.heap.size wr w6 from hbY6)
          have HZ8 := Lib.hid (show w6.heap[wr.heap.size]? = some (.cells #[.bool false, .string ⟨#[]⟩] 43) from ((hb6.block _ (by first | (simp; done) | (simp; omega) | (have hh6 := hb6.size; simp at hh6; omega) | (have hh6 := hb6.size; simp at hh6 ⊢; omega))).trans ((hbA10.block _ (by first | (simp; done) | (simp; omega) | (have hh6 := hb6.size; simp at hh6; omega) | (have hh6 := hb6.size; simp at hh6 ⊢; omega))).trans hz8)))
          have HZ10 := Lib.hid (show w6.heap[wr.heap.size + 1]? = some (.cells #[.bool false, .string ⟨#[]⟩] 43) from ((hb6.block _ (by first | (simp; done) | (simp; omega) | (have hh6 := hb6.size; simp at hh6; omega) | (have hh6 := hb6.size; simp at hh6 ⊢; omega))).trans hz10))
          have HNE0 := Lib.hid (show wr.heap.size ≠ wr.heap.size + 1 ∧ wr.heap.size ≤ wr.heap.size ∧ wr.heap.size ≤ wr.heap.size + 1 from by
            have hh6 := hb6.size
            have hwd : wr.drew.heap.size = wr.heap.size := rfl
            try simp only [World.size_alloc] at hh6
            try rw [hwd] at hh6
            omega)
          clear hS0 hbX o0 o1 o2 o3 o4 v0 v1 hbA8 hS8a hbY8 hz8 hbA10 hS10a hbY10 hz10 hS6 hbY6 hb6
          generalize w6 = Y at HSY HBY HZ8 HZ10 ⊢
          obtain ⟨b10, hb10⟩ : ∃ x, x = wr.heap.size + 1 := ⟨_, rfl⟩
          obtain ⟨b8, hb8⟩ : ∃ x, x = wr.heap.size := ⟨_, rfl⟩
          have HNE := Lib.hid (show b8 ≠ b10 ∧ wr.heap.size ≤ b8 ∧ wr.heap.size ≤ b10 from by rw [hb8, hb10]; exact HNE0.out)
          rw [← hb10] at HZ10 ⊢
          rw [← hb8] at HZ8 ⊢
          clear hb8 hb10 HNE0
          obtain ⟨st, hst⟩ : ∃ x, x = stepP ⟨o.kind, o.key, o.val, o.old, o.hold⟩ v := ⟨_, rfl⟩
          rw [← hst]
          have HST := Lib.hid hst
          clear hst
          have hpvlt : pv < wr.heap.size := by have := HPV.out; have := HZ.out; omega
          have hadlt : (ad.add (k * 5)).block < wr.heap.size := by have := HAB.out; have := HZ.out; omega
          obtain ⟨hne, hn8, hn10⟩ := HNE.out
          have y80 := cell_of_row _ b8 0 _ _ (0, 0) HZ8.out
          have y81 := cell_of_row _ b8 1 _ _ (0, 0) HZ8.out
          have yf : ∀ j, Y.frozen? ⟨b8, j, none⟩ = false := fun j => frozen_of_row _ _ j _ _ HZ8.out
          simp only [List.getElem?_toArray, List.getElem?_cons_succ, List.getElem?_cons_zero] at y80 y81
          have ha8 : (ad.add (k * 5)).block ≠ b8 := by omega
          have hp8 : pv ≠ b8 := by omega
          have hS12 : (fun X : World => (X.cell? (ad.add (k * 5)) = some (.int .i64 o.kind) ∧ X.cell? ⟨(ad.add (k * 5)).block, (ad.add (k * 5)).off + 1, none⟩ = some (.string o.key) ∧ X.cell? ⟨(ad.add (k * 5)).block, (ad.add (k * 5)).off + 2, none⟩ = some (.string o.val) ∧ X.cell? ⟨(ad.add (k * 5)).block, (ad.add (k * 5)).off + 3, none⟩ = some (.string o.old) ∧ X.cell? ⟨(ad.add (k * 5)).block, (ad.add (k * 5)).off + 4, none⟩ = some (.bool o.hold) ∧ X.cell? ⟨pv, 0, none⟩ = some (.bool (hasV v)) ∧ X.cell? ⟨pv, 1, none⟩ = some (.string (strV v)))) ((Y.setCell ⟨b8, 0, none⟩ (.bool (hasV st.1))).setCell ⟨b8, 1, none⟩ (.string (strV st.1))) := by
            obtain ⟨s0, s1, s2, s3, s4, s5, s6⟩ := HSY.out
            exact ⟨cell2n _ _ s0 ha8, cell2n _ _ s1 ha8, cell2n _ _ s2 ha8, cell2n _ _ s3 ha8, cell2n _ _ s4 ha8, cell2n _ _ s5 hp8, cell2n _ _ s6 hp8⟩
          refine till_one 12 (by kernel_rfl) rfl (fun K hK => ?_)
          go_simp
          refine hK.out _ _ (fun _ => hS12) ?_
          clear hK K y80 y81 yf
          try simp only [Act.put, List.setIfInBounds_toArray, List.set_cons_zero, List.set_cons_succ]
          have HZ8b := Lib.hid (set2 HZ8.out (.bool (hasV st.1)) (.string (strV st.1)))
          have HZ10b := Lib.hid ((heap2 (w := Y) (d := b8) (.bool (hasV st.1)) (.string (strV st.1)) (Ne.symm hne)).trans HZ10.out)
          have HBY2 := Lib.hid ((HBY.out.setCell (p := ⟨b8, 0, none⟩) hn8 (.bool (hasV st.1))).setCell (p := ⟨b8, 1, none⟩) hn8 (.string (strV st.1)))
          clear HZ8 HZ10 HBY HSY
          generalize (Y.setCell ⟨b8, 0, none⟩ (.bool (hasV st.1))).setCell ⟨b8, 1, none⟩ (.string (strV st.1)) = Y2 at HZ8b HZ10b HBY2 hS12 ⊢
          refine till_one 13 (by kernel_rfl) rfl (fun K hK => ?_)
          go_simp
          refine hK.out _ _ (fun _ => hS12) ?_
          clear hK K
          try simp only [Act.put, List.setIfInBounds_toArray, List.set_cons_zero, List.set_cons_succ]
          have y80 := cell_of_row _ b10 0 _ _ (0, 0) HZ10b.out
          have y81 := cell_of_row _ b10 1 _ _ (0, 0) HZ10b.out
          have yf : ∀ j, Y2.frozen? ⟨b10, j, none⟩ = false := fun j => frozen_of_row _ _ j _ _ HZ10b.out
          simp only [List.getElem?_toArray, List.getElem?_cons_succ, List.getElem?_cons_zero] at y80 y81
          refine till_one 14 (by kernel_rfl) rfl (fun K hK => ?_)
          go_simp
          refine hK.out _ _ (fun h => absurd rfl h) ?_
          clear hK K y80 y81 yf
          try simp only [Act.put, List.setIfInBounds_toArray, List.set_cons_zero, List.set_cons_succ]
          refine till_done (by kernel_rfl) ?_ _
          have hp10 : pv ≠ b10 := by omega
          have ha10 : (ad.add (k * 5)).block ≠ b10 := by omega
          have HU8 := Lib.hid ((heap2 (w := Y2) (d := b10) (.bool (hasV st.2.2)) (.string (strV st.2.2)) hne).trans HZ8b.out)
          have HU10 := Lib.hid (set2 HZ10b.out (.bool (hasV st.2.2)) (.string (strV st.2.2)))
          have HBU := Lib.hid ((HBY2.out.setCell (p := ⟨b10, 0, none⟩) hn10 (.bool (hasV st.2.2))).setCell (p := ⟨b10, 1, none⟩) hn10 (.string (strV st.2.2)))
          have HUO := Lib.hid (show ∀ p x, p.block = (ad.add (k * 5)).block → Y2.cell? p = some x → ((Y2.setCell ⟨b10, 0, none⟩ (.bool (hasV st.2.2))).setCell ⟨b10, 1, none⟩ (.string (strV st.2.2))).cell? p = some x from fun p x hp hx => cell2n _ _ hx (by rw [hp]; exact ha10))
          clear HZ8b HZ10b HBY2
          obtain ⟨s0, s1, s2, s3, s4, -, -⟩ := hS12
          replace s0 := HUO.out _ _ (by rfl) s0
          replace s1 := HUO.out _ _ (by rfl) s1
          replace s2 := HUO.out _ _ (by rfl) s2
          replace s3 := HUO.out _ _ (by rfl) s3
          replace s4 := HUO.out _ _ (by rfl) s4
          clear HUO
          generalize (Y2.setCell ⟨b10, 0, none⟩ (.bool (hasV st.2.2))).setCell ⟨b10, 1, none⟩ (.string (strV st.2.2)) = U at HU8 HU10 HBU s0 s1 s2 s3 s4 ⊢
          have HUP := Lib.hid ((HBU.out.block pv hpvlt).trans HP.out)
          have u0 := cell_of_row _ b8 0 _ _ (0, 0) HU8.out
          have u1 := cell_of_row _ b8 1 _ _ (0, 0) HU8.out
          have p0 := cell_of_row _ pv 0 _ _ (0, 0) HUP.out
          have p1 := cell_of_row _ pv 1 _ _ (0, 0) HUP.out
          have pf : ∀ j, U.frozen? ⟨pv, j, none⟩ = false := fun j => frozen_of_row _ _ j _ _ HUP.out
          simp only [List.getElem?_toArray, List.getElem?_cons_succ, List.getElem?_cons_zero] at u0 u1 p0 p1
          have hap : (ad.add (k * 5)).block ≠ pv := by have := HAB.out; have := HPV.out; omega
          have HU2 := Lib.hid (set2 HUP.out (.bool (hasV st.1)) (.string (strV st.1)))
          have HU210 := Lib.hid ((heap2 (w := U) (d := pv) (.bool (hasV st.1)) (.string (strV st.1)) (Ne.symm hp10)).trans HU10.out)
          have HO2 := Lib.hid (row_set (d := pv) (o := 1) (row_set (d := pv) (o := 0) (own_below HO.out HBU.out (Nat.le_refl _)) (fun e => by have := (row_lt HO.out e).1; have := HPV.out; omega) (.bool (hasV st.1))) (fun e => by have := (row_lt HO.out e).1; have := HPV.out; omega) (.string (strV st.1)))
          have HB2 := Lib.hid (show Below w.heap.size w ((U.setCell ⟨pv, 0, none⟩ (.bool (hasV st.1))).setCell ⟨pv, 1, none⟩ (.string (strV st.1))) from ((HB.out.trans (HBU.out.mono (Nat.le_trans (Nat.le_succ _) HZ.out))).setCell (p := ⟨pv, 0, none⟩) (by simp only; have := HPV.out; omega) _).setCell (p := ⟨pv, 1, none⟩) (by simp only; have := HPV.out; omega) _)
          have HZ2 := Lib.hid (show w.heap.size + 1 ≤ ((U.setCell ⟨pv, 0, none⟩ (.bool (hasV st.1))).setCell ⟨pv, 1, none⟩ (.string (strV st.1))).heap.size from by simpa using Nat.le_trans HZ.out HBU.out.size)
          have HT := Lib.hid (show (fun X : World => (X.cell? (ad.add (k * 5)) = some (.int .i64 o.kind) ∧ X.cell? ⟨(ad.add (k * 5)).block, (ad.add (k * 5)).off + 1, none⟩ = some (.string o.key) ∧ X.cell? ⟨(ad.add (k * 5)).block, (ad.add (k * 5)).off + 2, none⟩ = some (.string o.val) ∧ X.cell? ⟨(ad.add (k * 5)).block, (ad.add (k * 5)).off + 3, none⟩ = some (.string o.old) ∧ X.cell? ⟨(ad.add (k * 5)).block, (ad.add (k * 5)).off + 4, none⟩ = some (.bool o.hold) ∧ X.cell? ⟨b10, 0, none⟩ = some (.bool (hasV st.2.2)) ∧ X.cell? ⟨b10, 1, none⟩ = some (.string (strV st.2.2)))) ((U.setCell ⟨pv, 0, none⟩ (.bool (hasV st.1))).setCell ⟨pv, 1, none⟩ (.string (strV st.1))) from by
            have c0 := cell_of_row _ b10 0 _ _ (0, 0) HU210.out
            have c1 := cell_of_row _ b10 1 _ _ (0, 0) HU210.out
            simp only [List.getElem?_toArray, List.getElem?_cons_succ, List.getElem?_cons_zero] at c0 c1
            exact ⟨cell2n _ _ s0 hap, cell2n _ _ s1 hap, cell2n _ _ s2 hap, cell2n _ _ s3 hap, cell2n _ _ s4 hap, c0, c1⟩)
          have HBA := Lib.hid (show bl Ao ≠ some b10 from fun e => by have := (row_lt HO.out e).2; omega)
          clear s0 s1 s2 s3 s4 hap HUP HU8 HU10 HBU HO HP HB HZ hp10 ha10 hp8 ha8 hpvlt hadlt hne hn8 hn10 HNE
          by_cases hks : k < ns
          · have hksl : k < S.length := by rw [← HNS.out]; exact hks
            have hrb := HRS.out.below HB2.out
            obtain ⟨sd, sx, rfl, -, hsx, hsc⟩ := Reads.at_ hrb hksl
            obtain ⟨sN, hsN⟩ : ∃ x, x = spr S k := ⟨_, rfl⟩
            have hsc' : ((U.setCell ⟨pv, 0, none⟩ (.bool (hasV st.1))).setCell ⟨pv, 1, none⟩ (.string (strV st.1))).cell? (sd.add k) = some (.int .u8 (sN : Int)) := by
              rw [hsc, ← hsx, bytesV, List.getElem?_map, List.getElem?_eq_getElem hksl, hsN]
              simp [spr, List.getElem?_eq_getElem hksl]
            have hs255 : sN ≤ 255 := by rw [hsN]; simp only [spr, List.getElem?_eq_getElem hksl, Option.map_some, Option.getD_some]; have := S[k].toNat_lt; omega
            have HSN := Lib.hid hsN
            have hks0 : (k : Int) < ns := by omega
            clear hsN hsc hsx hrb hksl
            go_wp2_with fail
            try clear hsc'
            generalize (U.setCell ⟨pv, 0, none⟩ (.bool (hasV st.1))).setCell ⟨pv, 1, none⟩ (.string (strV st.1)) = X at HU2 HU210 HO2 HB2 HZ2 HT ⊢
            clear u0 u1 p0 p1 pf
            have hS2 : (fun X : World => (X.cell? (ad.add (k * 5)) = some (.int .i64 o.kind) ∧ X.cell? ⟨(ad.add (k * 5)).block, (ad.add (k * 5)).off + 1, none⟩ = some (.string o.key) ∧ X.cell? ⟨(ad.add (k * 5)).block, (ad.add (k * 5)).off + 2, none⟩ = some (.string o.val) ∧ X.cell? ⟨(ad.add (k * 5)).block, (ad.add (k * 5)).off + 3, none⟩ = some (.string o.old) ∧ X.cell? ⟨(ad.add (k * 5)).block, (ad.add (k * 5)).off + 4, none⟩ = some (.bool o.hold) ∧ X.cell? ⟨b10, 0, none⟩ = some (.bool (hasV st.2.2)) ∧ X.cell? ⟨b10, 1, none⟩ = some (.string (strV st.2.2)))) X.drew := HT.out
            refine wp_region_till 22 (fun X : World => (X.cell? (ad.add (k * 5)) = some (.int .i64 o.kind) ∧ X.cell? ⟨(ad.add (k * 5)).block, (ad.add (k * 5)).off + 1, none⟩ = some (.string o.key) ∧ X.cell? ⟨(ad.add (k * 5)).block, (ad.add (k * 5)).off + 2, none⟩ = some (.string o.val) ∧ X.cell? ⟨(ad.add (k * 5)).block, (ad.add (k * 5)).off + 3, none⟩ = some (.string o.old) ∧ X.cell? ⟨(ad.add (k * 5)).block, (ad.add (k * 5)).off + 4, none⟩ = some (.bool o.hold) ∧ X.cell? ⟨b10, 0, none⟩ = some (.bool (hasV st.2.2)) ∧ X.cell? ⟨b10, 1, none⟩ = some (.string (strV st.2.2)))) (by kernel_rfl) ?_
            (refine till_take 0 (v := ?_) rfl (by kernel_rfl) (by kernel_rfl) (by kernel_rfl) (by kernel_rfl) (by kernel_rfl) (fun _ _ _ h => h) (by rfl) (by assumption) ?_ ?_; rotate_left 1; (focus (intro X hX; obtain ⟨s0, s1, s2, s3, s4, s5, s6⟩ := hX; go_simp; with_reducible rfl)); (try simp only [Act.put, List.setIfInBounds_toArray, List.set_cons_zero, List.set_cons_succ]))
            (refine till_take 1 (v := ?_) rfl (by kernel_rfl) (by kernel_rfl) (by kernel_rfl) (by kernel_rfl) (by kernel_rfl) (fun _ _ _ h => h) (by rfl) (by assumption) ?_ ?_; rotate_left 1; (focus (intro X hX; obtain ⟨s0, s1, s2, s3, s4, s5, s6⟩ := hX; go_simp; with_reducible rfl)); (try simp only [Act.put, List.setIfInBounds_toArray, List.set_cons_zero, List.set_cons_succ]))
            (refine till_take 2 (v := ?_) rfl (by kernel_rfl) (by kernel_rfl) (by kernel_rfl) (by kernel_rfl) (by kernel_rfl) (fun _ _ _ h => h) (by rfl) (by assumption) ?_ ?_; rotate_left 1; (focus (intro X hX; obtain ⟨s0, s1, s2, s3, s4, s5, s6⟩ := hX; go_simp; with_reducible rfl)); (try simp only [Act.put, List.setIfInBounds_toArray, List.set_cons_zero, List.set_cons_succ]))
            (refine till_take 3 (v := ?_) rfl (by kernel_rfl) (by kernel_rfl) (by kernel_rfl) (by kernel_rfl) (by kernel_rfl) (fun _ _ _ h => h) (by rfl) (by assumption) ?_ ?_; rotate_left 1; (focus (intro X hX; obtain ⟨s0, s1, s2, s3, s4, s5, s6⟩ := hX; go_simp; with_reducible rfl)); (try simp only [Act.put, List.setIfInBounds_toArray, List.set_cons_zero, List.set_cons_succ]))
            (refine till_take 4 (v := ?_) rfl (by kernel_rfl) (by kernel_rfl) (by kernel_rfl) (by kernel_rfl) (by kernel_rfl) (fun _ _ _ h => h) (by rfl) (by assumption) ?_ ?_; rotate_left 1; (focus (intro X hX; obtain ⟨s0, s1, s2, s3, s4, s5, s6⟩ := hX; go_simp; with_reducible rfl)); (try simp only [Act.put, List.setIfInBounds_toArray, List.set_cons_zero, List.set_cons_succ]))
            (refine till_take 5 (v := ?_) rfl (by kernel_rfl) (by kernel_rfl) (by kernel_rfl) (by kernel_rfl) (by kernel_rfl) (fun _ _ _ h => h) (by rfl) (by assumption) ?_ ?_; rotate_left 1; (focus (intro X hX; obtain ⟨s0, s1, s2, s3, s4, s5, s6⟩ := hX; go_simp; with_reducible rfl)); (try simp only [Act.put, List.setIfInBounds_toArray, List.set_cons_zero, List.set_cons_succ]))
            (refine till_take 6 (v := ?_) rfl (by kernel_rfl) (by kernel_rfl) (by kernel_rfl) (by kernel_rfl) (by kernel_rfl) (fun _ _ _ h => h) (by rfl) (by assumption) ?_ ?_; rotate_left 1; (focus (intro X hX; obtain ⟨s0, s1, s2, s3, s4, s5, s6⟩ := hX; go_simp; with_reducible rfl)); (try simp only [Act.put, List.setIfInBounds_toArray, List.set_cons_zero, List.set_cons_succ]))
            (refine till_take 7 (v := ?_) rfl (by kernel_rfl) (by kernel_rfl) (by kernel_rfl) (by kernel_rfl) (by kernel_rfl) (fun _ _ _ h => h) (by rfl) (by assumption) ?_ ?_; rotate_left 1; (focus (intro X hX; obtain ⟨s0, s1, s2, s3, s4, s5, s6⟩ := hX; go_simp; with_reducible rfl)); (try simp only [Act.put, List.setIfInBounds_toArray, List.set_cons_zero, List.set_cons_succ]))
            (refine till_take 8 (v := ?_) rfl (by kernel_rfl) (by kernel_rfl) (by kernel_rfl) (by kernel_rfl) (by kernel_rfl) (fun _ _ _ h => h) (by rfl) (by assumption) ?_ ?_; rotate_left 1; (focus (intro X hX; obtain ⟨s0, s1, s2, s3, s4, s5, s6⟩ := hX; go_simp; with_reducible rfl)); (try simp only [Act.put, List.setIfInBounds_toArray, List.set_cons_zero, List.set_cons_succ]))
            (refine till_take 9 (v := ?_) rfl (by kernel_rfl) (by kernel_rfl) (by kernel_rfl) (by kernel_rfl) (by kernel_rfl) (fun _ _ _ h => h) (by rfl) (by assumption) ?_ ?_; rotate_left 1; (focus (intro X hX; obtain ⟨s0, s1, s2, s3, s4, s5, s6⟩ := hX; go_simp; with_reducible rfl)); (try simp only [Act.put, List.setIfInBounds_toArray, List.set_cons_zero, List.set_cons_succ]))
            (refine till_take 10 (v := ?_) rfl (by kernel_rfl) (by kernel_rfl) (by kernel_rfl) (by kernel_rfl) (by kernel_rfl) (fun _ _ _ h => h) (by rfl) (by assumption) ?_ ?_; rotate_left 1; (focus (intro X hX; obtain ⟨s0, s1, s2, s3, s4, s5, s6⟩ := hX; go_simp; with_reducible rfl)); (try simp only [Act.put, List.setIfInBounds_toArray, List.set_cons_zero, List.set_cons_succ]))
            (refine till_take 11 (v := ?_) rfl (by kernel_rfl) (by kernel_rfl) (by kernel_rfl) (by kernel_rfl) (by kernel_rfl) (fun _ _ _ h => h) (by rfl) (by assumption) ?_ ?_; rotate_left 1; (focus (intro X hX; obtain ⟨s0, s1, s2, s3, s4, s5, s6⟩ := hX; go_simp; with_reducible rfl)); (try simp only [Act.put, List.setIfInBounds_toArray, List.set_cons_zero, List.set_cons_succ]))
            (refine till_take 12 (v := ?_) rfl (by kernel_rfl) (by kernel_rfl) (by kernel_rfl) (by kernel_rfl) (by kernel_rfl) (fun _ _ _ h => h) (by rfl) (by assumption) ?_ ?_; rotate_left 1; (focus (intro X hX; obtain ⟨s0, s1, s2, s3, s4, s5, s6⟩ := hX; go_simp; with_reducible rfl)); (try simp only [Act.put, List.setIfInBounds_toArray, List.set_cons_zero, List.set_cons_succ]))
            (refine till_take 13 (v := ?_) rfl (by kernel_rfl) (by kernel_rfl) (by kernel_rfl) (by kernel_rfl) (by kernel_rfl) (fun _ _ _ h => h) (by rfl) (by assumption) ?_ ?_; rotate_left 1; (focus (intro X hX; obtain ⟨s0, s1, s2, s3, s4, s5, s6⟩ := hX; go_simp; with_reducible rfl)); (try simp only [Act.put, List.setIfInBounds_toArray, List.set_cons_zero, List.set_cons_succ]))
            (refine till_take 14 (v := ?_) rfl (by kernel_rfl) (by kernel_rfl) (by kernel_rfl) (by kernel_rfl) (by kernel_rfl) (fun _ _ _ h => h) (by rfl) (by assumption) ?_ ?_; rotate_left 1; (focus (intro X hX; obtain ⟨s0, s1, s2, s3, s4, s5, s6⟩ := hX; go_simp; with_reducible rfl)); (try simp only [Act.put, List.setIfInBounds_toArray, List.set_cons_zero, List.set_cons_succ]))
            (refine till_take 15 (v := ?_) rfl (by kernel_rfl) (by kernel_rfl) (by kernel_rfl) (by kernel_rfl) (by kernel_rfl) (fun _ _ _ h => h) (by rfl) (by assumption) ?_ ?_; rotate_left 1; (focus (intro X hX; obtain ⟨s0, s1, s2, s3, s4, s5, s6⟩ := hX; go_simp; with_reducible rfl)); (try simp only [Act.put, List.setIfInBounds_toArray, List.set_cons_zero, List.set_cons_succ]))
            (refine till_take 16 (v := ?_) rfl (by kernel_rfl) (by kernel_rfl) (by kernel_rfl) (by kernel_rfl) (by kernel_rfl) (fun _ _ _ h => h) (by rfl) (by assumption) ?_ ?_; rotate_left 1; (focus (intro X hX; obtain ⟨s0, s1, s2, s3, s4, s5, s6⟩ := hX; go_simp; with_reducible rfl)); (try simp only [Act.put, List.setIfInBounds_toArray, List.set_cons_zero, List.set_cons_succ]))
            (refine till_take 17 (v := ?_) rfl (by kernel_rfl) (by kernel_rfl) (by kernel_rfl) (by kernel_rfl) (by kernel_rfl) (fun _ _ _ h => h) (by rfl) (by assumption) ?_ ?_; rotate_left 1; (focus (intro X hX; obtain ⟨s0, s1, s2, s3, s4, s5, s6⟩ := hX; go_simp; with_reducible rfl)); (try simp only [Act.put, List.setIfInBounds_toArray, List.set_cons_zero, List.set_cons_succ]))
            (refine till_take 18 (v := ?_) rfl (by kernel_rfl) (by kernel_rfl) (by kernel_rfl) (by kernel_rfl) (by kernel_rfl) (fun _ _ _ h => h) (by rfl) (by assumption) ?_ ?_; rotate_left 1; (focus (intro X hX; obtain ⟨s0, s1, s2, s3, s4, s5, s6⟩ := hX; go_simp; with_reducible rfl)); (try simp only [Act.put, List.setIfInBounds_toArray, List.set_cons_zero, List.set_cons_succ]))
            (refine till_take 19 (v := ?_) rfl (by kernel_rfl) (by kernel_rfl) (by kernel_rfl) (by kernel_rfl) (by kernel_rfl) (fun _ _ _ h => h) (by rfl) (by assumption) ?_ ?_; rotate_left 1; (focus (intro X hX; obtain ⟨s0, s1, s2, s3, s4, s5, s6⟩ := hX; go_simp; with_reducible rfl)); (try simp only [Act.put, List.setIfInBounds_toArray, List.set_cons_zero, List.set_cons_succ]))
            obtain ⟨d, hd⟩ : ∃ x : Dn, x = ⟨o.kind, o.key, o.val, o.old, o.hold, IntKind.i64.wrap (100 + 10 * (k : Int) - ((sN : Int)).tmod 40), IntKind.i64.wrap (100 + 10 * (k : Int) + IntKind.i64.wrap (IntKind.i64.wrap ((sN : Int) / 40) * 10)), st.2.1, strV st.2.2, hasV st.2.2⟩ := ⟨_, rfl⟩
            have hdm : d = madeAt ops S k o := by
              rw [hd]
              unfold madeAt
              have e1 : stepP o (valN ops k) = st := by rw [← HV.out, HST.out]
              rw [e1, ← HSN.out]
              have e2 : IntKind.i64.wrap (100 + 10 * (k : Int) - ((sN : Int)).tmod 40) = 100 + 10 * (k : Int) - ((sN % 40 : Nat) : Int) := by rw [Int.tmod_eq_emod_of_nonneg (by omega), wrap_small _ (by omega) (by omega)]; omega
              have e3 : IntKind.i64.wrap (100 + 10 * (k : Int) + IntKind.i64.wrap (IntKind.i64.wrap ((sN : Int) / 40) * 10)) = 100 + 10 * (k : Int) + ((sN / 40 * 10 : Nat) : Int) := by rw [wrap_small ((sN : Int) / 40) (by omega) (by omega), wrap_small ((sN : Int) / 40 * 10) (by omega) (by omega), wrap_small _ (by omega) (by omega)]; omega
              rw [e2, e3]
            obtain ⟨A9, c9, w9, hrun, ho9, hg9, -, hb9⟩ := append_dn X.drew (w.heap.size + 1) (A := Ao) (n := k) (c := co) (L := madeN ops S k) HLN.out.symm HO2.out d (by omega) HZ2.out
            have hbl : b10 < X.heap.size := (Array.getElem?_eq_some_iff.1 HU210.out).1
            have hw9 : w9.heap[b10]? = X.heap[b10]? := hg9.block b10 hbl (fun e => HBA.out e.symm)
            have hbA : Below X.drew.heap.size X.drew (X.drew.alloc (.cells #[.int .i64 0, .int .i64 0, .int .i64 0, .int .i64 0, .int .i64 (d).kind, .string (d).key, .string (d).val, .string (d).old, .bool (d).hold, .int .i64 (d).fr, .int .i64 (d).to, .int .i64 (d).code, .string (d).rv, .bool (d).has, .complex .f64 0 0] 36)) := (Below.refl _ _).alloc (Nat.le_refl _) _
            have hS20 : (fun X : World => (X.cell? (ad.add (k * 5)) = some (.int .i64 o.kind) ∧ X.cell? ⟨(ad.add (k * 5)).block, (ad.add (k * 5)).off + 1, none⟩ = some (.string o.key) ∧ X.cell? ⟨(ad.add (k * 5)).block, (ad.add (k * 5)).off + 2, none⟩ = some (.string o.val) ∧ X.cell? ⟨(ad.add (k * 5)).block, (ad.add (k * 5)).off + 3, none⟩ = some (.string o.old) ∧ X.cell? ⟨(ad.add (k * 5)).block, (ad.add (k * 5)).off + 4, none⟩ = some (.bool o.hold) ∧ X.cell? ⟨b10, 0, none⟩ = some (.bool (hasV st.2.2)) ∧ X.cell? ⟨b10, 1, none⟩ = some (.string (strV st.2.2)))) (X.drew.alloc (.cells #[.int .i64 0, .int .i64 0, .int .i64 0, .int .i64 0, .int .i64 (d).kind, .string (d).key, .string (d).val, .string (d).old, .bool (d).hold, .int .i64 (d).fr, .int .i64 (d).to, .int .i64 (d).code, .string (d).rv, .bool (d).has, .complex .f64 0 0] 36)) := ⟨keepc hS2.1 hbA, keepc hS2.2.1 hbA, keepc hS2.2.2.1 hbA, keepc hS2.2.2.2.1 hbA, keepc hS2.2.2.2.2.1 hbA, keepc hS2.2.2.2.2.2.1 hbA, keepc hS2.2.2.2.2.2.2 hbA⟩
            have hadw : (ad.add (k * 5)).block < w.heap.size + 1 := by have := HAB.out; omega
            have hkp : ∀ p x, p.block = (ad.add (k * 5)).block → X.cell? p = some x → w9.cell? p = some x := fun p x hp hx => (World.cell?_of_block (w := X) (hb9.block p.block (by rw [hp]; exact hadw))).trans hx
            have hkb : ∀ j x, X.cell? ⟨b10, j, none⟩ = some x → w9.cell? ⟨b10, j, none⟩ = some x := fun j x hx => (World.cell?_of_block (w := X) (a := ⟨b10, j, none⟩) hw9).trans hx
            have hS21 : (fun X : World => (X.cell? (ad.add (k * 5)) = some (.int .i64 o.kind) ∧ X.cell? ⟨(ad.add (k * 5)).block, (ad.add (k * 5)).off + 1, none⟩ = some (.string o.key) ∧ X.cell? ⟨(ad.add (k * 5)).block, (ad.add (k * 5)).off + 2, none⟩ = some (.string o.val) ∧ X.cell? ⟨(ad.add (k * 5)).block, (ad.add (k * 5)).off + 3, none⟩ = some (.string o.old) ∧ X.cell? ⟨(ad.add (k * 5)).block, (ad.add (k * 5)).off + 4, none⟩ = some (.bool o.hold) ∧ X.cell? ⟨b10, 0, none⟩ = some (.bool (hasV st.2.2)) ∧ X.cell? ⟨b10, 1, none⟩ = some (.string (strV st.2.2)))) w9 := ⟨hkp _ _ (by rfl) hS2.1, hkp _ _ (by rfl) hS2.2.1, hkp _ _ (by rfl) hS2.2.2.1, hkp _ _ (by rfl) hS2.2.2.2.1, hkp _ _ (by rfl) hS2.2.2.2.2.1, hkb _ _ hS2.2.2.2.2.2.1, hkb _ _ hS2.2.2.2.2.2.2⟩
            have hmk : madeN ops S (k + 1) = madeN ops S k ++ [madeAt ops S k o] := by show (match ops[k]? with | some o => _ | none => _) = _; rw [HOE.out]
            have hvk : valN ops (k + 1) = st.1 := by show (match ops[k]? with | some o => _ | none => _) = _; rw [HOE.out, HST.out, HV.out]
            have HO9 := Lib.hid (show w9.ownsRow (w.heap.size + 1) 36 15 (.slice A9 (k + 1) c9) (k + 1) (rowD (madeN ops S (k + 1))) from by rw [hmk, ← hdm]; exact ho9)
            have HL9 := Lib.hid (show (madeN ops S (k + 1)).length = k + 1 from by rw [hmk, List.length_append, HLN.out]; rfl)
            have HP9 := Lib.hid (show w9.heap[pv]? = some (.cells #[.bool (hasV (valN ops (k + 1))), .string (strV (valN ops (k + 1)))] 43 (0, 0)) from by rw [hvk]; exact (hb9.block pv (by have := HPV.out; omega)).trans HU2.out)
            have HB9 := Lib.hid (show Below w.heap.size w w9 from (below_drew HB2.out).trans (hb9.mono (Nat.le_succ _)))
            have HZ9 := Lib.hid (show w.heap.size + 1 ≤ w9.heap.size from Nat.le_trans HZ2.out hb9.size)
            clear hmk hvk hdm ho9 hg9 hb9 hbl hw9 hbA hadw hkp hkb
            subst hd
            refine till_one 20 (by kernel_rfl) rfl (fun K hK => ?_)
            go_simp
            refine hK.out _ _ (fun _ => hS20) ?_
            clear hK K hS20
            try simp only [Act.put, List.setIfInBounds_toArray, List.set_cons_zero, List.set_cons_succ]
            refine till_one 21 (by kernel_rfl) rfl (fun K hK => ?_)
            refine step_append_run rfl rfl rfl rfl hrun ?_
            refine hK.out _ _ (fun _ => hS21) ?_
            clear hK K hrun
            try simp only [Act.put, List.setIfInBounds_toArray, List.set_cons_zero, List.set_cons_succ]
            refine till_one 22 (by kernel_rfl) rfl (fun K hK => ?_)
            go_simp
            refine hK.out _ _ (fun h => absurd rfl h) ?_
            clear hK K hS21
            try simp only [Act.put, List.setIfInBounds_toArray, List.set_cons_zero, List.set_cons_succ]
            refine till_done (by kernel_rfl) ?_ _
            clear HO2 HB2 HZ2 HU2 HU210 HT hS2
            go_wp2_with fail
            go_roundw
            case rel => exact ⟨k + 1, A9, c9, by omega, by go_num, rfl, HO9, HL9, HP9, HB9, HZ9⟩
            case measure => simp [intOf] <;> omega
          · obtain ⟨sN, hsN⟩ : ∃ x, x = spr S k := ⟨_, rfl⟩
            have hs0 : sN = 0 := by
              rw [hsN]
              unfold spr
              rw [List.getElem?_eq_none (by have := HNS.out; omega)]
              rfl
            have HSN := Lib.hid hsN
            have hs255 : sN ≤ 255 := by omega
            clear hsN
            go_wp2_with fail
            try clear hsc'
            generalize (U.setCell ⟨pv, 0, none⟩ (.bool (hasV st.1))).setCell ⟨pv, 1, none⟩ (.string (strV st.1)) = X at HU2 HU210 HO2 HB2 HZ2 HT ⊢
            clear u0 u1 p0 p1 pf
            have hS2 : (fun X : World => (X.cell? (ad.add (k * 5)) = some (.int .i64 o.kind) ∧ X.cell? ⟨(ad.add (k * 5)).block, (ad.add (k * 5)).off + 1, none⟩ = some (.string o.key) ∧ X.cell? ⟨(ad.add (k * 5)).block, (ad.add (k * 5)).off + 2, none⟩ = some (.string o.val) ∧ X.cell? ⟨(ad.add (k * 5)).block, (ad.add (k * 5)).off + 3, none⟩ = some (.string o.old) ∧ X.cell? ⟨(ad.add (k * 5)).block, (ad.add (k * 5)).off + 4, none⟩ = some (.bool o.hold) ∧ X.cell? ⟨b10, 0, none⟩ = some (.bool (hasV st.2.2)) ∧ X.cell? ⟨b10, 1, none⟩ = some (.string (strV st.2.2)))) X.drew := HT.out
            refine wp_region_till 22 (fun X : World => (X.cell? (ad.add (k * 5)) = some (.int .i64 o.kind) ∧ X.cell? ⟨(ad.add (k * 5)).block, (ad.add (k * 5)).off + 1, none⟩ = some (.string o.key) ∧ X.cell? ⟨(ad.add (k * 5)).block, (ad.add (k * 5)).off + 2, none⟩ = some (.string o.val) ∧ X.cell? ⟨(ad.add (k * 5)).block, (ad.add (k * 5)).off + 3, none⟩ = some (.string o.old) ∧ X.cell? ⟨(ad.add (k * 5)).block, (ad.add (k * 5)).off + 4, none⟩ = some (.bool o.hold) ∧ X.cell? ⟨b10, 0, none⟩ = some (.bool (hasV st.2.2)) ∧ X.cell? ⟨b10, 1, none⟩ = some (.string (strV st.2.2)))) (by kernel_rfl) ?_
            (refine till_take 0 (v := ?_) rfl (by kernel_rfl) (by kernel_rfl) (by kernel_rfl) (by kernel_rfl) (by kernel_rfl) (fun _ _ _ h => h) (by rfl) (by assumption) ?_ ?_; rotate_left 1; (focus (intro X hX; obtain ⟨s0, s1, s2, s3, s4, s5, s6⟩ := hX; go_simp; with_reducible rfl)); (try simp only [Act.put, List.setIfInBounds_toArray, List.set_cons_zero, List.set_cons_succ]))
            (refine till_take 1 (v := ?_) rfl (by kernel_rfl) (by kernel_rfl) (by kernel_rfl) (by kernel_rfl) (by kernel_rfl) (fun _ _ _ h => h) (by rfl) (by assumption) ?_ ?_; rotate_left 1; (focus (intro X hX; obtain ⟨s0, s1, s2, s3, s4, s5, s6⟩ := hX; go_simp; with_reducible rfl)); (try simp only [Act.put, List.setIfInBounds_toArray, List.set_cons_zero, List.set_cons_succ]))
            (refine till_take 2 (v := ?_) rfl (by kernel_rfl) (by kernel_rfl) (by kernel_rfl) (by kernel_rfl) (by kernel_rfl) (fun _ _ _ h => h) (by rfl) (by assumption) ?_ ?_; rotate_left 1; (focus (intro X hX; obtain ⟨s0, s1, s2, s3, s4, s5, s6⟩ := hX; go_simp; with_reducible rfl)); (try simp only [Act.put, List.setIfInBounds_toArray, List.set_cons_zero, List.set_cons_succ]))
            (refine till_take 3 (v := ?_) rfl (by kernel_rfl) (by kernel_rfl) (by kernel_rfl) (by kernel_rfl) (by kernel_rfl) (fun _ _ _ h => h) (by rfl) (by assumption) ?_ ?_; rotate_left 1; (focus (intro X hX; obtain ⟨s0, s1, s2, s3, s4, s5, s6⟩ := hX; go_simp; with_reducible rfl)); (try simp only [Act.put, List.setIfInBounds_toArray, List.set_cons_zero, List.set_cons_succ]))
            (refine till_take 4 (v := ?_) rfl (by kernel_rfl) (by kernel_rfl) (by kernel_rfl) (by kernel_rfl) (by kernel_rfl) (fun _ _ _ h => h) (by rfl) (by assumption) ?_ ?_; rotate_left 1; (focus (intro X hX; obtain ⟨s0, s1, s2, s3, s4, s5, s6⟩ := hX; go_simp; with_reducible rfl)); (try simp only [Act.put, List.setIfInBounds_toArray, List.set_cons_zero, List.set_cons_succ]))
            (refine till_take 5 (v := ?_) rfl (by kernel_rfl) (by kernel_rfl) (by kernel_rfl) (by kernel_rfl) (by kernel_rfl) (fun _ _ _ h => h) (by rfl) (by assumption) ?_ ?_; rotate_left 1; (focus (intro X hX; obtain ⟨s0, s1, s2, s3, s4, s5, s6⟩ := hX; go_simp; with_reducible rfl)); (try simp only [Act.put, List.setIfInBounds_toArray, List.set_cons_zero, List.set_cons_succ]))
            (refine till_take 6 (v := ?_) rfl (by kernel_rfl) (by kernel_rfl) (by kernel_rfl) (by kernel_rfl) (by kernel_rfl) (fun _ _ _ h => h) (by rfl) (by assumption) ?_ ?_; rotate_left 1; (focus (intro X hX; obtain ⟨s0, s1, s2, s3, s4, s5, s6⟩ := hX; go_simp; with_reducible rfl)); (try simp only [Act.put, List.setIfInBounds_toArray, List.set_cons_zero, List.set_cons_succ]))
            (refine till_take 7 (v := ?_) rfl (by kernel_rfl) (by kernel_rfl) (by kernel_rfl) (by kernel_rfl) (by kernel_rfl) (fun _ _ _ h => h) (by rfl) (by assumption) ?_ ?_; rotate_left 1; (focus (intro X hX; obtain ⟨s0, s1, s2, s3, s4, s5, s6⟩ := hX; go_simp; with_reducible rfl)); (try simp only [Act.put, List.setIfInBounds_toArray, List.set_cons_zero, List.set_cons_succ]))
            (refine till_take 8 (v := ?_) rfl (by kernel_rfl) (by kernel_rfl) (by kernel_rfl) (by kernel_rfl) (by kernel_rfl) (fun _ _ _ h => h) (by rfl) (by assumption) ?_ ?_; rotate_left 1; (focus (intro X hX; obtain ⟨s0, s1, s2, s3, s4, s5, s6⟩ := hX; go_simp; with_reducible rfl)); (try simp only [Act.put, List.setIfInBounds_toArray, List.set_cons_zero, List.set_cons_succ]))
            (refine till_take 9 (v := ?_) rfl (by kernel_rfl) (by kernel_rfl) (by kernel_rfl) (by kernel_rfl) (by kernel_rfl) (fun _ _ _ h => h) (by rfl) (by assumption) ?_ ?_; rotate_left 1; (focus (intro X hX; obtain ⟨s0, s1, s2, s3, s4, s5, s6⟩ := hX; go_simp; with_reducible rfl)); (try simp only [Act.put, List.setIfInBounds_toArray, List.set_cons_zero, List.set_cons_succ]))
            (refine till_take 10 (v := ?_) rfl (by kernel_rfl) (by kernel_rfl) (by kernel_rfl) (by kernel_rfl) (by kernel_rfl) (fun _ _ _ h => h) (by rfl) (by assumption) ?_ ?_; rotate_left 1; (focus (intro X hX; obtain ⟨s0, s1, s2, s3, s4, s5, s6⟩ := hX; go_simp; with_reducible rfl)); (try simp only [Act.put, List.setIfInBounds_toArray, List.set_cons_zero, List.set_cons_succ]))
            (refine till_take 11 (v := ?_) rfl (by kernel_rfl) (by kernel_rfl) (by kernel_rfl) (by kernel_rfl) (by kernel_rfl) (fun _ _ _ h => h) (by rfl) (by assumption) ?_ ?_; rotate_left 1; (focus (intro X hX; obtain ⟨s0, s1, s2, s3, s4, s5, s6⟩ := hX; go_simp; with_reducible rfl)); (try simp only [Act.put, List.setIfInBounds_toArray, List.set_cons_zero, List.set_cons_succ]))
            (refine till_take 12 (v := ?_) rfl (by kernel_rfl) (by kernel_rfl) (by kernel_rfl) (by kernel_rfl) (by kernel_rfl) (fun _ _ _ h => h) (by rfl) (by assumption) ?_ ?_; rotate_left 1; (focus (intro X hX; obtain ⟨s0, s1, s2, s3, s4, s5, s6⟩ := hX; go_simp; with_reducible rfl)); (try simp only [Act.put, List.setIfInBounds_toArray, List.set_cons_zero, List.set_cons_succ]))
            (refine till_take 13 (v := ?_) rfl (by kernel_rfl) (by kernel_rfl) (by kernel_rfl) (by kernel_rfl) (by kernel_rfl) (fun _ _ _ h => h) (by rfl) (by assumption) ?_ ?_; rotate_left 1; (focus (intro X hX; obtain ⟨s0, s1, s2, s3, s4, s5, s6⟩ := hX; go_simp; with_reducible rfl)); (try simp only [Act.put, List.setIfInBounds_toArray, List.set_cons_zero, List.set_cons_succ]))
            (refine till_take 14 (v := ?_) rfl (by kernel_rfl) (by kernel_rfl) (by kernel_rfl) (by kernel_rfl) (by kernel_rfl) (fun _ _ _ h => h) (by rfl) (by assumption) ?_ ?_; rotate_left 1; (focus (intro X hX; obtain ⟨s0, s1, s2, s3, s4, s5, s6⟩ := hX; go_simp; with_reducible rfl)); (try simp only [Act.put, List.setIfInBounds_toArray, List.set_cons_zero, List.set_cons_succ]))
            (refine till_take 15 (v := ?_) rfl (by kernel_rfl) (by kernel_rfl) (by kernel_rfl) (by kernel_rfl) (by kernel_rfl) (fun _ _ _ h => h) (by rfl) (by assumption) ?_ ?_; rotate_left 1; (focus (intro X hX; obtain ⟨s0, s1, s2, s3, s4, s5, s6⟩ := hX; go_simp; with_reducible rfl)); (try simp only [Act.put, List.setIfInBounds_toArray, List.set_cons_zero, List.set_cons_succ]))
            (refine till_take 16 (v := ?_) rfl (by kernel_rfl) (by kernel_rfl) (by kernel_rfl) (by kernel_rfl) (by kernel_rfl) (fun _ _ _ h => h) (by rfl) (by assumption) ?_ ?_; rotate_left 1; (focus (intro X hX; obtain ⟨s0, s1, s2, s3, s4, s5, s6⟩ := hX; go_simp; with_reducible rfl)); (try simp only [Act.put, List.setIfInBounds_toArray, List.set_cons_zero, List.set_cons_succ]))
            (refine till_take 17 (v := ?_) rfl (by kernel_rfl) (by kernel_rfl) (by kernel_rfl) (by kernel_rfl) (by kernel_rfl) (fun _ _ _ h => h) (by rfl) (by assumption) ?_ ?_; rotate_left 1; (focus (intro X hX; obtain ⟨s0, s1, s2, s3, s4, s5, s6⟩ := hX; go_simp; with_reducible rfl)); (try simp only [Act.put, List.setIfInBounds_toArray, List.set_cons_zero, List.set_cons_succ]))
            (refine till_take 18 (v := ?_) rfl (by kernel_rfl) (by kernel_rfl) (by kernel_rfl) (by kernel_rfl) (by kernel_rfl) (fun _ _ _ h => h) (by rfl) (by assumption) ?_ ?_; rotate_left 1; (focus (intro X hX; obtain ⟨s0, s1, s2, s3, s4, s5, s6⟩ := hX; go_simp; with_reducible rfl)); (try simp only [Act.put, List.setIfInBounds_toArray, List.set_cons_zero, List.set_cons_succ]))
            (refine till_take 19 (v := ?_) rfl (by kernel_rfl) (by kernel_rfl) (by kernel_rfl) (by kernel_rfl) (by kernel_rfl) (fun _ _ _ h => h) (by rfl) (by assumption) ?_ ?_; rotate_left 1; (focus (intro X hX; obtain ⟨s0, s1, s2, s3, s4, s5, s6⟩ := hX; go_simp; with_reducible rfl)); (try simp only [Act.put, List.setIfInBounds_toArray, List.set_cons_zero, List.set_cons_succ]))
            obtain ⟨d, hd⟩ : ∃ x : Dn, x = ⟨o.kind, o.key, o.val, o.old, o.hold, IntKind.i64.wrap (100 + 10 * (k : Int)), IntKind.i64.wrap (100 + 10 * (k : Int) + IntKind.i64.wrap (IntKind.i64.wrap 0 * 10)), st.2.1, strV st.2.2, hasV st.2.2⟩ := ⟨_, rfl⟩
            have hdm : d = madeAt ops S k o := by
              rw [hd]
              unfold madeAt
              have e1 : stepP o (valN ops k) = st := by rw [← HV.out, HST.out]
              rw [e1, ← HSN.out]
              have e2 : IntKind.i64.wrap (100 + 10 * (k : Int)) = 100 + 10 * (k : Int) - ((sN % 40 : Nat) : Int) := by rw [wrap_small _ (by omega) (by omega)]; omega
              have e3 : IntKind.i64.wrap (100 + 10 * (k : Int) + IntKind.i64.wrap (IntKind.i64.wrap 0 * 10)) = 100 + 10 * (k : Int) + ((sN / 40 * 10 : Nat) : Int) := by rw [wrap_small 0 (by omega) (by omega), wrap_small (0 * 10) (by omega) (by omega), wrap_small _ (by omega) (by omega)]; omega
              rw [e2, e3]
            obtain ⟨A9, c9, w9, hrun, ho9, hg9, -, hb9⟩ := append_dn X.drew (w.heap.size + 1) (A := Ao) (n := k) (c := co) (L := madeN ops S k) HLN.out.symm HO2.out d (by omega) HZ2.out
            have hbl : b10 < X.heap.size := (Array.getElem?_eq_some_iff.1 HU210.out).1
            have hw9 : w9.heap[b10]? = X.heap[b10]? := hg9.block b10 hbl (fun e => HBA.out e.symm)
            have hbA : Below X.drew.heap.size X.drew (X.drew.alloc (.cells #[.int .i64 0, .int .i64 0, .int .i64 0, .int .i64 0, .int .i64 (d).kind, .string (d).key, .string (d).val, .string (d).old, .bool (d).hold, .int .i64 (d).fr, .int .i64 (d).to, .int .i64 (d).code, .string (d).rv, .bool (d).has, .complex .f64 0 0] 36)) := (Below.refl _ _).alloc (Nat.le_refl _) _
            have hS20 : (fun X : World => (X.cell? (ad.add (k * 5)) = some (.int .i64 o.kind) ∧ X.cell? ⟨(ad.add (k * 5)).block, (ad.add (k * 5)).off + 1, none⟩ = some (.string o.key) ∧ X.cell? ⟨(ad.add (k * 5)).block, (ad.add (k * 5)).off + 2, none⟩ = some (.string o.val) ∧ X.cell? ⟨(ad.add (k * 5)).block, (ad.add (k * 5)).off + 3, none⟩ = some (.string o.old) ∧ X.cell? ⟨(ad.add (k * 5)).block, (ad.add (k * 5)).off + 4, none⟩ = some (.bool o.hold) ∧ X.cell? ⟨b10, 0, none⟩ = some (.bool (hasV st.2.2)) ∧ X.cell? ⟨b10, 1, none⟩ = some (.string (strV st.2.2)))) (X.drew.alloc (.cells #[.int .i64 0, .int .i64 0, .int .i64 0, .int .i64 0, .int .i64 (d).kind, .string (d).key, .string (d).val, .string (d).old, .bool (d).hold, .int .i64 (d).fr, .int .i64 (d).to, .int .i64 (d).code, .string (d).rv, .bool (d).has, .complex .f64 0 0] 36)) := ⟨keepc hS2.1 hbA, keepc hS2.2.1 hbA, keepc hS2.2.2.1 hbA, keepc hS2.2.2.2.1 hbA, keepc hS2.2.2.2.2.1 hbA, keepc hS2.2.2.2.2.2.1 hbA, keepc hS2.2.2.2.2.2.2 hbA⟩
            have hadw : (ad.add (k * 5)).block < w.heap.size + 1 := by have := HAB.out; omega
            have hkp : ∀ p x, p.block = (ad.add (k * 5)).block → X.cell? p = some x → w9.cell? p = some x := fun p x hp hx => (World.cell?_of_block (w := X) (hb9.block p.block (by rw [hp]; exact hadw))).trans hx
            have hkb : ∀ j x, X.cell? ⟨b10, j, none⟩ = some x → w9.cell? ⟨b10, j, none⟩ = some x := fun j x hx => (World.cell?_of_block (w := X) (a := ⟨b10, j, none⟩) hw9).trans hx
            have hS21 : (fun X : World => (X.cell? (ad.add (k * 5)) = some (.int .i64 o.kind) ∧ X.cell? ⟨(ad.add (k * 5)).block, (ad.add (k * 5)).off + 1, none⟩ = some (.string o.key) ∧ X.cell? ⟨(ad.add (k * 5)).block, (ad.add (k * 5)).off + 2, none⟩ = some (.string o.val) ∧ X.cell? ⟨(ad.add (k * 5)).block, (ad.add (k * 5)).off + 3, none⟩ = some (.string o.old) ∧ X.cell? ⟨(ad.add (k * 5)).block, (ad.add (k * 5)).off + 4, none⟩ = some (.bool o.hold) ∧ X.cell? ⟨b10, 0, none⟩ = some (.bool (hasV st.2.2)) ∧ X.cell? ⟨b10, 1, none⟩ = some (.string (strV st.2.2)))) w9 := ⟨hkp _ _ (by rfl) hS2.1, hkp _ _ (by rfl) hS2.2.1, hkp _ _ (by rfl) hS2.2.2.1, hkp _ _ (by rfl) hS2.2.2.2.1, hkp _ _ (by rfl) hS2.2.2.2.2.1, hkb _ _ hS2.2.2.2.2.2.1, hkb _ _ hS2.2.2.2.2.2.2⟩
            have hmk : madeN ops S (k + 1) = madeN ops S k ++ [madeAt ops S k o] := by show (match ops[k]? with | some o => _ | none => _) = _; rw [HOE.out]
            have hvk : valN ops (k + 1) = st.1 := by show (match ops[k]? with | some o => _ | none => _) = _; rw [HOE.out, HST.out, HV.out]
            have HO9 := Lib.hid (show w9.ownsRow (w.heap.size + 1) 36 15 (.slice A9 (k + 1) c9) (k + 1) (rowD (madeN ops S (k + 1))) from by rw [hmk, ← hdm]; exact ho9)
            have HL9 := Lib.hid (show (madeN ops S (k + 1)).length = k + 1 from by rw [hmk, List.length_append, HLN.out]; rfl)
            have HP9 := Lib.hid (show w9.heap[pv]? = some (.cells #[.bool (hasV (valN ops (k + 1))), .string (strV (valN ops (k + 1)))] 43 (0, 0)) from by rw [hvk]; exact (hb9.block pv (by have := HPV.out; omega)).trans HU2.out)
            have HB9 := Lib.hid (show Below w.heap.size w w9 from (below_drew HB2.out).trans (hb9.mono (Nat.le_succ _)))
            have HZ9 := Lib.hid (show w.heap.size + 1 ≤ w9.heap.size from Nat.le_trans HZ2.out hb9.size)
            clear hmk hvk hdm ho9 hg9 hb9 hbl hw9 hbA hadw hkp hkb
            subst hd
            refine till_one 20 (by kernel_rfl) rfl (fun K hK => ?_)
            go_simp
            refine hK.out _ _ (fun _ => hS20) ?_
            clear hK K hS20
            try simp only [Act.put, List.setIfInBounds_toArray, List.set_cons_zero, List.set_cons_succ]
            refine till_one 21 (by kernel_rfl) rfl (fun K hK => ?_)
            refine step_append_run rfl rfl rfl rfl hrun ?_
            refine hK.out _ _ (fun _ => hS21) ?_
            clear hK K hrun
            try simp only [Act.put, List.setIfInBounds_toArray, List.set_cons_zero, List.set_cons_succ]
            refine till_one 22 (by kernel_rfl) rfl (fun K hK => ?_)
            go_simp
            refine hK.out _ _ (fun h => absurd rfl h) ?_
            clear hK K hS21
            try simp only [Act.put, List.setIfInBounds_toArray, List.set_cons_zero, List.set_cons_succ]
            refine till_done (by kernel_rfl) ?_ _
            clear HO2 HB2 HZ2 HU2 HU210 HT hS2
            go_wp2_with fail
            go_roundw
            case rel => exact ⟨k + 1, A9, c9, by omega, by go_num, rfl, HO9, HL9, HP9, HB9, HZ9⟩
            case measure => simp [intOf] <;> omega
      · intro K hK
        have hbA10 : Below wr.drew.heap.size wr.drew (wr.drew.alloc (.cells #[.bool false, .string ⟨#[]⟩] 43)) := (Below.refl _ _).alloc (Nat.le_refl _) _
        have hS10a : (fun X : World => (X.cell? (ad.add (k * 5)) = some (.int .i64 o.kind) ∧ X.cell? ⟨(ad.add (k * 5)).block, (ad.add (k * 5)).off + 1, none⟩ = some (.string o.key) ∧ X.cell? ⟨(ad.add (k * 5)).block, (ad.add (k * 5)).off + 2, none⟩ = some (.string o.val) ∧ X.cell? ⟨(ad.add (k * 5)).block, (ad.add (k * 5)).off + 3, none⟩ = some (.string o.old) ∧ X.cell? ⟨(ad.add (k * 5)).block, (ad.add (k * 5)).off + 4, none⟩ = some (.bool o.hold) ∧ X.cell? ⟨pv, 0, none⟩ = some (.bool (hasV v)) ∧ X.cell? ⟨pv, 1, none⟩ = some (.string (strV v)))) (wr.drew.alloc (.cells #[.bool false, .string ⟨#[]⟩] 43)) := ⟨keepc hS0.1 hbA10, keepc hS0.2.1 hbA10, keepc hS0.2.2.1 hbA10, keepc hS0.2.2.2.1 hbA10, keepc hS0.2.2.2.2.1 hbA10, keepc hS0.2.2.2.2.2.1 hbA10, keepc hS0.2.2.2.2.2.2 hbA10⟩
        have hbY10 : Below wr.heap.size wr (wr.drew.alloc (.cells #[.bool false, .string ⟨#[]⟩] 43)) := (hbX).trans (hbA10.mono (hbX).size)
        go_simp
        refine hK.out _ _ (fun _ => hS10a) ?_
        clear hK K
        try simp only [Act.put, List.setIfInBounds_toArray, List.set_cons_zero, List.set_cons_succ]
        have hz10 : (wr.drew.alloc (.cells #[.bool false, .string ⟨#[]⟩] 43)).heap[wr.heap.size]? = some (.cells #[.bool false, .string ⟨#[]⟩] 43) := by have := heap_alloc_new wr.drew (.cells #[.bool false, .string ⟨#[]⟩] 43); rwa [show wr.drew.heap.size = wr.heap.size by first | rfl | simp] at this
        refine till_two 5 10 (by kernel_rfl) rfl rfl ?_ ?_
        · intro K hK
          go_simp
          go_at_call 10
          refine (step_any (wr.drew.alloc (.cells #[.bool false, .string ⟨#[]⟩] 43)) o.kind o.key o.val o.old o.hold v).mono ?_
          rintro e6 w6 ⟨rfl, hb6⟩
          have hS6 : (fun X : World => (X.cell? (ad.add (k * 5)) = some (.int .i64 o.kind) ∧ X.cell? ⟨(ad.add (k * 5)).block, (ad.add (k * 5)).off + 1, none⟩ = some (.string o.key) ∧ X.cell? ⟨(ad.add (k * 5)).block, (ad.add (k * 5)).off + 2, none⟩ = some (.string o.val) ∧ X.cell? ⟨(ad.add (k * 5)).block, (ad.add (k * 5)).off + 3, none⟩ = some (.string o.old) ∧ X.cell? ⟨(ad.add (k * 5)).block, (ad.add (k * 5)).off + 4, none⟩ = some (.bool o.hold) ∧ X.cell? ⟨pv, 0, none⟩ = some (.bool (hasV v)) ∧ X.cell? ⟨pv, 1, none⟩ = some (.string (strV v)))) w6 := ⟨keepc hS10a.1 hb6, keepc hS10a.2.1 hb6, keepc hS10a.2.2.1 hb6, keepc hS10a.2.2.2.1 hb6, keepc hS10a.2.2.2.2.1 hb6, keepc hS10a.2.2.2.2.2.1 hb6, keepc hS10a.2.2.2.2.2.2 hb6⟩
          have hbY6 : Below wr.heap.size wr w6 := (hbY10).trans (hb6.mono (hbY10).size)
          refine hK.out _ _ (fun _ => hS6) ?_
          clear hK K
          try simp only [Act.put, List.setIfInBounds_toArray, List.set_cons_zero, List.set_cons_succ]
          (refine till_take 6 (v := ?_) rfl (by kernel_rfl) (by kernel_rfl) (by kernel_rfl) (by kernel_rfl) (by kernel_rfl) (fun _ _ _ h => h) (by rfl) (by assumption) ?_ ?_; rotate_left 1; (focus (intro X hX; obtain ⟨s0, s1, s2, s3, s4, s5, s6⟩ := hX; go_simp; with_reducible rfl)); (try simp only [Act.put, List.setIfInBounds_toArray, List.set_cons_zero, List.set_cons_succ]))
          (refine till_take 7 (v := ?_) rfl (by kernel_rfl) (by kernel_rfl) (by kernel_rfl) (by kernel_rfl) (by kernel_rfl) (fun _ _ _ h => h) (by rfl) (by assumption) ?_ ?_; rotate_left 1; (focus (intro X hX; obtain ⟨s0, s1, s2, s3, s4, s5, s6⟩ := hX; go_simp; with_reducible rfl)); (try simp only [Act.put, List.setIfInBounds_toArray, List.set_cons_zero, List.set_cons_succ]))
          (refine till_take 8 (v := ?_) rfl (by kernel_rfl) (by kernel_rfl) (by kernel_rfl) (by kernel_rfl) (by kernel_rfl) (fun _ _ _ h => h) (by rfl) (by assumption) ?_ ?_; rotate_left 1; (focus (intro X hX; obtain ⟨s0, s1, s2, s3, s4, s5, s6⟩ := hX; go_simp; with_reducible rfl)); (try simp only [Act.put, List.setIfInBounds_toArray, List.set_cons_zero, List.set_cons_succ]))
          (refine till_take 9 (v := ?_) rfl (by kernel_rfl) (by kernel_rfl) (by kernel_rfl) (by kernel_rfl) (by kernel_rfl) (fun _ _ _ h => h) (by rfl) (by assumption) ?_ ?_; rotate_left 1; (focus (intro X hX; obtain ⟨s0, s1, s2, s3, s4, s5, s6⟩ := hX; go_simp; with_reducible rfl)); (try simp only [Act.put, List.setIfInBounds_toArray, List.set_cons_zero, List.set_cons_succ]))
          refine till_one 10 (by kernel_rfl) rfl (fun K hK => ?_)
          have hbA8 : Below w6.heap.size w6 (w6.alloc (.cells #[.bool false, .string ⟨#[]⟩] 43)) := (Below.refl _ _).alloc (Nat.le_refl _) _
          have hS8a : (fun X : World => (X.cell? (ad.add (k * 5)) = some (.int .i64 o.kind) ∧ X.cell? ⟨(ad.add (k * 5)).block, (ad.add (k * 5)).off + 1, none⟩ = some (.string o.key) ∧ X.cell? ⟨(ad.add (k * 5)).block, (ad.add (k * 5)).off + 2, none⟩ = some (.string o.val) ∧ X.cell? ⟨(ad.add (k * 5)).block, (ad.add (k * 5)).off + 3, none⟩ = some (.string o.old) ∧ X.cell? ⟨(ad.add (k * 5)).block, (ad.add (k * 5)).off + 4, none⟩ = some (.bool o.hold) ∧ X.cell? ⟨pv, 0, none⟩ = some (.bool (hasV v)) ∧ X.cell? ⟨pv, 1, none⟩ = some (.string (strV v)))) (w6.alloc (.cells #[.bool false, .string ⟨#[]⟩] 43)) := ⟨keepc hS6.1 hbA8, keepc hS6.2.1 hbA8, keepc hS6.2.2.1 hbA8, keepc hS6.2.2.2.1 hbA8, keepc hS6.2.2.2.2.1 hbA8, keepc hS6.2.2.2.2.2.1 hbA8, keepc hS6.2.2.2.2.2.2 hbA8⟩
          have hbY8 : Below wr.heap.size wr (w6.alloc (.cells #[.bool false, .string ⟨#[]⟩] 43)) := (hbY6).trans (hbA8.mono (hbY6).size)
          go_simp
          refine hK.out _ _ (fun _ => hS8a) ?_
          clear hK K
          try simp only [Act.put, List.setIfInBounds_toArray, List.set_cons_zero, List.set_cons_succ]
          have hz8 : (w6.alloc (.cells #[.bool false, .string ⟨#[]⟩] 43)).heap[w6.heap.size]? = some (.cells #[.bool false, .string ⟨#[]⟩] 43) := by have := heap_alloc_new w6 (.cells #[.bool false, .string ⟨#[]⟩] 43); rwa [show w6.heap.size = w6.heap.size by first | rfl | simp] at this
          have HSY := Lib.hid (show ((w6.alloc (.cells #[.bool false, .string ⟨#[]⟩] 43)).cell? (ad.add (k * 5)) = some (.int .i64 o.kind) ∧ (w6.alloc (.cells #[.bool false, .string ⟨#[]⟩] 43)).cell? ⟨(ad.add (k * 5)).block, (ad.add (k * 5)).off + 1, none⟩ = some (.string o.key) ∧ (w6.alloc (.cells #[.bool false, .string ⟨#[]⟩] 43)).cell? ⟨(ad.add (k * 5)).block, (ad.add (k * 5)).off + 2, none⟩ = some (.string o.val) ∧ (w6.alloc (.cells #[.bool false, .string ⟨#[]⟩] 43)).cell? ⟨(ad.add (k * 5)).block, (ad.add (k * 5)).off + 3, none⟩ = some (.string o.old) ∧ (w6.alloc (.cells #[.bool false, .string ⟨#[]⟩] 43)).cell? ⟨(ad.add (k * 5)).block, (ad.add (k * 5)).off + 4, none⟩ = some (.bool o.hold) ∧ (w6.alloc (.cells #[.bool false, .string ⟨#[]⟩] 43)).cell? ⟨pv, 0, none⟩ = some (.bool (hasV v)) ∧ (w6.alloc (.cells #[.bool false, .string ⟨#[]⟩] 43)).cell? ⟨pv, 1, none⟩ = some (.string (strV v))) from hS8a)
          have HBY := Lib.hid (show Below wr.heap.size wr (w6.alloc (.cells #[.bool false, .string ⟨#[]⟩] 43)) from hbY8)
          have HZ8 := Lib.hid (show (w6.alloc (.cells #[.bool false, .string ⟨#[]⟩] 43)).heap[w6.heap.size]? = some (.cells #[.bool false, .string ⟨#[]⟩] 43) from hz8)
          have HZ10 := Lib.hid (show (w6.alloc (.cells #[.bool false, .string ⟨#[]⟩] 43)).heap[wr.heap.size]? = some (.cells #[.bool false, .string ⟨#[]⟩] 43) from ((hbA8.block _ (by first | (simp; done) | (simp; omega) | (have hh6 := hb6.size; simp at hh6; omega) | (have hh6 := hb6.size; simp at hh6 ⊢; omega))).trans ((hb6.block _ (by first | (simp; done) | (simp; omega) | (have hh6 := hb6.size; simp at hh6; omega) | (have hh6 := hb6.size; simp at hh6 ⊢; omega))).trans hz10)))
          have HNE0 := Lib.hid (show w6.heap.size ≠ wr.heap.size ∧ wr.heap.size ≤ w6.heap.size ∧ wr.heap.size ≤ wr.heap.size from by
            have hh6 := hb6.size
            have hwd : wr.drew.heap.size = wr.heap.size := rfl
            try simp only [World.size_alloc] at hh6
            try rw [hwd] at hh6
            omega)
          clear hS0 hbX o0 o1 o2 o3 o4 v0 v1 hbA10 hS10a hbY10 hz10 hS6 hbY6 hb6 hbA8 hS8a hbY8 hz8
          generalize (w6.alloc (.cells #[.bool false, .string ⟨#[]⟩] 43)) = Y at HSY HBY HZ8 HZ10 ⊢
          obtain ⟨b8, hb8⟩ : ∃ x, x = w6.heap.size := ⟨_, rfl⟩
          obtain ⟨b10, hb10⟩ : ∃ x, x = wr.heap.size := ⟨_, rfl⟩
          have HNE := Lib.hid (show b8 ≠ b10 ∧ wr.heap.size ≤ b8 ∧ wr.heap.size ≤ b10 from by rw [hb8, hb10]; exact HNE0.out)
          rw [← hb8] at HZ8 ⊢
          rw [← hb10] at HZ10 ⊢
          clear hb8 hb10 HNE0
          obtain ⟨st, hst⟩ : ∃ x, x = stepP ⟨o.kind, o.key, o.val, o.old, o.hold⟩ v := ⟨_, rfl⟩
          rw [← hst]
          have HST := Lib.hid hst
          clear hst
          have hpvlt : pv < wr.heap.size := by have := HPV.out; have := HZ.out; omega
          have hadlt : (ad.add (k * 5)).block < wr.heap.size := by have := HAB.out; have := HZ.out; omega
          obtain ⟨hne, hn8, hn10⟩ := HNE.out
          have y80 := cell_of_row _ b8 0 _ _ (0, 0) HZ8.out
          have y81 := cell_of_row _ b8 1 _ _ (0, 0) HZ8.out
          have yf : ∀ j, Y.frozen? ⟨b8, j, none⟩ = false := fun j => frozen_of_row _ _ j _ _ HZ8.out
          simp only [List.getElem?_toArray, List.getElem?_cons_succ, List.getElem?_cons_zero] at y80 y81
          have ha8 : (ad.add (k * 5)).block ≠ b8 := by omega
          have hp8 : pv ≠ b8 := by omega
          have hS12 : (fun X : World => (X.cell? (ad.add (k * 5)) = some (.int .i64 o.kind) ∧ X.cell? ⟨(ad.add (k * 5)).block, (ad.add (k * 5)).off + 1, none⟩ = some (.string o.key) ∧ X.cell? ⟨(ad.add (k * 5)).block, (ad.add (k * 5)).off + 2, none⟩ = some (.string o.val) ∧ X.cell? ⟨(ad.add (k * 5)).block, (ad.add (k * 5)).off + 3, none⟩ = some (.string o.old) ∧ X.cell? ⟨(ad.add (k * 5)).block, (ad.add (k * 5)).off + 4, none⟩ = some (.bool o.hold) ∧ X.cell? ⟨pv, 0, none⟩ = some (.bool (hasV v)) ∧ X.cell? ⟨pv, 1, none⟩ = some (.string (strV v)))) ((Y.setCell ⟨b8, 0, none⟩ (.bool (hasV st.1))).setCell ⟨b8, 1, none⟩ (.string (strV st.1))) := by
            obtain ⟨s0, s1, s2, s3, s4, s5, s6⟩ := HSY.out
            exact ⟨cell2n _ _ s0 ha8, cell2n _ _ s1 ha8, cell2n _ _ s2 ha8, cell2n _ _ s3 ha8, cell2n _ _ s4 ha8, cell2n _ _ s5 hp8, cell2n _ _ s6 hp8⟩
          refine till_one 12 (by kernel_rfl) rfl (fun K hK => ?_)
          go_simp
          refine hK.out _ _ (fun _ => hS12) ?_
          clear hK K y80 y81 yf
          try simp only [Act.put, List.setIfInBounds_toArray, List.set_cons_zero, List.set_cons_succ]
          have HZ8b := Lib.hid (set2 HZ8.out (.bool (hasV st.1)) (.string (strV st.1)))
          have HZ10b := Lib.hid ((heap2 (w := Y) (d := b8) (.bool (hasV st.1)) (.string (strV st.1)) (Ne.symm hne)).trans HZ10.out)
          have HBY2 := Lib.hid ((HBY.out.setCell (p := ⟨b8, 0, none⟩) hn8 (.bool (hasV st.1))).setCell (p := ⟨b8, 1, none⟩) hn8 (.string (strV st.1)))
          clear HZ8 HZ10 HBY HSY
          generalize (Y.setCell ⟨b8, 0, none⟩ (.bool (hasV st.1))).setCell ⟨b8, 1, none⟩ (.string (strV st.1)) = Y2 at HZ8b HZ10b HBY2 hS12 ⊢
          refine till_one 13 (by kernel_rfl) rfl (fun K hK => ?_)
          go_simp
          refine hK.out _ _ (fun _ => hS12) ?_
          clear hK K
          try simp only [Act.put, List.setIfInBounds_toArray, List.set_cons_zero, List.set_cons_succ]
          have y80 := cell_of_row _ b10 0 _ _ (0, 0) HZ10b.out
          have y81 := cell_of_row _ b10 1 _ _ (0, 0) HZ10b.out
          have yf : ∀ j, Y2.frozen? ⟨b10, j, none⟩ = false := fun j => frozen_of_row _ _ j _ _ HZ10b.out
          simp only [List.getElem?_toArray, List.getElem?_cons_succ, List.getElem?_cons_zero] at y80 y81
          refine till_one 14 (by kernel_rfl) rfl (fun K hK => ?_)
          go_simp
          refine hK.out _ _ (fun h => absurd rfl h) ?_
          clear hK K y80 y81 yf
          try simp only [Act.put, List.setIfInBounds_toArray, List.set_cons_zero, List.set_cons_succ]
          refine till_done (by kernel_rfl) ?_ _
          have hp10 : pv ≠ b10 := by omega
          have ha10 : (ad.add (k * 5)).block ≠ b10 := by omega
          have HU8 := Lib.hid ((heap2 (w := Y2) (d := b10) (.bool (hasV st.2.2)) (.string (strV st.2.2)) hne).trans HZ8b.out)
          have HU10 := Lib.hid (set2 HZ10b.out (.bool (hasV st.2.2)) (.string (strV st.2.2)))
          have HBU := Lib.hid ((HBY2.out.setCell (p := ⟨b10, 0, none⟩) hn10 (.bool (hasV st.2.2))).setCell (p := ⟨b10, 1, none⟩) hn10 (.string (strV st.2.2)))
          have HUO := Lib.hid (show ∀ p x, p.block = (ad.add (k * 5)).block → Y2.cell? p = some x → ((Y2.setCell ⟨b10, 0, none⟩ (.bool (hasV st.2.2))).setCell ⟨b10, 1, none⟩ (.string (strV st.2.2))).cell? p = some x from fun p x hp hx => cell2n _ _ hx (by rw [hp]; exact ha10))
          clear HZ8b HZ10b HBY2
          obtain ⟨s0, s1, s2, s3, s4, -, -⟩ := hS12
          replace s0 := HUO.out _ _ (by rfl) s0
          replace s1 := HUO.out _ _ (by rfl) s1
          replace s2 := HUO.out _ _ (by rfl) s2
          replace s3 := HUO.out _ _ (by rfl) s3
          replace s4 := HUO.out _ _ (by rfl) s4
          clear HUO
          generalize (Y2.setCell ⟨b10, 0, none⟩ (.bool (hasV st.2.2))).setCell ⟨b10, 1, none⟩ (.string (strV st.2.2)) = U at HU8 HU10 HBU s0 s1 s2 s3 s4 ⊢
          have HUP := Lib.hid ((HBU.out.block pv hpvlt).trans HP.out)
          have u0 := cell_of_row _ b8 0 _ _ (0, 0) HU8.out
          have u1 := cell_of_row _ b8 1 _ _ (0, 0) HU8.out
          have p0 := cell_of_row _ pv 0 _ _ (0, 0) HUP.out
          have p1 := cell_of_row _ pv 1 _ _ (0, 0) HUP.out
          have pf : ∀ j, U.frozen? ⟨pv, j, none⟩ = false := fun j => frozen_of_row _ _ j _ _ HUP.out
          simp only [List.getElem?_toArray, List.getElem?_cons_succ, List.getElem?_cons_zero] at u0 u1 p0 p1
          have hap : (ad.add (k * 5)).block ≠ pv := by have := HAB.out; have := HPV.out; omega
          have HU2 := Lib.hid (set2 HUP.out (.bool (hasV st.1)) (.string (strV st.1)))
          have HU210 := Lib.hid ((heap2 (w := U) (d := pv) (.bool (hasV st.1)) (.string (strV st.1)) (Ne.symm hp10)).trans HU10.out)
          have HO2 := Lib.hid (row_set (d := pv) (o := 1) (row_set (d := pv) (o := 0) (own_below HO.out HBU.out (Nat.le_refl _)) (fun e => by have := (row_lt HO.out e).1; have := HPV.out; omega) (.bool (hasV st.1))) (fun e => by have := (row_lt HO.out e).1; have := HPV.out; omega) (.string (strV st.1)))
          have HB2 := Lib.hid (show Below w.heap.size w ((U.setCell ⟨pv, 0, none⟩ (.bool (hasV st.1))).setCell ⟨pv, 1, none⟩ (.string (strV st.1))) from ((HB.out.trans (HBU.out.mono (Nat.le_trans (Nat.le_succ _) HZ.out))).setCell (p := ⟨pv, 0, none⟩) (by simp only; have := HPV.out; omega) _).setCell (p := ⟨pv, 1, none⟩) (by simp only; have := HPV.out; omega) _)
          have HZ2 := Lib.hid (show w.heap.size + 1 ≤ ((U.setCell ⟨pv, 0, none⟩ (.bool (hasV st.1))).setCell ⟨pv, 1, none⟩ (.string (strV st.1))).heap.size from by simpa using Nat.le_trans HZ.out HBU.out.size)
          have HT := Lib.hid (show (fun X : World => (X.cell? (ad.add (k * 5)) = some (.int .i64 o.kind) ∧ X.cell? ⟨(ad.add (k * 5)).block, (ad.add (k * 5)).off + 1, none⟩ = some (.string o.key) ∧ X.cell? ⟨(ad.add (k * 5)).block, (ad.add (k * 5)).off + 2, none⟩ = some (.string o.val) ∧ X.cell? ⟨(ad.add (k * 5)).block, (ad.add (k * 5)).off + 3, none⟩ = some (.string o.old) ∧ X.cell? ⟨(ad.add (k * 5)).block, (ad.add (k * 5)).off + 4, none⟩ = some (.bool o.hold) ∧ X.cell? ⟨b10, 0, none⟩ = some (.bool (hasV st.2.2)) ∧ X.cell? ⟨b10, 1, none⟩ = some (.string (strV st.2.2)))) ((U.setCell ⟨pv, 0, none⟩ (.bool (hasV st.1))).setCell ⟨pv, 1, none⟩ (.string (strV st.1))) from by
            have c0 := cell_of_row _ b10 0 _ _ (0, 0) HU210.out
            have c1 := cell_of_row _ b10 1 _ _ (0, 0) HU210.out
            simp only [List.getElem?_toArray, List.getElem?_cons_succ, List.getElem?_cons_zero] at c0 c1
            exact ⟨cell2n _ _ s0 hap, cell2n _ _ s1 hap, cell2n _ _ s2 hap, cell2n _ _ s3 hap, cell2n _ _ s4 hap, c0, c1⟩)
          have HBA := Lib.hid (show bl Ao ≠ some b10 from fun e => by have := (row_lt HO.out e).2; omega)
          clear s0 s1 s2 s3 s4 hap HUP HU8 HU10 HBU HO HP HB HZ hp10 ha10 hp8 ha8 hpvlt hadlt hne hn8 hn10 HNE
          by_cases hks : k < ns
          · have hksl : k < S.length := by rw [← HNS.out]; exact hks
            have hrb := HRS.out.below HB2.out
            obtain ⟨sd, sx, rfl, -, hsx, hsc⟩ := Reads.at_ hrb hksl
            obtain ⟨sN, hsN⟩ : ∃ x, x = spr S k := ⟨_, rfl⟩
            have hsc' : ((U.setCell ⟨pv, 0, none⟩ (.bool (hasV st.1))).setCell ⟨pv, 1, none⟩ (.string (strV st.1))).cell? (sd.add k) = some (.int .u8 (sN : Int)) := by
              rw [hsc, ← hsx, bytesV, List.getElem?_map, List.getElem?_eq_getElem hksl, hsN]
              simp [spr, List.getElem?_eq_getElem hksl]
            have hs255 : sN ≤ 255 := by rw [hsN]; simp only [spr, List.getElem?_eq_getElem hksl, Option.map_some, Option.getD_some]; have := S[k].toNat_lt; omega
            have HSN := Lib.hid hsN
            have hks0 : (k : Int) < ns := by omega
            clear hsN hsc hsx hrb hksl
            go_wp2_with fail
            try clear hsc'
            generalize (U.setCell ⟨pv, 0, none⟩ (.bool (hasV st.1))).setCell ⟨pv, 1, none⟩ (.string (strV st.1)) = X at HU2 HU210 HO2 HB2 HZ2 HT ⊢
            clear u0 u1 p0 p1 pf
            have hS2 : (fun X : World => (X.cell? (ad.add (k * 5)) = some (.int .i64 o.kind) ∧ X.cell? ⟨(ad.add (k * 5)).block, (ad.add (k * 5)).off + 1, none⟩ = some (.string o.key) ∧ X.cell? ⟨(ad.add (k * 5)).block, (ad.add (k * 5)).off + 2, none⟩ = some (.string o.val) ∧ X.cell? ⟨(ad.add (k * 5)).block, (ad.add (k * 5)).off + 3, none⟩ = some (.string o.old) ∧ X.cell? ⟨(ad.add (k * 5)).block, (ad.add (k * 5)).off + 4, none⟩ = some (.bool o.hold) ∧ X.cell? ⟨b10, 0, none⟩ = some (.bool (hasV st.2.2)) ∧ X.cell? ⟨b10, 1, none⟩ = some (.string (strV st.2.2)))) X.drew := HT.out
            refine wp_region_till 22 (fun X : World => (X.cell? (ad.add (k * 5)) = some (.int .i64 o.kind) ∧ X.cell? ⟨(ad.add (k * 5)).block, (ad.add (k * 5)).off + 1, none⟩ = some (.string o.key) ∧ X.cell? ⟨(ad.add (k * 5)).block, (ad.add (k * 5)).off + 2, none⟩ = some (.string o.val) ∧ X.cell? ⟨(ad.add (k * 5)).block, (ad.add (k * 5)).off + 3, none⟩ = some (.string o.old) ∧ X.cell? ⟨(ad.add (k * 5)).block, (ad.add (k * 5)).off + 4, none⟩ = some (.bool o.hold) ∧ X.cell? ⟨b10, 0, none⟩ = some (.bool (hasV st.2.2)) ∧ X.cell? ⟨b10, 1, none⟩ = some (.string (strV st.2.2)))) (by kernel_rfl) ?_
            (refine till_take 0 (v := ?_) rfl (by kernel_rfl) (by kernel_rfl) (by kernel_rfl) (by kernel_rfl) (by kernel_rfl) (fun _ _ _ h => h) (by rfl) (by assumption) ?_ ?_; rotate_left 1; (focus (intro X hX; obtain ⟨s0, s1, s2, s3, s4, s5, s6⟩ := hX; go_simp; with_reducible rfl)); (try simp only [Act.put, List.setIfInBounds_toArray, List.set_cons_zero, List.set_cons_succ]))
            (refine till_take 1 (v := ?_) rfl (by kernel_rfl) (by kernel_rfl) (by kernel_rfl) (by kernel_rfl) (by kernel_rfl) (fun _ _ _ h => h) (by rfl) (by assumption) ?_ ?_; rotate_left 1; (focus (intro X hX; obtain ⟨s0, s1, s2, s3, s4, s5, s6⟩ := hX; go_simp; with_reducible rfl)); (try simp only [Act.put, List.setIfInBounds_toArray, List.set_cons_zero, List.set_cons_succ]))
            (refine till_take 2 (v := ?_) rfl (by kernel_rfl) (by kernel_rfl) (by kernel_rfl) (by kernel_rfl) (by kernel_rfl) (fun _ _ _ h => h) (by rfl) (by assumption) ?_ ?_; rotate_left 1; (focus (intro X hX; obtain ⟨s0, s1, s2, s3, s4, s5, s6⟩ := hX; go_simp; with_reducible rfl)); (try simp only [Act.put, List.setIfInBounds_toArray, List.set_cons_zero, List.set_cons_succ]))
            (refine till_take 3 (v := ?_) rfl (by kernel_rfl) (by kernel_rfl) (by kernel_rfl) (by kernel_rfl) (by kernel_rfl) (fun _ _ _ h => h) (by rfl) (by assumption) ?_ ?_; rotate_left 1; (focus (intro X hX; obtain ⟨s0, s1, s2, s3, s4, s5, s6⟩ := hX; go_simp; with_reducible rfl)); (try simp only [Act.put, List.setIfInBounds_toArray, List.set_cons_zero, List.set_cons_succ]))
            (refine till_take 4 (v := ?_) rfl (by kernel_rfl) (by kernel_rfl) (by kernel_rfl) (by kernel_rfl) (by kernel_rfl) (fun _ _ _ h => h) (by rfl) (by assumption) ?_ ?_; rotate_left 1; (focus (intro X hX; obtain ⟨s0, s1, s2, s3, s4, s5, s6⟩ := hX; go_simp; with_reducible rfl)); (try simp only [Act.put, List.setIfInBounds_toArray, List.set_cons_zero, List.set_cons_succ]))
            (refine till_take 5 (v := ?_) rfl (by kernel_rfl) (by kernel_rfl) (by kernel_rfl) (by kernel_rfl) (by kernel_rfl) (fun _ _ _ h => h) (by rfl) (by assumption) ?_ ?_; rotate_left 1; (focus (intro X hX; obtain ⟨s0, s1, s2, s3, s4, s5, s6⟩ := hX; go_simp; with_reducible rfl)); (try simp only [Act.put, List.setIfInBounds_toArray, List.set_cons_zero, List.set_cons_succ]))
            (refine till_take 6 (v := ?_) rfl (by kernel_rfl) (by kernel_rfl) (by kernel_rfl) (by kernel_rfl) (by kernel_rfl) (fun _ _ _ h => h) (by rfl) (by assumption) ?_ ?_; rotate_left 1; (focus (intro X hX; obtain ⟨s0, s1, s2, s3, s4, s5, s6⟩ := hX; go_simp; with_reducible rfl)); (try simp only [Act.put, List.setIfInBounds_toArray, List.set_cons_zero, List.set_cons_succ]))
            (refine till_take 7 (v := ?_) rfl (by kernel_rfl) (by kernel_rfl) (by kernel_rfl) (by kernel_rfl) (by kernel_rfl) (fun _ _ _ h => h) (by rfl) (by assumption) ?_ ?_; rotate_left 1; (focus (intro X hX; obtain ⟨s0, s1, s2, s3, s4, s5, s6⟩ := hX; go_simp; with_reducible rfl)); (try simp only [Act.put, List.setIfInBounds_toArray, List.set_cons_zero, List.set_cons_succ]))
            (refine till_take 8 (v := ?_) rfl (by kernel_rfl) (by kernel_rfl) (by kernel_rfl) (by kernel_rfl) (by kernel_rfl) (fun _ _ _ h => h) (by rfl) (by assumption) ?_ ?_; rotate_left 1; (focus (intro X hX; obtain ⟨s0, s1, s2, s3, s4, s5, s6⟩ := hX; go_simp; with_reducible rfl)); (try simp only [Act.put, List.setIfInBounds_toArray, List.set_cons_zero, List.set_cons_succ]))
            (refine till_take 9 (v := ?_) rfl (by kernel_rfl) (by kernel_rfl) (by kernel_rfl) (by kernel_rfl) (by kernel_rfl) (fun _ _ _ h => h) (by rfl) (by assumption) ?_ ?_; rotate_left 1; (focus (intro X hX; obtain ⟨s0, s1, s2, s3, s4, s5, s6⟩ := hX; go_simp; with_reducible rfl)); (try simp only [Act.put, List.setIfInBounds_toArray, List.set_cons_zero, List.set_cons_succ]))
            (refine till_take 10 (v := ?_) rfl (by kernel_rfl) (by kernel_rfl) (by kernel_rfl) (by kernel_rfl) (by kernel_rfl) (fun _ _ _ h => h) (by rfl) (by assumption) ?_ ?_; rotate_left 1; (focus (intro X hX; obtain ⟨s0, s1, s2, s3, s4, s5, s6⟩ := hX; go_simp; with_reducible rfl)); (try simp only [Act.put, List.setIfInBounds_toArray, List.set_cons_zero, List.set_cons_succ]))
            (refine till_take 11 (v := ?_) rfl (by kernel_rfl) (by kernel_rfl) (by kernel_rfl) (by kernel_rfl) (by kernel_rfl) (fun _ _ _ h => h) (by rfl) (by assumption) ?_ ?_; rotate_left 1; (focus (intro X hX; obtain ⟨s0, s1, s2, s3, s4, s5, s6⟩ := hX; go_simp; with_reducible rfl)); (try simp only [Act.put, List.setIfInBounds_toArray, List.set_cons_zero, List.set_cons_succ]))
            (refine till_take 12 (v := ?_) rfl (by kernel_rfl) (by kernel_rfl) (by kernel_rfl) (by kernel_rfl) (by kernel_rfl) (fun _ _ _ h => h) (by rfl) (by assumption) ?_ ?_; rotate_left 1; (focus (intro X hX; obtain ⟨s0, s1, s2, s3, s4, s5, s6⟩ := hX; go_simp; with_reducible rfl)); (try simp only [Act.put, List.setIfInBounds_toArray, List.set_cons_zero, List.set_cons_succ]))
            (refine till_take 13 (v := ?_) rfl (by kernel_rfl) (by kernel_rfl) (by kernel_rfl) (by kernel_rfl) (by kernel_rfl) (fun _ _ _ h => h) (by rfl) (by assumption) ?_ ?_; rotate_left 1; (focus (intro X hX; obtain ⟨s0, s1, s2, s3, s4, s5, s6⟩ := hX; go_simp; with_reducible rfl)); (try simp only [Act.put, List.setIfInBounds_toArray, List.set_cons_zero, List.set_cons_succ]))
            (refine till_take 14 (v := ?_) rfl (by kernel_rfl) (by kernel_rfl) (by kernel_rfl) (by kernel_rfl) (by kernel_rfl) (fun _ _ _ h => h) (by rfl) (by assumption) ?_ ?_; rotate_left 1; (focus (intro X hX; obtain ⟨s0, s1, s2, s3, s4, s5, s6⟩ := hX; go_simp; with_reducible rfl)); (try simp only [Act.put, List.setIfInBounds_toArray, List.set_cons_zero, List.set_cons_succ]))
            (refine till_take 15 (v := ?_) rfl (by kernel_rfl) (by kernel_rfl) (by kernel_rfl) (by kernel_rfl) (by kernel_rfl) (fun _ _ _ h => h) (by rfl) (by assumption) ?_ ?_; rotate_left 1; (focus (intro X hX; obtain ⟨s0, s1, s2, s3, s4, s5, s6⟩ := hX; go_simp; with_reducible rfl)); (try simp only [Act.put, List.setIfInBounds_toArray, List.set_cons_zero, List.set_cons_succ]))
            (refine till_take 16 (v := ?_) rfl (by kernel_rfl) (by kernel_rfl) (by kernel_rfl) (by kernel_rfl) (by kernel_rfl) (fun _ _ _ h => h) (by rfl) (by assumption) ?_ ?_; rotate_left 1; (focus (intro X hX; obtain ⟨s0, s1, s2, s3, s4, s5, s6⟩ := hX; go_simp; with_reducible rfl)); (try simp only [Act.put, List.setIfInBounds_toArray, List.set_cons_zero, List.set_cons_succ]))
            (refine till_take 17 (v := ?_) rfl (by kernel_rfl) (by kernel_rfl) (by kernel_rfl) (by kernel_rfl) (by kernel_rfl) (fun _ _ _ h => h) (by rfl) (by assumption) ?_ ?_; rotate_left 1; (focus (intro X hX; obtain ⟨s0, s1, s2, s3, s4, s5, s6⟩ := hX; go_simp; with_reducible rfl)); (try simp only [Act.put, List.setIfInBounds_toArray, List.set_cons_zero, List.set_cons_succ]))
            (refine till_take 18 (v := ?_) rfl (by kernel_rfl) (by kernel_rfl) (by kernel_rfl) (by kernel_rfl) (by kernel_rfl) (fun _ _ _ h => h) (by rfl) (by assumption) ?_ ?_; rotate_left 1; (focus (intro X hX; obtain ⟨s0, s1, s2, s3, s4, s5, s6⟩ := hX; go_simp; with_reducible rfl)); (try simp only [Act.put, List.setIfInBounds_toArray, List.set_cons_zero, List.set_cons_succ]))
            (refine till_take 19 (v := ?_) rfl (by kernel_rfl) (by kernel_rfl) (by kernel_rfl) (by kernel_rfl) (by kernel_rfl) (fun _ _ _ h => h) (by rfl) (by assumption) ?_ ?_; rotate_left 1; (focus (intro X hX; obtain ⟨s0, s1, s2, s3, s4, s5, s6⟩ := hX; go_simp; with_reducible rfl)); (try simp only [Act.put, List.setIfInBounds_toArray, List.set_cons_zero, List.set_cons_succ]))
            obtain ⟨d, hd⟩ : ∃ x : Dn, x = ⟨o.kind, o.key, o.val, o.old, o.hold, IntKind.i64.wrap (100 + 10 * (k : Int) - ((sN : Int)).tmod 40), IntKind.i64.wrap (100 + 10 * (k : Int) + IntKind.i64.wrap (IntKind.i64.wrap ((sN : Int) / 40) * 10)), st.2.1, strV st.2.2, hasV st.2.2⟩ := ⟨_, rfl⟩
            have hdm : d = madeAt ops S k o := by
              rw [hd]
              unfold madeAt
              have e1 : stepP o (valN ops k) = st := by rw [← HV.out, HST.out]
              rw [e1, ← HSN.out]
              have e2 : IntKind.i64.wrap (100 + 10 * (k : Int) - ((sN : Int)).tmod 40) = 100 + 10 * (k : Int) - ((sN % 40 : Nat) : Int) := by rw [Int.tmod_eq_emod_of_nonneg (by omega), wrap_small _ (by omega) (by omega)]; omega
              have e3 : IntKind.i64.wrap (100 + 10 * (k : Int) + IntKind.i64.wrap (IntKind.i64.wrap ((sN : Int) / 40) * 10)) = 100 + 10 * (k : Int) + ((sN / 40 * 10 : Nat) : Int) := by rw [wrap_small ((sN : Int) / 40) (by omega) (by omega), wrap_small ((sN : Int) / 40 * 10) (by omega) (by omega), wrap_small _ (by omega) (by omega)]; omega
              rw [e2, e3]
            obtain ⟨A9, c9, w9, hrun, ho9, hg9, -, hb9⟩ := append_dn X.drew (w.heap.size + 1) (A := Ao) (n := k) (c := co) (L := madeN ops S k) HLN.out.symm HO2.out d (by omega) HZ2.out
            have hbl : b10 < X.heap.size := (Array.getElem?_eq_some_iff.1 HU210.out).1
            have hw9 : w9.heap[b10]? = X.heap[b10]? := hg9.block b10 hbl (fun e => HBA.out e.symm)
            have hbA : Below X.drew.heap.size X.drew (X.drew.alloc (.cells #[.int .i64 0, .int .i64 0, .int .i64 0, .int .i64 0, .int .i64 (d).kind, .string (d).key, .string (d).val, .string (d).old, .bool (d).hold, .int .i64 (d).fr, .int .i64 (d).to, .int .i64 (d).code, .string (d).rv, .bool (d).has, .complex .f64 0 0] 36)) := (Below.refl _ _).alloc (Nat.le_refl _) _
            have hS20 : (fun X : World => (X.cell? (ad.add (k * 5)) = some (.int .i64 o.kind) ∧ X.cell? ⟨(ad.add (k * 5)).block, (ad.add (k * 5)).off + 1, none⟩ = some (.string o.key) ∧ X.cell? ⟨(ad.add (k * 5)).block, (ad.add (k * 5)).off + 2, none⟩ = some (.string o.val) ∧ X.cell? ⟨(ad.add (k * 5)).block, (ad.add (k * 5)).off + 3, none⟩ = some (.string o.old) ∧ X.cell? ⟨(ad.add (k * 5)).block, (ad.add (k * 5)).off + 4, none⟩ = some (.bool o.hold) ∧ X.cell? ⟨b10, 0, none⟩ = some (.bool (hasV st.2.2)) ∧ X.cell? ⟨b10, 1, none⟩ = some (.string (strV st.2.2)))) (X.drew.alloc (.cells #[.int .i64 0, .int .i64 0, .int .i64 0, .int .i64 0, .int .i64 (d).kind, .string (d).key, .string (d).val, .string (d).old, .bool (d).hold, .int .i64 (d).fr, .int .i64 (d).to, .int .i64 (d).code, .string (d).rv, .bool (d).has, .complex .f64 0 0] 36)) := ⟨keepc hS2.1 hbA, keepc hS2.2.1 hbA, keepc hS2.2.2.1 hbA, keepc hS2.2.2.2.1 hbA, keepc hS2.2.2.2.2.1 hbA, keepc hS2.2.2.2.2.2.1 hbA, keepc hS2.2.2.2.2.2.2 hbA⟩
            have hadw : (ad.add (k * 5)).block < w.heap.size + 1 := by have := HAB.out; omega
            have hkp : ∀ p x, p.block = (ad.add (k * 5)).block → X.cell? p = some x → w9.cell? p = some x := fun p x hp hx => (World.cell?_of_block (w := X) (hb9.block p.block (by rw [hp]; exact hadw))).trans hx
            have hkb : ∀ j x, X.cell? ⟨b10, j, none⟩ = some x → w9.cell? ⟨b10, j, none⟩ = some x := fun j x hx => (World.cell?_of_block (w := X) (a := ⟨b10, j, none⟩) hw9).trans hx
            have hS21 : (fun X : World => (X.cell? (ad.add (k * 5)) = some (.int .i64 o.kind) ∧ X.cell? ⟨(ad.add (k * 5)).block, (ad.add (k * 5)).off + 1, none⟩ = some (.string o.key) ∧ X.cell? ⟨(ad.add (k * 5)).block, (ad.add (k * 5)).off + 2, none⟩ = some (.string o.val) ∧ X.cell? ⟨(ad.add (k * 5)).block, (ad.add (k * 5)).off + 3, none⟩ = some (.string o.old) ∧ X.cell? ⟨(ad.add (k * 5)).block, (ad.add (k * 5)).off + 4, none⟩ = some (.bool o.hold) ∧ X.cell? ⟨b10, 0, none⟩ = some (.bool (hasV st.2.2)) ∧ X.cell? ⟨b10, 1, none⟩ = some (.string (strV st.2.2)))) w9 := ⟨hkp _ _ (by rfl) hS2.1, hkp _ _ (by rfl) hS2.2.1, hkp _ _ (by rfl) hS2.2.2.1, hkp _ _ (by rfl) hS2.2.2.2.1, hkp _ _ (by rfl) hS2.2.2.2.2.1, hkb _ _ hS2.2.2.2.2.2.1, hkb _ _ hS2.2.2.2.2.2.2⟩
            have hmk : madeN ops S (k + 1) = madeN ops S k ++ [madeAt ops S k o] := by show (match ops[k]? with | some o => _ | none => _) = _; rw [HOE.out]
            have hvk : valN ops (k + 1) = st.1 := by show (match ops[k]? with | some o => _ | none => _) = _; rw [HOE.out, HST.out, HV.out]
            have HO9 := Lib.hid (show w9.ownsRow (w.heap.size + 1) 36 15 (.slice A9 (k + 1) c9) (k + 1) (rowD (madeN ops S (k + 1))) from by rw [hmk, ← hdm]; exact ho9)
            have HL9 := Lib.hid (show (madeN ops S (k + 1)).length = k + 1 from by rw [hmk, List.length_append, HLN.out]; rfl)
            have HP9 := Lib.hid (show w9.heap[pv]? = some (.cells #[.bool (hasV (valN ops (k + 1))), .string (strV (valN ops (k + 1)))] 43 (0, 0)) from by rw [hvk]; exact (hb9.block pv (by have := HPV.out; omega)).trans HU2.out)
            have HB9 := Lib.hid (show Below w.heap.size w w9 from (below_drew HB2.out).trans (hb9.mono (Nat.le_succ _)))
            have HZ9 := Lib.hid (show w.heap.size + 1 ≤ w9.heap.size from Nat.le_trans HZ2.out hb9.size)
            clear hmk hvk hdm ho9 hg9 hb9 hbl hw9 hbA hadw hkp hkb
            subst hd
            refine till_one 20 (by kernel_rfl) rfl (fun K hK => ?_)
            go_simp
            refine hK.out _ _ (fun _ => hS20) ?_
            clear hK K hS20
            try simp only [Act.put, List.setIfInBounds_toArray, List.set_cons_zero, List.set_cons_succ]
            refine till_one 21 (by kernel_rfl) rfl (fun K hK => ?_)
            refine step_append_run rfl rfl rfl rfl hrun ?_
            refine hK.out _ _ (fun _ => hS21) ?_
            clear hK K hrun
            try simp only [Act.put, List.setIfInBounds_toArray, List.set_cons_zero, List.set_cons_succ]
            refine till_one 22 (by kernel_rfl) rfl (fun K hK => ?_)
            go_simp
            refine hK.out _ _ (fun h => absurd rfl h) ?_
            clear hK K hS21
            try simp only [Act.put, List.setIfInBounds_toArray, List.set_cons_zero, List.set_cons_succ]
            refine till_done (by kernel_rfl) ?_ _
            clear HO2 HB2 HZ2 HU2 HU210 HT hS2
            go_wp2_with fail
            go_roundw
            case rel => exact ⟨k + 1, A9, c9, by omega, by go_num, rfl, HO9, HL9, HP9, HB9, HZ9⟩
            case measure => simp [intOf] <;> omega
          · obtain ⟨sN, hsN⟩ : ∃ x, x = spr S k := ⟨_, rfl⟩
            have hs0 : sN = 0 := by
              rw [hsN]
              unfold spr
              rw [List.getElem?_eq_none (by have := HNS.out; omega)]
              rfl
            have HSN := Lib.hid hsN
            have hs255 : sN ≤ 255 := by omega
            clear hsN
            go_wp2_with fail
            try clear hsc'
            generalize (U.setCell ⟨pv, 0, none⟩ (.bool (hasV st.1))).setCell ⟨pv, 1, none⟩ (.string (strV st.1)) = X at HU2 HU210 HO2 HB2 HZ2 HT ⊢
            clear u0 u1 p0 p1 pf
            have hS2 : (fun X : World => (X.cell? (ad.add (k * 5)) = some (.int .i64 o.kind) ∧ X.cell? ⟨(ad.add (k * 5)).block, (ad.add (k * 5)).off + 1, none⟩ = some (.string o.key) ∧ X.cell? ⟨(ad.add (k * 5)).block, (ad.add (k * 5)).off + 2, none⟩ = some (.string o.val) ∧ X.cell? ⟨(ad.add (k * 5)).block, (ad.add (k * 5)).off + 3, none⟩ = some (.string o.old) ∧ X.cell? ⟨(ad.add (k * 5)).block, (ad.add (k * 5)).off + 4, none⟩ = some (.bool o.hold) ∧ X.cell? ⟨b10, 0, none⟩ = some (.bool (hasV st.2.2)) ∧ X.cell? ⟨b10, 1, none⟩ = some (.string (strV st.2.2)))) X.drew := HT.out
            refine wp_region_till 22 (fun X : World => (X.cell? (ad.add (k * 5)) = some (.int .i64 o.kind) ∧ X.cell? ⟨(ad.add (k * 5)).block, (ad.add (k * 5)).off + 1, none⟩ = some (.string o.key) ∧ X.cell? ⟨(ad.add (k * 5)).block, (ad.add (k * 5)).off + 2, none⟩ = some (.string o.val) ∧ X.cell? ⟨(ad.add (k * 5)).block, (ad.add (k * 5)).off + 3, none⟩ = some (.string o.old) ∧ X.cell? ⟨(ad.add (k * 5)).block, (ad.add (k * 5)).off + 4, none⟩ = some (.bool o.hold) ∧ X.cell? ⟨b10, 0, none⟩ = some (.bool (hasV st.2.2)) ∧ X.cell? ⟨b10, 1, none⟩ = some (.string (strV st.2.2)))) (by kernel_rfl) ?_
            (refine till_take 0 (v := ?_) rfl (by kernel_rfl) (by kernel_rfl) (by kernel_rfl) (by kernel_rfl) (by kernel_rfl) (fun _ _ _ h => h) (by rfl) (by assumption) ?_ ?_; rotate_left 1; (focus (intro X hX; obtain ⟨s0, s1, s2, s3, s4, s5, s6⟩ := hX; go_simp; with_reducible rfl)); (try simp only [Act.put, List.setIfInBounds_toArray, List.set_cons_zero, List.set_cons_succ]))
            (refine till_take 1 (v := ?_) rfl (by kernel_rfl) (by kernel_rfl) (by kernel_rfl) (by kernel_rfl) (by kernel_rfl) (fun _ _ _ h => h) (by rfl) (by assumption) ?_ ?_; rotate_left 1; (focus (intro X hX; obtain ⟨s0, s1, s2, s3, s4, s5, s6⟩ := hX; go_simp; with_reducible rfl)); (try simp only [Act.put, List.setIfInBounds_toArray, List.set_cons_zero, List.set_cons_succ]))
            (refine till_take 2 (v := ?_) rfl (by kernel_rfl) (by kernel_rfl) (by kernel_rfl) (by kernel_rfl) (by kernel_rfl) (fun _ _ _ h => h) (by rfl) (by assumption) ?_ ?_; rotate_left 1; (focus (intro X hX; obtain ⟨s0, s1, s2, s3, s4, s5, s6⟩ := hX; go_simp; with_reducible rfl)); (try simp only [Act.put, List.setIfInBounds_toArray, List.set_cons_zero, List.set_cons_succ]))
            (refine till_take 3 (v := ?_) rfl (by kernel_rfl) (by kernel_rfl) (by kernel_rfl) (by kernel_rfl) (by kernel_rfl) (fun _ _ _ h => h) (by rfl) (by assumption) ?_ ?_; rotate_left 1; (focus (intro X hX; obtain ⟨s0, s1, s2, s3, s4, s5, s6⟩ := hX; go_simp; with_reducible rfl)); (try simp only [Act.put, List.setIfInBounds_toArray, List.set_cons_zero, List.set_cons_succ]))
            (refine till_take 4 (v := ?_) rfl (by kernel_rfl) (by kernel_rfl) (by kernel_rfl) (by kernel_rfl) (by kernel_rfl) (fun _ _ _ h => h) (by rfl) (by assumption) ?_ ?_; rotate_left 1; (focus (intro X hX; obtain ⟨s0, s1, s2, s3, s4, s5, s6⟩ := hX; go_simp; with_reducible rfl)); (try simp only [Act.put, List.setIfInBounds_toArray, List.set_cons_zero, List.set_cons_succ]))
            (refine till_take 5 (v := ?_) rfl (by kernel_rfl) (by kernel_rfl) (by kernel_rfl) (by kernel_rfl) (by kernel_rfl) (fun _ _ _ h => h) (by rfl) (by assumption) ?_ ?_; rotate_left 1; (focus (intro X hX; obtain ⟨s0, s1, s2, s3, s4, s5, s6⟩ := hX; go_simp; with_reducible rfl)); (try simp only [Act.put, List.setIfInBounds_toArray, List.set_cons_zero, List.set_cons_succ]))
            (refine till_take 6 (v := ?_) rfl (by kernel_rfl) (by kernel_rfl) (by kernel_rfl) (by kernel_rfl) (by kernel_rfl) (fun _ _ _ h => h) (by rfl) (by assumption) ?_ ?_; rotate_left 1; (focus (intro X hX; obtain ⟨s0, s1, s2, s3, s4, s5, s6⟩ := hX; go_simp; with_reducible rfl)); (try simp only [Act.put, List.setIfInBounds_toArray, List.set_cons_zero, List.set_cons_succ]))
            (refine till_take 7 (v := ?_) rfl (by kernel_rfl) (by kernel_rfl) (by kernel_rfl) (by kernel_rfl) (by kernel_rfl) (fun _ _ _ h => h) (by rfl) (by assumption) ?_ ?_; rotate_left 1; (focus (intro X hX; obtain ⟨s0, s1, s2, s3, s4, s5, s6⟩ := hX; go_simp; with_reducible rfl)); (try simp only [Act.put, List.setIfInBounds_toArray, List.set_cons_zero, List.set_cons_succ]))
            (refine till_take 8 (v := ?_) rfl (by kernel_rfl) (by kernel_rfl) (by kernel_rfl) (by kernel_rfl) (by kernel_rfl) (fun _ _ _ h => h) (by rfl) (by assumption) ?_ ?_; rotate_left 1; (focus (intro X hX; obtain ⟨s0, s1, s2, s3, s4, s5, s6⟩ := hX; go_simp; with_reducible rfl)); (try simp only [Act.put, List.setIfInBounds_toArray, List.set_cons_zero, List.set_cons_succ]))
            (refine till_take 9 (v := ?_) rfl (by kernel_rfl) (by kernel_rfl) (by kernel_rfl) (by kernel_rfl) (by kernel_rfl) (fun _ _ _ h => h) (by rfl) (by assumption) ?_ ?_; rotate_left 1; (focus (intro X hX; obtain ⟨s0, s1, s2, s3, s4, s5, s6⟩ := hX; go_simp; with_reducible rfl)); (try simp only [Act.put, List.setIfInBounds_toArray, List.set_cons_zero, List.set_cons_succ]))
            (refine till_take 10 (v := ?_) rfl (by kernel_rfl) (by kernel_rfl) (by kernel_rfl) (by kernel_rfl) (by kernel_rfl) (fun _ _ _ h => h) (by rfl) (by assumption) ?_ ?_; rotate_left 1; (focus (intro X hX; obtain ⟨s0, s1, s2, s3, s4, s5, s6⟩ := hX; go_simp; with_reducible rfl)); (try simp only [Act.put, List.setIfInBounds_toArray, List.set_cons_zero, List.set_cons_succ]))
            (refine till_take 11 (v := ?_) rfl (by kernel_rfl) (by kernel_rfl) (by kernel_rfl) (by kernel_rfl) (by kernel_rfl) (fun _ _ _ h => h) (by rfl) (by assumption) ?_ ?_; rotate_left 1; (focus (intro X hX; obtain ⟨s0, s1, s2, s3, s4, s5, s6⟩ := hX; go_simp; with_reducible rfl)); (try simp only [Act.put, List.setIfInBounds_toArray, List.set_cons_zero, List.set_cons_succ]))
            (refine till_take 12 (v := ?_) rfl (by kernel_rfl) (by kernel_rfl) (by kernel_rfl) (by kernel_rfl) (by kernel_rfl) (fun _ _ _ h => h) (by rfl) (by assumption) ?_ ?_; rotate_left 1; (focus (intro X hX; obtain ⟨s0, s1, s2, s3, s4, s5, s6⟩ := hX; go_simp; with_reducible rfl)); (try simp only [Act.put, List.setIfInBounds_toArray, List.set_cons_zero, List.set_cons_succ]))
            (refine till_take 13 (v := ?_) rfl (by kernel_rfl) (by kernel_rfl) (by kernel_rfl) (by kernel_rfl) (by kernel_rfl) (fun _ _ _ h => h) (by rfl) (by assumption) ?_ ?_; rotate_left 1; (focus (intro X hX; obtain ⟨s0, s1, s2, s3, s4, s5, s6⟩ := hX; go_simp; with_reducible rfl)); (try simp only [Act.put, List.setIfInBounds_toArray, List.set_cons_zero, List.set_cons_succ]))
            (refine till_take 14 (v := ?_) rfl (by kernel_rfl) (by kernel_rfl) (by kernel_rfl) (by kernel_rfl) (by kernel_rfl) (fun _ _ _ h => h) (by rfl) (by assumption) ?_ ?_; rotate_left 1; (focus (intro X hX; obtain ⟨s0, s1, s2, s3, s4, s5, s6⟩ := hX; go_simp; with_reducible rfl)); (try simp only [Act.put, List.setIfInBounds_toArray, List.set_cons_zero, List.set_cons_succ]))
            (refine till_take 15 (v := ?_) rfl (by kernel_rfl) (by kernel_rfl) (by kernel_rfl) (by kernel_rfl) (by kernel_rfl) (fun _ _ _ h => h) (by rfl) (by assumption) ?_ ?_; rotate_left 1; (focus (intro X hX; obtain ⟨s0, s1, s2, s3, s4, s5, s6⟩ := hX; go_simp; with_reducible rfl)); (try simp only [Act.put, List.setIfInBounds_toArray, List.set_cons_zero, List.set_cons_succ]))
            (refine till_take 16 (v := ?_) rfl (by kernel_rfl) (by kernel_rfl) (by kernel_rfl) (by kernel_rfl) (by kernel_rfl) (fun _ _ _ h => h) (by rfl) (by assumption) ?_ ?_; rotate_left 1; (focus (intro X hX; obtain ⟨s0, s1, s2, s3, s4, s5, s6⟩ := hX; go_simp; with_reducible rfl)); (try simp only [Act.put, List.setIfInBounds_toArray, List.set_cons_zero, List.set_cons_succ]))
            (refine till_take 17 (v := ?_) rfl (by kernel_rfl) (by kernel_rfl) (by kernel_rfl) (by kernel_rfl) (by kernel_rfl) (fun _ _ _ h => h) (by rfl) (by assumption) ?_ ?_; rotate_left 1; (focus (intro X hX; obtain ⟨s0, s1, s2, s3, s4, s5, s6⟩ := hX; go_simp; with_reducible rfl)); (try simp only [Act.put, List.setIfInBounds_toArray, List.set_cons_zero, List.set_cons_succ]))
            (refine till_take 18 (v := ?_) rfl (by kernel_rfl) (by kernel_rfl) (by kernel_rfl) (by kernel_rfl) (by kernel_rfl) (fun _ _ _ h => h) (by rfl) (by assumption) ?_ ?_; rotate_left 1; (focus (intro X hX; obtain ⟨s0, s1, s2, s3, s4, s5, s6⟩ := hX; go_simp; with_reducible rfl)); (try simp only [Act.put, List.setIfInBounds_toArray, List.set_cons_zero, List.set_cons_succ]))
            (refine till_take 19 (v := ?_) rfl (by kernel_rfl) (by kernel_rfl) (by kernel_rfl) (by kernel_rfl) (by kernel_rfl) (fun _ _ _ h => h) (by rfl) (by assumption) ?_ ?_; rotate_left 1; (focus (intro X hX; obtain ⟨s0, s1, s2, s3, s4, s5, s6⟩ := hX; go_simp; with_reducible rfl)); (try simp only [Act.put, List.setIfInBounds_toArray, List.set_cons_zero, List.set_cons_succ]))
            obtain ⟨d, hd⟩ : ∃ x : Dn, x = ⟨o.kind, o.key, o.val, o.old, o.hold, IntKind.i64.wrap (100 + 10 * (k : Int)), IntKind.i64.wrap (100 + 10 * (k : Int) + IntKind.i64.wrap (IntKind.i64.wrap 0 * 10)), st.2.1, strV st.2.2, hasV st.2.2⟩ := ⟨_, rfl⟩
            have hdm : d = madeAt ops S k o := by
              rw [hd]
              unfold madeAt
              have e1 : stepP o (valN ops k) = st := by rw [← HV.out, HST.out]
              rw [e1, ← HSN.out]
              have e2 : IntKind.i64.wrap (100 + 10 * (k : Int)) = 100 + 10 * (k : Int) - ((sN % 40 : Nat) : Int) := by rw [wrap_small _ (by omega) (by omega)]; omega
              have e3 : IntKind.i64.wrap (100 + 10 * (k : Int) + IntKind.i64.wrap (IntKind.i64.wrap 0 * 10)) = 100 + 10 * (k : Int) + ((sN / 40 * 10 : Nat) : Int) := by rw [wrap_small 0 (by omega) (by omega), wrap_small (0 * 10) (by omega) (by omega), wrap_small _ (by omega) (by omega)]; omega
              rw [e2, e3]
            obtain ⟨A9, c9, w9, hrun, ho9, hg9, -, hb9⟩ := append_dn X.drew (w.heap.size + 1) (A := Ao) (n := k) (c := co) (L := madeN ops S k) HLN.out.symm HO2.out d (by omega) HZ2.out
            have hbl : b10 < X.heap.size := (Array.getElem?_eq_some_iff.1 HU210.out).1
            have hw9 : w9.heap[b10]? = X.heap[b10]? := hg9.block b10 hbl (fun e => HBA.out e.symm)
            have hbA : Below X.drew.heap.size X.drew (X.drew.alloc (.cells #[.int .i64 0, .int .i64 0, .int .i64 0, .int .i64 0, .int .i64 (d).kind, .string (d).key, .string (d).val, .string (d).old, .bool (d).hold, .int .i64 (d).fr, .int .i64 (d).to, .int .i64 (d).code, .string (d).rv, .bool (d).has, .complex .f64 0 0] 36)) := (Below.refl _ _).alloc (Nat.le_refl _) _
            have hS20 : (fun X : World => (X.cell? (ad.add (k * 5)) = some (.int .i64 o.kind) ∧ X.cell? ⟨(ad.add (k * 5)).block, (ad.add (k * 5)).off + 1, none⟩ = some (.string o.key) ∧ X.cell? ⟨(ad.add (k * 5)).block, (ad.add (k * 5)).off + 2, none⟩ = some (.string o.val) ∧ X.cell? ⟨(ad.add (k * 5)).block, (ad.add (k * 5)).off + 3, none⟩ = some (.string o.old) ∧ X.cell? ⟨(ad.add (k * 5)).block, (ad.add (k * 5)).off + 4, none⟩ = some (.bool o.hold) ∧ X.cell? ⟨b10, 0, none⟩ = some (.bool (hasV st.2.2)) ∧ X.cell? ⟨b10, 1, none⟩ = some (.string (strV st.2.2)))) (X.drew.alloc (.cells #[.int .i64 0, .int .i64 0, .int .i64 0, .int .i64 0, .int .i64 (d).kind, .string (d).key, .string (d).val, .string (d).old, .bool (d).hold, .int .i64 (d).fr, .int .i64 (d).to, .int .i64 (d).code, .string (d).rv, .bool (d).has, .complex .f64 0 0] 36)) := ⟨keepc hS2.1 hbA, keepc hS2.2.1 hbA, keepc hS2.2.2.1 hbA, keepc hS2.2.2.2.1 hbA, keepc hS2.2.2.2.2.1 hbA, keepc hS2.2.2.2.2.2.1 hbA, keepc hS2.2.2.2.2.2.2 hbA⟩
            have hadw : (ad.add (k * 5)).block < w.heap.size + 1 := by have := HAB.out; omega
            have hkp : ∀ p x, p.block = (ad.add (k * 5)).block → X.cell? p = some x → w9.cell? p = some x := fun p x hp hx => (World.cell?_of_block (w := X) (hb9.block p.block (by rw [hp]; exact hadw))).trans hx
            have hkb : ∀ j x, X.cell? ⟨b10, j, none⟩ = some x → w9.cell? ⟨b10, j, none⟩ = some x := fun j x hx => (World.cell?_of_block (w := X) (a := ⟨b10, j, none⟩) hw9).trans hx
            have hS21 : (fun X : World => (X.cell? (ad.add (k * 5)) = some (.int .i64 o.kind) ∧ X.cell? ⟨(ad.add (k * 5)).block, (ad.add (k * 5)).off + 1, none⟩ = some (.string o.key) ∧ X.cell? ⟨(ad.add (k * 5)).block, (ad.add (k * 5)).off + 2, none⟩ = some (.string o.val) ∧ X.cell? ⟨(ad.add (k * 5)).block, (ad.add (k * 5)).off + 3, none⟩ = some (.string o.old) ∧ X.cell? ⟨(ad.add (k * 5)).block, (ad.add (k * 5)).off + 4, none⟩ = some (.bool o.hold) ∧ X.cell? ⟨b10, 0, none⟩ = some (.bool (hasV st.2.2)) ∧ X.cell? ⟨b10, 1, none⟩ = some (.string (strV st.2.2)))) w9 := ⟨hkp _ _ (by rfl) hS2.1, hkp _ _ (by rfl) hS2.2.1, hkp _ _ (by rfl) hS2.2.2.1, hkp _ _ (by rfl) hS2.2.2.2.1, hkp _ _ (by rfl) hS2.2.2.2.2.1, hkb _ _ hS2.2.2.2.2.2.1, hkb _ _ hS2.2.2.2.2.2.2⟩
            have hmk : madeN ops S (k + 1) = madeN ops S k ++ [madeAt ops S k o] := by show (match ops[k]? with | some o => _ | none => _) = _; rw [HOE.out]
            have hvk : valN ops (k + 1) = st.1 := by show (match ops[k]? with | some o => _ | none => _) = _; rw [HOE.out, HST.out, HV.out]
            have HO9 := Lib.hid (show w9.ownsRow (w.heap.size + 1) 36 15 (.slice A9 (k + 1) c9) (k + 1) (rowD (madeN ops S (k + 1))) from by rw [hmk, ← hdm]; exact ho9)
            have HL9 := Lib.hid (show (madeN ops S (k + 1)).length = k + 1 from by rw [hmk, List.length_append, HLN.out]; rfl)
            have HP9 := Lib.hid (show w9.heap[pv]? = some (.cells #[.bool (hasV (valN ops (k + 1))), .string (strV (valN ops (k + 1)))] 43 (0, 0)) from by rw [hvk]; exact (hb9.block pv (by have := HPV.out; omega)).trans HU2.out)
            have HB9 := Lib.hid (show Below w.heap.size w w9 from (below_drew HB2.out).trans (hb9.mono (Nat.le_succ _)))
            have HZ9 := Lib.hid (show w.heap.size + 1 ≤ w9.heap.size from Nat.le_trans HZ2.out hb9.size)
            clear hmk hvk hdm ho9 hg9 hb9 hbl hw9 hbA hadw hkp hkb
            subst hd
            refine till_one 20 (by kernel_rfl) rfl (fun K hK => ?_)
            go_simp
            refine hK.out _ _ (fun _ => hS20) ?_
            clear hK K hS20
            try simp only [Act.put, List.setIfInBounds_toArray, List.set_cons_zero, List.set_cons_succ]
            refine till_one 21 (by kernel_rfl) rfl (fun K hK => ?_)
            refine step_append_run rfl rfl rfl rfl hrun ?_
            refine hK.out _ _ (fun _ => hS21) ?_
            clear hK K hrun
            try simp only [Act.put, List.setIfInBounds_toArray, List.set_cons_zero, List.set_cons_succ]
            refine till_one 22 (by kernel_rfl) rfl (fun K hK => ?_)
            go_simp
            refine hK.out _ _ (fun h => absurd rfl h) ?_
            clear hK K hS21
            try simp only [Act.put, List.setIfInBounds_toArray, List.set_cons_zero, List.set_cons_succ]
            refine till_done (by kernel_rfl) ?_ _
            clear HO2 HB2 HZ2 HU2 HU210 HT hS2
            go_wp2_with fail
            go_roundw
            case rel => exact ⟨k + 1, A9, c9, by omega, by go_num, rfl, HO9, HL9, HP9, HB9, HZ9⟩
            case measure => simp [intOf] <;> omega
        · intro K hK
          have hbA8 : Below (wr.drew.alloc (.cells #[.bool false, .string ⟨#[]⟩] 43)).heap.size (wr.drew.alloc (.cells #[.bool false, .string ⟨#[]⟩] 43)) ((wr.drew.alloc (.cells #[.bool false, .string ⟨#[]⟩] 43)).alloc (.cells #[.bool false, .string ⟨#[]⟩] 43)) := (Below.refl _ _).alloc (Nat.le_refl _) _
          have hS8a : (fun X : World => (X.cell? (ad.add (k * 5)) = some (.int .i64 o.kind) ∧ X.cell? ⟨(ad.add (k * 5)).block, (ad.add (k * 5)).off + 1, none⟩ = some (.string o.key) ∧ X.cell? ⟨(ad.add (k * 5)).block, (ad.add (k * 5)).off + 2, none⟩ = some (.string o.val) ∧ X.cell? ⟨(ad.add (k * 5)).block, (ad.add (k * 5)).off + 3, none⟩ = some (.string o.old) ∧ X.cell? ⟨(ad.add (k * 5)).block, (ad.add (k * 5)).off + 4, none⟩ = some (.bool o.hold) ∧ X.cell? ⟨pv, 0, none⟩ = some (.bool (hasV v)) ∧ X.cell? ⟨pv, 1, none⟩ = some (.string (strV v)))) ((wr.drew.alloc (.cells #[.bool false, .string ⟨#[]⟩] 43)).alloc (.cells #[.bool false, .string ⟨#[]⟩] 43)) := ⟨keepc hS10a.1 hbA8, keepc hS10a.2.1 hbA8, keepc hS10a.2.2.1 hbA8, keepc hS10a.2.2.2.1 hbA8, keepc hS10a.2.2.2.2.1 hbA8, keepc hS10a.2.2.2.2.2.1 hbA8, keepc hS10a.2.2.2.2.2.2 hbA8⟩
          have hbY8 : Below wr.heap.size wr ((wr.drew.alloc (.cells #[.bool false, .string ⟨#[]⟩] 43)).alloc (.cells #[.bool false, .string ⟨#[]⟩] 43)) := (hbY10).trans (hbA8.mono (hbY10).size)
          go_simp
          refine hK.out _ _ (fun _ => hS8a) ?_
          clear hK K
          try simp only [Act.put, List.setIfInBounds_toArray, List.set_cons_zero, List.set_cons_succ]
          have hz8 : ((wr.drew.alloc (.cells #[.bool false, .string ⟨#[]⟩] 43)).alloc (.cells #[.bool false, .string ⟨#[]⟩] 43)).heap[wr.heap.size + 1]? = some (.cells #[.bool false, .string ⟨#[]⟩] 43) := by have := heap_alloc_new (wr.drew.alloc (.cells #[.bool false, .string ⟨#[]⟩] 43)) (.cells #[.bool false, .string ⟨#[]⟩] 43); rwa [show (wr.drew.alloc (.cells #[.bool false, .string ⟨#[]⟩] 43)).heap.size = wr.heap.size + 1 by first | rfl | simp] at this
          refine till_one 5 (by kernel_rfl) rfl (fun K hK => ?_)
          go_simp
          go_at_call 10
          refine (step_any ((wr.drew.alloc (.cells #[.bool false, .string ⟨#[]⟩] 43)).alloc (.cells #[.bool false, .string ⟨#[]⟩] 43)) o.kind o.key o.val o.old o.hold v).mono ?_
          rintro e6 w6 ⟨rfl, hb6⟩
          have hS6 : (fun X : World => (X.cell? (ad.add (k * 5)) = some (.int .i64 o.kind) ∧ X.cell? ⟨(ad.add (k * 5)).block, (ad.add (k * 5)).off + 1, none⟩ = some (.string o.key) ∧ X.cell? ⟨(ad.add (k * 5)).block, (ad.add (k * 5)).off + 2, none⟩ = some (.string o.val) ∧ X.cell? ⟨(ad.add (k * 5)).block, (ad.add (k * 5)).off + 3, none⟩ = some (.string o.old) ∧ X.cell? ⟨(ad.add (k * 5)).block, (ad.add (k * 5)).off + 4, none⟩ = some (.bool o.hold) ∧ X.cell? ⟨pv, 0, none⟩ = some (.bool (hasV v)) ∧ X.cell? ⟨pv, 1, none⟩ = some (.string (strV v)))) w6 := ⟨keepc hS8a.1 hb6, keepc hS8a.2.1 hb6, keepc hS8a.2.2.1 hb6, keepc hS8a.2.2.2.1 hb6, keepc hS8a.2.2.2.2.1 hb6, keepc hS8a.2.2.2.2.2.1 hb6, keepc hS8a.2.2.2.2.2.2 hb6⟩
          have hbY6 : Below wr.heap.size wr w6 := (hbY8).trans (hb6.mono (hbY8).size)
          refine hK.out _ _ (fun _ => hS6) ?_
          clear hK K
          try simp only [Act.put, List.setIfInBounds_toArray, List.set_cons_zero, List.set_cons_succ]
          (refine till_take 6 (v := ?_) rfl (by kernel_rfl) (by kernel_rfl) (by kernel_rfl) (by kernel_rfl) (by kernel_rfl) (fun _ _ _ h => h) (by rfl) (by assumption) ?_ ?_; rotate_left 1; (focus (intro X hX; obtain ⟨s0, s1, s2, s3, s4, s5, s6⟩ := hX; go_simp; with_reducible rfl)); (try simp only [Act.put, List.setIfInBounds_toArray, List.set_cons_zero, List.set_cons_succ]))
          (refine till_take 7 (v := ?_) rfl (by kernel_rfl) (by kernel_rfl) (by kernel_rfl) (by kernel_rfl) (by kernel_rfl) (fun _ _ _ h => h) (by rfl) (by assumption) ?_ ?_; rotate_left 1; (focus (intro X hX; obtain ⟨s0, s1, s2, s3, s4, s5, s6⟩ := hX; go_simp; with_reducible rfl)); (try simp only [Act.put, List.setIfInBounds_toArray, List.set_cons_zero, List.set_cons_succ]))
          (refine till_take 8 (v := ?_) rfl (by kernel_rfl) (by kernel_rfl) (by kernel_rfl) (by kernel_rfl) (by kernel_rfl) (fun _ _ _ h => h) (by rfl) (by assumption) ?_ ?_; rotate_left 1; (focus (intro X hX; obtain ⟨s0, s1, s2, s3, s4, s5, s6⟩ := hX; go_simp; with_reducible rfl)); (try simp only [Act.put, List.setIfInBounds_toArray, List.set_cons_zero, List.set_cons_succ]))
          (refine till_take 9 (v := ?_) rfl (by kernel_rfl) (by kernel_rfl) (by kernel_rfl) (by kernel_rfl) (by kernel_rfl) (fun _ _ _ h => h) (by rfl) (by assumption) ?_ ?_; rotate_left 1; (focus (intro X hX; obtain ⟨s0, s1, s2, s3, s4, s5, s6⟩ := hX; go_simp; with_reducible rfl)); (try simp only [Act.put, List.setIfInBounds_toArray, List.set_cons_zero, List.set_cons_succ]))
          have HSY := Lib.hid (show (w6.cell? (ad.add (k * 5)) = some (.int .i64 o.kind) ∧ w6.cell? ⟨(ad.add (k * 5)).block, (ad.add (k * 5)).off + 1, none⟩ = some (.string o.key) ∧ w6.cell? ⟨(ad.add (k * 5)).block, (ad.add (k * 5)).off + 2, none⟩ = some (.string o.val) ∧ w6.cell? ⟨(ad.add (k * 5)).block, (ad.add (k * 5)).off + 3, none⟩ = some (.string o.old) ∧ w6.cell? ⟨(ad.add (k * 5)).block, (ad.add (k * 5)).off + 4, none⟩ = some (.bool o.hold) ∧ w6.cell? ⟨pv, 0, none⟩ = some (.bool (hasV v)) ∧ w6.cell? ⟨pv, 1, none⟩ = some (.string (strV v))) from hS6)
          have HBY := Lib.hid (show Below wr.heap.size wr w6 from hbY6)
          have HZ8 := Lib.hid (show w6.heap[wr.heap.size + 1]? = some (.cells #[.bool false, .string ⟨#[]⟩] 43) from ((hb6.block _ (by first | (simp; done) | (simp; omega) | (have hh6 := hb6.size; simp at hh6; omega) | (have hh6 := hb6.size; simp at hh6 ⊢; omega))).trans hz8))
          have HZ10 := Lib.hid (show w6.heap[wr.heap.size]? = some (.cells #[.bool false, .string ⟨#[]⟩] 43) from ((hb6.block _ (by first | (simp; done) | (simp; omega) | (have hh6 := hb6.size; simp at hh6; omega) | (have hh6 := hb6.size; simp at hh6 ⊢; omega))).trans ((hbA8.block _ (by first | (simp; done) | (simp; omega) | (have hh6 := hb6.size; simp at hh6; omega) | (have hh6 := hb6.size; simp at hh6 ⊢; omega))).trans hz10)))
          have HNE0 := Lib.hid (show wr.heap.size + 1 ≠ wr.heap.size ∧ wr.heap.size ≤ wr.heap.size + 1 ∧ wr.heap.size ≤ wr.heap.size from by
            have hh6 := hb6.size
            have hwd : wr.drew.heap.size = wr.heap.size := rfl
            try simp only [World.size_alloc] at hh6
            try rw [hwd] at hh6
            omega)
          clear hS0 hbX o0 o1 o2 o3 o4 v0 v1 hbA10 hS10a hbY10 hz10 hbA8 hS8a hbY8 hz8 hS6 hbY6 hb6
          generalize w6 = Y at HSY HBY HZ8 HZ10 ⊢
          obtain ⟨b8, hb8⟩ : ∃ x, x = wr.heap.size + 1 := ⟨_, rfl⟩
          obtain ⟨b10, hb10⟩ : ∃ x, x = wr.heap.size := ⟨_, rfl⟩
          have HNE := Lib.hid (show b8 ≠ b10 ∧ wr.heap.size ≤ b8 ∧ wr.heap.size ≤ b10 from by rw [hb8, hb10]; exact HNE0.out)
          rw [← hb8] at HZ8 ⊢
          rw [← hb10] at HZ10 ⊢
          clear hb8 hb10 HNE0
          obtain ⟨st, hst⟩ : ∃ x, x = stepP ⟨o.kind, o.key, o.val, o.old, o.hold⟩ v := ⟨_, rfl⟩
          rw [← hst]
          have HST := Lib.hid hst
          clear hst
          have hpvlt : pv < wr.heap.size := by have := HPV.out; have := HZ.out; omega
          have hadlt : (ad.add (k * 5)).block < wr.heap.size := by have := HAB.out; have := HZ.out; omega
          obtain ⟨hne, hn8, hn10⟩ := HNE.out
          have y80 := cell_of_row _ b8 0 _ _ (0, 0) HZ8.out
          have y81 := cell_of_row _ b8 1 _ _ (0, 0) HZ8.out
          have yf : ∀ j, Y.frozen? ⟨b8, j, none⟩ = false := fun j => frozen_of_row _ _ j _ _ HZ8.out
          simp only [List.getElem?_toArray, List.getElem?_cons_succ, List.getElem?_cons_zero] at y80 y81
          have ha8 : (ad.add (k * 5)).block ≠ b8 := by omega
          have hp8 : pv ≠ b8 := by omega
          have hS12 : (fun X : World => (X.cell? (ad.add (k * 5)) = some (.int .i64 o.kind) ∧ X.cell? ⟨(ad.add (k * 5)).block, (ad.add (k * 5)).off + 1, none⟩ = some (.string o.key) ∧ X.cell? ⟨(ad.add (k * 5)).block, (ad.add (k * 5)).off + 2, none⟩ = some (.string o.val) ∧ X.cell? ⟨(ad.add (k * 5)).block, (ad.add (k * 5)).off + 3, none⟩ = some (.string o.old) ∧ X.cell? ⟨(ad.add (k * 5)).block, (ad.add (k * 5)).off + 4, none⟩ = some (.bool o.hold) ∧ X.cell? ⟨pv, 0, none⟩ = some (.bool (hasV v)) ∧ X.cell? ⟨pv, 1, none⟩ = some (.string (strV v)))) ((Y.setCell ⟨b8, 0, none⟩ (.bool (hasV st.1))).setCell ⟨b8, 1, none⟩ (.string (strV st.1))) := by
            obtain ⟨s0, s1, s2, s3, s4, s5, s6⟩ := HSY.out
            exact ⟨cell2n _ _ s0 ha8, cell2n _ _ s1 ha8, cell2n _ _ s2 ha8, cell2n _ _ s3 ha8, cell2n _ _ s4 ha8, cell2n _ _ s5 hp8, cell2n _ _ s6 hp8⟩
          refine till_one 12 (by kernel_rfl) rfl (fun K hK => ?_)
          go_simp
          refine hK.out _ _ (fun _ => hS12) ?_
          clear hK K y80 y81 yf
          try simp only [Act.put, List.setIfInBounds_toArray, List.set_cons_zero, List.set_cons_succ]
          have HZ8b := Lib.hid (set2 HZ8.out (.bool (hasV st.1)) (.string (strV st.1)))
          have HZ10b := Lib.hid ((heap2 (w := Y) (d := b8) (.bool (hasV st.1)) (.string (strV st.1)) (Ne.symm hne)).trans HZ10.out)
          have HBY2 := Lib.hid ((HBY.out.setCell (p := ⟨b8, 0, none⟩) hn8 (.bool (hasV st.1))).setCell (p := ⟨b8, 1, none⟩) hn8 (.string (strV st.1)))
          clear HZ8 HZ10 HBY HSY
          generalize (Y.setCell ⟨b8, 0, none⟩ (.bool (hasV st.1))).setCell ⟨b8, 1, none⟩ (.string (strV st.1)) = Y2 at HZ8b HZ10b HBY2 hS12 ⊢
          refine till_one 13 (by kernel_rfl) rfl (fun K hK => ?_)
          go_simp
          refine hK.out _ _ (fun _ => hS12) ?_
          clear hK K
          try simp only [Act.put, List.setIfInBounds_toArray, List.set_cons_zero, List.set_cons_succ]
          have y80 := cell_of_row _ b10 0 _ _ (0, 0) HZ10b.out
          have y81 := cell_of_row _ b10 1 _ _ (0, 0) HZ10b.out
          have yf : ∀ j, Y2.frozen? ⟨b10, j, none⟩ = false := fun j => frozen_of_row _ _ j _ _ HZ10b.out
          simp only [List.getElem?_toArray, List.getElem?_cons_succ, List.getElem?_cons_zero] at y80 y81
          refine till_one 14 (by kernel_rfl) rfl (fun K hK => ?_)
          go_simp
          refine hK.out _ _ (fun h => absurd rfl h) ?_
          clear hK K y80 y81 yf
          try simp only [Act.put, List.setIfInBounds_toArray, List.set_cons_zero, List.set_cons_succ]
          refine till_done (by kernel_rfl) ?_ _
          have hp10 : pv ≠ b10 := by omega
          have ha10 : (ad.add (k * 5)).block ≠ b10 := by omega
          have HU8 := Lib.hid ((heap2 (w := Y2) (d := b10) (.bool (hasV st.2.2)) (.string (strV st.2.2)) hne).trans HZ8b.out)
          have HU10 := Lib.hid (set2 HZ10b.out (.bool (hasV st.2.2)) (.string (strV st.2.2)))
          have HBU := Lib.hid ((HBY2.out.setCell (p := ⟨b10, 0, none⟩) hn10 (.bool (hasV st.2.2))).setCell (p := ⟨b10, 1, none⟩) hn10 (.string (strV st.2.2)))
          have HUO := Lib.hid (show ∀ p x, p.block = (ad.add (k * 5)).block → Y2.cell? p = some x → ((Y2.setCell ⟨b10, 0, none⟩ (.bool (hasV st.2.2))).setCell ⟨b10, 1, none⟩ (.string (strV st.2.2))).cell? p = some x from fun p x hp hx => cell2n _ _ hx (by rw [hp]; exact ha10))
          clear HZ8b HZ10b HBY2
          obtain ⟨s0, s1, s2, s3, s4, -, -⟩ := hS12
          replace s0 := HUO.out _ _ (by rfl) s0
          replace s1 := HUO.out _ _ (by rfl) s1
          replace s2 := HUO.out _ _ (by rfl) s2
          replace s3 := HUO.out _ _ (by rfl) s3
          replace s4 := HUO.out _ _ (by rfl) s4
          clear HUO
          generalize (Y2.setCell ⟨b10, 0, none⟩ (.bool (hasV st.2.2))).setCell ⟨b10, 1, none⟩ (.string (strV st.2.2)) = U at HU8 HU10 HBU s0 s1 s2 s3 s4 ⊢
          have HUP := Lib.hid ((HBU.out.block pv hpvlt).trans HP.out)
          have u0 := cell_of_row _ b8 0 _ _ (0, 0) HU8.out
          have u1 := cell_of_row _ b8 1 _ _ (0, 0) HU8.out
          have p0 := cell_of_row _ pv 0 _ _ (0, 0) HUP.out
          have p1 := cell_of_row _ pv 1 _ _ (0, 0) HUP.out
          have pf : ∀ j, U.frozen? ⟨pv, j, none⟩ = false := fun j => frozen_of_row _ _ j _ _ HUP.out
          simp only [List.getElem?_toArray, List.getElem?_cons_succ, List.getElem?_cons_zero] at u0 u1 p0 p1
          have hap : (ad.add (k * 5)).block ≠ pv := by have := HAB.out; have := HPV.out; omega
          have HU2 := Lib.hid (set2 HUP.out (.bool (hasV st.1)) (.string (strV st.1)))
          have HU210 := Lib.hid ((heap2 (w := U) (d := pv) (.bool (hasV st.1)) (.string (strV st.1)) (Ne.symm hp10)).trans HU10.out)
          have HO2 := Lib.hid (row_set (d := pv) (o := 1) (row_set (d := pv) (o := 0) (own_below HO.out HBU.out (Nat.le_refl _)) (fun e => by have := (row_lt HO.out e).1; have := HPV.out; omega) (.bool (hasV st.1))) (fun e => by have := (row_lt HO.out e).1; have := HPV.out; omega) (.string (strV st.1)))
          have HB2 := Lib.hid (show Below w.heap.size w ((U.setCell ⟨pv, 0, none⟩ (.bool (hasV st.1))).setCell ⟨pv, 1, none⟩ (.string (strV st.1))) from ((HB.out.trans (HBU.out.mono (Nat.le_trans (Nat.le_succ _) HZ.out))).setCell (p := ⟨pv, 0, none⟩) (by simp only; have := HPV.out; omega) _).setCell (p := ⟨pv, 1, none⟩) (by simp only; have := HPV.out; omega) _)
          have HZ2 := Lib.hid (show w.heap.size + 1 ≤ ((U.setCell ⟨pv, 0, none⟩ (.bool (hasV st.1))).setCell ⟨pv, 1, none⟩ (.string (strV st.1))).heap.size from by simpa using Nat.le_trans HZ.out HBU.out.size)
          have HT := Lib.hid (show (fun X : World => (X.cell? (ad.add (k * 5)) = some (.int .i64 o.kind) ∧ X.cell? ⟨(ad.add (k * 5)).block, (ad.add (k * 5)).off + 1, none⟩ = some (.string o.key) ∧ X.cell? ⟨(ad.add (k * 5)).block, (ad.add (k * 5)).off + 2, none⟩ = some (.string o.val) ∧ X.cell? ⟨(ad.add (k * 5)).block, (ad.add (k * 5)).off + 3, none⟩ = some (.string o.old) ∧ X.cell? ⟨(ad.add (k * 5)).block, (ad.add (k * 5)).off + 4, none⟩ = some (.bool o.hold) ∧ X.cell? ⟨b10, 0, none⟩ = some (.bool (hasV st.2.2)) ∧ X.cell? ⟨b10, 1, none⟩ = some (.string (strV st.2.2)))) ((U.setCell ⟨pv, 0, none⟩ (.bool (hasV st.1))).setCell ⟨pv, 1, none⟩ (.string (strV st.1))) from by
            have c0 := cell_of_row _ b10 0 _ _ (0, 0) HU210.out
            have c1 := cell_of_row _ b10 1 _ _ (0, 0) HU210.out
            simp only [List.getElem?_toArray, List.getElem?_cons_succ, List.getElem?_cons_zero] at c0 c1
            exact ⟨cell2n _ _ s0 hap, cell2n _ _ s1 hap, cell2n _ _ s2 hap, cell2n _ _ s3 hap, cell2n _ _ s4 hap, c0, c1⟩)
          have HBA := Lib.hid (show bl Ao ≠ some b10 from fun e => by have := (row_lt HO.out e).2; omega)
          clear s0 s1 s2 s3 s4 hap HUP HU8 HU10 HBU HO HP HB HZ hp10 ha10 hp8 ha8 hpvlt hadlt hne hn8 hn10 HNE
          by_cases hks : k < ns
          · have hksl : k < S.length := by rw [← HNS.out]; exact hks
            have hrb := HRS.out.below HB2.out
            obtain ⟨sd, sx, rfl, -, hsx, hsc⟩ := Reads.at_ hrb hksl
            obtain ⟨sN, hsN⟩ : ∃ x, x = spr S k := ⟨_, rfl⟩
            have hsc' : ((U.setCell ⟨pv, 0, none⟩ (.bool (hasV st.1))).setCell ⟨pv, 1, none⟩ (.string (strV st.1))).cell? (sd.add k) = some (.int .u8 (sN : Int)) := by
              rw [hsc, ← hsx, bytesV, List.getElem?_map, List.getElem?_eq_getElem hksl, hsN]
              simp [spr, List.getElem?_eq_getElem hksl]
            have hs255 : sN ≤ 255 := by rw [hsN]; simp only [spr, List.getElem?_eq_getElem hksl, Option.map_some, Option.getD_some]; have := S[k].toNat_lt; omega
            have HSN := Lib.hid hsN
            have hks0 : (k : Int) < ns := by omega
            clear hsN hsc hsx hrb hksl
            go_wp2_with fail
            try clear hsc'
            generalize (U.setCell ⟨pv, 0, none⟩ (.bool (hasV st.1))).setCell ⟨pv, 1, none⟩ (.string (strV st.1)) = X at HU2 HU210 HO2 HB2 HZ2 HT ⊢
            clear u0 u1 p0 p1 pf
            have hS2 : (fun X : World => (X.cell? (ad.add (k * 5)) = some (.int .i64 o.kind) ∧ X.cell? ⟨(ad.add (k * 5)).block, (ad.add (k * 5)).off + 1, none⟩ = some (.string o.key) ∧ X.cell? ⟨(ad.add (k * 5)).block, (ad.add (k * 5)).off + 2, none⟩ = some (.string o.val) ∧ X.cell? ⟨(ad.add (k * 5)).block, (ad.add (k * 5)).off + 3, none⟩ = some (.string o.old) ∧ X.cell? ⟨(ad.add (k * 5)).block, (ad.add (k * 5)).off + 4, none⟩ = some (.bool o.hold) ∧ X.cell? ⟨b10, 0, none⟩ = some (.bool (hasV st.2.2)) ∧ X.cell? ⟨b10, 1, none⟩ = some (.string (strV st.2.2)))) X.drew := HT.out
            refine wp_region_till 22 (fun X : World => (X.cell? (ad.add (k * 5)) = some (.int .i64 o.kind) ∧ X.cell? ⟨(ad.add (k * 5)).block, (ad.add (k * 5)).off + 1, none⟩ = some (.string o.key) ∧ X.cell? ⟨(ad.add (k * 5)).block, (ad.add (k * 5)).off + 2, none⟩ = some (.string o.val) ∧ X.cell? ⟨(ad.add (k * 5)).block, (ad.add (k * 5)).off + 3, none⟩ = some (.string o.old) ∧ X.cell? ⟨(ad.add (k * 5)).block, (ad.add (k * 5)).off + 4, none⟩ = some (.bool o.hold) ∧ X.cell? ⟨b10, 0, none⟩ = some (.bool (hasV st.2.2)) ∧ X.cell? ⟨b10, 1, none⟩ = some (.string (strV st.2.2)))) (by kernel_rfl) ?_
            (refine till_take 0 (v := ?_) rfl (by kernel_rfl) (by kernel_rfl) (by kernel_rfl) (by kernel_rfl) (by kernel_rfl) (fun _ _ _ h => h) (by rfl) (by assumption) ?_ ?_; rotate_left 1; (focus (intro X hX; obtain ⟨s0, s1, s2, s3, s4, s5, s6⟩ := hX; go_simp; with_reducible rfl)); (try simp only [Act.put, List.setIfInBounds_toArray, List.set_cons_zero, List.set_cons_succ]))
            (refine till_take 1 (v := ?_) rfl (by kernel_rfl) (by kernel_rfl) (by kernel_rfl) (by kernel_rfl) (by kernel_rfl) (fun _ _ _ h => h) (by rfl) (by assumption) ?_ ?_; rotate_left 1; (focus (intro X hX; obtain ⟨s0, s1, s2, s3, s4, s5, s6⟩ := hX; go_simp; with_reducible rfl)); (try simp only [Act.put, List.setIfInBounds_toArray, List.set_cons_zero, List.set_cons_succ]))
            (refine till_take 2 (v := ?_) rfl (by kernel_rfl) (by kernel_rfl) (by kernel_rfl) (by kernel_rfl) (by kernel_rfl) (fun _ _ _ h => h) (by rfl) (by assumption) ?_ ?_; rotate_left 1; (focus (intro X hX; obtain ⟨s0, s1, s2, s3, s4, s5, s6⟩ := hX; go_simp; with_reducible rfl)); (try simp only [Act.put, List.setIfInBounds_toArray, List.set_cons_zero, List.set_cons_succ]))
            (refine till_take 3 (v := ?_) rfl (by kernel_rfl) (by kernel_rfl) (by kernel_rfl) (by kernel_rfl) (by kernel_rfl) (fun _ _ _ h => h) (by rfl) (by assumption) ?_ ?_; rotate_left 1; (focus (intro X hX; obtain ⟨s0, s1, s2, s3, s4, s5, s6⟩ := hX; go_simp; with_reducible rfl)); (try simp only [Act.put, List.setIfInBounds_toArray, List.set_cons_zero, List.set_cons_succ]))
            (refine till_take 4 (v := ?_) rfl (by kernel_rfl) (by kernel_rfl) (by kernel_rfl) (by kernel_rfl) (by kernel_rfl) (fun _ _ _ h => h) (by rfl) (by assumption) ?_ ?_; rotate_left 1; (focus (intro X hX; obtain ⟨s0, s1, s2, s3, s4, s5, s6⟩ := hX; go_simp; with_reducible rfl)); (try simp only [Act.put, List.setIfInBounds_toArray, List.set_cons_zero, List.set_cons_succ]))
            (refine till_take 5 (v := ?_) rfl (by kernel_rfl) (by kernel_rfl) (by kernel_rfl) (by kernel_rfl) (by kernel_rfl) (fun _ _ _ h => h) (by rfl) (by assumption) ?_ ?_; rotate_left 1; (focus (intro X hX; obtain ⟨s0, s1, s2, s3, s4, s5, s6⟩ := hX; go_simp; with_reducible rfl)); (try simp only [Act.put, List.setIfInBounds_toArray, List.set_cons_zero, List.set_cons_succ]))
            (refine till_take 6 (v := ?_) rfl (by kernel_rfl) (by kernel_rfl) (by kernel_rfl) (by kernel_rfl) (by kernel_rfl) (fun _ _ _ h => h) (by rfl) (by assumption) ?_ ?_; rotate_left 1; (focus (intro X hX; obtain ⟨s0, s1, s2, s3, s4, s5, s6⟩ := hX; go_simp; with_reducible rfl)); (try simp only [Act.put, List.setIfInBounds_toArray, List.set_cons_zero, List.set_cons_succ]))
            (refine till_take 7 (v := ?_) rfl (by kernel_rfl) (by kernel_rfl) (by kernel_rfl) (by kernel_rfl) (by kernel_rfl) (fun _ _ _ h => h) (by rfl) (by assumption) ?_ ?_; rotate_left 1; (focus (intro X hX; obtain ⟨s0, s1, s2, s3, s4, s5, s6⟩ := hX; go_simp; with_reducible rfl)); (try simp only [Act.put, List.setIfInBounds_toArray, List.set_cons_zero, List.set_cons_succ]))
            (refine till_take 8 (v := ?_) rfl (by kernel_rfl) (by kernel_rfl) (by kernel_rfl) (by kernel_rfl) (by kernel_rfl) (fun _ _ _ h => h) (by rfl) (by assumption) ?_ ?_; rotate_left 1; (focus (intro X hX; obtain ⟨s0, s1, s2, s3, s4, s5, s6⟩ := hX; go_simp; with_reducible rfl)); (try simp only [Act.put, List.setIfInBounds_toArray, List.set_cons_zero, List.set_cons_succ]))
            (refine till_take 9 (v := ?_) rfl (by kernel_rfl) (by kernel_rfl) (by kernel_rfl) (by kernel_rfl) (by kernel_rfl) (fun _ _ _ h => h) (by rfl) (by assumption) ?_ ?_; rotate_left 1; (focus (intro X hX; obtain ⟨s0, s1, s2, s3, s4, s5, s6⟩ := hX; go_simp; with_reducible rfl)); (try simp only [Act.put, List.setIfInBounds_toArray, List.set_cons_zero, List.set_cons_succ]))
            (refine till_take 10 (v := ?_) rfl (by kernel_rfl) (by kernel_rfl) (by kernel_rfl) (by kernel_rfl) (by kernel_rfl) (fun _ _ _ h => h) (by rfl) (by assumption) ?_ ?_; rotate_left 1; (focus (intro X hX; obtain ⟨s0, s1, s2, s3, s4, s5, s6⟩ := hX; go_simp; with_reducible rfl)); (try simp only [Act.put, List.setIfInBounds_toArray, List.set_cons_zero, List.set_cons_succ]))
            (refine till_take 11 (v := ?_) rfl (by kernel_rfl) (by kernel_rfl) (by kernel_rfl) (by kernel_rfl) (by kernel_rfl) (fun _ _ _ h => h) (by rfl) (by assumption) ?_ ?_; rotate_left 1; (focus (intro X hX; obtain ⟨s0, s1, s2, s3, s4, s5, s6⟩ := hX; go_simp; with_reducible rfl)); (try simp only [Act.put, List.setIfInBounds_toArray, List.set_cons_zero, List.set_cons_succ]))
            (refine till_take 12 (v := ?_) rfl (by kernel_rfl) (by kernel_rfl) (by kernel_rfl) (by kernel_rfl) (by kernel_rfl) (fun _ _ _ h => h) (by rfl) (by assumption) ?_ ?_; rotate_left 1; (focus (intro X hX; obtain ⟨s0, s1, s2, s3, s4, s5, s6⟩ := hX; go_simp; with_reducible rfl)); (try simp only [Act.put, List.setIfInBounds_toArray, List.set_cons_zero, List.set_cons_succ]))
            (refine till_take 13 (v := ?_) rfl (by kernel_rfl) (by kernel_rfl) (by kernel_rfl) (by kernel_rfl) (by kernel_rfl) (fun _ _ _ h => h) (by rfl) (by assumption) ?_ ?_; rotate_left 1; (focus (intro X hX; obtain ⟨s0, s1, s2, s3, s4, s5, s6⟩ := hX; go_simp; with_reducible rfl)); (try simp only [Act.put, List.setIfInBounds_toArray, List.set_cons_zero, List.set_cons_succ]))
            (refine till_take 14 (v := ?_) rfl (by kernel_rfl) (by kernel_rfl) (by kernel_rfl) (by kernel_rfl) (by kernel_rfl) (fun _ _ _ h => h) (by rfl) (by assumption) ?_ ?_; rotate_left 1; (focus (intro X hX; obtain ⟨s0, s1, s2, s3, s4, s5, s6⟩ := hX; go_simp; with_reducible rfl)); (try simp only [Act.put, List.setIfInBounds_toArray, List.set_cons_zero, List.set_cons_succ]))
            (refine till_take 15 (v := ?_) rfl (by kernel_rfl) (by kernel_rfl) (by kernel_rfl) (by kernel_rfl) (by kernel_rfl) (fun _ _ _ h => h) (by rfl) (by assumption) ?_ ?_; rotate_left 1; (focus (intro X hX; obtain ⟨s0, s1, s2, s3, s4, s5, s6⟩ := hX; go_simp; with_reducible rfl)); (try simp only [Act.put, List.setIfInBounds_toArray, List.set_cons_zero, List.set_cons_succ]))
            (refine till_take 16 (v := ?_) rfl (by kernel_rfl) (by kernel_rfl) (by kernel_rfl) (by kernel_rfl) (by kernel_rfl) (fun _ _ _ h => h) (by rfl) (by assumption) ?_ ?_; rotate_left 1; (focus (intro X hX; obtain ⟨s0, s1, s2, s3, s4, s5, s6⟩ := hX; go_simp; with_reducible rfl)); (try simp only [Act.put, List.setIfInBounds_toArray, List.set_cons_zero, List.set_cons_succ]))
            (refine till_take 17 (v := ?_) rfl (by kernel_rfl) (by kernel_rfl) (by kernel_rfl) (by kernel_rfl) (by kernel_rfl) (fun _ _ _ h => h) (by rfl) (by assumption) ?_ ?_; rotate_left 1; (focus (intro X hX; obtain ⟨s0, s1, s2, s3, s4, s5, s6⟩ := hX; go_simp; with_reducible rfl)); (try simp only [Act.put, List.setIfInBounds_toArray, List.set_cons_zero, List.set_cons_succ]))
            (refine till_take 18 (v := ?_) rfl (by kernel_rfl) (by kernel_rfl) (by kernel_rfl) (by kernel_rfl) (by kernel_rfl) (fun _ _ _ h => h) (by rfl) (by assumption) ?_ ?_; rotate_left 1; (focus (intro X hX; obtain ⟨s0, s1, s2, s3, s4, s5, s6⟩ := hX; go_simp; with_reducible rfl)); (try simp only [Act.put, List.setIfInBounds_toArray, List.set_cons_zero, List.set_cons_succ]))
            (refine till_take 19 (v := ?_) rfl (by kernel_rfl) (by kernel_rfl) (by kernel_rfl) (by kernel_rfl) (by kernel_rfl) (fun _ _ _ h => h) (by rfl) (by assumption) ?_ ?_; rotate_left 1; (focus (intro X hX; obtain ⟨s0, s1, s2, s3, s4, s5, s6⟩ := hX; go_simp; with_reducible rfl)); (try simp only [Act.put, List.setIfInBounds_toArray, List.set_cons_zero, List.set_cons_succ]))
            obtain ⟨d, hd⟩ : ∃ x : Dn, x = ⟨o.kind, o.key, o.val, o.old, o.hold, IntKind.i64.wrap (100 + 10 * (k : Int) - ((sN : Int)).tmod 40), IntKind.i64.wrap (100 + 10 * (k : Int) + IntKind.i64.wrap (IntKind.i64.wrap ((sN : Int) / 40) * 10)), st.2.1, strV st.2.2, hasV st.2.2⟩ := ⟨_, rfl⟩
            have hdm : d = madeAt ops S k o := by
              rw [hd]
              unfold madeAt
              have e1 : stepP o (valN ops k) = st := by rw [← HV.out, HST.out]
              rw [e1, ← HSN.out]
              have e2 : IntKind.i64.wrap (100 + 10 * (k : Int) - ((sN : Int)).tmod 40) = 100 + 10 * (k : Int) - ((sN % 40 : Nat) : Int) := by rw [Int.tmod_eq_emod_of_nonneg (by omega), wrap_small _ (by omega) (by omega)]; omega
              have e3 : IntKind.i64.wrap (100 + 10 * (k : Int) + IntKind.i64.wrap (IntKind.i64.wrap ((sN : Int) / 40) * 10)) = 100 + 10 * (k : Int) + ((sN / 40 * 10 : Nat) : Int) := by rw [wrap_small ((sN : Int) / 40) (by omega) (by omega), wrap_small ((sN : Int) / 40 * 10) (by omega) (by omega), wrap_small _ (by omega) (by omega)]; omega
              rw [e2, e3]
            obtain ⟨A9, c9, w9, hrun, ho9, hg9, -, hb9⟩ := append_dn X.drew (w.heap.size + 1) (A := Ao) (n := k) (c := co) (L := madeN ops S k) HLN.out.symm HO2.out d (by omega) HZ2.out
            have hbl : b10 < X.heap.size := (Array.getElem?_eq_some_iff.1 HU210.out).1
            have hw9 : w9.heap[b10]? = X.heap[b10]? := hg9.block b10 hbl (fun e => HBA.out e.symm)
            have hbA : Below X.drew.heap.size X.drew (X.drew.alloc (.cells #[.int .i64 0, .int .i64 0, .int .i64 0, .int .i64 0, .int .i64 (d).kind, .string (d).key, .string (d).val, .string (d).old, .bool (d).hold, .int .i64 (d).fr, .int .i64 (d).to, .int .i64 (d).code, .string (d).rv, .bool (d).has, .complex .f64 0 0] 36)) := (Below.refl _ _).alloc (Nat.le_refl _) _
            have hS20 : (fun X : World => (X.cell? (ad.add (k * 5)) = some (.int .i64 o.kind) ∧ X.cell? ⟨(ad.add (k * 5)).block, (ad.add (k * 5)).off + 1, none⟩ = some (.string o.key) ∧ X.cell? ⟨(ad.add (k * 5)).block, (ad.add (k * 5)).off + 2, none⟩ = some (.string o.val) ∧ X.cell? ⟨(ad.add (k * 5)).block, (ad.add (k * 5)).off + 3, none⟩ = some (.string o.old) ∧ X.cell? ⟨(ad.add (k * 5)).block, (ad.add (k * 5)).off + 4, none⟩ = some (.bool o.hold) ∧ X.cell? ⟨b10, 0, none⟩ = some (.bool (hasV st.2.2)) ∧ X.cell? ⟨b10, 1, none⟩ = some (.string (strV st.2.2)))) (X.drew.alloc (.cells #[.int .i64 0, .int .i64 0, .int .i64 0, .int .i64 0, .int .i64 (d).kind, .string (d).key, .string (d).val, .string (d).old, .bool (d).hold, .int .i64 (d).fr, .int .i64 (d).to, .int .i64 (d).code, .string (d).rv, .bool (d).has, .complex .f64 0 0] 36)) := ⟨keepc hS2.1 hbA, keepc hS2.2.1 hbA, keepc hS2.2.2.1 hbA, keepc hS2.2.2.2.1 hbA, keepc hS2.2.2.2.2.1 hbA, keepc hS2.2.2.2.2.2.1 hbA, keepc hS2.2.2.2.2.2.2 hbA⟩
            have hadw : (ad.add (k * 5)).block < w.heap.size + 1 := by have := HAB.out; omega
            have hkp : ∀ p x, p.block = (ad.add (k * 5)).block → X.cell? p = some x → w9.cell? p = some x := fun p x hp hx => (World.cell?_of_block (w := X) (hb9.block p.block (by rw [hp]; exact hadw))).trans hx
            have hkb : ∀ j x, X.cell? ⟨b10, j, none⟩ = some x → w9.cell? ⟨b10, j, none⟩ = some x := fun j x hx => (World.cell?_of_block (w := X) (a := ⟨b10, j, none⟩) hw9).trans hx
            have hS21 : (fun X : World => (X.cell? (ad.add (k * 5)) = some (.int .i64 o.kind) ∧ X.cell? ⟨(ad.add (k * 5)).block, (ad.add (k * 5)).off + 1, none⟩ = some (.string o.key) ∧ X.cell? ⟨(ad.add (k * 5)).block, (ad.add (k * 5)).off + 2, none⟩ = some (.string o.val) ∧ X.cell? ⟨(ad.add (k * 5)).block, (ad.add (k * 5)).off + 3, none⟩ = some (.string o.old) ∧ X.cell? ⟨(ad.add (k * 5)).block, (ad.add (k * 5)).off + 4, none⟩ = some (.bool o.hold) ∧ X.cell? ⟨b10, 0, none⟩ = some (.bool (hasV st.2.2)) ∧ X.cell? ⟨b10, 1, none⟩ = some (.string (strV st.2.2)))) w9 := ⟨hkp _ _ (by rfl) hS2.1, hkp _ _ (by rfl) hS2.2.1, hkp _ _ (by rfl) hS2.2.2.1, hkp _ _ (by rfl) hS2.2.2.2.1, hkp _ _ (by rfl) hS2.2.2.2.2.1, hkb _ _ hS2.2.2.2.2.2.1, hkb _ _ hS2.2.2.2.2.2.2⟩
            have hmk : madeN ops S (k + 1) = madeN ops S k ++ [madeAt ops S k o] := by show (match ops[k]? with | some o => _ | none => _) = _; rw [HOE.out]
            have hvk : valN ops (k + 1) = st.1 := by show (match ops[k]? with | some o => _ | none => _) = _; rw [HOE.out, HST.out, HV.out]
            have HO9 := Lib.hid (show w9.ownsRow (w.heap.size + 1) 36 15 (.slice A9 (k + 1) c9) (k + 1) (rowD (madeN ops S (k + 1))) from by rw [hmk, ← hdm]; exact ho9)
            have HL9 := Lib.hid (show (madeN ops S (k + 1)).length = k + 1 from by rw [hmk, List.length_append, HLN.out]; rfl)
            have HP9 := Lib.hid (show w9.heap[pv]? = some (.cells #[.bool (hasV (valN ops (k + 1))), .string (strV (valN ops (k + 1)))] 43 (0, 0)) from by rw [hvk]; exact (hb9.block pv (by have := HPV.out; omega)).trans HU2.out)
            have HB9 := Lib.hid (show Below w.heap.size w w9 from (below_drew HB2.out).trans (hb9.mono (Nat.le_succ _)))
            have HZ9 := Lib.hid (show w.heap.size + 1 ≤ w9.heap.size from Nat.le_trans HZ2.out hb9.size)
            clear hmk hvk hdm ho9 hg9 hb9 hbl hw9 hbA hadw hkp hkb
            subst hd
            refine till_one 20 (by kernel_rfl) rfl (fun K hK => ?_)
            go_simp
            refine hK.out _ _ (fun _ => hS20) ?_
            clear hK K hS20
            try simp only [Act.put, List.setIfInBounds_toArray, List.set_cons_zero, List.set_cons_succ]
            refine till_one 21 (by kernel_rfl) rfl (fun K hK => ?_)
            refine step_append_run rfl rfl rfl rfl hrun ?_
            refine hK.out _ _ (fun _ => hS21) ?_
            clear hK K hrun
            try simp only [Act.put, List.setIfInBounds_toArray, List.set_cons_zero, List.set_cons_succ]
            refine till_one 22 (by kernel_rfl) rfl (fun K hK => ?_)
            go_simp
            refine hK.out _ _ (fun h => absurd rfl h) ?_
            clear hK K hS21
            try simp only [Act.put, List.setIfInBounds_toArray, List.set_cons_zero, List.set_cons_succ]
            refine till_done (by kernel_rfl) ?_ _
            clear HO2 HB2 HZ2 HU2 HU210 HT hS2
            go_wp2_with fail
            go_roundw
            case rel => exact ⟨k + 1, A9, c9, by omega, by go_num, rfl, HO9, HL9, HP9, HB9, HZ9⟩
            case measure => simp [intOf] <;> omega
          · obtain ⟨sN, hsN⟩ : ∃ x, x = spr S k := ⟨_, rfl⟩
            have hs0 : sN = 0 := by
              rw [hsN]
              unfold spr
              rw [List.getElem?_eq_none (by have := HNS.out; omega)]
              rfl
            have HSN := Lib.hid hsN
            have hs255 : sN ≤ 255 := by omega
            clear hsN
            go_wp2_with fail
            try clear hsc'
            generalize (U.setCell ⟨pv, 0, none⟩ (.bool (hasV st.1))).setCell ⟨pv, 1, none⟩ (.string (strV st.1)) = X at HU2 HU210 HO2 HB2 HZ2 HT ⊢
            clear u0 u1 p0 p1 pf
            have hS2 : (fun X : World => (X.cell? (ad.add (k * 5)) = some (.int .i64 o.kind) ∧ X.cell? ⟨(ad.add (k * 5)).block, (ad.add (k * 5)).off + 1, none⟩ = some (.string o.key) ∧ X.cell? ⟨(ad.add (k * 5)).block, (ad.add (k * 5)).off + 2, none⟩ = some (.string o.val) ∧ X.cell? ⟨(ad.add (k * 5)).block, (ad.add (k * 5)).off + 3, none⟩ = some (.string o.old) ∧ X.cell? ⟨(ad.add (k * 5)).block, (ad.add (k * 5)).off + 4, none⟩ = some (.bool o.hold) ∧ X.cell? ⟨b10, 0, none⟩ = some (.bool (hasV st.2.2)) ∧ X.cell? ⟨b10, 1, none⟩ = some (.string (strV st.2.2)))) X.drew := HT.out
            refine wp_region_till 22 (fun X : World => (X.cell? (ad.add (k * 5)) = some (.int .i64 o.kind) ∧ X.cell? ⟨(ad.add (k * 5)).block, (ad.add (k * 5)).off + 1, none⟩ = some (.string o.key) ∧ X.cell? ⟨(ad.add (k * 5)).block, (ad.add (k * 5)).off + 2, none⟩ = some (.string o.val) ∧ X.cell? ⟨(ad.add (k * 5)).block, (ad.add (k * 5)).off + 3, none⟩ = some (.string o.old) ∧ X.cell? ⟨(ad.add (k * 5)).block, (ad.add (k * 5)).off + 4, none⟩ = some (.bool o.hold) ∧ X.cell? ⟨b10, 0, none⟩ = some (.bool (hasV st.2.2)) ∧ X.cell? ⟨b10, 1, none⟩ = some (.string (strV st.2.2)))) (by kernel_rfl) ?_
            (refine till_take 0 (v := ?_) rfl (by kernel_rfl) (by kernel_rfl) (by kernel_rfl) (by kernel_rfl) (by kernel_rfl) (fun _ _ _ h => h) (by rfl) (by assumption) ?_ ?_; rotate_left 1; (focus (intro X hX; obtain ⟨s0, s1, s2, s3, s4, s5, s6⟩ := hX; go_simp; with_reducible rfl)); (try simp only [Act.put, List.setIfInBounds_toArray, List.set_cons_zero, List.set_cons_succ]))
            (refine till_take 1 (v := ?_) rfl (by kernel_rfl) (by kernel_rfl) (by kernel_rfl) (by kernel_rfl) (by kernel_rfl) (fun _ _ _ h => h) (by rfl) (by assumption) ?_ ?_; rotate_left 1; (focus (intro X hX; obtain ⟨s0, s1, s2, s3, s4, s5, s6⟩ := hX; go_simp; with_reducible rfl)); (try simp only [Act.put, List.setIfInBounds_toArray, List.set_cons_zero, List.set_cons_succ]))
            (refine till_take 2 (v := ?_) rfl (by kernel_rfl) (by kernel_rfl) (by kernel_rfl) (by kernel_rfl) (by kernel_rfl) (fun _ _ _ h => h) (by rfl) (by assumption) ?_ ?_; rotate_left 1; (focus (intro X hX; obtain ⟨s0, s1, s2, s3, s4, s5, s6⟩ := hX; go_simp; with_reducible rfl)); (try simp only [Act.put, List.setIfInBounds_toArray, List.set_cons_zero, List.set_cons_succ]))
            (refine till_take 3 (v := ?_) rfl (by kernel_rfl) (by kernel_rfl) (by kernel_rfl) (by kernel_rfl) (by kernel_rfl) (fun _ _ _ h => h) (by rfl) (by assumption) ?_ ?_; rotate_left 1; (focus (intro X hX; obtain ⟨s0, s1, s2, s3, s4, s5, s6⟩ := hX; go_simp; with_reducible rfl)); (try simp only [Act.put, List.setIfInBounds_toArray, List.set_cons_zero, List.set_cons_succ]))
            (refine till_take 4 (v := ?_) rfl (by kernel_rfl) (by kernel_rfl) (by kernel_rfl) (by kernel_rfl) (by kernel_rfl) (fun _ _ _ h => h) (by rfl) (by assumption) ?_ ?_; rotate_left 1; (focus (intro X hX; obtain ⟨s0, s1, s2, s3, s4, s5, s6⟩ := hX; go_simp; with_reducible rfl)); (try simp only [Act.put, List.setIfInBounds_toArray, List.set_cons_zero, List.set_cons_succ]))
            (refine till_take 5 (v := ?_) rfl (by kernel_rfl) (by kernel_rfl) (by kernel_rfl) (by kernel_rfl) (by kernel_rfl) (fun _ _ _ h => h) (by rfl) (by assumption) ?_ ?_; rotate_left 1; (focus (intro X hX; obtain ⟨s0, s1, s2, s3, s4, s5, s6⟩ := hX; go_simp; with_reducible rfl)); (try simp only [Act.put, List.setIfInBounds_toArray, List.set_cons_zero, List.set_cons_succ]))
            (refine till_take 6 (v := ?_) rfl (by kernel_rfl) (by kernel_rfl) (by kernel_rfl) (by kernel_rfl) (by kernel_rfl) (fun _ _ _ h => h) (by rfl) (by assumption) ?_ ?_; rotate_left 1; (focus (intro X hX; obtain ⟨s0, s1, s2, s3, s4, s5, s6⟩ := hX; go_simp; with_reducible rfl)); (try simp only [Act.put, List.setIfInBounds_toArray, List.set_cons_zero, List.set_cons_succ]))
            (refine till_take 7 (v := ?_) rfl (by kernel_rfl) (by kernel_rfl) (by kernel_rfl) (by kernel_rfl) (by kernel_rfl) (fun _ _ _ h => h) (by rfl) (by assumption) ?_ ?_; rotate_left 1; (focus (intro X hX; obtain ⟨s0, s1, s2, s3, s4, s5, s6⟩ := hX; go_simp; with_reducible rfl)); (try simp only [Act.put, List.setIfInBounds_toArray, List.set_cons_zero, List.set_cons_succ]))
            (refine till_take 8 (v := ?_) rfl (by kernel_rfl) (by kernel_rfl) (by kernel_rfl) (by kernel_rfl) (by kernel_rfl) (fun _ _ _ h => h) (by rfl) (by assumption) ?_ ?_; rotate_left 1; (focus (intro X hX; obtain ⟨s0, s1, s2, s3, s4, s5, s6⟩ := hX; go_simp; with_reducible rfl)); (try simp only [Act.put, List.setIfInBounds_toArray, List.set_cons_zero, List.set_cons_succ]))
            (refine till_take 9 (v := ?_) rfl (by kernel_rfl) (by kernel_rfl) (by kernel_rfl) (by kernel_rfl) (by kernel_rfl) (fun _ _ _ h => h) (by rfl) (by assumption) ?_ ?_; rotate_left 1; (focus (intro X hX; obtain ⟨s0, s1, s2, s3, s4, s5, s6⟩ := hX; go_simp; with_reducible rfl)); (try simp only [Act.put, List.setIfInBounds_toArray, List.set_cons_zero, List.set_cons_succ]))
            (refine till_take 10 (v := ?_) rfl (by kernel_rfl) (by kernel_rfl) (by kernel_rfl) (by kernel_rfl) (by kernel_rfl) (fun _ _ _ h => h) (by rfl) (by assumption) ?_ ?_; rotate_left 1; (focus (intro X hX; obtain ⟨s0, s1, s2, s3, s4, s5, s6⟩ := hX; go_simp; with_reducible rfl)); (try simp only [Act.put, List.setIfInBounds_toArray, List.set_cons_zero, List.set_cons_succ]))
            (refine till_take 11 (v := ?_) rfl (by kernel_rfl) (by kernel_rfl) (by kernel_rfl) (by kernel_rfl) (by kernel_rfl) (fun _ _ _ h => h) (by rfl) (by assumption) ?_ ?_; rotate_left 1; (focus (intro X hX; obtain ⟨s0, s1, s2, s3, s4, s5, s6⟩ := hX; go_simp; with_reducible rfl)); (try simp only [Act.put, List.setIfInBounds_toArray, List.set_cons_zero, List.set_cons_succ]))
            (refine till_take 12 (v := ?_) rfl (by kernel_rfl) (by kernel_rfl) (by kernel_rfl) (by kernel_rfl) (by kernel_rfl) (fun _ _ _ h => h) (by rfl) (by assumption) ?_ ?_; rotate_left 1; (focus (intro X hX; obtain ⟨s0, s1, s2, s3, s4, s5, s6⟩ := hX; go_simp; with_reducible rfl)); (try simp only [Act.put, List.setIfInBounds_toArray, List.set_cons_zero, List.set_cons_succ]))
            (refine till_take 13 (v := ?_) rfl (by kernel_rfl) (by kernel_rfl) (by kernel_rfl) (by kernel_rfl) (by kernel_rfl) (fun _ _ _ h => h) (by rfl) (by assumption) ?_ ?_; rotate_left 1; (focus (intro X hX; obtain ⟨s0, s1, s2, s3, s4, s5, s6⟩ := hX; go_simp; with_reducible rfl)); (try simp only [Act.put, List.setIfInBounds_toArray, List.set_cons_zero, List.set_cons_succ]))
            (refine till_take 14 (v := ?_) rfl (by kernel_rfl) (by kernel_rfl) (by kernel_rfl) (by kernel_rfl) (by kernel_rfl) (fun _ _ _ h => h) (by rfl) (by assumption) ?_ ?_; rotate_left 1; (focus (intro X hX; obtain ⟨s0, s1, s2, s3, s4, s5, s6⟩ := hX; go_simp; with_reducible rfl)); (try simp only [Act.put, List.setIfInBounds_toArray, List.set_cons_zero, List.set_cons_succ]))
            (refine till_take 15 (v := ?_) rfl (by kernel_rfl) (by kernel_rfl) (by kernel_rfl) (by kernel_rfl) (by kernel_rfl) (fun _ _ _ h => h) (by rfl) (by assumption) ?_ ?_; rotate_left 1; (focus (intro X hX; obtain ⟨s0, s1, s2, s3, s4, s5, s6⟩ := hX; go_simp; with_reducible rfl)); (try simp only [Act.put, List.setIfInBounds_toArray, List.set_cons_zero, List.set_cons_succ]))
            (refine till_take 16 (v := ?_) rfl (by kernel_rfl) (by kernel_rfl) (by kernel_rfl) (by kernel_rfl) (by kernel_rfl) (fun _ _ _ h => h) (by rfl) (by assumption) ?_ ?_; rotate_left 1; (focus (intro X hX; obtain ⟨s0, s1, s2, s3, s4, s5, s6⟩ := hX; go_simp; with_reducible rfl)); (try simp only [Act.put, List.setIfInBounds_toArray, List.set_cons_zero, List.set_cons_succ]))
            (refine till_take 17 (v := ?_) rfl (by kernel_rfl) (by kernel_rfl) (by kernel_rfl) (by kernel_rfl) (by kernel_rfl) (fun _ _ _ h => h) (by rfl) (by assumption) ?_ ?_; rotate_left 1; (focus (intro X hX; obtain ⟨s0, s1, s2, s3, s4, s5, s6⟩ := hX; go_simp; with_reducible rfl)); (try simp only [Act.put, List.setIfInBounds_toArray, List.set_cons_zero, List.set_cons_succ]))
            (refine till_take 18 (v := ?_) rfl (by kernel_rfl) (by kernel_rfl) (by kernel_rfl) (by kernel_rfl) (by kernel_rfl) (fun _ _ _ h => h) (by rfl) (by assumption) ?_ ?_; rotate_left 1; (focus (intro X hX; obtain ⟨s0, s1, s2, s3, s4, s5, s6⟩ := hX; go_simp; with_reducible rfl)); (try simp only [Act.put, List.setIfInBounds_toArray, List.set_cons_zero, List.set_cons_succ]))
            (refine till_take 19 (v := ?_) rfl (by kernel_rfl) (by kernel_rfl) (by kernel_rfl) (by kernel_rfl) (by kernel_rfl) (fun _ _ _ h => h) (by rfl) (by assumption) ?_ ?_; rotate_left 1; (focus (intro X hX; obtain ⟨s0, s1, s2, s3, s4, s5, s6⟩ := hX; go_simp; with_reducible rfl)); (try simp only [Act.put, List.setIfInBounds_toArray, List.set_cons_zero, List.set_cons_succ]))
            obtain ⟨d, hd⟩ : ∃ x : Dn, x = ⟨o.kind, o.key, o.val, o.old, o.hold, IntKind.i64.wrap (100 + 10 * (k : Int)), IntKind.i64.wrap (100 + 10 * (k : Int) + IntKind.i64.wrap (IntKind.i64.wrap 0 * 10)), st.2.1, strV st.2.2, hasV st.2.2⟩ := ⟨_, rfl⟩
            have hdm : d = madeAt ops S k o := by
              rw [hd]
              unfold madeAt
              have e1 : stepP o (valN ops k) = st := by rw [← HV.out, HST.out]
              rw [e1, ← HSN.out]
              have e2 : IntKind.i64.wrap (100 + 10 * (k : Int)) = 100 + 10 * (k : Int) - ((sN % 40 : Nat) : Int) := by rw [wrap_small _ (by omega) (by omega)]; omega
              have e3 : IntKind.i64.wrap (100 + 10 * (k : Int) + IntKind.i64.wrap (IntKind.i64.wrap 0 * 10)) = 100 + 10 * (k : Int) + ((sN / 40 * 10 : Nat) : Int) := by rw [wrap_small 0 (by omega) (by omega), wrap_small (0 * 10) (by omega) (by omega), wrap_small _ (by omega) (by omega)]; omega
              rw [e2, e3]
            obtain ⟨A9, c9, w9, hrun, ho9, hg9, -, hb9⟩ := append_dn X.drew (w.heap.size + 1) (A := Ao) (n := k) (c := co) (L := madeN ops S k) HLN.out.symm HO2.out d (by omega) HZ2.out
            have hbl : b10 < X.heap.size := (Array.getElem?_eq_some_iff.1 HU210.out).1
            have hw9 : w9.heap[b10]? = X.heap[b10]? := hg9.block b10 hbl (fun e => HBA.out e.symm)
            have hbA : Below X.drew.heap.size X.drew (X.drew.alloc (.cells #[.int .i64 0, .int .i64 0, .int .i64 0, .int .i64 0, .int .i64 (d).kind, .string (d).key, .string (d).val, .string (d).old, .bool (d).hold, .int .i64 (d).fr, .int .i64 (d).to, .int .i64 (d).code, .string (d).rv, .bool (d).has, .complex .f64 0 0] 36)) := (Below.refl _ _).alloc (Nat.le_refl _) _
            have hS20 : (fun X : World => (X.cell? (ad.add (k * 5)) = some (.int .i64 o.kind) ∧ X.cell? ⟨(ad.add (k * 5)).block, (ad.add (k * 5)).off + 1, none⟩ = some (.string o.key) ∧ X.cell? ⟨(ad.add (k * 5)).block, (ad.add (k * 5)).off + 2, none⟩ = some (.string o.val) ∧ X.cell? ⟨(ad.add (k * 5)).block, (ad.add (k * 5)).off + 3, none⟩ = some (.string o.old) ∧ X.cell? ⟨(ad.add (k * 5)).block, (ad.add (k * 5)).off + 4, none⟩ = some (.bool o.hold) ∧ X.cell? ⟨b10, 0, none⟩ = some (.bool (hasV st.2.2)) ∧ X.cell? ⟨b10, 1, none⟩ = some (.string (strV st.2.2)))) (X.drew.alloc (.cells #[.int .i64 0, .int .i64 0, .int .i64 0, .int .i64 0, .int .i64 (d).kind, .string (d).key, .string (d).val, .string (d).old, .bool (d).hold, .int .i64 (d).fr, .int .i64 (d).to, .int .i64 (d).code, .string (d).rv, .bool (d).has, .complex .f64 0 0] 36)) := ⟨keepc hS2.1 hbA, keepc hS2.2.1 hbA, keepc hS2.2.2.1 hbA, keepc hS2.2.2.2.1 hbA, keepc hS2.2.2.2.2.1 hbA, keepc hS2.2.2.2.2.2.1 hbA, keepc hS2.2.2.2.2.2.2 hbA⟩
            have hadw : (ad.add (k * 5)).block < w.heap.size + 1 := by have := HAB.out; omega
            have hkp : ∀ p x, p.block = (ad.add (k * 5)).block → X.cell? p = some x → w9.cell? p = some x := fun p x hp hx => (World.cell?_of_block (w := X) (hb9.block p.block (by rw [hp]; exact hadw))).trans hx
            have hkb : ∀ j x, X.cell? ⟨b10, j, none⟩ = some x → w9.cell? ⟨b10, j, none⟩ = some x := fun j x hx => (World.cell?_of_block (w := X) (a := ⟨b10, j, none⟩) hw9).trans hx
            have hS21 : (fun X : World => (X.cell? (ad.add (k * 5)) = some (.int .i64 o.kind) ∧ X.cell? ⟨(ad.add (k * 5)).block, (ad.add (k * 5)).off + 1, none⟩ = some (.string o.key) ∧ X.cell? ⟨(ad.add (k * 5)).block, (ad.add (k * 5)).off + 2, none⟩ = some (.string o.val) ∧ X.cell? ⟨(ad.add (k * 5)).block, (ad.add (k * 5)).off + 3, none⟩ = some (.string o.old) ∧ X.cell? ⟨(ad.add (k * 5)).block, (ad.add (k * 5)).off + 4, none⟩ = some (.bool o.hold) ∧ X.cell? ⟨b10, 0, none⟩ = some (.bool (hasV st.2.2)) ∧ X.cell? ⟨b10, 1, none⟩ = some (.string (strV st.2.2)))) w9 := ⟨hkp _ _ (by rfl) hS2.1, hkp _ _ (by rfl) hS2.2.1, hkp _ _ (by rfl) hS2.2.2.1, hkp _ _ (by rfl) hS2.2.2.2.1, hkp _ _ (by rfl) hS2.2.2.2.2.1, hkb _ _ hS2.2.2.2.2.2.1, hkb _ _ hS2.2.2.2.2.2.2⟩
            have hmk : madeN ops S (k + 1) = madeN ops S k ++ [madeAt ops S k o] := by show (match ops[k]? with | some o => _ | none => _) = _; rw [HOE.out]
            have hvk : valN ops (k + 1) = st.1 := by show (match ops[k]? with | some o => _ | none => _) = _; rw [HOE.out, HST.out, HV.out]
            have HO9 := Lib.hid (show w9.ownsRow (w.heap.size + 1) 36 15 (.slice A9 (k + 1) c9) (k + 1) (rowD (madeN ops S (k + 1))) from by rw [hmk, ← hdm]; exact ho9)
            have HL9 := Lib.hid (show (madeN ops S (k + 1)).length = k + 1 from by rw [hmk, List.length_append, HLN.out]; rfl)
            have HP9 := Lib.hid (show w9.heap[pv]? = some (.cells #[.bool (hasV (valN ops (k + 1))), .string (strV (valN ops (k + 1)))] 43 (0, 0)) from by rw [hvk]; exact (hb9.block pv (by have := HPV.out; omega)).trans HU2.out)
            have HB9 := Lib.hid (show Below w.heap.size w w9 from (below_drew HB2.out).trans (hb9.mono (Nat.le_succ _)))
            have HZ9 := Lib.hid (show w.heap.size + 1 ≤ w9.heap.size from Nat.le_trans HZ2.out hb9.size)
            clear hmk hvk hdm ho9 hg9 hb9 hbl hw9 hbA hadw hkp hkb
            subst hd
            refine till_one 20 (by kernel_rfl) rfl (fun K hK => ?_)
            go_simp
            refine hK.out _ _ (fun _ => hS20) ?_
            clear hK K hS20
            try simp only [Act.put, List.setIfInBounds_toArray, List.set_cons_zero, List.set_cons_succ]
            refine till_one 21 (by kernel_rfl) rfl (fun K hK => ?_)
            refine step_append_run rfl rfl rfl rfl hrun ?_
            refine hK.out _ _ (fun _ => hS21) ?_
            clear hK K hrun
            try simp only [Act.put, List.setIfInBounds_toArray, List.set_cons_zero, List.set_cons_succ]
            refine till_one 22 (by kernel_rfl) rfl (fun K hK => ?_)
            go_simp
            refine hK.out _ _ (fun h => absurd rfl h) ?_
            clear hK K hS21
            try simp only [Act.put, List.setIfInBounds_toArray, List.set_cons_zero, List.set_cons_succ]
            refine till_done (by kernel_rfl) ?_ _
            clear HO2 HB2 HZ2 HU2 HU210 HT hS2
            go_wp2_with fail
            go_roundw
            case rel => exact ⟨k + 1, A9, c9, by omega, by go_num, rfl, HO9, HL9, HP9, HB9, HZ9⟩
            case measure => simp [intOf] <;> omega
    · obtain rfl : k = n := by omega
      have ho := HO.out
      have hb := HB.out
      go_wp2_with fail
      go_ret
      exact ⟨Ao, co, rfl, own_base2 HLN.out ho (Nat.le_succ _), HLN.out, hb⟩
end Go.Proofs.Ytabjkmennijaeaa.hs

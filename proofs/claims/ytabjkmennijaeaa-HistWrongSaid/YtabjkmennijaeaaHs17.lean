/- HistWrong. -/
import Derived.Test.YtabjkmennijaeaaHs16
namespace Go.Proofs.Ytabjkmennijaeaa.hs
open Go.RowKit Go.Proofs.Ytabjkmennijaeaa.lib Go.Proofs.Ytabjkmennijaeaa.byt
set_option linter.unusedVariables false
set_option linter.unusedSimpArgs false
set_option maxHeartbeats 2000000 in
theorem wrong_law (w : World) (A : Option Addr) (n c : Nat) (hO : FactO w A n) (As : Option Addr) (ns cs : Nat) (hB : FactB w As ns) (at_ : Int) (ha : 0 ≤ at_ ∧ at_ ≤ 255) :
    Calls Try.prog 4 #[.slice A n c, .slice As ns cs, .int .u8 at_] w fun e w' => e = .returned (.bool true) ∧ Below w.heap.size w w' := by
  obtain ⟨ops, hn, hr⟩ := hO
  obtain ⟨S, hns, hrs⟩ := hB
  have HN := Lib.hid hn
  have HR := Lib.hid hr
  have HNS := Lib.hid hns
  have HRS := Lib.hid hrs
  clear hn hr hns hrs
  go_enter Try.func4, Try.ntmps4
  go_wp2_with fail
  refine (awake26 w).mono ?_
  rintro e w1 ⟨rfl, hb⟩
  have HB1 := Lib.hid hb
  clear hb
  by_cases h9 : (9 : Int) < n
  case pos =>
    go_wp2_with fail
    refine (awake26 w1).mono ?_
    rintro e w2 ⟨rfl, hb2⟩
    have HB2 := Lib.hid (HB1.out.trans (hb2.mono HB1.out.size))
    clear hb2
    go_wp2_with fail
    go_ret
    exact ⟨rfl, HB2.out⟩
  have HLE := Lib.hid (show n ≤ 9 from by omega)
  go_wp2_with fail
  clear h9
  go_loopw [7, 8] (fun vo vi wr => ∃ (k m : Nat) (Ao : Option Addr) (co : Nat), k ≤ n ∧ vi = .int .i64 k ∧ vo = .slice Ao m co ∧ Hid (m = (mineW (ops.take k)).length) ∧ Hid (wr.ownsRow w.heap.size 27 5 (.slice Ao m co) m (rowO (mineW (ops.take k)))) ∧ Hid (Below w.heap.size w wr)) (fun _ vi _ => n - (intOf vi).toNat)
  case atStart => exact ⟨0, 0, none, 0, Nat.zero_le _, rfl, rfl, Lib.hid rfl, Lib.hid (World.ownsRow_nil _ _ _ _), HB1⟩
  case round =>
    obtain ⟨k, m, Ao, co, hk, rfl, rfl, HM, HO, HB⟩ := hrel
    by_cases hlt : k < n
    · have hkl : k < ops.length := by rw [← HN.out]; exact hlt
      obtain ⟨ad, rfl, hadb, o0, o1, o2, o3, o4⟩ := RdO.at_ (w := wr) (HR.out.below HB.out) hkl
      obtain ⟨o, ho⟩ : ∃ o, o = ops[k] := ⟨_, rfl⟩
      rw [← ho] at o0 o1 o2 o3 o4
      have HTK := Lib.hid (show mineW (ops.take (k + 1)) = mineW (ops.take k) ++ (if pickW o = true then [wk o] else []) from by
        rw [List.take_succ_eq_append_getElem hkl, ← ho, mineW_snoc])
      have HMK := Lib.hid (show m ≤ k from by rw [HM.out]; have := mineW_length (ops.take k); rw [List.length_take] at this; omega)
      have hk0 : (0 : Int) ≤ k := by omega
      have hk1 : (k : Int) < n := by omega
      clear ho hkl hadb
      by_cases h1 : 1 ≤ o.kind
      case neg =>
        have HT := Lib.hid (show mineW (ops.take (k + 1)) = mineW (ops.take k) from by rw [HTK.out]; simp [pickW, h1])
        go_wp2_with fail
        go_roundw
        case rel => exact ⟨k + 1, m, Ao, co, by omega, by go_num, rfl, by rw [HT.out]; exact HM, by rw [HT.out]; exact HO, HB⟩
        case measure => simp [intOf] <;> omega
      by_cases h4 : o.kind ≤ 4
      case neg =>
        have HT := Lib.hid (show mineW (ops.take (k + 1)) = mineW (ops.take k) from by rw [HTK.out]; simp [pickW, h4])
        go_wp2_with fail
        go_roundw
        case rel => exact ⟨k + 1, m, Ao, co, by omega, by go_num, rfl, by rw [HT.out]; exact HM, by rw [HT.out]; exact HO, HB⟩
        case measure => simp [intOf] <;> omega
      by_cases hv : (o.val.toList == [110, 101, 118, 101, 114]) = true
      case pos =>
        have HT := Lib.hid (show mineW (ops.take (k + 1)) = mineW (ops.take k) from by rw [HTK.out, show pickW o = false from by unfold pickW; rw [hv]; simp]; simp)
        go_wp2_with fail
        go_roundw
        case rel => exact ⟨k + 1, m, Ao, co, by omega, by go_num, rfl, by rw [HT.out]; exact HM, by rw [HT.out]; exact HO, HB⟩
        case measure => simp [intOf] <;> omega
      have hv2 : (o.val.toList == [110, 101, 118, 101, 114]) = false := by simpa using hv
      have HT := Lib.hid (show mineW (ops.take (k + 1)) = mineW (ops.take k) ++ [wk o] from by rw [HTK.out, show pickW o = true from by unfold pickW; rw [hv2]; simp [h1, h4]]; simp)
      clear hv
      have hbA : Below wr.heap.size wr (wr.alloc (.cells #[.int .i64 (wk o).kind, .string (wk o).key, .string (wk o).val, .string (wk o).old, .bool (wk o).hold] 27)) := (Below.refl _ _).alloc (Nat.le_refl _) _
      have HBA := Lib.hid (HB.out.trans (hbA.mono HB.out.size))
      have HOA := Lib.hid (own_below HO.out hbA (Nat.le_refl _))
      clear hbA
      obtain ⟨A9, c9, w9, hrun, ho9, hb9⟩ := append_on (wr.alloc (.cells #[.int .i64 (wk o).kind, .string (wk o).key, .string (wk o).val, .string (wk o).old, .bool (wk o).hold] 27)) w.heap.size (A := Ao) (n := m) (c := co) (L := mineW (ops.take k)) HM.out HOA.out (wk o) (by have := HMK.out; have := HLE.out; omega) HBA.out.size
      have HO9 := Lib.hid (show w9.ownsRow w.heap.size 27 5 (.slice A9 (m + 1) c9) (m + 1) (rowO (mineW (ops.take (k + 1)))) from by rw [HT.out]; exact ho9)
      have HM9 := Lib.hid (show m + 1 = (mineW (ops.take (k + 1))).length from by rw [HT.out, List.length_append, ← HM.out]; rfl)
      have HB9 := Lib.hid (HBA.out.trans hb9)
      clear ho9 hb9 HB HM HO HMK HTK HT HBA HOA
      have hsz : (wr.alloc (.cells #[.int .i64 (wk o).kind, .string (wk o).key, .string (wk o).val, .string (wk o).old, .bool (wk o).hold] 27)).heap.size = wr.heap.size + 1 := World.size_alloc _ _
      rw [hsz] at hrun
      simp only [wk] at hrun
      clear hsz
      go_wp2_with (at_builtin; refine wpList_append_run rfl rfl rfl rfl hrun ?_; clear hrun)
      go_roundw
      case rel => exact ⟨k + 1, m + 1, A9, c9, by omega, by go_num, rfl, HM9, HO9, HB9⟩
      case measure => simp [intOf] <;> omega
    · obtain rfl : k = n := by omega
      have ht : ops.take k = ops := List.take_of_length_le (by rw [← HN.out]; exact Nat.le_refl _)
      rw [ht] at HM HO
      clear ht hlt hk
      have HML := Lib.hid (show m ≤ k from by rw [HM.out, HN.out]; exact mineW_length ops)
      go_wp2_with fail
      have hrm : RdO wr wr.heap.size Ao (mineW ops) := by have := Reads.of_own HO.out; rw [HM.out] at this; exact this
      refine (made_any wr HM.out hrm HNS.out ((HRS.out.below HB.out).more HB.out.size) (by have := HML.out; have := HLE.out; omega)).mono ?_
      clear hrm
      rintro e w2 ⟨A', c', rfl, hod, hln, hb2⟩
      have HB2 := Lib.hid (HB.out.trans (hb2.mono HB.out.size))
      have HZ := Lib.hid HB.out.size
      have HD := Lib.hid hod
      have HLN := Lib.hid hln
      clear hod hln hb2 HB HO HRS HR HB1
      obtain ⟨g, hg⟩ : ∃ g : Dn, g = ⟨1, ⟨#[107]⟩, ⟨#[]⟩, ⟨#[]⟩, false, at_, at_ + 5, 0, ⟨#[110, 101, 118, 101, 114]⟩, true⟩ := ⟨_, rfl⟩
      obtain ⟨A9, c9, w9, hrun, ho9, -, -, hb9⟩ := append_dn w2 w.heap.size (A := A') (n := m) (c := c') (L := madeN (mineW ops) S m) HLN.out.symm (by have := own_base HD.out HZ.out; rw [HLN.out] at this; exact this) g (by have := HML.out; have := HLE.out; omega) HB2.out.size
      have hdead := wrong_dead (mineW ops) S g (fun o ho => (mineW_mem ho).2.2) m (by rw [hg]) (by rw [hg]; show 0 ≤ at_ + 5; omega) (by rw [hg]) (by rw [hg]) (by rw [hg]; rfl) (by rw [hg]; exact fun h => by simp [neverB] at h) (Hd := headsN (madeN (mineW ops) S m ++ [g]) (madeN (mineW ops) S m ++ [g]).length)
      have HO9 := Lib.hid ho9
      have HB9 := Lib.hid (HB2.out.trans hb9)
      have HL9 := Lib.hid (show m + 1 = (madeN (mineW ops) S m ++ [g]).length from by rw [List.length_append, HLN.out]; rfl)
      obtain ⟨L9, hL9⟩ : ∃ L, L = madeN (mineW ops) S m ++ [g] := ⟨_, rfl⟩
      rw [← hL9] at HO9 HL9 hdead
      have HDE := Lib.hid hdead
      clear ho9 hb9 hL9 hdead
      subst hg
      simp only [] at hrun
      have e1 : IntKind.i64.wrap at_ = at_ := wrap_small _ (by omega) (by omega)
      have e2 : IntKind.i64.wrap (at_ + 5) = at_ + 5 := wrap_small _ (by omega) (by omega)
      go_wp2_with (first | (at_builtin; (try simp only [e1, e2]); refine wpList_append_run rfl rfl rfl rfl hrun ?_; clear hrun) | (rw [store_cx]; go_simp))
      have hr9 : RdD w9 w9.heap.size A9 L9 := by have := Reads.of_own HO9.out; rw [HL9.out] at this; exact this
      refine (linear_any w9 (n := m + 1) (L := L9) HL9.out hr9 (by have := HML.out; have := HLE.out; omega)).mono ?_
      rintro e w10 ⟨b, rfl, ht, hf, hb10⟩
      have hbf : b = false := by
        cases b
        · rfl
        · exact absurd (ht rfl) HDE.out
      subst hbf
      have HB10 := Lib.hid (HB9.out.trans (hb10.mono HB9.out.size))
      clear ht hf hb10 hr9
      go_wp2_with fail
      go_ret
      exact ⟨rfl, HB10.out⟩
end Go.Proofs.Ytabjkmennijaeaa.hs

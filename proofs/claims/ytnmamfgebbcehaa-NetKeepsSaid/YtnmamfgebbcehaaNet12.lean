/- slices.DeleteFunc of packets with Cut's test; what net's Cut answers. -/
import Derived.Test.YtnmamfgebbcehaaNet11
namespace Go.Proofs.Ytnmamfgebbcehaa.pk
open Go.RowKit Go.Proofs.Ytnmamfgebbcehaa.lib Go.Proofs.Ytnmamfgebbcehaa.byt
set_option linter.unusedVariables false

theorem cutL_len (x : Int) (P : List Pk) : (cutL x P).length ≤ P.length := List.length_filter_le _ _
theorem cutL_none (x : Int) (P : List Pk) (h : ¬ firstTo P x < P.length) : cutL x P = P := by
  unfold cutL
  rw [List.filter_eq_self]
  intro p hp
  obtain ⟨j, hj, rfl⟩ := List.getElem_of_mem hp
  have := firstTo_no P x j (by omega) hj
  simpa using this
theorem OwnPN.upd {w w' : World} {B : Nat} {A : Option Addr} {c x : Nat} {P : List Pk} (h : OwnPN w B A c P x) (hb : Below w.heap.size w w') : OwnPN w' B A c P x := h.below hb (Nat.le_refl _)

set_option maxHeartbeats 4000000 in
theorem deleteTo_any (w : World) {B n c y h : Nat} {A : Option Addr} {P : List Pk} (x : Int) (hn : n = P.length) (ho : OwnPN w B A c P y) (hs : P.length ≤ 1099511627770) (hh : w.cell? ⟨h, 0, none⟩ = some (.int .i64 x)) (hhB : h < B) (hBw : B ≤ w.heap.size) :
    Calls Try.prog 26 #[.slice A n c, (.func (.func 27) #[] #[.pointer (some ⟨h, 0, none⟩)])] w fun e w' => ∃ n', e = .returned (.slice A n' c) ∧ n' = (cutL x P).length ∧ OwnPN w' B A c (cutL x P) y ∧ Upd w w' A 0 A := by
  have hns : n ≤ 1099511627770 := by omega
  obtain ⟨f, hf⟩ : ∃ f, f = firstTo P x := ⟨_, rfl⟩
  obtain ⟨z, hz⟩ : ∃ z, z = atOf f n := ⟨_, rfl⟩
  have hI := indexTo_any w (n := n) (c := c) x h hn ho.own.rd (Nat.le_refl _) hs hh f hf z hz
  have HI := Lib.hid hI
  by_cases hfn : f < n
  case neg =>
    have hz1 : z = -1 := by rw [hz, atOf, if_neg hfn]
    subst hz1
    have hcl := cutL_none x P (by rw [← hf, ← hn]; exact hfn)
    have HCL := Lib.hid hcl
    have HN := Lib.hid hn
    have HO := Lib.hid ho
    have hAl : ∀ ad, A = some ad → ad.block < w.heap.size := fun ad e => by obtain ⟨H, h1, _⟩ := ho; exact (own_row h1 (by rw [e]; rfl)).2
    have HAL := Lib.hid hAl
    clear hI hn hf hz ho hcl hs hAl
    go_enter Try.func26, Try.ntmps26
    go_wp2_with fail
    refine (HI.out).mono ?_
    rintro e w1 ⟨rfl, hb1⟩
    go_wp2_with fail
    go_ret
    exact ⟨n, rfl, by rw [HCL.out]; exact HN.out, by rw [HCL.out]; exact HO.out.upd hb1, Upd.of_below hb1 HAL.out⟩
  case pos =>
  have hz1 : z = (f : Int) := by rw [hz, atOf, if_pos hfn]
  subst hz1
  obtain ⟨H, h1, h2, h0, h3⟩ := ho
  rw [← hn] at h1
  rcases id h1.2 with ⟨e5, hz0⟩ | ⟨g, cap, cur, e5, hbg, hhg, hcap, hmax, hcs, htk⟩
  · omega
  injection e5 with e5 _ e6
  subst e5 e6
  have hgl : g < w.heap.size := (Array.getElem?_eq_some_iff.1 hhg).1
  have hsl : ∀ j (hj : j < H.length), ∃ A2 m2 c2, H[j].2.2 = .slice A2 m2 c2 := fun j hj => by
    obtain ⟨_, _, ⟨A2, c2, e, _⟩, _⟩ := h3 j hj (by omega)
    exact ⟨A2, _, c2, e⟩
  have hHl : H.length = n := by omega
  have hfy : (H[f]'(by omega)).2.1 = x := by
    rw [(h3 f (by omega) (by omega)).2.1]
    simp only [hf]
    exact firstTo_yes P x (by rw [← hf, ← hn]; exact hfn)
  have hst : DInv w w B g n c H x (f + 1) f := by
    refine DInv.skip ⟨H, h1, ?_, rfl, Upd.refl _ _ _⟩ hHl hfn hfy
    symm
    rw [List.filter_eq_self]
    intro p hp
    obtain ⟨j, hj, rfl⟩ := List.getElem_of_mem hp
    rw [List.length_take] at hj
    rw [List.getElem_take]
    have := firstTo_no P x j (by rw [← hf]; omega) (by omega)
    rw [← (h3 j (by omega) (by omega)).2.1] at this
    simpa [keepH] using this
  have hfin : ∀ (W : World) (i : Nat), W.ownsRow B 29 3 (.slice (some ⟨g, 0, none⟩) i c) i (pkV (H.filter (keepH x))) → Upd w W (some ⟨g, 0, none⟩) 0 (some ⟨g, 0, none⟩) → i = (cutL x P).length ∧ OwnPN W B (some ⟨g, 0, none⟩) c (cutL x P) y := fun W i hW hu => by
    have hr := filter_rel (fun (a : Hd) (b : Pk) => a.1 = b.1 ∧ a.2.1 = b.2.1 ∧ ElemB w B (some ⟨g, 0, none⟩) a.2.2 b.2.2 ∧ a.2.2.ownBlock ≠ some y) (keepH x) (fun p => p.2.1 != x) (fun a b hab => by unfold keepH; rw [hab.2.1]) H P h2 h3
    have hlen := len_of_own hW
    have hi : i = (cutL x P).length := by rw [← hlen]; exact hr.1
    refine ⟨hi, H.filter (keepH x), by rw [← hi]; exact hW, hr.1, h0, fun k g1 g2 => ?_⟩
    obtain ⟨a, b, d, d2⟩ := hr.2 k g1 g2
    exact ⟨a, b, d.upd hu, d2⟩
  have HST := Lib.hid hst
  have HFIN := Lib.hid hfin
  have HSL := Lib.hid hsl
  have HHL := Lib.hid hHl
  have hfc : f + 1 ≤ n := hfn
  have qf : ((f : Int) == -1) = false := by simp only [beq_eq_false_iff_ne, ne_eq]; omega
  clear hI hn hf hz hs h1 h2 h0 h3 hst hfin hsl hHl hfy hhg hcs htk hmax
  go_enter Try.func26, Try.ntmps26
  go_wp2_with fail
  refine (HI.out).mono ?_
  rintro e w1 ⟨rfl, hb1⟩
  have HS1 := Lib.hid (HST.out.below hb1 hgl)
  clear HI HST hb1
  go_wp2_with fail
  go_loopw [5, 6] (fun vi vj wr => ∃ i j : Nat, i < j ∧ j ≤ n ∧ vi = .int .i64 i ∧ vj = .int .i64 j ∧ Hid (DInv w wr B g n c H x j i)) (fun _ vj _ => n - (intOf vj).toNat)
  case atStart => exact ⟨f, f + 1, by omega, hfc, rfl, by go_num, HS1⟩
  case round =>
    obtain ⟨i, j, hij, hj, rfl, rfl, HI⟩ := hrel
    have hin : i < n := by omega
    by_cases hlt : j < n
    · obtain ⟨r1, r2, r3⟩ := HI.out.row HHL.out hlt
      obtain ⟨Ab, m, cb, e3⟩ := HSL.out j (by rw [HHL.out]; exact hlt)
      obtain ⟨p1, hp1⟩ : ∃ p, p = (H[j]'(by rw [HHL.out]; exact hlt)).1 := ⟨_, rfl⟩
      obtain ⟨p2, hp2⟩ : ∃ p, p = (H[j]'(by rw [HHL.out]; exact hlt)).2.1 := ⟨_, rfl⟩
      have hp : H[j]'(by rw [HHL.out]; exact hlt) = (p1, p2, .slice Ab m cb) := by rw [hp1, hp2, ← e3]
      rw [← hp1] at r1
      rw [← hp2] at r2
      rw [e3] at r3
      have HP := Lib.hid hp
      clear e3 hp1 hp hp2
      have hbV : Below wr.heap.size wr (wr.alloc (.cells #[.int .i64 p1, .int .i64 p2, .slice Ab m cb] 29)) := (Below.refl _ _).alloc (Nat.le_refl _) _
      have hgr : w.heap.size ≤ wr.heap.size := by obtain ⟨_, _, _, _, h4⟩ := HI.out; exact h4.size
      have hhr : wr.cell? ⟨h, 0, none⟩ = some (.int .i64 x) := by
        obtain ⟨_, _, _, _, h4⟩ := HI.out
        exact h4.grown.cell hh (by simp only [Option.map_some, ne_eq, Option.some.injEq]; omega)
      have HVI := Lib.hid (HI.out.below hbV hgl)
      have hhV := keepc hhr hbV
      have v1 : (wr.alloc (.cells #[.int .i64 p1, .int .i64 p2, .slice Ab m cb] 29)).cell? ⟨wr.heap.size, 0, none⟩ = some (.int .i64 p1) := by simp
      have v2 : (wr.alloc (.cells #[.int .i64 p1, .int .i64 p2, .slice Ab m cb] 29)).cell? ⟨wr.heap.size, 1, none⟩ = some (.int .i64 p2) := by simp
      have v3 : (wr.alloc (.cells #[.int .i64 p1, .int .i64 p2, .slice Ab m cb] 29)).cell? ⟨wr.heap.size, 2, none⟩ = some (.slice Ab m cb) := by simp
      have hsV : wr.heap.size < (wr.alloc (.cells #[.int .i64 p1, .int .i64 p2, .slice Ab m cb] 29)).heap.size := by rw [World.size_alloc]; omega
      have HT := Lib.hid (cutTest_any (wr.alloc (.cells #[.int .i64 p1, .int .i64 p2, .slice Ab m cb] 29)) p1 p2 Ab m cb h x hhV)
      clear hhr
      by_cases he : p2 = x
      · have HNX := Lib.hid (HVI.out.skip HHL.out hlt (by rw [HP.out]; exact he))
        subst he
        go_wp2_with (go_at_call 27; refine (HT.out).mono ?_; rintro e wx ⟨rfl, hbx⟩; simp only [beq_self_eq_true])
        go_roundw
        case rel => exact ⟨i, j + 1, by omega, by omega, rfl, by go_num, Lib.hid (HNX.out.below (by assumption) hgl)⟩
        case measure => simp [intOf] <;> omega
      · have q1 : (p2 == x) = false := by simp only [beq_eq_false_iff_ne, ne_eq]; exact he
        have hnp : (H[j]'(by rw [HHL.out]; exact hlt)).2.1 ≠ x := by rw [HP.out]; exact he
        have HNP := Lib.hid hnp
        clear hnp
        go_wp2_with fail
        generalize hV : wr.alloc (.cells #[.int .i64 p1, .int .i64 p2, .slice Ab m cb] 29) = V at HT HVI v1 v2 v3 hsV ⊢
        refine (HT.out).mono ?_
        rintro e wx ⟨rfl, hbx⟩
        rw [q1]
        have HXI := Lib.hid (HVI.out.below hbx hgl)
        replace v1 := keepc v1 hbx
        replace v2 := keepc v2 hbx
        replace v3 := keepc v3 hbx
        obtain ⟨u0, u1, u2, s0, s1, s2, sf⟩ := HXI.out.there hin
        have HNX := Lib.hid (HXI.out.store HHL.out hlt hij HNP.out p1 p2 (.slice Ab m cb) HP.out hgl)
        clear HT HVI HXI hV hbV r1 r2 r3 hhV hbx
        go_wp2_with fail
        go_roundw
        case rel => exact ⟨i + 1, j + 1, by omega, by omega, by go_num, by go_num, HNX⟩
        case measure => simp [intOf] <;> omega
    · obtain rfl : n = j := by omega
      obtain ⟨w', hrun, hown, hupd⟩ := HI.out.clear HHL.out hin hgl (c - i) 0
      obtain ⟨hlen, hres⟩ := HFIN.out w' i hown hupd
      have HL := Lib.hid hlen
      have HR := Lib.hid hres
      have HU := Lib.hid hupd
      have HRUN := Lib.hid hrun
      have hci : ¬ c = i := by omega
      have hi1 : (i : Int) ≤ n := by omega
      have hi2 : (i : Int) ≤ c := by omega
      have hi3 : (n : Int) ≤ c := by omega
      have hi4 : (0 : Int) ≤ i := by omega
      clear hown hupd hlen hres hrun HFIN
      go_wp2_with fail
      rw [HRUN.out]
      go_wp2_with fail
      go_ret
      exact ⟨i, rfl, HL.out, HR.out, HU.out⟩
end Go.Proofs.Ytnmamfgebbcehaa.pk

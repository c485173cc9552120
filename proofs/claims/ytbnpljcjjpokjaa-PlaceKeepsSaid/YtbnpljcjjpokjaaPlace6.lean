/- What place's Chain answers. -/
import Derived.Test.YtbnpljcjjpokjaaPlace5
namespace Go.Proofs.Ytbnpljcjjpokjaa.placeWalk
open Go.RowKit Go.Proofs.Ytbnpljcjjpokjaa.lib Go.Proofs.Ytbnpljcjjpokjaa.mem Go.Proofs.Ytbnpljcjjpokjaa.viewWalk

theorem chain_take_bound (s : Nat) (K U : List (Int × Int)) (cnt : Int) (k : Nat) (hK : K.length ≤ 16) (hU : U.length ≤ 16) : (((turnM s U).take k).foldl (stepC K cnt) K).length ≤ 32 := by
  have h1 := (foldl_length K cnt ((turnM s U).take k) K).2
  have h2 := turnM_length s U
  rw [List.length_take] at h1
  omega

theorem stepC_yes (K : List (Int × Int)) (cnt : Int) (out : List (Int × Int)) (m : Int × Int) (h1 : (out.length : Int) < cnt) (h2 : hasN K m.1 = false) : stepC K cnt out m = out ++ [m] := if_pos ⟨h1, h2⟩
theorem stepC_used (K : List (Int × Int)) (cnt : Int) (out : List (Int × Int)) (m : Int × Int) (h2 : hasN K m.1 = true) : stepC K cnt out m = out := if_neg (by rw [h2]; simp)
theorem stepC_full (K : List (Int × Int)) (cnt : Int) (out : List (Int × Int)) (m : Int × Int) (h1 : ¬ (out.length : Int) < cnt) : stepC K cnt out m = out := if_neg fun h => h1 h.1
/-- 'append(out, m)', and what is as it was. -/
theorem append_oneU (w : World) (B : Nat) {A : Option Addr} {n c : Nat} {L : List (Int × Int)} (hn : n = L.length) (hown : OwnM w B A c L) (m : Int × Int) (hs : L.length ≤ 1099511627775) (hB : B ≤ w.heap.size) :
    ∃ A' c' w', (Builtin.append_ #[22, 22] 22 #[.slice A n c, .slice (some ⟨w.heap.size, 0, none⟩) 1 1]).run Try.prog (w.alloc (.cells #[.int .i64 m.1, .int .i64 m.2] 26)) = .ok (.slice A' (n + 1) c') w' ∧ OwnM w' B A' c' (L ++ [m]) ∧ Below B w w' ∧
      (∀ b, b < w.heap.size → A.map (·.block) ≠ some b → w'.heap[b]? = w.heap[b]?) ∧ (A' = A ∨ ∃ g, A' = some ⟨g, 0, none⟩ ∧ w.heap.size ≤ g) := by
  obtain ⟨i0, hi, hz0, hz1, hz2⟩ := info_parts info_mem
  subst hn
  have hr := Reads.new_row w 2 1 #[.int .i64 m.1, .int .i64 m.2] 26 (memV [m]) rfl rfl
  obtain ⟨A', c', w', h1, h2, h3⟩ := append_law (P := Try.prog) (w.alloc (.cells #[.int .i64 m.1, .int .i64 m.2] 26)) B 22 22 22 26 i0 _ 2 16 Try.underlying22 hi hz0 hz1 hz2 rfl (by decide) (World.ownsRow.alloc hown _) (Src.of_reads Try.underlying22 (c := 1) hr (memV_one _)) (by unfold maxLen; omega) (by omega) (by simp; omega)
  refine ⟨A', c', w', h1, ?_, ((Below.refl _ _).alloc hB _).trans (h3.below_own (World.ownsRow.alloc hown _) (by simp; omega)), fun b hb hne => ?_, ?_⟩
  · rw [← memV_append] at h2
    have e : (L ++ [m]).length = L.length + 1 := by simp
    rw [← e] at h2
    exact h2
  · rw [h3.grown.block b (by simp; omega) (Ne.symm hne)]
    exact Below.heap_alloc w _ b hb
  · rcases h3.lies with e | ⟨g, e, hg⟩
    · exact .inl e
    · exact .inr ⟨g, e, by simp at hg; omega⟩
theorem Reads.keep_block {w w' : World} {B size n : Nat} {A : Option Addr} {xs : List Value} (h : Reads w B size A n xs) (hk : ∀ ad, A = some ad → w'.heap[ad.block]? = w.heap[ad.block]?) : Reads w' B size A n xs :=
  ⟨h.1, fun hn => by
    obtain ⟨ad, e, hb, hc⟩ := h.2 hn
    refine ⟨ad, e, hb, fun j u hu => ?_⟩
    rw [World.cell?_of_block (w := w) (by rw [block_of_add]; exact hk ad e)]
    exact hc j u hu⟩
theorem own_row {w : World} {B : Nat} {e : TypeId} {size n c : Nat} {A : Option Addr} {xs : List Value} (h : w.ownsRow B e size (.slice A n c) n xs) {b : Nat} (hb : A.map (·.block) = some b) : B ≤ b ∧ b < w.heap.size := by
  cases A with
  | none => simp at hb
  | some a =>
    simp only [Option.map_some, Option.some.injEq] at hb
    subst hb
    exact h.lt a.block rfl
/-- The row A is not that of T. -/
def Apart (A T : Option Addr) (B : Nat) : Prop := ∀ ad, T = some ad → ad.block < B ∧ A.map (·.block) ≠ some ad.block

set_option maxHeartbeats 2000000 in
theorem chain_any (w : World) {B : Nat} {A A2 : Option Addr} {n n2 c c2 : Nat} {K U : List (Int × Int)} (s : Nat) (cnt : Int) (hn : n = K.length) (hr : RdM w B A K) (hn2 : n2 = U.length) (hr2 : RdM w B A2 U) (hB : B ≤ w.heap.size) (hK : K.length ≤ 16) (hU : U.length ≤ 16) :
    Calls Try.prog 25 #[.int .i64 s, .slice A n c, .slice A2 n2 c2, .int .i64 cnt] w fun e w' => ∃ A' c' m', e = .returned (.slice A' m' c') ∧ m' = (chainM s K U cnt).length ∧ OwnM w' w.heap.size A' c' (chainM s K U cnt) ∧ Below w.heap.size w w' := by
  have HN := Lib.hid hn
  have HN2 := Lib.hid hn2
  have HK := Lib.hid hK
  have HU := Lib.hid hU
  clear hn hn2 hK hU
  go_enter Try.func25, Try.ntmps25
  go_wp2_with fail
  refine (clone_any w HN.out hr hB (by have := HK.out; omega)).mono ?_
  rintro e w1 ⟨A1, c1, rfl, ho1, hb1⟩
  have HO1 := Lib.hid ho1
  clear ho1
  go_wp2_with fail
  refine (turn_any w1 s HN2.out (hr2.below (hb1.mono hB)) (Nat.le_trans hB hb1.size) HU.out).mono ?_
  rintro e w2 ⟨A2', c2', m2, rfl, hm2, ho2, hb2⟩
  have hbw2 : Below w.heap.size w w2 := hb1.trans (hb2.mono hb1.size)
  have hT : RdM w2 w2.heap.size A2' (turnM s U) := ho2.rd
  have hst : n = (((turnM s U).take 0).foldl (stepC K cnt) K).length ∧ OwnM w2 w.heap.size A1 c1 (((turnM s U).take 0).foldl (stepC K cnt) K) := by
    rw [List.take_zero]
    exact ⟨HN.out, own_below HO1.out hb2 (Nat.le_refl _)⟩
  have hap0 : Apart A1 A2' w2.heap.size := fun ad e => by
    subst e
    have h2 := ho2.lt ad.block rfl
    refine ⟨h2.2, fun h => ?_⟩
    have h1 := own_row HO1.out h
    omega
  have HAP := Lib.hid hap0
  clear hap0
  have hm16 : m2 ≤ 16 := by rw [hm2, turnM_length]; exact HU.out
  have HM2 := Lib.hid hm2
  have HST := Lib.hid hst
  have HT := Lib.hid hT
  have hwb := hbw2.size
  clear hm2 ho2 hst HO1 hT
  go_wp2_with fail
  go_loopw [9, 18] (fun v i wr => ∃ (k : Nat) (A' : Option Addr) (c' m' : Nat), k ≤ m2 ∧ i = .int .i64 k ∧ v = .slice A' m' c' ∧ m' = (((turnM s U).take k).foldl (stepC K cnt) K).length ∧ OwnM wr w.heap.size A' c' (((turnM s U).take k).foldl (stepC K cnt) K) ∧ Below w.heap.size w wr ∧ RdM wr w2.heap.size A2' (turnM s U) ∧ Apart A' A2' wr.heap.size ∧ w2.heap.size ≤ wr.heap.size) (fun _ i _ => m2 - (intOf i).toNat)
  case atStart => exact ⟨0, A1, c1, n, Nat.zero_le _, rfl, rfl, HST.out.1, HST.out.2, hbw2, HT.out, HAP.out, Nat.le_refl _⟩
  case round =>
    obtain ⟨k, A', c', m', hk, rfl, rfl, hm', ho, hb, hT, hap, hw2⟩ := hrel
    have hml : m' ≤ 32 := by rw [hm']; exact chain_take_bound s K U cnt k HK.out HU.out
    by_cases hlt : k < m2
    · have h1 : k < (turnM s U).length := by rw [← HM2.out]; exact hlt
      obtain ⟨ad, eA, -, hc1, hc2⟩ := RdM.at_ hT h1
      obtain ⟨y1, y2, hy⟩ : ∃ y1 y2, (turnM s U)[k] = (y1, y2) := ⟨_, _, rfl⟩
      rw [hy] at hc1 hc2
      have hstep := foldl_succ (stepC K cnt) K (turnM s U) k h1
      rw [hy] at hstep
      have hbA : Below w.heap.size w (wr.alloc (.cells #[.int .i64 y1, .int .i64 y2] 26)) := hb.alloc hb.size _
      have hTA := Reads.alloc hT hw2 (.cells #[.int .i64 y1, .int .i64 y2] 26)
      have hoA : OwnM (wr.alloc (.cells #[.int .i64 y1, .int .i64 y2] 26)) w.heap.size A' c' (((turnM s U).take k).foldl (stepC K cnt) K) := World.ownsRow.alloc ho _
      have HM := Lib.hid hm'
      have HAP2 := Lib.hid hap
      clear hap
      subst eA
      by_cases hfull : cnt ≤ (m' : Int)
      · have hend : ((turnM s U).take k).foldl (stepC K cnt) K = chainM s K U cnt := foldl_full_take _ _ _ _ _ (by rw [← hm']; exact hfull)
        rw [hend] at hm' hoA
        have HM2 := Lib.hid hm'
        have HO2 := Lib.hid hoA
        clear hend hstep hm' hoA ho hy hT hTA
        go_wp2_with fail
        go_ret
        exact ⟨A', c', m', rfl, HM2.out, HO2.out, hbA⟩
      · have hcell : Cell2 (wr.alloc (.cells #[.int .i64 y1, .int .i64 y2] 26)) wr.heap.size (y1, y2) := Cell2.new wr (y1, y2) _
        have hsz : (wr.alloc (.cells #[.int .i64 y1, .int .i64 y2] 26)).heap.size = wr.heap.size + 1 := by simp
        have HOA := Lib.hid hoA
        have HSTEP := Lib.hid hstep
        clear hstep hoA hm' ho hy hT
        go_wp2_with fail
        generalize wr.alloc (.cells #[.int .i64 y1, .int .i64 y2] 26) = V at hcell hsz HOA hbA hTA ⊢
        refine (contains_any V y1 wr.heap.size HN.out (hr.below (hbA.mono hB)) (Nat.le_trans hB hbA.size) (by have := HK.out; omega) hcell.1).mono ?_
        rintro e w3 ⟨rfl, hb3⟩
        have z3 := hb3.size
        obtain ⟨q1, q2⟩ := hcell.below hb3 (by omega)
        have ho3 : OwnM w3 w.heap.size A' c' (((turnM s U).take k).foldl (stepC K cnt) K) := own_below HOA.out hb3 (Nat.le_refl _)
        have hbw3 : Below w.heap.size w w3 := hbA.trans (hb3.mono hbA.size)
        have hT3 : RdM w3 w2.heap.size (some ad) (turnM s U) := hTA.below (hb3.mono (by omega))
        obtain ⟨t, ht⟩ : ∃ t, t = hasN K y1 := ⟨_, rfl⟩
        rw [← ht]
        clear hcell hb3 HOA hTA
        cases t
        · have hs2 := HSTEP.out
          rw [stepC_yes K cnt _ (y1, y2) (by rw [← HM.out]; omega) ht.symm] at hs2
          obtain ⟨A4, c4, w4, hrun, ho4, hb4, hk4, hl4⟩ := append_oneU w3 w.heap.size HM.out ho3 (y1, y2) (by rw [← HM.out]; omega) hbw3.size
          rw [← hs2] at ho4
          have hm4 : m' + 1 = (((turnM s U).take (k + 1)).foldl (stepC K cnt) K).length := by rw [hs2, List.length_append, ← HM.out]; rfl
          have hadb := HAP2.out ad rfl
          have hT4 : RdM w4 w2.heap.size (some ad) (turnM s U) := Reads.keep_block hT3 fun a e => by
            injection e with e
            subst e
            exact hk4 _ (by omega) hadb.2
          have hap4 : Apart A4 (some ad) w4.heap.size := fun a e => by
            injection e with e
            subst e
            refine ⟨by have := hb4.size; omega, ?_⟩
            rcases hl4 with e | ⟨g, e, hg⟩
            · rw [e]; exact hadb.2
            · rw [e]
              simp only [Option.map_some, ne_eq, Option.some.injEq]
              omega
          have hw4 : w2.heap.size ≤ w4.heap.size := by have := hb4.size; omega
          have HM4 := Lib.hid hm4
          have HO4 := Lib.hid ho4
          have HT4 := Lib.hid hT4
          have HA4 := Lib.hid hap4
          clear hs2 hm4 ho4 hT4 hap4 hk4 hl4 hT3 ho3 ht hadb
          go_wp2_with (at_builtin; refine wpList_append_run rfl rfl rfl rfl hrun ?_; clear hrun)
          go_roundw
          case rel => exact ⟨k + 1, A4, c4, m' + 1, by omega, by go_num, rfl, HM4.out, HO4.out, hbw3.trans hb4, HT4.out, HA4.out, hw4⟩
          case measure => simp [intOf] <;> omega
        · have hs2 := HSTEP.out
          rw [stepC_used K cnt _ (y1, y2) ht.symm] at hs2
          have hap3 : Apart A' (some ad) w3.heap.size := fun a e => ⟨by have := (HAP2.out a e).1; omega, (HAP2.out a e).2⟩
          have HO3 := Lib.hid ho3
          have HS2 := Lib.hid hs2
          have HT3 := Lib.hid hT3
          have HA3 := Lib.hid hap3
          clear hs2 ho3 hT3 hap3 ht
          go_wp2_with fail
          go_roundw
          case rel => exact ⟨k + 1, A', c', m', by omega, by go_num, rfl, by rw [HS2.out]; exact HM.out, by rw [HS2.out]; exact HO3.out, hbw3, HT3.out, HA3.out, by omega⟩
          case measure => simp [intOf] <;> omega
    · have hkn : k = m2 := by omega
      have e : ((turnM s U).take k).foldl (stepC K cnt) K = chainM s K U cnt := by
        rw [List.take_of_length_le (by rw [hkn, HM2.out]; exact Nat.le_refl _)]
        rfl
      rw [e] at hm' ho
      have HM := Lib.hid hm'
      have HO := Lib.hid ho
      clear hm' ho e hT hap
      go_wp2_with fail
      go_ret
      exact ⟨A', c', m', rfl, HM.out, HO.out, hb⟩
end Go.Proofs.Ytbnpljcjjpokjaa.placeWalk

/- What the document's Chain answers. -/
import Derived.Test.YtbnpljcjjpokjaaPlace6
namespace Go.Proofs.Ytbnpljcjjpokjaa.placeWalk
open Go.RowKit Go.Proofs.Ytbnpljcjjpokjaa.lib Go.Proofs.Ytbnpljcjjpokjaa.mem Go.Proofs.Ytbnpljcjjpokjaa.viewWalk

set_option maxRecDepth 4000 in
set_option maxHeartbeats 2000000 in
theorem refChain_any (w : World) {B : Nat} {A A2 : Option Addr} {n n2 c c2 : Nat} {K U : List (Int × Int)} (s : Nat) (cnt : Int) (hsb : s ≤ 9223372036854775807) (hn : n = K.length) (hr : RdM w B A K) (hn2 : n2 = U.length) (hc2 : n2 ≤ c2) (hr2 : RdM w B A2 U) (hB : B ≤ w.heap.size) (hK : K.length ≤ 16) (hU : U.length ≤ 16) :
    Calls Try.prog 26 #[.int .i64 s, .slice A n c, .slice A2 n2 c2, .int .i64 cnt] w fun e w' => ∃ A' c' m', e = .returned (.slice A' m' c') ∧ m' = (chainM s K U cnt).length ∧ OwnM w' w.heap.size A' c' (chainM s K U cnt) ∧ Below w.heap.size w w' := by
  have HN := Lib.hid hn
  have HN2 := Lib.hid hn2
  have HK := Lib.hid hK
  have HU := Lib.hid hU
  have hn16 : n ≤ 16 := by omega
  have hn216 : n2 ≤ 16 := by omega
  clear hn hn2 hK hU
  obtain ⟨A1, c1, w1, hrun1, ho1, hb1⟩ := append_mem w w.heap.size (n := 0) (c := 0) (L := []) rfl (ownM_nil _ _) HN.out (c2 := c) hr (by have := HK.out; simp; omega) (Nat.le_refl _)
  rw [List.nil_append] at ho1
  rw [Nat.zero_add] at hrun1
  by_cases h0 : n2 = 0
  · have hU0 : U = [] := List.eq_nil_of_length_eq_zero (by rw [← HN2.out]; exact h0)
    have hch : chainM s K U cnt = K := by rw [hU0]; unfold chainM turnM; simp
    have HCH := Lib.hid hch
    have HO1 := Lib.hid ho1
    clear hU0 hch ho1 hsb
    subst h0
    go_enter Try.func26, Try.ntmps26
    go_wp2_with (at_builtin; refine wpList_append_run rfl rfl rfl rfl hrun1 ?_; clear hrun1)
    go_ret
    exact ⟨A1, c1, n, rfl, by rw [HCH.out]; exact HN.out, by rw [HCH.out]; exact HO1.out, hb1⟩
  · obtain ⟨f, hf⟩ : ∃ f, f = s % n2 := ⟨_, rfl⟩
    obtain ⟨d, hd⟩ : ∃ d, d = s / n2 := ⟨_, rfl⟩
    obtain ⟨p, hp⟩ : ∃ p, p = d * n2 := ⟨_, rfl⟩
    have hsplit : s = p + f := by rw [hp, hd, hf, Nat.mul_comm]; exact (Nat.div_add_mod s n2).symm
    have hfn : f < n2 := by rw [hf]; exact Nat.mod_lt _ (by omega)
    have hds : d ≤ s := by rw [hd]; exact Nat.div_le_self _ _
    have t1 : (s : Int).tdiv n2 = d := by rw [hd]; rfl
    have t1w : IntKind.i64.wrap (d : Int) = d := IntWalk.i64_in _ (by omega)
    have tp : (d : Int) * n2 = p := by rw [hp]; exact (Int.natCast_mul d n2).symm
    have tpw : IntKind.i64.wrap (p : Int) = p := IntWalk.i64_in _ (by omega)
    have tf : (s : Int) - p = f := by omega
    have tfw : IntKind.i64.wrap (f : Int) = f := IntWalk.i64_in _ (by omega)
    have tff : ((f : Int)).toNat = f := rfl
    have hturn : turnM s U = U.drop f ++ U.take f := by unfold turnM; rw [hf, HN2.out]
    have hr21 : RdM w1 B A2 U := hr2.below (hb1.mono hB)
    obtain ⟨ad2, eA, -, -, -⟩ := RdM.at_ hr21 (k := 0) (by have := HN2.out; omega)
    subst eA
    obtain ⟨A3, c3, w3, hrun3, ho3, hb3⟩ := append_mem w1 w1.heap.size (n := 0) (c := 0) (L := []) rfl (ownM_nil _ _) (m := n2 - f) (c2 := c2 - f) (M := U.drop f) (by rw [List.length_drop, ← HN2.out]) (RdM.drop_if hr21 f c2 (by have := HN2.out; omega) (by rw [← HN2.out]; exact hc2)) (by rw [List.length_drop]; have := HU.out; simp; omega) (Nat.le_refl _)
    rw [List.nil_append] at ho3
    rw [Nat.zero_add, if_neg (show ¬ c2 = f by omega)] at hrun3
    have hb13 : Below w.heap.size w w3 := hb1.trans (hb3.mono hb1.size)
    obtain ⟨A4, c4, w4, hrun4, ho4, hb4⟩ := append_mem w3 w1.heap.size (n := n2 - f) (c := c3) (by rw [List.length_drop, ← HN2.out]) ho3 (m := f) (c2 := c2) (M := U.take f) (by rw [List.length_take]; have := HN2.out; omega) (RdM.take (hr2.below (hb13.mono hB)) f (by have := HN2.out; omega)) (by rw [List.length_drop, List.length_take]; have := HU.out; omega) hb3.size
    rw [← hturn] at ho4
    have hnf : n2 - f + f = n2 := by omega
    rw [hnf] at hrun4
    have hb14 : Below w.heap.size w w4 := hb13.trans (hb4.mono hb1.size)
    have hT : RdM w4 w4.heap.size A4 (turnM s U) := ho4.rd
    have hst : n = (((turnM s U).take 0).foldl (stepC K cnt) K).length ∧ OwnM w4 w.heap.size A1 c1 (((turnM s U).take 0).foldl (stepC K cnt) K) := by
      rw [List.take_zero]
      exact ⟨HN.out, own_below ho1 (hb3.trans hb4) (Nat.le_refl _)⟩
    have hap0 : Apart A1 A4 w4.heap.size := fun a e => by
      subst e
      have h2 := ho4.lt a.block rfl
      refine ⟨h2.2, fun h => ?_⟩
      have h1 := own_row ho1 h
      omega
    have hm2 : n2 = (turnM s U).length := by rw [turnM_length]; exact HN2.out
    have HM2 := Lib.hid hm2
    have HAP := Lib.hid hap0
    have HST := Lib.hid hst
    have HT := Lib.hid hT
    have hsz1 := hb1.size
    have hc2f : (f : Int) ≤ c2 := by omega
    have hf0 : (0 : Int) ≤ f := by omega
    have hfn2 : (f : Int) ≤ n2 := by omega
    have qn0 : ((n2 : Int) == 0) = false := by simp only [beq_eq_false_iff_ne, ne_eq]; omega
    have qn1 : ¬ (n2 : Int) = 0 := by omega
    clear hm2 hap0 hst hT ho4 ho3 ho1 hturn hsplit hp hd hf hr21 hnf hsb hds
    go_enter Try.func26, Try.ntmps26
    go_wp2_with (at_builtin; first | (refine wpList_append_run rfl rfl rfl rfl hrun1 ?_; clear hrun1) | (refine wpList_append_run rfl rfl rfl rfl hrun3 ?_; clear hrun3) | (refine wpList_append_run rfl rfl rfl rfl hrun4 ?_; clear hrun4))
    clear t1 t1w tp tpw tf tfw tff hc2f hf0 hfn2 qn0 qn1 hfn
    go_loopw [9, 12] (fun v i wr => ∃ (k : Nat) (A' : Option Addr) (c' m' : Nat), k ≤ n2 ∧ i = .int .i64 k ∧ v = .slice A' m' c' ∧ m' = (((turnM s U).take k).foldl (stepC K cnt) K).length ∧ OwnM wr w.heap.size A' c' (((turnM s U).take k).foldl (stepC K cnt) K) ∧ Below w.heap.size w wr ∧ RdM wr w4.heap.size A4 (turnM s U) ∧ Apart A' A4 wr.heap.size ∧ w4.heap.size ≤ wr.heap.size) (fun _ i _ => n2 - (intOf i).toNat)
    case atStart => exact ⟨0, A1, c1, n, Nat.zero_le _, rfl, rfl, HST.out.1, HST.out.2, hb14, HT.out, HAP.out, Nat.le_refl _⟩
    case round =>
      obtain ⟨k, A', c', m', hk, rfl, rfl, hm', ho, hb, hT, hap, hw2⟩ := hrel
      have hml : m' ≤ 32 := by rw [hm']; exact chain_take_bound s K U cnt k HK.out HU.out
      by_cases hlt : k < n2
      · have h1 : k < (turnM s U).length := by rw [← HM2.out]; exact hlt
        obtain ⟨ad, eA, -, hc1, hc2⟩ := RdM.at_ hT h1
        obtain ⟨y1, y2, hy⟩ : ∃ y1 y2, (turnM s U)[k] = (y1, y2) := ⟨_, _, rfl⟩
        rw [hy] at hc1 hc2
        have hstep := foldl_succ (stepC K cnt) K (turnM s U) k h1
        rw [hy] at hstep
        have HM := Lib.hid hm'
        have HAP2 := Lib.hid hap
        have HSTEP := Lib.hid hstep
        have HO := Lib.hid ho
        have HT2 := Lib.hid hT
        clear hap hstep hm' hy ho hT
        subst eA
        by_cases hfull : (m' : Int) < cnt
        · go_wp2_with fail
          refine (refNode_any wr y1 HN.out (hr.below (hb.mono hB)) (by have := HK.out; omega)).mono ?_
          rintro e w5 ⟨rfl, rfl⟩
          obtain ⟨t, ht⟩ : ∃ t, t = hasN K y1 := ⟨_, rfl⟩
          rw [← ht]
          cases t
          · have hs2 := HSTEP.out
            rw [stepC_yes K cnt _ (y1, y2) (by rw [← HM.out]; omega) ht.symm] at hs2
            obtain ⟨A5, c5, w5, hrun, ho4, hb4, hk4, hl4⟩ := append_oneU wr w.heap.size HM.out HO.out (y1, y2) (by rw [← HM.out]; omega) hb.size
            rw [← hs2] at ho4
            have hm4 : m' + 1 = (((turnM s U).take (k + 1)).foldl (stepC K cnt) K).length := by rw [hs2, List.length_append, ← HM.out]; rfl
            have hadb := HAP2.out ad rfl
            have hT4 : RdM w5 w4.heap.size (some ad) (turnM s U) := Reads.keep_block HT2.out fun a e => by
              injection e with e
              subst e
              exact hk4 _ (by omega) hadb.2
            have hap4 : Apart A5 (some ad) w5.heap.size := fun a e => by
              injection e with e
              subst e
              refine ⟨by have := hb4.size; omega, ?_⟩
              rcases hl4 with e | ⟨g, e, hg⟩
              · rw [e]; exact hadb.2
              · rw [e]
                simp only [Option.map_some, ne_eq, Option.some.injEq]
                omega
            have hw4 : w4.heap.size ≤ w5.heap.size := by have := hb4.size; omega
            have HM4 := Lib.hid hm4
            have HO4 := Lib.hid ho4
            have HT4 := Lib.hid hT4
            have HA4 := Lib.hid hap4
            clear hs2 hm4 ho4 hT4 hap4 hk4 hl4 ht hadb
            go_wp2_with (at_builtin; refine wpList_append_run rfl rfl rfl rfl hrun ?_; clear hrun)
            go_roundw
            case rel => exact ⟨k + 1, A5, c5, m' + 1, by omega, by go_num, rfl, HM4.out, HO4.out, hb.trans hb4, HT4.out, HA4.out, hw4⟩
            case measure => simp [intOf] <;> omega
          · have hs2 := HSTEP.out
            rw [stepC_used K cnt _ (y1, y2) ht.symm] at hs2
            have HS2 := Lib.hid hs2
            clear hs2 ht
            go_wp2_with fail
            go_roundw
            case rel => exact ⟨k + 1, A', c', m', by omega, by go_num, rfl, by rw [HS2.out]; exact HM.out, by rw [HS2.out]; exact HO.out, hb, HT2.out, HAP2.out, hw2⟩
            case measure => simp [intOf] <;> omega
        · have hs2 := HSTEP.out
          rw [stepC_full K cnt _ (y1, y2) (by rw [← HM.out]; exact hfull)] at hs2
          have HS2 := Lib.hid hs2
          clear hs2
          go_wp2_with fail
          go_roundw
          case rel => exact ⟨k + 1, A', c', m', by omega, by go_num, rfl, by rw [HS2.out]; exact HM.out, by rw [HS2.out]; exact HO.out, hb, HT2.out, HAP2.out, hw2⟩
          case measure => simp [intOf] <;> omega
      · have hkn : k = n2 := by omega
        have e : ((turnM s U).take k).foldl (stepC K cnt) K = chainM s K U cnt := by
          rw [List.take_of_length_le (by rw [hkn, HM2.out]; exact Nat.le_refl _)]
          rfl
        rw [e] at hm' ho
        have HM := Lib.hid hm'
        have HO := Lib.hid ho
        clear hm' ho e hT hap
        go_wp2_with fail
        go_ret
        exact ⟨A', c', m', rfl, HM.out, HO.out, hb⟩
end Go.Proofs.Ytbnpljcjjpokjaa.placeWalk

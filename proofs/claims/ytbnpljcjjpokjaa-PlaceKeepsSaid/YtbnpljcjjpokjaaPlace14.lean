/- The walk of PlaceKeeps. -/
import Derived.Test.YtbnpljcjjpokjaaPlace9
import Derived.Test.YtbnpljcjjpokjaaPlace13
namespace Go.Proofs.Ytbnpljcjjpokjaa.placeWalk
open Go.RowKit Go.Proofs.Ytbnpljcjjpokjaa.lib Go.Proofs.Ytbnpljcjjpokjaa.mem Go.Proofs.Ytbnpljcjjpokjaa.viewWalk

/-- Has one of the first q the node u? -/
def UsedP (ub : Bool) (X : List (Int × Int)) (u : Int) (q : Nat) : Prop := ub = true ↔ ∃ p, p < q ∧ ∃ h : p < X.length, X[p].1 = u

set_option maxRecDepth 8000 in
set_option maxHeartbeats 8000000 in
theorem walk_PlaceKeeps (w : World) (s cnt : Int) (hsi : I64 s) {B : Nat} {A A2 : Option Addr} {n n2 c c2 : Nat} {K U : List (Int × Int)} (hn : n = K.length) (hr : RdM w B A K) (hn2 : n2 = U.length) (hr2 : RdM w B A2 U) (hB : B ≤ w.heap.size) :
    Calls Try.prog 8 #[.int .i64 s, .slice A n c, .slice A2 n2 c2, .int .i64 cnt] w fun e w' => e = .returned (.bool true) ∧ Below w.heap.size w w' := by
  have hS63 : s ≤ 9223372036854775807 := hsi.2
  have HN := Lib.hid hn
  have HN2 := Lib.hid hn2
  clear hn hn2 hsi
  go_enter Try.func8, Try.ntmps8
  go_wp2_with fail
  refine (awake17 w).mono ?_
  rintro e w1 ⟨rfl, hbw1⟩
  by_cases hs0 : s < 0
  · go_wp2_with fail
    refine (awake17 w1).mono ?_
    rintro e w2 ⟨rfl, hb2⟩
    go_wp2_with fail
    go_ret
    exact ⟨rfl, hbw1.trans (hb2.mono hbw1.size)⟩
  go_wp2_with fail
  refine (rightK_any w1 HN.out (hr.below (hbw1.mono hB)) HN2.out (hr2.below (hbw1.mono hB)) (Nat.le_trans hB hbw1.size)).mono ?_
  rintro e w2 ⟨⟨b, rfl, hb'⟩, hb2⟩
  have hbw2 : Below w.heap.size w w2 := hbw1.trans (hb2.mono hbw1.size)
  clear hbw1 hb2
  cases b
  · clear hb'
    go_wp2_with fail
    refine (awake17 w2).mono ?_
    rintro e w3 ⟨rfl, hb3⟩
    go_wp2_with fail
    go_ret
    exact ⟨rfl, hbw2.trans (hb3.mono hbw2.size)⟩
  have hSS := hb'.1 rfl
  clear hb'
  have hK16 : K.length ≤ 16 := hSS.1.le
  have hU16 : U.length ≤ 16 := hSS.2.le
  obtain ⟨sn, hsn⟩ : ∃ sn : Nat, s = sn := ⟨s.toNat, by omega⟩
  subst hsn
  have hnn : n ≤ 16 := by have := HN.out; omega
  have hnn2 : n2 ≤ 16 := by have := HN2.out; omega
  have HP := Lib.hid (keeps sn K U cnt hSS.1 hSS.2)
  have HK16 := Lib.hid hK16
  have HU16 := Lib.hid hU16
  clear hSS hK16 hU16
  go_wp2_with fail
  refine (chain_any w2 sn cnt HN.out (hr.below (hbw2.mono hB)) HN2.out (hr2.below (hbw2.mono hB)) (Nat.le_trans hB hbw2.size) HK16.out HU16.out).mono ?_
  rintro e w5 ⟨A5, c5, m5, rfl, hm5, ho5, hb5⟩
  have hx5 : m5 ≤ 32 := by rw [hm5, chainM, ← List.take_length (l := turnM sn U)]; exact chain_take_bound sn K U cnt _ HK16.out HU16.out
  have hbw5 : Below w.heap.size w w5 := hbw2.trans (hb5.mono hbw2.size)
  obtain ⟨X, hX⟩ : ∃ X, X = chainM sn K U cnt := ⟨_, rfl⟩
  rw [← hX] at hm5 ho5
  have hP := HP.out
  rw [← hX] at hP
  have hcap : m5 ≤ c5 := by rw [hm5]; exact ho5.cap
  have hrX : RdM w5 w5.heap.size A5 X := ho5.rd
  have hnm : n ≤ m5 := by rw [hm5, HN.out]; exact hP.len
  have hmost : n < m5 → (m5 : Int) ≤ cnt := fun h => by rw [hm5]; exact hP.most (by rw [← hm5, ← HN.out]; exact h)
  have hfr : X.take n = K := by rw [HN.out]; exact hP.front
  have hrXt : RdM w5 w5.heap.size A5 K := by
    have := RdM.take hrX n (by rw [← hm5]; exact hnm)
    rwa [hfr] at this
  have HM5 := Lib.hid hm5
  have HPX := Lib.hid hP
  have HRX := Lib.hid hrX
  have hc5n : (n : Int) ≤ c5 := by omega
  clear HP hX hP hm5 ho5 hrX hb5 hfr
  have hnm' : ¬ ((m5 : Int) < n) := by omega
  have hnm2 : ¬ m5 < n := by omega
  have hnm3 : decide (m5 < n) = false := decide_eq_false hnm2
  go_wp2_with fail
  refine (sameM_any w5 (n := n) (n2 := n) HN.out hrXt HN.out (hr.below (hbw5.mono hB)) (Nat.le_refl _) (Nat.le_trans hB hbw5.size) (by have := HK16.out; omega) (by have := HK16.out; omega)).mono ?_
  rintro e w6 ⟨rfl, hb6⟩
  rw [decide_eq_true rfl]
  have hbw6 : Below w.heap.size w w6 := hbw5.trans (hb6.mono hbw5.size)
  clear hrXt
  have hq : ¬ ((n : Int) < m5 ∧ cnt < (m5 : Int)) := fun h => by have := hmost (by omega); omega
  -- the rest, once the test is passed
  by_cases hgt : n < m5
  · have hle := hmost hgt
    have hle' : ¬ cnt < (m5 : Int) := by omega
    clear hmost hq
    go_wp2_with fail
    go_loopw [10, 11] (fun v iv wr => ∃ (i sp : Nat), i ≤ n2 ∧ iv = .int .i64 i ∧ v = .int .i64 sp ∧ sp ≤ i ∧ (0 < sp → cnt ≤ (m5 : Int)) ∧ Below w.heap.size w wr ∧ Below w5.heap.size w5 wr) (fun _ iv _ => n2 - (intOf iv).toNat)
    case atStart => exact ⟨0, 0, Nat.zero_le _, rfl, rfl, Nat.le_refl _, fun h => absurd h (by omega), hbw6, hb6⟩
    case round =>
      obtain ⟨i, sp, hi, rfl, rfl, hsp, hspc, hb, hb5⟩ := hrel
      have HSPC := Lib.hid hspc
      clear hspc
      by_cases hlt : i < n2
      · have h1 : i < U.length := by rw [← HN2.out]; exact hlt
        obtain ⟨u1, hu1⟩ : ∃ u1, u1 = U[i].1 := ⟨_, rfl⟩
        have HU1 := Lib.hid hu1
        clear hu1
        have hi0 : (0 : Int) ≤ i := by omega
        have hi2 : (i : Int) < n2 := by omega
        go_wp2_with fail
        go_loopw [12, 13] (fun v kv wr => ∃ (q : Nat) (ub : Bool), q ≤ m5 ∧ kv = .int .i64 q ∧ v = .bool ub ∧ Hid (UsedP ub X u1 q) ∧ Below w.heap.size w wr ∧ Below w5.heap.size w5 wr) (fun _ kv _ => m5 - (intOf kv).toNat)
        case atStart => exact ⟨0, false, Nat.zero_le _, rfl, rfl, Lib.hid ⟨fun h => absurd h (by simp), fun ⟨p, h, _⟩ => absurd h (by omega)⟩, hb, hb5⟩
        case round =>
          obtain ⟨q, ub, hq, rfl, rfl, HUB, hb, hb5⟩ := hrel
          by_cases hlq : q < m5
          · have h2 : q < X.length := by rw [← HM5.out]; exact hlq
            have hq0 : (0 : Int) ≤ q := by omega
            have hq2 : (q : Int) < m5 := by omega
            cases ub
            · obtain ⟨adx, eX, -, hx1, hx2⟩ := RdM.at_ (HRX.out.below hb5) h2
              obtain ⟨adu, eU, -, hv1, hv2⟩ := RdM.at_ (hr2.below (hb.mono hB)) h1
              obtain ⟨z1, hz1⟩ : ∃ z, z = X[q].1 := ⟨_, rfl⟩
              rw [← hz1] at hx1
              rw [← HU1.out] at hv1
              have HZ1 := Lib.hid hz1
              clear hx2 hv2 hz1
              subst eX eU
              by_cases he : z1 = u1
              · have HN3 := Lib.hid (show UsedP true X u1 (q + 1) from ⟨fun _ => ⟨q, by omega, h2, by rw [← HZ1.out]; exact he⟩, fun _ => rfl⟩)
                subst he
                go_wp2_with fail
                go_quiet (fail)
                go_wp2_with fail
                go_roundw
                case rel => exact ⟨q + 1, true, by omega, by go_num, rfl, HN3, below_drewN hb _, below_drewN hb5 _⟩
                case measure => simp [intOf] <;> omega
              · have HN3 := Lib.hid (show UsedP false X u1 (q + 1) from ⟨fun h => absurd h (by simp), fun ⟨p, h, h', e⟩ => by
                  rcases Nat.lt_or_eq_of_le (Nat.le_of_lt_succ h) with h3 | rfl
                  · exact absurd (HUB.out.2 ⟨p, h3, h', e⟩) (by simp)
                  · exact absurd (HZ1.out.trans e) he⟩)
                have q1 : (z1 == u1) = false := by simp only [beq_eq_false_iff_ne, ne_eq]; exact he
                go_wp2_with fail
                go_quiet (fail)
                go_wp2_with fail
                go_roundw
                case rel => exact ⟨q + 1, false, by omega, by go_num, rfl, HN3, below_drewN hb _, below_drewN hb5 _⟩
                case measure => simp [intOf] <;> omega
            · have HN3 := Lib.hid (show UsedP true X u1 (q + 1) from ⟨fun _ => by
                obtain ⟨p, h, h', e⟩ := HUB.out.1 rfl
                exact ⟨p, by omega, h', e⟩, fun _ => rfl⟩)
              go_wp2_with fail
              go_quiet (fail)
              go_wp2_with fail
              go_roundw
              case rel => exact ⟨q + 1, true, by omega, by go_num, rfl, HN3, below_drewN hb _, below_drewN hb5 _⟩
              case measure => simp [intOf] <;> omega
          · have hqm : q = m5 := by omega
            cases ub
            · have HC := Lib.hid (show cnt ≤ (m5 : Int) by
                rw [HM5.out]
                refine HPX.out.spare U[i] (List.getElem_mem h1) fun p hp e => ?_
                exact absurd (HUB.out.2 ⟨p, by rw [hqm, HM5.out]; exact hp, hp, by rw [HU1.out]; exact e⟩) (by simp))
              go_wp2_with fail
              go_roundw
              case rel => exact ⟨i + 1, sp + 1, by omega, by go_num, by go_num, by omega, fun _ => HC.out, hb, hb5⟩
              case measure => simp [intOf] <;> omega
            · go_wp2_with fail
              go_roundw
              case rel => exact ⟨i + 1, sp, by omega, by go_num, rfl, by omega, HSPC.out, hb, hb5⟩
              case measure => simp [intOf] <;> omega
      · go_wp2_with fail
        go_loopw [14] (fun iv wr => ∃ i : Nat, i ≤ m5 ∧ iv = .int .i64 i ∧ Below w.heap.size w wr ∧ Below w5.heap.size w5 wr) (fun iv _ => m5 - (intOf iv).toNat)
        case atStart => exact ⟨0, Nat.zero_le _, rfl, hb, hb5⟩
        case round =>
          obtain ⟨j, hj, rfl, hb, hb5⟩ := hrel
          by_cases hlj : j < m5
          · have h2 : j < X.length := by rw [← HM5.out]; exact hlj
            have hj0 : (0 : Int) ≤ j := by omega
            have hj2 : (j : Int) < m5 := by omega
            by_cases hnj : n ≤ j
            · obtain ⟨adx, eX, -, hx1, hx2⟩ := RdM.at_ (HRX.out.below hb5) h2
              obtain ⟨z1, z2, hz⟩ : ∃ z1 z2, X[j] = (z1, z2) := ⟨_, _, rfl⟩
              rw [hz] at hx1 hx2
              have HIX := Lib.hid (show 0 ≤ idx U (z1, z2) by rw [← hz]; exact HPX.out.up j h2 (by rw [← HN.out]; exact hnj))
              clear hz
              subst eX
              go_wp2_with fail
              refine (refIndex_any wr (z1, z2) HN2.out (hr2.below (hb.mono hB)) (Nat.le_trans hB hb.size) (by have := HU16.out; omega)).mono ?_
              rintro e w7 ⟨rfl, hb7⟩
              have hbN : Below w.heap.size w w7 := hb.trans (hb7.mono hb.size)
              have hb5N : Below w5.heap.size w5 w7 := hb5.trans (hb7.mono hb5.size)
              obtain ⟨ix, hix⟩ : ∃ ix, ix = idx U (z1, z2) := ⟨_, rfl⟩
              rw [← hix]
              have hix0 : 0 ≤ ix := by rw [hix]; exact HIX.out
              have hix1 : ¬ ix < 0 := by omega
              clear hix hb7 hb hb5 hx1 hx2 HIX
              go_wp2_with fail
              go_loopw [15] (fun kv wr => ∃ k : Nat, k ≤ j ∧ kv = .int .i64 k ∧ Below w.heap.size w wr ∧ Below w5.heap.size w5 wr) (fun kv _ => j - (intOf kv).toNat)
              case atStart => exact ⟨0, Nat.zero_le _, rfl, hbN, hb5N⟩
              case round =>
                obtain ⟨k, hk, rfl, hb, hb5⟩ := hrel
                by_cases hlk : k < j
                · have h3 : k < X.length := by omega
                  obtain ⟨adx, eX, -, hx1, hx2⟩ := RdM.at_ (HRX.out.below hb5) h2
                  obtain ⟨ady, eY, -, hy1, hy2⟩ := RdM.at_ (HRX.out.below hb5) h3
                  have eXY : some adx = some ady := by rw [← eX, ← eY]
                  injection eXY with eXY
                  subst eXY
                  obtain ⟨z1, hz1⟩ : ∃ z, z = X[j].1 := ⟨_, rfl⟩
                  obtain ⟨y1, hy⟩ : ∃ z, z = X[k].1 := ⟨_, rfl⟩
                  rw [← hz1] at hx1
                  rw [← hy] at hy1
                  have hne : (y1 == z1) = false := by
                    simp only [beq_eq_false_iff_ne, ne_eq]
                    rw [hy, hz1]
                    exact HPX.out.once k j h2 hlk
                  have hk0 : (0 : Int) ≤ k := by omega
                  have hk2 : (k : Int) < m5 := by omega
                  clear hx2 hy2 hz1 hy eY
                  first | subst eX | (injection eX with eX; subst eX)
                  go_wp2_with fail
                  go_quiet (fail)
                  go_wp2_with fail
                  go_roundw
                  case rel => exact ⟨k + 1, by omega, by go_num, below_drewN hb _, below_drewN hb5 _⟩
                  case measure => simp [intOf] <;> omega
                · go_wp2_with fail
                  go_roundw
                  case rel => exact ⟨j + 1, by omega, by go_num, hb, hb5⟩
                  case measure => simp [intOf] <;> omega
            · have hb' := hb
              have hbN : Below w.heap.size w wr := hb
              have hb5N : Below w5.heap.size w5 wr := hb5
              go_wp2_with fail
              go_loopw [15] (fun kv wr => ∃ k : Nat, k ≤ j ∧ kv = .int .i64 k ∧ Below w.heap.size w wr ∧ Below w5.heap.size w5 wr) (fun kv _ => j - (intOf kv).toNat)
              case atStart => exact ⟨0, Nat.zero_le _, rfl, hbN, hb5N⟩
              case round =>
                obtain ⟨k, hk, rfl, hb, hb5⟩ := hrel
                by_cases hlk : k < j
                · have h3 : k < X.length := by omega
                  obtain ⟨adx, eX, -, hx1, hx2⟩ := RdM.at_ (HRX.out.below hb5) h2
                  obtain ⟨ady, eY, -, hy1, hy2⟩ := RdM.at_ (HRX.out.below hb5) h3
                  have eXY : some adx = some ady := by rw [← eX, ← eY]
                  injection eXY with eXY
                  subst eXY
                  obtain ⟨z1, hz1⟩ : ∃ z, z = X[j].1 := ⟨_, rfl⟩
                  obtain ⟨y1, hy⟩ : ∃ z, z = X[k].1 := ⟨_, rfl⟩
                  rw [← hz1] at hx1
                  rw [← hy] at hy1
                  have hne : (y1 == z1) = false := by
                    simp only [beq_eq_false_iff_ne, ne_eq]
                    rw [hy, hz1]
                    exact HPX.out.once k j h2 hlk
                  have hk0 : (0 : Int) ≤ k := by omega
                  have hk2 : (k : Int) < m5 := by omega
                  clear hx2 hy2 hz1 hy eY
                  subst eX
                  go_wp2_with fail
                  go_quiet (fail)
                  go_wp2_with fail
                  go_roundw
                  case rel => exact ⟨k + 1, by omega, by go_num, below_drewN hb _, below_drewN hb5 _⟩
                  case measure => simp [intOf] <;> omega
                · go_wp2_with fail
                  go_roundw
                  case rel => exact ⟨j + 1, by omega, by go_num, hb, hb5⟩
                  case measure => simp [intOf] <;> omega
          · by_cases hs00 : sp = 0
            · subst hs00
              go_wp2_with fail
              go_ret
              exact ⟨rfl, hb⟩
            · have hcm := HSPC.out (by omega)
              have hs1 : ((sp : Int) == 0) = false := by simp only [beq_eq_false_iff_ne, ne_eq]; omega
              have hs2 : ¬ (sp : Int) = 0 := by omega
              go_wp2_with fail
              go_ret
              refine ⟨?_, hb⟩
              first | rfl | simp [hcm]
  · clear hmost hq
    go_wp2_with fail
    go_loopw [10, 11] (fun v iv wr => ∃ (i sp : Nat), i ≤ n2 ∧ iv = .int .i64 i ∧ v = .int .i64 sp ∧ sp ≤ i ∧ (0 < sp → cnt ≤ (m5 : Int)) ∧ Below w.heap.size w wr ∧ Below w5.heap.size w5 wr) (fun _ iv _ => n2 - (intOf iv).toNat)
    case atStart => exact ⟨0, 0, Nat.zero_le _, rfl, rfl, Nat.le_refl _, fun h => absurd h (by omega), hbw6, hb6⟩
    case round =>
      obtain ⟨i, sp, hi, rfl, rfl, hsp, hspc, hb, hb5⟩ := hrel
      have HSPC := Lib.hid hspc
      clear hspc
      by_cases hlt : i < n2
      · have h1 : i < U.length := by rw [← HN2.out]; exact hlt
        obtain ⟨u1, hu1⟩ : ∃ u1, u1 = U[i].1 := ⟨_, rfl⟩
        have HU1 := Lib.hid hu1
        clear hu1
        have hi0 : (0 : Int) ≤ i := by omega
        have hi2 : (i : Int) < n2 := by omega
        go_wp2_with fail
        go_loopw [12, 13] (fun v kv wr => ∃ (q : Nat) (ub : Bool), q ≤ m5 ∧ kv = .int .i64 q ∧ v = .bool ub ∧ Hid (UsedP ub X u1 q) ∧ Below w.heap.size w wr ∧ Below w5.heap.size w5 wr) (fun _ kv _ => m5 - (intOf kv).toNat)
        case atStart => exact ⟨0, false, Nat.zero_le _, rfl, rfl, Lib.hid ⟨fun h => absurd h (by simp), fun ⟨p, h, _⟩ => absurd h (by omega)⟩, hb, hb5⟩
        case round =>
          obtain ⟨q, ub, hq, rfl, rfl, HUB, hb, hb5⟩ := hrel
          by_cases hlq : q < m5
          · have h2 : q < X.length := by rw [← HM5.out]; exact hlq
            have hq0 : (0 : Int) ≤ q := by omega
            have hq2 : (q : Int) < m5 := by omega
            cases ub
            · obtain ⟨adx, eX, -, hx1, hx2⟩ := RdM.at_ (HRX.out.below hb5) h2
              obtain ⟨adu, eU, -, hv1, hv2⟩ := RdM.at_ (hr2.below (hb.mono hB)) h1
              obtain ⟨z1, hz1⟩ : ∃ z, z = X[q].1 := ⟨_, rfl⟩
              rw [← hz1] at hx1
              rw [← HU1.out] at hv1
              have HZ1 := Lib.hid hz1
              clear hx2 hv2 hz1
              subst eX eU
              by_cases he : z1 = u1
              · have HN3 := Lib.hid (show UsedP true X u1 (q + 1) from ⟨fun _ => ⟨q, by omega, h2, by rw [← HZ1.out]; exact he⟩, fun _ => rfl⟩)
                subst he
                go_wp2_with fail
                go_quiet (fail)
                go_wp2_with fail
                go_roundw
                case rel => exact ⟨q + 1, true, by omega, by go_num, rfl, HN3, below_drewN hb _, below_drewN hb5 _⟩
                case measure => simp [intOf] <;> omega
              · have HN3 := Lib.hid (show UsedP false X u1 (q + 1) from ⟨fun h => absurd h (by simp), fun ⟨p, h, h', e⟩ => by
                  rcases Nat.lt_or_eq_of_le (Nat.le_of_lt_succ h) with h3 | rfl
                  · exact absurd (HUB.out.2 ⟨p, h3, h', e⟩) (by simp)
                  · exact absurd (HZ1.out.trans e) he⟩)
                have q1 : (z1 == u1) = false := by simp only [beq_eq_false_iff_ne, ne_eq]; exact he
                go_wp2_with fail
                go_quiet (fail)
                go_wp2_with fail
                go_roundw
                case rel => exact ⟨q + 1, false, by omega, by go_num, rfl, HN3, below_drewN hb _, below_drewN hb5 _⟩
                case measure => simp [intOf] <;> omega
            · have HN3 := Lib.hid (show UsedP true X u1 (q + 1) from ⟨fun _ => by
                obtain ⟨p, h, h', e⟩ := HUB.out.1 rfl
                exact ⟨p, by omega, h', e⟩, fun _ => rfl⟩)
              go_wp2_with fail
              go_quiet (fail)
              go_wp2_with fail
              go_roundw
              case rel => exact ⟨q + 1, true, by omega, by go_num, rfl, HN3, below_drewN hb _, below_drewN hb5 _⟩
              case measure => simp [intOf] <;> omega
          · have hqm : q = m5 := by omega
            cases ub
            · have HC := Lib.hid (show cnt ≤ (m5 : Int) by
                rw [HM5.out]
                refine HPX.out.spare U[i] (List.getElem_mem h1) fun p hp e => ?_
                exact absurd (HUB.out.2 ⟨p, by rw [hqm, HM5.out]; exact hp, hp, by rw [HU1.out]; exact e⟩) (by simp))
              go_wp2_with fail
              go_roundw
              case rel => exact ⟨i + 1, sp + 1, by omega, by go_num, by go_num, by omega, fun _ => HC.out, hb, hb5⟩
              case measure => simp [intOf] <;> omega
            · go_wp2_with fail
              go_roundw
              case rel => exact ⟨i + 1, sp, by omega, by go_num, rfl, by omega, HSPC.out, hb, hb5⟩
              case measure => simp [intOf] <;> omega
      · go_wp2_with fail
        go_loopw [14] (fun iv wr => ∃ i : Nat, i ≤ m5 ∧ iv = .int .i64 i ∧ Below w.heap.size w wr ∧ Below w5.heap.size w5 wr) (fun iv _ => m5 - (intOf iv).toNat)
        case atStart => exact ⟨0, Nat.zero_le _, rfl, hb, hb5⟩
        case round =>
          obtain ⟨j, hj, rfl, hb, hb5⟩ := hrel
          by_cases hlj : j < m5
          · have h2 : j < X.length := by rw [← HM5.out]; exact hlj
            have hj0 : (0 : Int) ≤ j := by omega
            have hj2 : (j : Int) < m5 := by omega
            by_cases hnj : n ≤ j
            · exact absurd hlj (by omega)
            · have hb' := hb
              have hbN : Below w.heap.size w wr := hb
              have hb5N : Below w5.heap.size w5 wr := hb5
              go_wp2_with fail
              go_loopw [15] (fun kv wr => ∃ k : Nat, k ≤ j ∧ kv = .int .i64 k ∧ Below w.heap.size w wr ∧ Below w5.heap.size w5 wr) (fun kv _ => j - (intOf kv).toNat)
              case atStart => exact ⟨0, Nat.zero_le _, rfl, hbN, hb5N⟩
              case round =>
                obtain ⟨k, hk, rfl, hb, hb5⟩ := hrel
                by_cases hlk : k < j
                · have h3 : k < X.length := by omega
                  obtain ⟨adx, eX, -, hx1, hx2⟩ := RdM.at_ (HRX.out.below hb5) h2
                  obtain ⟨ady, eY, -, hy1, hy2⟩ := RdM.at_ (HRX.out.below hb5) h3
                  have eXY : some adx = some ady := by rw [← eX, ← eY]
                  injection eXY with eXY
                  subst eXY
                  obtain ⟨z1, hz1⟩ : ∃ z, z = X[j].1 := ⟨_, rfl⟩
                  obtain ⟨y1, hy⟩ : ∃ z, z = X[k].1 := ⟨_, rfl⟩
                  rw [← hz1] at hx1
                  rw [← hy] at hy1
                  have hne : (y1 == z1) = false := by
                    simp only [beq_eq_false_iff_ne, ne_eq]
                    rw [hy, hz1]
                    exact HPX.out.once k j h2 hlk
                  have hk0 : (0 : Int) ≤ k := by omega
                  have hk2 : (k : Int) < m5 := by omega
                  clear hx2 hy2 hz1 hy eY
                  subst eX
                  go_wp2_with fail
                  go_quiet (fail)
                  go_wp2_with fail
                  go_roundw
                  case rel => exact ⟨k + 1, by omega, by go_num, below_drewN hb _, below_drewN hb5 _⟩
                  case measure => simp [intOf] <;> omega
                · go_wp2_with fail
                  go_roundw
                  case rel => exact ⟨j + 1, by omega, by go_num, hb, hb5⟩
                  case measure => simp [intOf] <;> omega
          · by_cases hs00 : sp = 0
            · subst hs00
              go_wp2_with fail
              go_ret
              exact ⟨rfl, hb⟩
            · have hcm := HSPC.out (by omega)
              have hs1 : ((sp : Int) == 0) = false := by simp only [beq_eq_false_iff_ne, ne_eq]; omega
              have hs2 : ¬ (sp : Int) = 0 := by omega
              go_wp2_with fail
              go_ret
              refine ⟨?_, hb⟩
              first | rfl | simp [hcm]
end Go.Proofs.Ytbnpljcjjpokjaa.placeWalk

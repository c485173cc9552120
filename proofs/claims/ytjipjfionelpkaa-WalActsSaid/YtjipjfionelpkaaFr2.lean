/- What number, Same, SameAll, Few and both Scans of layer frame answer. No condition but that lengths are short. -/
import Derived.Test.YtjipjfionelpkaaFr1
namespace Go.Proofs.Ytjipjfionelpkaa.frameWalk
open Go.RowKit Go.Proofs.Ytjipjfionelpkaa.hashPlain Go.Proofs.Ytjipjfionelpkaa.framePlain Go.Proofs.Ytjipjfionelpkaa.lib Go.Proofs.Ytjipjfionelpkaa.byt Go.Proofs.Ytjipjfionelpkaa.hashWalk

theorem numB_drop (bs : List UInt8) (q : Nat) (h : q < bs.length) : numB (bs.drop q) = bs[q].toNat + 256 * numB (bs.drop (q + 1)) := by
  rw [List.drop_eq_getElem_cons h, numB]
theorem rd_at {w : World} {B : Nat} {A : Option Addr} {bs : List UInt8} (h : RdB w B A bs) {k : Nat} (hk : k < bs.length) :
    ∃ ad, A = some ad ∧ w.cell? (ad.add k) = some (.int .u8 (bs[k].toNat : Int)) := by
  obtain ⟨ad, u, e, _, hx, hc⟩ := Reads.at_ h hk
  rw [bytesV_get bs k hk] at hx
  injection hx with hx
  exact ⟨ad, e, by rw [hc, hx]⟩
theorem or_spelt (X : Nat) (b : UInt8) (hX : X < 72057594037927936) :
    bits BinOp.or IntKind.u64 (IntKind.u64.wrap ((X : Int) * 256)) (IntKind.u64.wrap (b.toNat : Int)) = ((b.toNat + 256 * X : Nat) : Int) := by
  have hb := b.toNat_lt
  rw [IntWalk.u64_in ((X : Int) * 256) (by omega), IntWalk.u64_in (b.toNat : Int) (by omega)]
  have e : (BitVec.ofInt IntKind.u64.bits ((X : Int) * 256) ||| BitVec.ofInt IntKind.u64.bits (b.toNat : Int)).toNat = b.toNat + 256 * X := by
    show (BitVec.ofInt 64 ((X : Int) * 256) ||| BitVec.ofInt 64 (b.toNat : Int)).toNat = _
    rw [BitVec.toNat_or, BitVec.toNat_ofInt, BitVec.toNat_ofInt]
    have e1 : (((X : Int) * 256) % ((2 ^ 64 : Nat) : Int)).toNat = 2 ^ 8 * X := by omega
    have e2 : ((b.toNat : Int) % ((2 ^ 64 : Nat) : Int)).toNat = b.toNat := by omega
    rw [e1, e2, ← Nat.two_pow_add_eq_or_of_lt (by omega)]
    omega
  show IntKind.u64.wrap ((BitVec.ofInt IntKind.u64.bits ((X : Int) * 256) ||| BitVec.ofInt IntKind.u64.bits (b.toNat : Int)).toNat : Int) = _
  rw [e]
  exact IntWalk.u64_in _ (by omega)
theorem numB_small (bs : List UInt8) (q : Nat) (h : bs.length ≤ 8) (hq : q < bs.length) : numB (bs.drop (q + 1)) < 72057594037927936 := by
  refine Nat.lt_of_lt_of_le (numB_lt _) ?_
  have e : (72057594037927936 : Nat) = 256 ^ 7 := by decide
  rw [e]
  exact Nat.pow_le_pow_right (by omega) (by rw [List.length_drop]; omega)
set_option maxHeartbeats 400000 in
theorem number_any (w : World) {B : Nat} {A : Option Addr} {n c : Nat} {bs : List UInt8} (hn : n = bs.length) (hr : RdB w B A bs) (h8 : bs.length ≤ 8) :
    Calls Try.prog 59 #[.slice A n c] w fun e w' => e = .returned (.int .u64 ((numB bs : Nat) : Int)) ∧ w = w' := by
  have hn8 : n ≤ 8 := by omega
  have HN := Lib.hid hn
  clear hn
  go_enter Try.func59, Try.ntmps59
  go_wp2_with fail
  go_loop [3, 4] (fun x i => ∃ (p X : Nat), p ≤ n ∧ i = .int .i64 ((p : Int) - 1) ∧ x = .int .u64 X ∧ X = numB (bs.drop p)) (fun _ i => (intOf i + 1).toNat)
  case atStart => exact ⟨n, 0, Nat.le_refl _, by go_num, rfl, by rw [HN.out, List.drop_of_length_le (Nat.le_refl _)]; rfl⟩
  case round =>
    obtain ⟨p, X, hp, rfl, rfl, hX⟩ := hrel
    by_cases h0 : 1 ≤ p
    · obtain ⟨q, rfl⟩ : ∃ q, p = q + 1 := ⟨p - 1, by omega⟩
      have hq : q < bs.length := by rw [← HN.out]; omega
      obtain ⟨ad, rfl, hc⟩ := rd_at hr hq
      have e1 : (((q + 1 : Nat) : Int) - 1) = (q : Int) := by omega
      rw [e1]
      have HX := Lib.hid hX
      clear hX e1
      obtain ⟨b, hb⟩ : ∃ b : UInt8, b = bs[q] := ⟨_, rfl⟩
      rw [← hb] at hc
      have HO := Lib.hid (or_spelt X b (by rw [HX.out]; exact numB_small bs q h8 hq))
      have HD := Lib.hid (numB_drop bs q hq)
      have HB := Lib.hid hb
      clear hb
      go_wp2_with fail
      go_round
      case rel => exact ⟨q, b.toNat + 256 * X, by omega, rfl, congrArg _ HO.out, by rw [HD.out, HX.out, HB.out]⟩
      case measure => simp [intOf] <;> omega
    · go_wp2_with fail
      go_ret
      have : p = 0 := by omega
      subst this
      subst hX
      exact ⟨rfl, rfl⟩

theorem number_as (w : World) {B : Nat} {A : Option Addr} {n c : Nat} {bs : List UInt8} (hn : n = bs.length) (hr : RdB w B A bs) (h8 : bs.length ≤ 8) (z : Nat) (hz : z = numB bs) :
    Calls Try.prog 59 #[.slice A n c] w fun e w' => e = .returned (.int .u64 (z : Int)) ∧ w = w' := by
  subst hz; exact number_any w hn hr h8

/-! ### Same -/
theorem take_same (xs bs : List UInt8) (k : Nat) (h1 : k < xs.length) (h2 : k < bs.length) (h : xs.take k = bs.take k) (e : xs[k] = bs[k]) : xs.take (k + 1) = bs.take (k + 1) := by
  rw [List.take_succ_eq_append_getElem h1, List.take_succ_eq_append_getElem h2, h, e]
set_option maxHeartbeats 1000000 in
theorem same_any (w : World) {B1 B2 : Nat} {A1 A2 : Option Addr} {n1 c1 n2 c2 : Nat} {xs bs : List UInt8} (hn1 : n1 = xs.length) (hn2 : n2 = bs.length) (ha : RdB w B1 A1 xs) (hb : RdB w B2 A2 bs) (hs : xs.length ≤ 1099511627776) (hs2 : bs.length ≤ 1099511627776) :
    Calls Try.prog 16 #[.slice A1 n1 c1, .slice A2 n2 c2] w fun e w' => e = .returned (.bool (decide (xs = bs))) ∧ ∃ nq, w' = w.drewN nq := by
  have hm1 : n1 ≤ 1099511627776 := by omega
  have hm2 : n2 ≤ 1099511627776 := by omega
  by_cases hne : n1 = n2
  · have hne' : (((n1 : Nat) : Int) != ((n2 : Nat) : Int)) = false := by rw [hne]; simp
    have HNE := Lib.hid hne
    have HN1 := Lib.hid hn1
    have HN2 := Lib.hid hn2
    clear hne hn1 hn2
    go_enter Try.func16, Try.ntmps16
    go_wp2_with fail
    go_loopw [5] (fun i wr => ∃ k nq : Nat, k ≤ n1 ∧ i = .int .i64 k ∧ xs.take k = bs.take k ∧ wr = w.drewN nq) (fun i _ => n1 - (intOf i).toNat)
    case atStart => exact ⟨0, 0, Nat.zero_le _, rfl, rfl, rfl⟩
    case round =>
      obtain ⟨k, nq, hk, rfl, ht, rfl⟩ := hrel
      by_cases hlt : k < n1
      · have hk2 : k < n2 := by rw [← HNE.out]; exact hlt
        have h1 : k < xs.length := by rw [← HN1.out]; exact hlt
        have h2 : k < bs.length := by rw [← HN2.out]; exact hk2
        obtain ⟨ad1, rfl, hc1⟩ := rd_at ha h1
        obtain ⟨ad2, rfl, hc2⟩ := rd_at hb h2
        have HT := Lib.hid ht
        clear ht
        by_cases he : xs[k] = bs[k]
        · have HTS := Lib.hid (take_same xs bs k h1 h2 HT.out he)
          have he' : (((xs[k].toNat : Nat) : Int) != ((bs[k].toNat : Nat) : Int)) = false := by rw [he]; simp
          have HE := Lib.hid he
          clear he
          go_wp2_with fail
          go_quiet (fail)
          go_wp2_with fail
          go_roundw
          case rel => exact ⟨k + 1, _, by omega, by go_num, HTS.out, rfl⟩
          case measure => simp [intOf] <;> omega
        · have he' : (((xs[k].toNat : Nat) : Int) != ((bs[k].toNat : Nat) : Int)) = true := by
            rw [bne_iff_ne]
            intro h
            exact he (UInt8.toNat_inj.1 (by omega))
          have hd : decide (xs = bs) = false := decide_eq_false (fun h => he (by simp [h]))
          have HD := Lib.hid hd
          clear he hd
          go_wp2_with fail
          go_quiet (fail)
          go_wp2_with fail
          go_ret
          exact ⟨by rw [HD.out]; rfl, _, by rw [World.drewN_drewN]⟩
      · have hd : decide (xs = bs) = true := by
          have e : k = n1 := by omega
          rw [e, List.take_of_length_le (by rw [HN1.out]; exact Nat.le_refl _), List.take_of_length_le (by rw [HNE.out, HN2.out]; exact Nat.le_refl _)] at ht
          exact decide_eq_true ht
        have HD := Lib.hid hd
        clear ht hd
        go_wp2_with fail
        go_ret
        exact ⟨by rw [HD.out]; rfl, _, rfl⟩
  · have hne' : (((n1 : Nat) : Int) != ((n2 : Nat) : Int)) = true := by rw [bne_iff_ne]; omega
    have hd : decide (xs = bs) = false := decide_eq_false (fun h => hne (by rw [hn1, hn2, h]))
    have HD := Lib.hid hd
    clear hne hd hn1 hn2
    go_enter Try.func16, Try.ntmps16
    go_wp2_with fail
    go_ret
    exact ⟨by rw [HD.out]; rfl, 0, rfl⟩

/-! ### SameAll, Few -/
theorem take_sameL (xs ys : List (List UInt8)) (k : Nat) (h1 : k < xs.length) (h2 : k < ys.length) (h : xs.take k = ys.take k) (e : xs[k] = ys[k]) : xs.take (k + 1) = ys.take (k + 1) := by
  rw [List.take_succ_eq_append_getElem h1, List.take_succ_eq_append_getElem h2, h, e]
/-- Short lists of short texts: what the walks ask. -/
def Short (L : List (List UInt8)) : Prop := L.length ≤ 1099511627776 ∧ ∀ r ∈ L, r.length ≤ 1099511627776
theorem quiet_more {w wr : World} (h : ∃ nq, wr = w.drewN nq) (n : Nat) : ∃ nq, wr.drewN n = w.drewN nq := by
  obtain ⟨nq, rfl⟩ := h
  exact ⟨_, World.drewN_drewN ..⟩
set_option maxHeartbeats 1000000 in
theorem sameAll_any (w : World) {B1 B2 : Nat} {A1 A2 : Option Addr} {n1 c1 n2 c2 : Nat} {xs ys : List (List UInt8)} (hn1 : n1 = xs.length) (hn2 : n2 = ys.length) (ha : RdBB w B1 A1 xs) (hb : RdBB w B2 A2 ys) (hs1 : Short xs) (hs2 : Short ys) :
    Calls Try.prog 57 #[.slice A1 n1 c1, .slice A2 n2 c2] w fun e w' => e = .returned (.bool (decide (xs = ys))) ∧ ∃ nq, w' = w.drewN nq := by
  have hm1 : n1 ≤ 1099511627776 := by have := hs1.1; omega
  have hm2 : n2 ≤ 1099511627776 := by have := hs2.1; omega
  by_cases hne : n1 = n2
  · have hne' : (((n1 : Nat) : Int) != ((n2 : Nat) : Int)) = false := by rw [hne]; simp
    have HNE := Lib.hid hne
    have HN1 := Lib.hid hn1
    have HN2 := Lib.hid hn2
    clear hne hn1 hn2
    go_enter Try.func57, Try.ntmps57
    go_wp2_with fail
    go_loopw [5] (fun i wr => ∃ k : Nat, k ≤ n1 ∧ i = .int .i64 k ∧ xs.take k = ys.take k ∧ ∃ nq, wr = w.drewN nq) (fun i _ => n1 - (intOf i).toNat)
    case atStart => exact ⟨0, Nat.zero_le _, rfl, rfl, 0, rfl⟩
    case round =>
      obtain ⟨k, hk, rfl, ht, hw⟩ := hrel
      have ha' : RdBB wr B1 A1 xs := by obtain ⟨nq, rfl⟩ := hw; exact ha.drewN nq
      have hb' : RdBB wr B2 A2 ys := by obtain ⟨nq, rfl⟩ := hw; exact hb.drewN nq
      have HW := Lib.hid hw
      clear hw ha hb
      by_cases hlt : k < n1
      · have hk2 : k < n2 := by rw [← HNE.out]; exact hlt
        have h1 : k < xs.length := by rw [← HN1.out]; exact hlt
        have h2 : k < ys.length := by rw [← HN2.out]; exact hk2
        obtain ⟨ad1, A1', c1', rfl, hc1, hr1⟩ := ha'.at_ h1
        obtain ⟨ad2, A2', c2', rfl, hc2, hr2⟩ := hb'.at_ h2
        obtain ⟨m1, hm1'⟩ : ∃ m, m = xs[k].length := ⟨_, rfl⟩
        obtain ⟨m2, hm2'⟩ : ∃ m, m = ys[k].length := ⟨_, rfl⟩
        rw [← hm1'] at hc1
        rw [← hm2'] at hc2
        have hsx : xs[k].length ≤ 1099511627776 := hs1.2 _ (List.getElem_mem h1)
        have hsy : ys[k].length ≤ 1099511627776 := hs2.2 _ (List.getElem_mem h2)
        have hS := fun n => same_any (wr.drewN n) (c1 := c1') (c2 := c2') hm1' hm2' (hr1.drewN n) (hr2.drewN n) hsx hsy
        have HS := Lib.hid hS
        have HT := Lib.hid ht
        clear ht hS hm1' hm2'
        by_cases he : xs[k] = ys[k]
        · have HTS := Lib.hid (take_sameL xs ys k h1 h2 HT.out he)
          rw [decide_eq_true he] at HS
          have HE := Lib.hid he
          clear he
          go_wp2_with fail
          go_quiet ((go_at_call 16; exact Calls.quiet_of (HS.out _)))
          go_wp2_with fail
          go_roundw
          case rel => exact ⟨k + 1, by omega, by go_num, HTS.out, quiet_more HW.out _⟩
          case measure => simp [intOf] <;> omega
        · have hd : decide (xs = ys) = false := decide_eq_false (fun h => he (by simp [h]))
          have HD := Lib.hid hd
          rw [decide_eq_false he] at HS
          clear he hd
          go_wp2_with fail
          go_quiet ((go_at_call 16; exact Calls.quiet_of (HS.out _)))
          go_wp2_with fail
          go_ret
          exact ⟨by rw [HD.out]; rfl, quiet_more HW.out _⟩
      · have hd : decide (xs = ys) = true := by
          have e : k = n1 := by omega
          rw [e, List.take_of_length_le (by rw [HN1.out]; exact Nat.le_refl _), List.take_of_length_le (by rw [HNE.out, HN2.out]; exact Nat.le_refl _)] at ht
          exact decide_eq_true ht
        have HD := Lib.hid hd
        clear ht hd
        go_wp2_with fail
        go_ret
        exact ⟨by rw [HD.out]; rfl, HW.out⟩
  · have hne' : (((n1 : Nat) : Int) != ((n2 : Nat) : Int)) = true := by rw [bne_iff_ne]; omega
    have hd : decide (xs = ys) = false := decide_eq_false (fun h => hne (by rw [hn1, hn2, h]))
    have HD := Lib.hid hd
    clear hne hd hn1 hn2
    go_enter Try.func57, Try.ntmps57
    go_wp2_with fail
    go_ret
    exact ⟨by rw [HD.out]; rfl, 0, rfl⟩

def sumLen : List (List UInt8) → Nat
  | [] => 0
  | r :: L => r.length + sumLen L
theorem sumLen_snoc (L : List (List UInt8)) (r : List UInt8) : sumLen (L ++ [r]) = sumLen L + r.length := by
  induction L with
  | nil => simp [sumLen]
  | cons a L ih => simp only [List.cons_append, sumLen, ih]; omega
def fewB (L : List (List UInt8)) : Bool := decide (L.length ≤ 40 ∧ (∀ r ∈ L, r.length ≤ 3000) ∧ sumLen L ≤ 3000)
set_option maxHeartbeats 1000000 in
theorem few_any (w : World) {B : Nat} {A : Option Addr} {n c : Nat} {L : List (List UInt8)} (hn : n = L.length) (hr : RdBB w B A L) :
    Calls Try.prog 39 #[.slice A n c] w fun e w' => e = .returned (.bool (fewB L)) ∧ w = w' := by
  by_cases hbig : 40 < n
  · have hd : fewB L = false := decide_eq_false (fun h => by omega)
    have HD := Lib.hid hd
    clear hd hn
    go_enter Try.func39, Try.ntmps39
    go_wp2_with fail
    go_ret
    exact ⟨by rw [HD.out]; rfl, rfl⟩
  · have HN := Lib.hid hn
    clear hn
    go_enter Try.func39, Try.ntmps39
    go_wp2_with fail
    go_loop [3, 4] (fun x i => ∃ k X : Nat, k ≤ n ∧ i = .int .i64 k ∧ x = .int .i64 X ∧ X = sumLen (L.take k) ∧ X ≤ 3000 * k ∧ ∀ r ∈ L.take k, r.length ≤ 3000) (fun _ i => n - (intOf i).toNat)
    case atStart => exact ⟨0, 0, Nat.zero_le _, rfl, rfl, rfl, Nat.le_refl _, by simp⟩
    case round =>
      obtain ⟨k, X, hk, rfl, rfl, hX, hXk, hall⟩ := hrel
      have HX := Lib.hid hX
      have HA := Lib.hid hall
      clear hX hall
      by_cases hlt : k < n
      · have h1 : k < L.length := by rw [← HN.out]; exact hlt
        obtain ⟨ad, A', c', rfl, hc, -⟩ := hr.at_ h1
        obtain ⟨m, hm⟩ : ∃ m, m = L[k].length := ⟨_, rfl⟩
        rw [← hm] at hc
        have HM := Lib.hid hm
        clear hm
        by_cases h3 : 3000 < m
        · have hd : fewB L = false := decide_eq_false (fun h => by have := h.2.1 _ (List.getElem_mem h1); rw [← HM.out] at this; omega)
          have HD := Lib.hid hd
          clear hd
          go_wp2_with fail
          go_ret
          exact ⟨by rw [HD.out]; rfl, rfl⟩
        · have hT : L.take (k + 1) = L.take k ++ [L[k]] := List.take_succ_eq_append_getElem h1
          have hs : X + m = sumLen (L.take (k + 1)) := by rw [hT, sumLen_snoc, HX.out, HM.out]
          have hal : ∀ r ∈ L.take (k + 1), r.length ≤ 3000 := by
            rw [hT]
            intro r hr
            rcases List.mem_append.1 hr with h | h
            · exact HA.out r h
            · rw [List.mem_singleton] at h; rw [h, ← HM.out]; omega
          have HS := Lib.hid hs
          have HAL := Lib.hid hal
          clear hT hs hal
          go_wp2_with fail
          go_round
          case rel => exact ⟨k + 1, X + m, by omega, by go_num, by go_num, HS.out, by omega, HAL.out⟩
          case measure => simp [intOf] <;> omega
      · have e : L.take k = L := List.take_of_length_le (by rw [← HN.out]; omega)
        have hd : decide ((X : Int) ≤ 3000) = fewB L := by
          have hx := HX.out
          have ha := HA.out
          rw [e] at hx ha
          have h40 : L.length ≤ 40 := by rw [← HN.out]; omega
          unfold fewB
          rw [decide_eq_decide]
          exact ⟨fun h => ⟨h40, ha, by omega⟩, fun h => by have := h.2.2; omega⟩
        have HD := Lib.hid hd
        clear e hd
        go_wp2_with fail
        go_ret
        exact ⟨congrArg (fun x => Ending.returned (.bool x)) HD.out, rfl⟩
end Go.Proofs.Ytjipjfionelpkaa.frameWalk

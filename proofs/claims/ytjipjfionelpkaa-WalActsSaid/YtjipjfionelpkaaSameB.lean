/- What the document's Same of bytes answers. -/
import Derived.Test.YtjipjfionelpkaaBytes
import Derived.WalkSpells
import Derived.WalkLawsBesides
import Derived.Deep.QuietTactic
import Derived.BigQuiet
namespace Go.Proofs.Ytjipjfionelpkaa.byt
open Go.RowKit Go.Proofs.Ytjipjfionelpkaa.lib

theorem rd_at {w : World} {B : Nat} {A : Option Addr} {bs : List UInt8} (h : RdB w B A bs) {k : Nat} (hk : k < bs.length) :
    ∃ ad, A = some ad ∧ w.cell? (ad.add k) = some (.int .u8 (bs[k].toNat : Int)) := by
  obtain ⟨ad, u, e, _, hx, hc⟩ := Reads.at_ h hk
  rw [bytesV_get bs k hk] at hx
  injection hx with hx
  exact ⟨ad, e, by rw [hc, hx]⟩
theorem take_same (xs bs : List UInt8) (k : Nat) (h1 : k < xs.length) (h2 : k < bs.length) (h : xs.take k = bs.take k) (e : xs[k] = bs[k]) : xs.take (k + 1) = bs.take (k + 1) := by
  rw [List.take_succ_eq_append_getElem h1, List.take_succ_eq_append_getElem h2, h, e]
set_option maxHeartbeats 1000000 in
theorem same_any (w : World) {B1 B2 : Nat} {A1 A2 : Option Addr} {n1 c1 n2 c2 : Nat} {xs bs : List UInt8} (hn1 : n1 = xs.length) (hn2 : n2 = bs.length) (ha : RdB w B1 A1 xs) (hb : RdB w B2 A2 bs) (hs : xs.length ≤ 1099511627776) (hs2 : bs.length ≤ 1099511627776) :
    Calls Try.prog 16 #[.slice A1 n1 c1, .slice A2 n2 c2] w fun e w' => e = .returned (.bool (decide (xs = bs))) ∧ ∃ nq, w' = w.drewN nq := by
  have hm1 : n1 ≤ 1099511627776 := by omega
  have hm2 : n2 ≤ 1099511627776 := by omega
  by_cases hne : n1 = n2
  · have hne' : (((n1 : Nat) : Int) != ((n2 : Nat) : Int)) = false := by rw [hne]; simp
    have HNE := Lib.hid hne
    have HN1 := Lib.hid hn1
    have HN2 := Lib.hid hn2
    clear hne hn1 hn2
    go_enter Try.func16, Try.ntmps16
    go_wp2_with fail
    go_loopw [5] (fun i wr => ∃ k nq : Nat, k ≤ n1 ∧ i = .int .i64 k ∧ xs.take k = bs.take k ∧ wr = w.drewN nq) (fun i _ => n1 - (intOf i).toNat)
    case atStart => exact ⟨0, 0, Nat.zero_le _, rfl, rfl, rfl⟩
    case round =>
      obtain ⟨k, nq, hk, rfl, ht, rfl⟩ := hrel
      by_cases hlt : k < n1
      · have hk2 : k < n2 := by rw [← HNE.out]; exact hlt
        have h1 : k < xs.length := by rw [← HN1.out]; exact hlt
        have h2 : k < bs.length := by rw [← HN2.out]; exact hk2
        obtain ⟨ad1, rfl, hc1⟩ := rd_at ha h1
        obtain ⟨ad2, rfl, hc2⟩ := rd_at hb h2
        have HT := Lib.hid ht
        clear ht
        by_cases he : xs[k] = bs[k]
        · have HTS := Lib.hid (take_same xs bs k h1 h2 HT.out he)
          have he' : (((xs[k].toNat : Nat) : Int) != ((bs[k].toNat : Nat) : Int)) = false := by rw [he]; simp
          have HE := Lib.hid he
          clear he
          go_wp2_with fail
          go_quiet (fail)
          go_wp2_with fail
          go_roundw
          case rel => exact ⟨k + 1, _, by omega, by go_num, HTS.out, rfl⟩
          case measure => simp [intOf] <;> omega
        · have he' : (((xs[k].toNat : Nat) : Int) != ((bs[k].toNat : Nat) : Int)) = true := by
            rw [bne_iff_ne]
            intro h
            exact he (UInt8.toNat_inj.1 (by omega))
          have hd : decide (xs = bs) = false := decide_eq_false (fun h => he (by simp [h]))
          have HD := Lib.hid hd
          clear he hd
          go_wp2_with fail
          go_quiet (fail)
          go_wp2_with fail
          go_ret
          exact ⟨by rw [HD.out]; rfl, _, by rw [World.drewN_drewN]⟩
      · have hd : decide (xs = bs) = true := by
          have e : k = n1 := by omega
          rw [e, List.take_of_length_le (by rw [HN1.out]; exact Nat.le_refl _), List.take_of_length_le (by rw [HNE.out, HN2.out]; exact Nat.le_refl _)] at ht
          exact decide_eq_true ht
        have HD := Lib.hid hd
        clear ht hd
        go_wp2_with fail
        go_ret
        exact ⟨by rw [HD.out]; rfl, _, rfl⟩
  · have hne' : (((n1 : Nat) : Int) != ((n2 : Nat) : Int)) = true := by rw [bne_iff_ne]; omega
    have hd : decide (xs = bs) = false := decide_eq_false (fun h => hne (by rw [hn1, hn2, h]))
    have HD := Lib.hid hd
    clear hne hd hn1 hn2
    go_enter Try.func16, Try.ntmps16
    go_wp2_with fail
    go_ret
    exact ⟨by rw [HD.out]; rfl, 0, rfl⟩
end Go.Proofs.Ytjipjfionelpkaa.byt

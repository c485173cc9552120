/- (Without shards.) What hash.Sum and the reference sum answer: the text hsum of the plain law, for every text. No condition but that a text's length is an int. -/
import Derived.Test.YtjipjfionelpkaaRows
import Derived.Test.YtjipjfionelpkaaHashPlain
import Derived.WalkKit
import Derived.WalkSpells
import Derived.WalkLawsBesides
import Derived.Lib.Hide
import Derived.Handy
namespace Go.Proofs.Ytjipjfionelpkaa.hashWalk
open Go.RowKit Go.Proofs.Ytjipjfionelpkaa.hashPlain

theorem take_snoc (s : ByteArray) (k : Nat) (h : k < s.size) : s.data.toList.take (k + 1) = s.data.toList.take k ++ [s[k]] := by
  rw [List.take_succ_eq_append_getElem (by simpa using h)]; rfl
theorem sum_take (s : ByteArray) (k : Nat) (h : k < s.size) : hsum (s.data.toList.take (k + 1)) = hstep (hsum (s.data.toList.take k)) s[k].toNat := by
  rw [take_snoc s k h, sum_snoc]
theorem ret_u64 {a b : Int} (h : a = b) : Ending.returned (.int .u64 a) = .returned (.int .u64 b) := by rw [h]

theorem sum_any (s : ByteArray) (w : World) (hs : s.size ≤ maxLen) :
    Calls Try.prog 60 #[.string s] w fun e w' => e = .returned (.int .u64 ((hsum s.data.toList : Nat) : Int)) ∧ w = w' := by
  unfold maxLen at hs
  go_enter Try.func60, Try.ntmps60
  go_wp2
  go_loop [3, 4] (fun n i => ∃ k : Nat, k ≤ s.size ∧ i = .int .i64 k ∧ n = .int .u64 ((hsum (s.data.toList.take k) : Nat) : Int)) (fun _ i => s.size - (intOf i).toNat)
  case atStart => exact ⟨0, Nat.zero_le _, rfl, rfl⟩
  case round =>
    obtain ⟨k, hk, rfl, rfl⟩ := hrel
    by_cases hlt : k < s.size
    · have HS := Lib.hid (step_spelt (hsum (s.data.toList.take k)) s[k].toNat (sum_lt _) (byte_lt _))
      have HT := Lib.hid (sum_take s k hlt)
      generalize hsum (s.data.toList.take k) = S at *
      go_wp2
      all_goals
        go_round
        case rel => exact ⟨k + 1, by omega, by go_num, by rw [HT.out]; exact congrArg _ HS.out⟩
        case measure => simp [intOf]; omega
    · go_wp2
      go_ret
      exact ⟨ret_u64 (by rw [List.take_of_length_le (by simp; omega)]), rfl⟩

theorem times_any (x y : Nat) (w : World) (hx : x < M) (hy : y < M) :
    Calls Try.prog 68 #[.int .u64 (x : Int), .int .u64 (y : Int)] w fun e w' => e = .returned (.int .u64 (((x * y) % M : Nat) : Int)) ∧ w = w' := by
  go_enter Try.func68, Try.ntmps68
  go_wp2
  go_loop [0, 1, 5] (fun a b out => ∃ i j o : Nat, i < M ∧ j < M ∧ o < M ∧ (o + i * j) % M = (x * y) % M ∧ a = .int .u64 i ∧ b = .int .u64 j ∧ out = .int .u64 o) (fun _ b _ => (intOf b).toNat)
  case atStart => exact ⟨x, y, 0, hx, hy, by decide, by simp, rfl, rfl, rfl⟩
  case round =>
    obtain ⟨i, j, o, hi, hj, ho, hp, rfl, rfl, rfl⟩ := hrel
    have HP := Lib.hid hp
    clear hp
    have HH := Lib.hid (wrap_half j hj)
    have HI := Lib.hid hi
    have HJ := Lib.hid hj
    have HO := Lib.hid ho
    clear hi hj ho
    by_cases h0 : 0 < j
    · by_cases h1 : j % 2 = 1
      · have h1' : ((j : Int) % 2 == 1) = true := beq_iff_eq.2 (by omega)
        have H1 := Lib.hid h1
        clear h1
        go_wp2
        all_goals
          go_round
          case rel => exact ⟨(i + i) % M, j / 2, (o + i) % M, Nat.mod_lt _ (by decide), Nat.lt_of_le_of_lt (Nat.div_le_self _ _) HJ.out, Nat.mod_lt _ (by decide), (times_odd o i j H1.out).trans HP.out, congrArg _ (wrap_add i i), congrArg _ HH.out, congrArg _ (wrap_add o i)⟩
          case measure => simp only [HH.out, intOf]; omega
      · have h1' : ((j : Int) % 2 == 1) = false := beq_eq_false_iff_ne.2 (by omega)
        have H1 := Lib.hid h1
        clear h1
        go_wp2
        all_goals
          go_round
          case rel => exact ⟨(i + i) % M, j / 2, o, Nat.mod_lt _ (by decide), Nat.lt_of_le_of_lt (Nat.div_le_self _ _) HJ.out, HO.out, (times_even o i j H1.out).trans HP.out, congrArg _ (wrap_add i i), congrArg _ HH.out, rfl⟩
          case measure => simp only [HH.out, intOf]; omega
    · go_wp2
      go_ret
      have e : j = 0 := by omega
      have := HP.out
      rw [e, Nat.mul_zero, Nat.add_zero, Nat.mod_eq_of_lt HO.out] at this
      exact ⟨congrArg (fun n : Nat => Ending.returned (.int .u64 (n : Int))) this, rfl⟩

theorem times_fac (x : Nat) (w : World) (hx : x < M) :
    Calls Try.prog 68 #[.int .u64 (x : Int), .int .u64 1099511628211] w fun e w' => e = .returned (.int .u64 (((x * fac) % M : Nat) : Int)) ∧ w = w' :=
  times_any x fac w hx (by decide)

theorem ref_sum_any (s : ByteArray) (w : World) (hs : s.size ≤ maxLen) :
    Calls Try.prog 67 #[.string s] w fun e w' => e = .returned (.int .u64 ((hsum s.data.toList : Nat) : Int)) ∧ w = w' := by
  unfold maxLen at hs
  go_enter Try.func67, Try.ntmps67
  go_wp2
  go_loop [3, 4] (fun n i => ∃ k : Nat, k ≤ s.size ∧ i = .int .i64 k ∧ n = .int .u64 ((hsum (s.data.toList.take k) : Nat) : Int)) (fun _ i => s.size - (intOf i).toNat)
  case atStart => exact ⟨0, Nat.zero_le _, rfl, rfl⟩
  case round =>
    obtain ⟨k, hk, rfl, rfl⟩ := hrel
    by_cases hlt : k < s.size
    · have HS := Lib.hid (low_spelt (hsum (s.data.toList.take k)) s[k].toNat (sum_lt _) (byte_lt _))
      have HT := Lib.hid (sum_take s k hlt)
      have HL := Lib.hid (xor_lt (hsum (s.data.toList.take k)) s[k].toNat (sum_lt _) (byte_lt _))
      generalize hsum (s.data.toList.take k) = S at *
      go_wp2_with fail
      rw [HS.out]
      refine (times_fac _ _ HL.out).mono ?_
      rintro e w' ⟨rfl, rfl⟩
      go_wp2
      all_goals
        go_round
        case rel => exact ⟨k + 1, by omega, by go_num, by rw [HT.out]; rfl⟩
        case measure => simp [intOf]; omega
    · go_wp2
      go_ret
      exact ⟨ret_u64 (by rw [List.take_of_length_le (by simp; omega)]), rfl⟩

end Go.Proofs.Ytjipjfionelpkaa.hashWalk

/- The four laws of the hash layer, each walked: whatever the arguments, true. -/
import Derived.Test.YtgnfodfbgkbnbaaHash
import Derived.Test.YtgnfodfbgkbnbaaLib
namespace Go.Proofs.Ytgnfodfbgkbnbaa.hashWalk
open Go.RowKit Go.Proofs.Ytgnfodfbgkbnbaa.hashPlain Go.Proofs.Ytgnfodfbgkbnbaa.lib

theorem walk_HashSums (s : ByteArray) (w : World) (hs : s.size ≤ maxLen) :
    Calls Try.prog 3 #[.string s] w fun e w' => e = .returned (.bool true) ∧ w = w' := by
  by_cases hl : 5000 < s.size
  all_goals
    go_enter Try.func3, Try.ntmps3
    go_wp2_with fail
    refine (awake_any _).mono ?_
    rintro e w' ⟨rfl, rfl⟩
  · go_wp2
    go_ret
    exact ⟨rfl, rfl⟩
  · go_wp2_with fail
    refine (sum_any _ _ hs).mono ?_
    rintro e w' ⟨rfl, rfl⟩
    go_wp2_with fail
    refine (ref_sum_any _ _ hs).mono ?_
    rintro e w' ⟨rfl, rfl⟩
    go_wp2
    go_ret
    exact ⟨rfl, rfl⟩

theorem walk_HashShards (s : ByteArray) (n : Int) (w : World) (hs : s.size ≤ maxLen) (hn : -9223372036854775808 ≤ n ∧ n ≤ 9223372036854775807) :
    Calls Try.prog 6 #[.string s, .int .i64 n] w fun e w' => e = .returned (.bool true) ∧ w = w' := by
  obtain ⟨hn1, hn2⟩ := hn
  by_cases h1 : n < 1
  · go_enter Try.func6, Try.ntmps6
    go_wp2_with fail
    refine (awake_any _).mono ?_
    rintro e w' ⟨rfl, rfl⟩
    go_wp2
    go_ret
    exact ⟨rfl, rfl⟩
  · by_cases hl : 5000 < s.size
    · go_enter Try.func6, Try.ntmps6
      go_wp2_with fail
      refine (awake_any _).mono ?_
      rintro e w' ⟨rfl, rfl⟩
      go_wp2
      go_ret
      exact ⟨rfl, rfl⟩
    · have hb := mod_bounds (hsum s.data.toList) n (by omega) (by omega)
      obtain ⟨hb1, hb2, -⟩ := hb
      go_enter Try.func6, Try.ntmps6
      go_wp2_with fail
      refine (shard_any _ _ _ hs (by omega) hn2).mono ?_
      rintro e w' ⟨rfl, rfl⟩
      go_wp2_with fail
      refine (awake_any _).mono ?_
      rintro e w' ⟨rfl, rfl⟩
      go_wp2_with fail
      refine (ref_shard_any _ _ _ hs (by omega) hn2).mono ?_
      rintro e w' ⟨rfl, rfl⟩
      go_wp2
      go_ret
      exact ⟨rfl, rfl⟩

theorem conv1 (w : World) (b : UInt8) (g : Nat) (hg : w.heap.size = g) : (convert 27 9 (.slice (some ⟨g, 0, none⟩) 1 1)).run Try.prog (w.alloc (.cells #[.int .u8 (b.toNat : Int)] 5)) =
    .ok (.string ⟨#[b]⟩) (w.alloc (.cells #[.int .u8 (b.toNat : Int)] 5)) := by
  subst hg
  exact run_bytes_to_string _ 27 9 5 Try.underlying27 Try.underlying5 Try.underlying9 (bs := [b]) (Reads.new_ w 1 1 #[.int .u8 (b.toNat : Int)] 5 rfl)
theorem push_size (s : ByteArray) (b : UInt8) (h : ¬ 5000 < s.size) : (s ++ ⟨#[b]⟩ : ByteArray).size ≤ maxLen := by
  have e : (ByteArray.mk #[b]).size = 1 := rfl
  rw [ByteArray.size_append, e]
  unfold maxLen
  omega
theorem data_push (s : ByteArray) (b : UInt8) : (s ++ ⟨#[b]⟩ : ByteArray).data.toList = s.data.toList ++ [b] := by simp
theorem more_eq (s t : ByteArray) (b : UInt8) :
    ((((hsum s.data.toList : Nat) : Int) == ((hsum t.data.toList : Nat) : Int)) == (((hsum (s ++ ⟨#[b]⟩ : ByteArray).data.toList : Nat) : Int) == ((hsum (t ++ ⟨#[b]⟩ : ByteArray).data.toList : Nat) : Int))) = true := by
  rw [data_push, data_push, beq_iff_eq, Bool.eq_iff_iff, beq_iff_eq, beq_iff_eq]
  have := hsum_more s.data.toList t.data.toList b
  omega
theorem walk_HashMore (s t : ByteArray) (c : Int) (w : World) (hs : s.size ≤ maxLen) (ht : t.size ≤ maxLen) (hc : 0 ≤ c ∧ c ≤ 255) :
    Calls Try.prog 5 #[.string s, .string t, .int .u8 c] w fun e w' => e = .returned (.bool true) ∧ Below w.heap.size w w' := by
  obtain ⟨b, rfl⟩ := byte_of hc
  clear hc
  by_cases h1 : 5000 < s.size
  · go_enter Try.func5, Try.ntmps5
    go_wp2_with fail
    refine (awake_any _).mono ?_
    rintro e w' ⟨rfl, rfl⟩
    go_wp2
    go_ret
    exact ⟨rfl, Below.refl _ _⟩
  · by_cases h2 : 5000 < t.size
    · go_enter Try.func5, Try.ntmps5
      go_wp2_with fail
      refine (awake_any _).mono ?_
      rintro e w' ⟨rfl, rfl⟩
      go_wp2
      go_ret
      exact ⟨rfl, Below.refl _ _⟩
    · have HM := Lib.hid (more_eq s t b)
      go_enter Try.func5, Try.ntmps5
      go_wp2_with fail
      refine (sum_any _ _ hs).mono ?_
      rintro e w' ⟨rfl, rfl⟩
      go_wp2_with fail
      refine (sum_any _ _ ht).mono ?_
      rintro e w' ⟨rfl, rfl⟩
      go_wp2_with fail
      rw [conv1 w b _ rfl]
      go_wp2_with fail
      refine (sum_any _ _ (push_size s b h1)).mono ?_
      rintro e w' ⟨rfl, rfl⟩
      go_wp2_with fail
      rw [conv1 (w.alloc (.cells #[.int .u8 (b.toNat : Int)] 5)) b (w.heap.size + 1) (by simp)]
      go_wp2_with fail
      refine (sum_any _ _ (push_size t b h2)).mono ?_
      rintro e w' ⟨rfl, rfl⟩
      go_wp2_with fail
      refine (awake_any _).mono ?_
      rintro e w' ⟨rfl, rfl⟩
      go_wp2
      go_ret
      exact ⟨congrArg (fun x => Ending.returned (.bool x)) HM.out, ((Below.refl _ _).alloc (Nat.le_refl _) _).alloc (by simp) _⟩

theorem each_eq (s t : ByteArray) (k : Nat) (b : UInt8) (hk : k < s.size) (ht : t = ⟨(s.data.toList.set k b).toArray⟩) :
    ((((hsum s.data.toList : Nat) : Int) == ((hsum t.data.toList : Nat) : Int)) == (s.toList == t.toList)) = true := by
  have e1 : s.toList = s.data.toList := ByteArray.toList_eq s
  have e2 : t.toList = t.data.toList := ByteArray.toList_eq t
  have e3 : t.data.toList = s.data.toList.set k b := by rw [ht]
  rw [e1, e2, e3, beq_iff_eq, Bool.eq_iff_iff, beq_iff_eq, beq_iff_eq]
  exact Int.natCast_inj.trans (hsum_set s.data.toList k (by simpa using hk) b)
theorem walk_HashEach (s : ByteArray) (k : Int) (c : Int) (w : World) (hs : s.size ≤ maxLen) (hk : 0 ≤ k ∧ k ≤ 65535) (hc : 0 ≤ c ∧ c ≤ 255) :
    Calls Try.prog 4 #[.string s, .int .u16 k, .int .u8 c] w fun e w' => e = .returned (.bool true) ∧ Below w.heap.size w w' := by
  obtain ⟨b, rfl⟩ := byte_of hc
  obtain ⟨a, rfl⟩ := Int.eq_ofNat_of_zero_le hk.1
  have ha : a ≤ 65535 := by omega
  clear hc hk
  by_cases h1 : s.size = 0
  · have h1' : (((s.size : Nat) : Int) == 0) = true := beq_iff_eq.2 (by omega)
    have H1 := Lib.hid h1
    clear h1
    go_enter Try.func4, Try.ntmps4
    go_wp2_with fail
    refine (awake_any _).mono ?_
    rintro e w' ⟨rfl, rfl⟩
    go_wp2
    go_ret
    exact ⟨rfl, Below.refl _ _⟩
  · have h1' : (((s.size : Nat) : Int) == 0) = false := beq_eq_false_iff_ne.2 (by omega)
    have h1p : 1 ≤ s.size := by omega
    clear h1
    by_cases h2 : 5000 < s.size
    · go_enter Try.func4, Try.ntmps4
      go_wp2_with fail
      refine (awake_any _).mono ?_
      rintro e w' ⟨rfl, rfl⟩
      go_wp2
      go_ret
      exact ⟨rfl, Below.refl _ _⟩
    · have hm : a % s.size < s.size := Nat.mod_lt _ (by omega)
      go_enter Try.func4, Try.ntmps4
      go_wp2_with fail
      obtain ⟨cp, w1, hrun, hb, hsz, hcell⟩ := run_string_to_bytes (P := Try.prog) w 9 27 5 s Try.underlying9 Try.underlying27 Try.underlying5
      rw [hrun]
      clear hrun
      have hck := (hcell (a % s.size) hm).1
      have hfk := (hcell (a % s.size) hm).2
      go_wp2_with fail
      have hcs := cells_set (b := b) (k := a % s.size) (fun j hj => (hcell j (by simpa using hj)).1)
      have hrd := reads_of_cells (B := w.heap.size + 1) (by omega) hcs
      have hlen : (s.data.toList.set (a % s.size) b).length = s.size := by simp
      rw [hlen] at hrd
      have hconv := run_bytes_to_string (P := Try.prog) _ 27 9 5 Try.underlying27 Try.underlying5 Try.underlying9 (c := cp) hrd
      rw [hconv]
      clear hconv hrd hcs hlen hck hfk
      obtain ⟨w2, hw2⟩ : ∃ w2, w2 = w1.setCell ⟨w.heap.size, a % s.size, none⟩ (.int .u8 (b.toNat : Int)) := ⟨_, rfl⟩
      have hb2 : Below w.heap.size w w2 := by rw [hw2]; exact hb.setCell (by simp) _
      rw [← hw2]
      clear hw2 hb hsz hcell
      obtain ⟨t, ht⟩ : ∃ t : ByteArray, t = ⟨(s.data.toList.set (a % s.size) b).toArray⟩ := ⟨_, rfl⟩
      rw [← ht]
      have HT := Lib.hid ht
      have hts : t.size ≤ maxLen := by
        have : t.size = s.size := by rw [ht]; show (s.data.toList.set (a % s.size) b).toArray.size = _; simp
        omega
      clear ht
      go_wp2_with fail
      refine (awake_any _).mono ?_
      rintro e w' ⟨rfl, rfl⟩
      go_wp2_with fail
      refine (sum_any _ _ hs).mono ?_
      rintro e w' ⟨rfl, rfl⟩
      go_wp2_with fail
      refine (sum_any _ _ hts).mono ?_
      rintro e w' ⟨rfl, rfl⟩
      go_wp2
      go_ret
      exact ⟨congrArg (fun x => Ending.returned (.bool x)) (each_eq s t (a % s.size) b hm HT.out), hb2⟩
end Go.Proofs.Ytgnfodfbgkbnbaa.hashWalk

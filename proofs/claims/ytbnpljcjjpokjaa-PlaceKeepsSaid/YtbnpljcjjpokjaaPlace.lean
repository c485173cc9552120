/- Lists of Members that the call owns: append; slices.Clone. -/
import Derived.Test.YtbnpljcjjpokjaaOpenM
import Derived.Test.YtbnpljcjjpokjaaView6
import Derived.Test.YtbnpljcjjpokjaaView7
import Derived.Lib.SliceRun
namespace Go.Proofs.Ytbnpljcjjpokjaa.mem
open Go.RowKit Go.Proofs.Ytbnpljcjjpokjaa.lib

theorem info_mem : (Try.prog.info? 26).map (fun i => (i.zero, i.size, i.bytes)) = some (some (.agg #[.int .i64 0, .int .i64 0]), 2, 16) := by kernel_rfl
theorem memV_one (L : List (Int × Int)) : ∀ u ∈ memV L, u.oneCell' = true := by
  induction L with
  | nil => intro u hu; simp [memV] at hu
  | cons m L ih =>
    intro u hu
    simp only [memV, List.mem_cons] at hu
    rcases hu with rfl | rfl | hu
    · rfl
    · rfl
    · exact ih u hu
theorem memV_append (a b : List (Int × Int)) : memV (a ++ b) = memV a ++ memV b := by
  induction a with
  | nil => rfl
  | cons m a ih => simp only [List.cons_append, memV, ih]
abbrev OwnM (w : World) (B : Nat) (A : Option Addr) (c : Nat) (L : List (Int × Int)) : Prop := w.ownsRow B 26 2 (.slice A L.length c) L.length (memV L)
theorem OwnM.rd {w : World} {B : Nat} {A : Option Addr} {c : Nat} {L : List (Int × Int)} (h : OwnM w B A c L) : RdM w w.heap.size A L := Reads.of_own h
theorem ownM_nil (w : World) (B : Nat) : OwnM w B none 0 [] := World.ownsRow_nil w B _ _
theorem ownM_made (w : World) (B : Nat) (hB : B ≤ w.heap.size) : OwnM (w.alloc (.cells #[] 26)) B (some ⟨w.heap.size, 0, none⟩) 0 [] :=
  World.ownsRow_made w #[] 0 hB (by decide) (by simp)
theorem OwnM.cap {w : World} {B : Nat} {A : Option Addr} {c : Nat} {L : List (Int × Int)} (h : OwnM w B A c L) : L.length ≤ c := by
  rcases h.2 with ⟨e, h0⟩ | ⟨g, cap, cur, e, _, _, hle, _⟩
  · omega
  · injection e with _ _ e3
    omega
theorem append_mem (w : World) (B : Nat) {A : Option Addr} {n c : Nat} {L : List (Int × Int)} (hn : n = L.length) (hown : OwnM w B A c L)
    {B2 : Nat} {A2 : Option Addr} {m c2 : Nat} {M : List (Int × Int)} (hm : m = M.length) (hr : RdM w B2 A2 M) (hs : L.length + M.length ≤ 1099511627776) (hB : B ≤ w.heap.size) :
    ∃ A' c' w', (Builtin.append_ #[22, 22] 22 #[.slice A n c, .slice A2 m c2]).run Try.prog w = .ok (.slice A' (n + m) c') w' ∧ OwnM w' B A' c' (L ++ M) ∧ Below B w w' := by
  obtain ⟨i0, hi, hz0, hz1, hz2⟩ := info_parts info_mem
  subst hn hm
  obtain ⟨A', c', w', h1, h2, h3⟩ := append_law (P := Try.prog) w B 22 22 22 26 i0 _ 2 16 Try.underlying22 hi hz0 hz1 hz2 rfl (by decide) hown (Src.of_reads Try.underlying22 (c := c2) hr (memV_one _)) (by unfold maxLen; omega) (by omega) hB
  rw [← memV_append, ← List.length_append] at h2
  exact ⟨A', c', w', h1, h2, h3.below_own hown hB⟩
/-- 'append(out, m)' -/
theorem append_one (w : World) (B : Nat) {A : Option Addr} {n c : Nat} {L : List (Int × Int)} (hn : n = L.length) (hown : OwnM w B A c L) (m : Int × Int) (hs : L.length ≤ 1099511627775) (hB : B ≤ w.heap.size) :
    ∃ A' c' w', (Builtin.append_ #[22, 22] 22 #[.slice A n c, .slice (some ⟨w.heap.size, 0, none⟩) 1 1]).run Try.prog (w.alloc (.cells #[.int .i64 m.1, .int .i64 m.2] 26)) = .ok (.slice A' (n + 1) c') w' ∧ OwnM w' B A' c' (L ++ [m]) ∧ Below B w w' := by
  have hr := Reads.new_row w 2 1 #[.int .i64 m.1, .int .i64 m.2] 26 (memV [m]) rfl rfl
  obtain ⟨A', c', w', h1, h2, h3⟩ := append_mem (w.alloc (.cells #[.int .i64 m.1, .int .i64 m.2] 26)) B hn (World.ownsRow.alloc hown _) (m := 1) (c2 := 1) (M := [m]) rfl hr (by simp; omega) (by simp; omega)
  exact ⟨A', c', w', h1, h2, ((Below.refl _ _).alloc hB _).trans h3⟩

set_option maxHeartbeats 1000000 in
theorem clone_any (w : World) {B : Nat} {A : Option Addr} {n c : Nat} {L : List (Int × Int)} (hn : n = L.length) (hr : RdM w B A L) (hB : B ≤ w.heap.size) (hs : L.length ≤ 1099511627776) :
    Calls Try.prog 33 #[.slice A n c] w fun e w' => ∃ A' c', e = .returned (.slice A' n c') ∧ OwnM w' w.heap.size A' c' L ∧ Below w.heap.size w w' := by
  have heq : ∀ (a : Option Addr) (n c : Nat) (w : World), (binOp .eql 22 (.slice a n c) (.slice none 0 0)).run Try.prog w = .ok (.bool a.isNone) w := fun a n c w => Go.Lib.run_eql_slice_nil w _ _ a n c 0 0 Try.underlying22
  rcases A with _ | ad
  · have h0 : L.length = 0 := by
      rcases Nat.eq_zero_or_pos L.length with h0 | h0
      · exact h0
      · obtain ⟨ad, e, _⟩ := hr.2 h0
        cases e
    have hl : L = [] := List.eq_nil_of_length_eq_zero h0
    subst hl
    subst hn
    go_enter Try.func33, Try.ntmps33
    go_wp2_with fail
    go_ret
    exact ⟨_, _, rfl, ownM_nil _ _, Below.refl _ _⟩
  · obtain ⟨A', c', w', hrun, ho, hb⟩ := append_mem (w.alloc (.cells #[] 26)) w.heap.size (n := 0) (c := 0) (L := []) rfl (ownM_made w w.heap.size (Nat.le_refl _)) hn (c2 := c) (hr.alloc hB _) (by simp; omega) (by simp)
    simp only [List.nil_append, Nat.zero_add] at hrun ho
    have hb' : Below w.heap.size w w' := ((Below.refl _ _).alloc (Nat.le_refl _) _).trans hb
    have HO := Lib.hid ho
    clear hn ho hb
    go_enter Try.func33, Try.ntmps33
    go_wp2_with (at_builtin; refine wpList_append_run rfl rfl rfl rfl hrun ?_; clear hrun)
    go_ret
    exact ⟨_, _, rfl, HO.out, hb'⟩
end Go.Proofs.Ytbnpljcjjpokjaa.mem

/- What Append, Wipe, Front of a disk do; a new disk. -/
import Derived.Test.YtjipjfionelpkaaDk5
namespace Go.Proofs.Ytjipjfionelpkaa.dk
open Go.RowKit Go.Proofs.Ytjipjfionelpkaa.lib Go.Proofs.Ytjipjfionelpkaa.byt
set_option linter.unusedVariables false

def actS (s : DS) (p : Pk) : Int × DS := if p.2.1 = 0 ∨ p.2.1 = 1 then (if s.down = true then (4, s) else (0, chgS s p)) else (1, s)
/-- Nothing of the disk is long. -/
def ShortD (s : DS) (m : Nat) : Prop := (∀ k, k < 4 → (s.by_ k).length + m ≤ 1099511627776) ∧ s.lo.length ≤ 1099511627770
theorem own_cap {w : World} {B : Nat} {A : Option Addr} {c : Nat} {bs : List UInt8} (h : OwnB w B A c bs) : bs.length ≤ c := by
  rcases h.2 with ⟨e, h0⟩ | ⟨g, cap, cur, e, _, _, hle, _⟩
  · omega
  · injection e with _ _ e3
    omega
theorem ElemD.nil (w : World) (G : Nat → Prop) (d : Nat) (A : Nat → Option Addr) (AL : Option Addr) : ElemD w G d A AL (.slice none 0 0) [] := ⟨none, 0, rfl, ⟨rfl, fun h => absurd h (by simp)⟩, Nat.le_refl _, fun ad e => by cases e⟩

set_option maxHeartbeats 2000000 in
theorem append_any (w : World) {F G : Nat → Prop} {d m cb B2 : Nat} {s : DS} {Ab : Option Addr} {b : List UInt8} (h : DiskM w F G d s) (hok : OkS s) (area : Int) (hm : m = b.length) (hr : RdB w B2 Ab b) (hB2 : B2 ≤ w.heap.size) (hs : ShortD s b.length) (hb0 : b.length ≤ 1099511627776) :
    Calls Try.prog 13 #[.pointer (some ⟨d, 0, none⟩), .int .i64 area, .slice Ab m cb] w fun e w' => e = .returned (.int .i64 (actS s (0, area, b)).1) ∧ DiskM w' F G d (actS s (0, area, b)).2 ∧ BelF F w w' := by
  obtain ⟨A, c, AL, cL, H, hP⟩ := h
  obtain ⟨code, s', hcode⟩ : ∃ a b', (a, b') = actS s (0, area, b) := ⟨_, _, rfl⟩
  rw [← hcode]
  simp only
  have hBd := hP.base
  have hBe := hP.ebase
  have hdl := hP.dlt
  have HM := Lib.hid hm
  have hC := cloneB_any w (c := cb) hm hr hB2 hb0
  have HC := Lib.hid hC
  have HK : Hid (∀ (w1 : World) (A2 : Option Addr) (c2 : Nat), OwnB w1 w.heap.size A2 c2 b → Below w.heap.size w w1 → Calls Try.prog 42 #[.pointer (some ⟨d, 0, none⟩), .agg #[.int .i64 0, .int .i64 area, .slice A2 m c2]] w1 fun e w' => e = .returned (.int .i64 code) ∧ DiskM w' F G d s' ∧ BelF F w1 w') := Lib.hid fun w1 A2 c2 ho hb => by
    have h1 := hP.below hb (Nat.le_refl _)
    refine change_any w1 h1 hok (0, area, b) (.inl rfl) hm ⟨A2, c2, by rw [hm], OwnB.rd ho, own_cap ho, fun ad e => ?_⟩ hs.1 hs.2 code s' hcode
    have hl := own_lt ho (b := ad.block) (by rw [e]; rfl)
    exact ⟨hl.2, fun hg => by have := hP.flt _ (hBe _ hg); omega, by omega, fun k hk e2 => by have := (own_lt (hP.own k hk) e2).2; omega, fun e2 => by have := (own_row hP.row e2).2; omega⟩
  clear hC hm hr hcode hs hok
  go_enter Try.func13, Try.ntmps13
  go_wp2_with fail
  refine HC.out.mono ?_
  rintro e w1 ⟨A2, c2, rfl, ho, hb⟩
  have hk := HK.out w1 A2 c2 ho hb
  have HK2 := Lib.hid hk
  clear hk ho HK HC
  go_wp2_with fail
  refine HK2.out.mono ?_
  rintro e w2 ⟨rfl, hD, hb2⟩
  have HD := Lib.hid hD
  clear hD HK2
  go_wp2_with fail
  go_ret
  exact ⟨rfl, HD.out, (BelF.of hb (Nat.le_refl _)).trans hb2⟩

theorem wipe_any (w : World) {F G : Nat → Prop} {d : Nat} {s : DS} (h : DiskM w F G d s) (hok : OkS s) (area : Int) (hs : ShortD s 0) :
    Calls Try.prog 41 #[.pointer (some ⟨d, 0, none⟩), .int .i64 area] w fun e w' => e = .returned (.int .i64 (actS s (1, area, [])).1) ∧ DiskM w' F G d (actS s (1, area, [])).2 ∧ BelF F w w' := by
  obtain ⟨A, c, AL, cL, H, hP⟩ := h
  obtain ⟨code, s', hcode⟩ : ∃ a b', (a, b') = actS s (1, area, []) := ⟨_, _, rfl⟩
  rw [← hcode]
  simp only
  have HK := Lib.hid (change_any w hP hok (1, area, []) (.inr (.inl rfl)) (m := 0) (cb := 0) rfl (ElemD.nil _ _ _ _ _) hs.1 hs.2 code s' hcode)
  clear hcode hs hok hP
  go_enter Try.func41, Try.ntmps41
  go_wp2_with fail
  refine HK.out.mono ?_
  rintro e w2 ⟨rfl, hD, hb2⟩
  have HD := Lib.hid hD
  clear hD HK
  go_wp2_with fail
  go_ret
  exact ⟨rfl, HD.out, hb2⟩
theorem front_any (w : World) {F G : Nat → Prop} {d : Nat} {s : DS} (h : DiskM w F G d s) (hok : OkS s) (area : Int) (hs : ShortD s 0) :
    Calls Try.prog 40 #[.pointer (some ⟨d, 0, none⟩), .int .i64 area] w fun e w' => e = .returned (.int .i64 (actS s (2, area, [])).1) ∧ DiskM w' F G d (actS s (2, area, [])).2 ∧ BelF F w w' := by
  obtain ⟨A, c, AL, cL, H, hP⟩ := h
  obtain ⟨code, s', hcode⟩ : ∃ a b', (a, b') = actS s (2, area, []) := ⟨_, _, rfl⟩
  rw [← hcode]
  simp only
  have HK := Lib.hid (change_any w hP hok (2, area, []) (.inr (.inr rfl)) (m := 0) (cb := 0) rfl (ElemD.nil _ _ _ _ _) hs.1 hs.2 code s' hcode)
  clear hcode hs hok hP
  go_enter Try.func40, Try.ntmps40
  go_wp2_with fail
  refine HK.out.mono ?_
  rintro e w2 ⟨rfl, hD, hb2⟩
  have HD := Lib.hid hD
  clear hD HK
  go_wp2_with fail
  go_ret
  exact ⟨rfl, HD.out, hb2⟩

def newS : DS := { by_ := fun _ => [], f0 := 0, f1 := 0, lo := [], arm := false, left := 0, down := false }
theorem new_disk (w : World) : DiskM (w.alloc (.cells #[.slice none 0 0, .slice none 0 0, .int .i64 0, .slice none 0 0, .slice none 0 0, .int .i64 0, .slice none 0 0, .bool false, .int .i64 0, .bool false] 75)) (fun b => b < w.heap.size) (fun b => b < w.heap.size) w.heap.size newS :=
  ⟨fun _ => none, fun _ => 0, none, 0, [], heap_alloc_new w _, Nat.lt_irrefl _, (fun _ h => h), (fun b hb => by simp; omega), (fun k hk => ownB_nil _ _), (fun k hk e => by cases e), (fun k hk b e => by cases e), (fun k l _ _ _ b e => by cases e), World.ownsRow_nil _ _ _ _, (fun e => by cases e), (fun b e => by cases e), (fun k _ b e => by cases e), rfl, (fun i h => absurd h (Nat.not_lt_zero _))⟩
theorem new_any (w : World) : Calls Try.prog 12 #[] w fun e w' => e = .returned (.pointer (some ⟨w.heap.size, 0, none⟩)) ∧ DiskM w' (fun b => b < w.heap.size) (fun b => b < w.heap.size) w.heap.size newS ∧ Below w.heap.size w w' := by
  go_enter Try.func12, Try.ntmps12
  go_wp2_with fail
  go_ret
  exact ⟨rfl, new_disk w, (Below.refl _ _).alloc (Nat.le_refl _) _⟩
end Go.Proofs.Ytjipjfionelpkaa.dk

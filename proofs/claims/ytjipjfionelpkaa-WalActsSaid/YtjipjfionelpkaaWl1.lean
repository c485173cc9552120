/- What replace of a log does. -/
import Derived.Test.YtjipjfionelpkaaWl0
namespace Go.Proofs.Ytjipjfionelpkaa.wl
open Go.RowKit Go.Proofs.Ytjipjfionelpkaa.lib Go.Proofs.Ytjipjfionelpkaa.byt Go.Proofs.Ytjipjfionelpkaa.dk
set_option linter.unusedVariables false

theorem shrink {w : World} {F G F' G' : Nat → Prop} {d : Nat} {s : DS} (h : DiskM w F' G' d s) (hF : ∀ b, F b → F' b) (hG : ∀ b, G b → G' b) (hGF : ∀ b, G b → F b) : DiskM w F G d s :=
  h.keepF hGF (fun b hb => ⟨h.lt.2.2.2 b (hF b hb), .inl (hF b hb)⟩) (fun b hb => .inl (hG b hb)) (Nat.le_refl _) fun b _ _ => rfl
section
variable {F G : Nat → Prop} {d p q r m cb : Nat} {s : DS} {o : Int} {b : List UInt8} {Ab : Option Addr}
theorem clos1 (X : World) (h : DiskM X F G d s) (hok : OkS s) (hs : ShortD s 0) (hq : X.cell? ⟨q, 0, none⟩ = some (.pointer (some ⟨d, 0, none⟩))) (hp : X.cell? ⟨p, 0, none⟩ = some (.int .i64 o)) (c : Int) (hc : (actS s (1, o, [])).1 = c) (s' : DS) (hs' : (actS s (1, o, [])).2 = s') :
    Calls Try.prog 63 #[.pointer (some ⟨q, 0, none⟩), .pointer (some ⟨p, 0, none⟩)] X fun e w' => e = .returned (.int .i64 c) ∧ DiskM w' F G d s' ∧ BelF F X w' := by
  have HC := Lib.hid (wipe_any X h hok o hs)
  rw [hc, hs'] at HC
  clear h hok hs hc hs'
  go_enter Try.func63, Try.ntmps63
  go_wp2_with fail
  refine HC.out.mono ?_
  rintro e w2 ⟨rfl, hD, hbf⟩
  have HD := Lib.hid hD
  have HB := Lib.hid hbf
  clear hD hbf HC
  go_wp2_with fail
  go_ret
  exact ⟨rfl, HD.out, HB.out⟩
theorem clos2 (X : World) (h : DiskM X F G d s) (hok : OkS s) (hm : m = b.length) (hr : RdB X X.heap.size Ab b) (hs : ShortD s b.length) (hb0 : b.length ≤ 1099511627776) (hq : X.cell? ⟨q, 0, none⟩ = some (.pointer (some ⟨d, 0, none⟩))) (hp : X.cell? ⟨p, 0, none⟩ = some (.int .i64 o)) (hr2 : X.cell? ⟨r, 0, none⟩ = some (.slice Ab m cb)) (c : Int) (hc : (actS s (0, o, b)).1 = c) (s' : DS) (hs' : (actS s (0, o, b)).2 = s') :
    Calls Try.prog 64 #[.pointer (some ⟨q, 0, none⟩), .pointer (some ⟨p, 0, none⟩), .pointer (some ⟨r, 0, none⟩)] X fun e w' => e = .returned (.int .i64 c) ∧ DiskM w' F G d s' ∧ BelF F X w' := by
  have HC := Lib.hid (append_any X h hok o (cb := cb) hm hr (Nat.le_refl _) hs hb0)
  rw [hc, hs'] at HC
  clear h hok hs hc hs' hm hr hb0
  go_enter Try.func64, Try.ntmps64
  go_wp2_with fail
  refine HC.out.mono ?_
  rintro e w2 ⟨rfl, hD, hbf⟩
  have HD := Lib.hid hD
  have HB := Lib.hid hbf
  clear hD hbf HC
  go_wp2_with fail
  go_ret
  exact ⟨rfl, HD.out, HB.out⟩
theorem clos3 (X : World) (h : DiskM X F G d s) (hok : OkS s) (hs : ShortD s 0) (hq : X.cell? ⟨q, 0, none⟩ = some (.pointer (some ⟨d, 0, none⟩))) (hp : X.cell? ⟨p, 0, none⟩ = some (.int .i64 o)) (c : Int) (hc : (actS s (2, o, [])).1 = c) (s' : DS) (hs' : (actS s (2, o, [])).2 = s') :
    Calls Try.prog 65 #[.pointer (some ⟨q, 0, none⟩), .pointer (some ⟨p, 0, none⟩)] X fun e w' => e = .returned (.int .i64 c) ∧ DiskM w' F G d s' ∧ BelF F X w' := by
  have HC := Lib.hid (front_any X h hok o hs)
  rw [hc, hs'] at HC
  clear h hok hs hc hs'
  go_enter Try.func65, Try.ntmps65
  go_wp2_with fail
  refine HC.out.mono ?_
  rintro e w2 ⟨rfl, hD, hbf⟩
  have HD := Lib.hid hD
  have HB := Lib.hid hbf
  clear hD hbf HC
  go_wp2_with fail
  go_ret
  exact ⟨rfl, HD.out, HB.out⟩
end
set_option maxRecDepth 4000 in
set_option maxHeartbeats 1000000 in
theorem replace_any (w : World) {F G : Nat → Prop} {d m cb M : Nat} {s : DS} {f : Int} {fr b : List UInt8} {Ab : Option Addr} (hD : DiskM w F G d s) (hW : WS s f fr M) (hM : M + 2 * b.length + 3 ≤ 100000000) (hm : m = b.length) (hr : RdF w F Ab b) :
    Calls Try.prog 56 #[.pointer (some ⟨d, 0, none⟩), .int .i64 f, .slice Ab m cb] w fun e w' => e = .returned (.int .i64 0) ∧ DiskM w' F G d (rep s (1 - f) b 5) ∧ BelF F w w' := by
  obtain ⟨c1, c2, c3, c4, c5, hup, -⟩ := rep_ok hW b (o := 1 - f) rfl
  have ho01 : 0 ≤ 1 - f ∧ 1 - f ≤ 1 := by rcases hW.area with e | e <;> omega
  have hb3 : Below w.heap.size w (((w.alloc (.cells #[.pointer (some ⟨d, 0, none⟩)] 24)).alloc (.cells #[.slice Ab m cb] 22)).alloc (.cells #[.int .i64 (1 - f)] 3)) := low3
  have hs3 : (((w.alloc (.cells #[.pointer (some ⟨d, 0, none⟩)] 24)).alloc (.cells #[.slice Ab m cb] 22)).alloc (.cells #[.int .i64 (1 - f)] 3)).heap.size = w.heap.size + 3 := by simp
  have hbV : Below w.heap.size w ((((w.alloc (.cells #[.pointer (some ⟨d, 0, none⟩)] 24)).alloc (.cells #[.slice Ab m cb] 22)).alloc (.cells #[.int .i64 (1 - f)] 3)).alloc (.cells #[.func (Fn.func 63) #[] #[.pointer (some ⟨w.heap.size, 0, none⟩), .pointer (some ⟨w.heap.size + 1 + 1, 0, none⟩)], .func (Fn.func 64) #[] #[.pointer (some ⟨w.heap.size, 0, none⟩), .pointer (some ⟨w.heap.size + 1 + 1, 0, none⟩), .pointer (some ⟨w.heap.size + 1, 0, none⟩)], .func (Fn.func 22) #[.pointer (some ⟨d, 0, none⟩)] #[], .func (Fn.func 65) #[] #[.pointer (some ⟨w.heap.size, 0, none⟩), .pointer (some ⟨w.heap.size + 1 + 1, 0, none⟩)], .func (Fn.func 22) #[.pointer (some ⟨d, 0, none⟩)] #[]] 45)) := hb3.alloc hb3.size _
  have hsV : ((((w.alloc (.cells #[.pointer (some ⟨d, 0, none⟩)] 24)).alloc (.cells #[.slice Ab m cb] 22)).alloc (.cells #[.int .i64 (1 - f)] 3)).alloc (.cells #[.func (Fn.func 63) #[] #[.pointer (some ⟨w.heap.size, 0, none⟩), .pointer (some ⟨w.heap.size + 1 + 1, 0, none⟩)], .func (Fn.func 64) #[] #[.pointer (some ⟨w.heap.size, 0, none⟩), .pointer (some ⟨w.heap.size + 1 + 1, 0, none⟩), .pointer (some ⟨w.heap.size + 1, 0, none⟩)], .func (Fn.func 22) #[.pointer (some ⟨d, 0, none⟩)] #[], .func (Fn.func 65) #[] #[.pointer (some ⟨w.heap.size, 0, none⟩), .pointer (some ⟨w.heap.size + 1 + 1, 0, none⟩)], .func (Fn.func 22) #[.pointer (some ⟨d, 0, none⟩)] #[]] 45)).heap.size = w.heap.size + 4 := by simp
  obtain ⟨g0, g1, g2⟩ := heap3 w (.cells #[.pointer (some ⟨d, 0, none⟩)] 24) (.cells #[.slice Ab m cb] 22) (.cells #[.int .i64 (1 - f)] 3)
  have h0 : ((((w.alloc (.cells #[.pointer (some ⟨d, 0, none⟩)] 24)).alloc (.cells #[.slice Ab m cb] 22)).alloc (.cells #[.int .i64 (1 - f)] 3)).alloc (.cells #[.func (Fn.func 63) #[] #[.pointer (some ⟨w.heap.size, 0, none⟩), .pointer (some ⟨w.heap.size + 1 + 1, 0, none⟩)], .func (Fn.func 64) #[] #[.pointer (some ⟨w.heap.size, 0, none⟩), .pointer (some ⟨w.heap.size + 1 + 1, 0, none⟩), .pointer (some ⟨w.heap.size + 1, 0, none⟩)], .func (Fn.func 22) #[.pointer (some ⟨d, 0, none⟩)] #[], .func (Fn.func 65) #[] #[.pointer (some ⟨w.heap.size, 0, none⟩), .pointer (some ⟨w.heap.size + 1 + 1, 0, none⟩)], .func (Fn.func 22) #[.pointer (some ⟨d, 0, none⟩)] #[]] 45)).heap[w.heap.size]? = _ := (Below.heap_alloc _ _ _ (by omega)).trans g0
  have h1 : ((((w.alloc (.cells #[.pointer (some ⟨d, 0, none⟩)] 24)).alloc (.cells #[.slice Ab m cb] 22)).alloc (.cells #[.int .i64 (1 - f)] 3)).alloc (.cells #[.func (Fn.func 63) #[] #[.pointer (some ⟨w.heap.size, 0, none⟩), .pointer (some ⟨w.heap.size + 1 + 1, 0, none⟩)], .func (Fn.func 64) #[] #[.pointer (some ⟨w.heap.size, 0, none⟩), .pointer (some ⟨w.heap.size + 1 + 1, 0, none⟩), .pointer (some ⟨w.heap.size + 1, 0, none⟩)], .func (Fn.func 22) #[.pointer (some ⟨d, 0, none⟩)] #[], .func (Fn.func 65) #[] #[.pointer (some ⟨w.heap.size, 0, none⟩), .pointer (some ⟨w.heap.size + 1 + 1, 0, none⟩)], .func (Fn.func 22) #[.pointer (some ⟨d, 0, none⟩)] #[]] 45)).heap[w.heap.size + 1]? = _ := (Below.heap_alloc _ _ _ (by omega)).trans g1
  have h2 : ((((w.alloc (.cells #[.pointer (some ⟨d, 0, none⟩)] 24)).alloc (.cells #[.slice Ab m cb] 22)).alloc (.cells #[.int .i64 (1 - f)] 3)).alloc (.cells #[.func (Fn.func 63) #[] #[.pointer (some ⟨w.heap.size, 0, none⟩), .pointer (some ⟨w.heap.size + 1 + 1, 0, none⟩)], .func (Fn.func 64) #[] #[.pointer (some ⟨w.heap.size, 0, none⟩), .pointer (some ⟨w.heap.size + 1 + 1, 0, none⟩), .pointer (some ⟨w.heap.size + 1, 0, none⟩)], .func (Fn.func 22) #[.pointer (some ⟨d, 0, none⟩)] #[], .func (Fn.func 65) #[] #[.pointer (some ⟨w.heap.size, 0, none⟩), .pointer (some ⟨w.heap.size + 1 + 1, 0, none⟩)], .func (Fn.func 22) #[.pointer (some ⟨d, 0, none⟩)] #[]] 45)).heap[w.heap.size + 1 + 1]? = _ := (Below.heap_alloc _ _ _ (by omega)).trans g2
  have h3 : ((((w.alloc (.cells #[.pointer (some ⟨d, 0, none⟩)] 24)).alloc (.cells #[.slice Ab m cb] 22)).alloc (.cells #[.int .i64 (1 - f)] 3)).alloc (.cells #[.func (Fn.func 63) #[] #[.pointer (some ⟨w.heap.size, 0, none⟩), .pointer (some ⟨w.heap.size + 1 + 1, 0, none⟩)], .func (Fn.func 64) #[] #[.pointer (some ⟨w.heap.size, 0, none⟩), .pointer (some ⟨w.heap.size + 1 + 1, 0, none⟩), .pointer (some ⟨w.heap.size + 1, 0, none⟩)], .func (Fn.func 22) #[.pointer (some ⟨d, 0, none⟩)] #[], .func (Fn.func 65) #[] #[.pointer (some ⟨w.heap.size, 0, none⟩), .pointer (some ⟨w.heap.size + 1 + 1, 0, none⟩)], .func (Fn.func 22) #[.pointer (some ⟨d, 0, none⟩)] #[]] 45)).heap[w.heap.size + 1 + 1 + 1]? = some (.cells #[.func (Fn.func 63) #[] #[.pointer (some ⟨w.heap.size, 0, none⟩), .pointer (some ⟨w.heap.size + 1 + 1, 0, none⟩)], .func (Fn.func 64) #[] #[.pointer (some ⟨w.heap.size, 0, none⟩), .pointer (some ⟨w.heap.size + 1 + 1, 0, none⟩), .pointer (some ⟨w.heap.size + 1, 0, none⟩)], .func (Fn.func 22) #[.pointer (some ⟨d, 0, none⟩)] #[], .func (Fn.func 65) #[] #[.pointer (some ⟨w.heap.size, 0, none⟩), .pointer (some ⟨w.heap.size + 1 + 1, 0, none⟩)], .func (Fn.func 22) #[.pointer (some ⟨d, 0, none⟩)] #[]] 45 (0, 0)) := by
    have e : w.heap.size + 1 + 1 + 1 = (((w.alloc (.cells #[.pointer (some ⟨d, 0, none⟩)] 24)).alloc (.cells #[.slice Ab m cb] 22)).alloc (.cells #[.int .i64 (1 - f)] 3)).heap.size := by rw [hs3]
    rw [e]
    exact heap_alloc_new _ _
  have hDV := hD.plus hbV (Nat.le_refl _)
  obtain ⟨-, -, hGF, hFlt⟩ := hD.lt
  have hsub : ∀ b, F b → plus w ((((w.alloc (.cells #[.pointer (some ⟨d, 0, none⟩)] 24)).alloc (.cells #[.slice Ab m cb] 22)).alloc (.cells #[.int .i64 (1 - f)] 3)).alloc (.cells #[.func (Fn.func 63) #[] #[.pointer (some ⟨w.heap.size, 0, none⟩), .pointer (some ⟨w.heap.size + 1 + 1, 0, none⟩)], .func (Fn.func 64) #[] #[.pointer (some ⟨w.heap.size, 0, none⟩), .pointer (some ⟨w.heap.size + 1 + 1, 0, none⟩), .pointer (some ⟨w.heap.size + 1, 0, none⟩)], .func (Fn.func 22) #[.pointer (some ⟨d, 0, none⟩)] #[], .func (Fn.func 65) #[] #[.pointer (some ⟨w.heap.size, 0, none⟩), .pointer (some ⟨w.heap.size + 1 + 1, 0, none⟩)], .func (Fn.func 22) #[.pointer (some ⟨d, 0, none⟩)] #[]] 45)) F b := fun b h => plus_of hbV.size hFlt h
  have hrV : RdF ((((w.alloc (.cells #[.pointer (some ⟨d, 0, none⟩)] 24)).alloc (.cells #[.slice Ab m cb] 22)).alloc (.cells #[.int .i64 (1 - f)] 3)).alloc (.cells #[.func (Fn.func 63) #[] #[.pointer (some ⟨w.heap.size, 0, none⟩), .pointer (some ⟨w.heap.size + 1 + 1, 0, none⟩)], .func (Fn.func 64) #[] #[.pointer (some ⟨w.heap.size, 0, none⟩), .pointer (some ⟨w.heap.size + 1 + 1, 0, none⟩), .pointer (some ⟨w.heap.size + 1, 0, none⟩)], .func (Fn.func 22) #[.pointer (some ⟨d, 0, none⟩)] #[], .func (Fn.func 65) #[] #[.pointer (some ⟨w.heap.size, 0, none⟩), .pointer (some ⟨w.heap.size + 1 + 1, 0, none⟩)], .func (Fn.func 22) #[.pointer (some ⟨d, 0, none⟩)] #[]] 45)) (plus w ((((w.alloc (.cells #[.pointer (some ⟨d, 0, none⟩)] 24)).alloc (.cells #[.slice Ab m cb] 22)).alloc (.cells #[.int .i64 (1 - f)] 3)).alloc (.cells #[.func (Fn.func 63) #[] #[.pointer (some ⟨w.heap.size, 0, none⟩), .pointer (some ⟨w.heap.size + 1 + 1, 0, none⟩)], .func (Fn.func 64) #[] #[.pointer (some ⟨w.heap.size, 0, none⟩), .pointer (some ⟨w.heap.size + 1 + 1, 0, none⟩), .pointer (some ⟨w.heap.size + 1, 0, none⟩)], .func (Fn.func 22) #[.pointer (some ⟨d, 0, none⟩)] #[], .func (Fn.func 65) #[] #[.pointer (some ⟨w.heap.size, 0, none⟩), .pointer (some ⟨w.heap.size + 1 + 1, 0, none⟩)], .func (Fn.func 22) #[.pointer (some ⟨d, 0, none⟩)] #[]] 45)) F) Ab b := (hr.below hbV (Nat.le_refl _)).mono hsub
  have hnew : ∀ b, w.heap.size ≤ b → b < w.heap.size + 4 → plus w ((((w.alloc (.cells #[.pointer (some ⟨d, 0, none⟩)] 24)).alloc (.cells #[.slice Ab m cb] 22)).alloc (.cells #[.int .i64 (1 - f)] 3)).alloc (.cells #[.func (Fn.func 63) #[] #[.pointer (some ⟨w.heap.size, 0, none⟩), .pointer (some ⟨w.heap.size + 1 + 1, 0, none⟩)], .func (Fn.func 64) #[] #[.pointer (some ⟨w.heap.size, 0, none⟩), .pointer (some ⟨w.heap.size + 1 + 1, 0, none⟩), .pointer (some ⟨w.heap.size + 1, 0, none⟩)], .func (Fn.func 22) #[.pointer (some ⟨d, 0, none⟩)] #[], .func (Fn.func 65) #[] #[.pointer (some ⟨w.heap.size, 0, none⟩), .pointer (some ⟨w.heap.size + 1 + 1, 0, none⟩)], .func (Fn.func 22) #[.pointer (some ⟨d, 0, none⟩)] #[]] 45)) F b := fun b h1 h2 => ⟨by omega, .inr h1⟩
  have HFV := Lib.hid (show (∀ b, F b → plus w ((((w.alloc (.cells #[.pointer (some ⟨d, 0, none⟩)] 24)).alloc (.cells #[.slice Ab m cb] 22)).alloc (.cells #[.int .i64 (1 - f)] 3)).alloc (.cells #[.func (Fn.func 63) #[] #[.pointer (some ⟨w.heap.size, 0, none⟩), .pointer (some ⟨w.heap.size + 1 + 1, 0, none⟩)], .func (Fn.func 64) #[] #[.pointer (some ⟨w.heap.size, 0, none⟩), .pointer (some ⟨w.heap.size + 1 + 1, 0, none⟩), .pointer (some ⟨w.heap.size + 1, 0, none⟩)], .func (Fn.func 22) #[.pointer (some ⟨d, 0, none⟩)] #[], .func (Fn.func 65) #[] #[.pointer (some ⟨w.heap.size, 0, none⟩), .pointer (some ⟨w.heap.size + 1 + 1, 0, none⟩)], .func (Fn.func 22) #[.pointer (some ⟨d, 0, none⟩)] #[]] 45)) F b) ∧ (∀ b, G b → plus w ((((w.alloc (.cells #[.pointer (some ⟨d, 0, none⟩)] 24)).alloc (.cells #[.slice Ab m cb] 22)).alloc (.cells #[.int .i64 (1 - f)] 3)).alloc (.cells #[.func (Fn.func 63) #[] #[.pointer (some ⟨w.heap.size, 0, none⟩), .pointer (some ⟨w.heap.size + 1 + 1, 0, none⟩)], .func (Fn.func 64) #[] #[.pointer (some ⟨w.heap.size, 0, none⟩), .pointer (some ⟨w.heap.size + 1 + 1, 0, none⟩), .pointer (some ⟨w.heap.size + 1, 0, none⟩)], .func (Fn.func 22) #[.pointer (some ⟨d, 0, none⟩)] #[], .func (Fn.func 65) #[] #[.pointer (some ⟨w.heap.size, 0, none⟩), .pointer (some ⟨w.heap.size + 1 + 1, 0, none⟩)], .func (Fn.func 22) #[.pointer (some ⟨d, 0, none⟩)] #[]] 45)) G b) ∧ (∀ b, G b → F b) ∧ BelF F w ((((w.alloc (.cells #[.pointer (some ⟨d, 0, none⟩)] 24)).alloc (.cells #[.slice Ab m cb] 22)).alloc (.cells #[.int .i64 (1 - f)] 3)).alloc (.cells #[.func (Fn.func 63) #[] #[.pointer (some ⟨w.heap.size, 0, none⟩), .pointer (some ⟨w.heap.size + 1 + 1, 0, none⟩)], .func (Fn.func 64) #[] #[.pointer (some ⟨w.heap.size, 0, none⟩), .pointer (some ⟨w.heap.size + 1 + 1, 0, none⟩), .pointer (some ⟨w.heap.size + 1, 0, none⟩)], .func (Fn.func 22) #[.pointer (some ⟨d, 0, none⟩)] #[], .func (Fn.func 65) #[] #[.pointer (some ⟨w.heap.size, 0, none⟩), .pointer (some ⟨w.heap.size + 1 + 1, 0, none⟩)], .func (Fn.func 22) #[.pointer (some ⟨d, 0, none⟩)] #[]] 45)) from ⟨hsub, fun b h => plus_of hbV.size (fun b h => hFlt b (hGF b h)) h, hGF, BelF.of hbV (Nat.le_refl _)⟩)
  have HM := Lib.hid hm
  have HN := Lib.hid hnew
  have HRV := Lib.hid hrV
  have HDV := Lib.hid hDV
  have HUP := Lib.hid hup
  have HC := Lib.hid (show (actS (rep s (1 - f) b 0) (1, 1 - f, [])).1 = 0 ∧ (actS (rep s (1 - f) b 1) (0, 1 - f, b)).1 = 0 ∧ (syncS (rep s (1 - f) b 2)).1 = 0 ∧ (actS (rep s (1 - f) b 3) (2, 1 - f, [])).1 = 0 ∧ (syncS (rep s (1 - f) b 4)).1 = 0 from ⟨c1, c2, c3, c4, c5⟩)
  have HHP := Lib.hid (show ((((w.alloc (.cells #[.pointer (some ⟨d, 0, none⟩)] 24)).alloc (.cells #[.slice Ab m cb] 22)).alloc (.cells #[.int .i64 (1 - f)] 3)).alloc (.cells #[.func (Fn.func 63) #[] #[.pointer (some ⟨w.heap.size, 0, none⟩), .pointer (some ⟨w.heap.size + 1 + 1, 0, none⟩)], .func (Fn.func 64) #[] #[.pointer (some ⟨w.heap.size, 0, none⟩), .pointer (some ⟨w.heap.size + 1 + 1, 0, none⟩), .pointer (some ⟨w.heap.size + 1, 0, none⟩)], .func (Fn.func 22) #[.pointer (some ⟨d, 0, none⟩)] #[], .func (Fn.func 65) #[] #[.pointer (some ⟨w.heap.size, 0, none⟩), .pointer (some ⟨w.heap.size + 1 + 1, 0, none⟩)], .func (Fn.func 22) #[.pointer (some ⟨d, 0, none⟩)] #[]] 45)).heap.size = w.heap.size + 4 ∧ _ ∧ _ ∧ _ ∧ _ from ⟨hsV, h0, h1, h2, h3⟩)
  clear c1 c2 c3 c4 c5 hup hb3 hs3 hbV hsV g0 g1 g2 h0 h1 h2 h3 hDV hGF hFlt hsub hrV hnew hm hr hD hW
  go_enter Try.func56, Try.ntmps56
  go_wp2_with fail
  generalize ((((w.alloc (.cells #[.pointer (some ⟨d, 0, none⟩)] 24)).alloc (.cells #[.slice Ab m cb] 22)).alloc (.cells #[.int .i64 (1 - f)] 3)).alloc (.cells #[.func (Fn.func 63) #[] #[.pointer (some ⟨w.heap.size, 0, none⟩), .pointer (some ⟨w.heap.size + 1 + 1, 0, none⟩)], .func (Fn.func 64) #[] #[.pointer (some ⟨w.heap.size, 0, none⟩), .pointer (some ⟨w.heap.size + 1 + 1, 0, none⟩), .pointer (some ⟨w.heap.size + 1, 0, none⟩)], .func (Fn.func 22) #[.pointer (some ⟨d, 0, none⟩)] #[], .func (Fn.func 65) #[] #[.pointer (some ⟨w.heap.size, 0, none⟩), .pointer (some ⟨w.heap.size + 1 + 1, 0, none⟩)], .func (Fn.func 22) #[.pointer (some ⟨d, 0, none⟩)] #[]] 45)) = V at HFV HN HRV HDV HHP ⊢
  generalize plus w V F = F1 at HFV HN HRV HDV
  generalize plus w V G = G1 at HFV HDV
  have HML := Lib.hid hM
  clear hM
  go_loopw [24] (fun vi wr => ∃ k : Nat, k ≤ 5 ∧ vi = .int .i64 k ∧ Hid (DiskM wr F1 G1 d (rep s (1 - f) b k)) ∧ Hid (BelF F1 V wr)) (fun vi _ => 5 - (intOf vi).toNat)
  case atStart => exact ⟨0, by omega, rfl, HDV, Lib.hid (BelF.refl _ _)⟩
  case round =>
    obtain ⟨k, hk, rfl, HDK, HB⟩ := hrel
    obtain ⟨hV, h0, h1, h2, h3⟩ := HHP.out
    have k0 : wr.heap[w.heap.size]? = _ := (HB.out.block _ (by omega) (HN.out _ (by omega) (by omega))).trans h0
    have k1 : wr.heap[w.heap.size + 1]? = _ := (HB.out.block _ (by omega) (HN.out _ (by omega) (by omega))).trans h1
    have k2 : wr.heap[w.heap.size + 1 + 1]? = _ := (HB.out.block _ (by omega) (HN.out _ (by omega) (by omega))).trans h2
    have k3 : wr.heap[w.heap.size + 1 + 1 + 1]? = _ := (HB.out.block _ (by omega) (HN.out _ (by omega) (by omega))).trans h3
    have x0 := cell_of_row _ w.heap.size 0 _ _ (0, 0) k0
    have x1 := cell_of_row _ (w.heap.size + 1) 0 _ _ (0, 0) k1
    have x2 := cell_of_row _ (w.heap.size + 1 + 1) 0 _ _ (0, 0) k2
    have y0 := cell_of_row _ (w.heap.size + 1 + 1 + 1) 0 _ _ (0, 0) k3
    have y1 := cell_of_row _ (w.heap.size + 1 + 1 + 1) 1 _ _ (0, 0) k3
    have y2 := cell_of_row _ (w.heap.size + 1 + 1 + 1) 2 _ _ (0, 0) k3
    have y3 := cell_of_row _ (w.heap.size + 1 + 1 + 1) 3 _ _ (0, 0) k3
    have y4 := cell_of_row _ (w.heap.size + 1 + 1 + 1) 4 _ _ (0, 0) k3
    simp only [List.getElem?_toArray, List.getElem?_cons_succ, List.getElem?_cons_zero] at x0 x1 x2 y0 y1 y2 y3 y4
    clear k0 k1 k2 k3 hV h0 h1 h2 h3
    obtain ⟨hc1, hc2, hc3, hc4, hc5⟩ := HC.out
    have hok : OkS (rep s (1 - f) b k) := ok_off (HUP.out k).1
    have hln := (HUP.out k).2.2
    have hsh := hln.short (by have := HML.out; omega) 0 (by omega)
    have hk6 : k = 0 ∨ k = 1 ∨ k = 2 ∨ k = 3 ∨ k = 4 ∨ k = 5 := by omega
    rcases hk6 with rfl | rfl | rfl | rfl | rfl | rfl
    · have HCC := Lib.hid (clos1 wr HDK.out hok hsh x0 x2 0 hc1 _ rfl)
      clear hc1 hc2 hc3 hc4 hc5 hok hln hsh
      go_wp2_with fail
      refine HCC.out.mono ?_
      rintro e w2 ⟨rfl, hD2, hbf⟩
      have HD2 := Lib.hid (show DiskM w2 F1 G1 d (rep s (1 - f) b 1) from hD2)
      have HB2 := Lib.hid (HB.out.trans hbf)
      clear hD2 hbf HCC x0 x1 x2 y0 y1 y2 y3 y4
      go_wp2_with fail
      go_roundw
      case rel => exact ⟨1, by omega, by go_num, HD2, HB2⟩
      case measure => simp [intOf] <;> omega
    · have HCC := Lib.hid (clos2 wr HDK.out hok HM.out ((HRV.out.bel HB.out).rd) (hln.short (by have := HML.out; omega) b.length (by have := HML.out; omega)) (by have := HML.out; omega) x0 x2 x1 0 hc2 _ rfl)
      clear hc1 hc2 hc3 hc4 hc5 hok hln hsh
      go_wp2_with fail
      refine HCC.out.mono ?_
      rintro e w2 ⟨rfl, hD2, hbf⟩
      have HD2 := Lib.hid (show DiskM w2 F1 G1 d (rep s (1 - f) b 2) from hD2)
      have HB2 := Lib.hid (HB.out.trans hbf)
      clear hD2 hbf HCC x0 x1 x2 y0 y1 y2 y3 y4
      go_wp2_with fail
      go_roundw
      case rel => exact ⟨2, by omega, by go_num, HD2, HB2⟩
      case measure => simp [intOf] <;> omega
    · have HCC := Lib.hid (sync_any wr HDK.out hok (hln.long (by have := HML.out; omega)) 0 _ (show (0, (syncS (rep s (1 - f) b 2)).2) = syncS (rep s (1 - f) b 2) from by rw [← hc3]))
      clear hc1 hc2 hc3 hc4 hc5 hok hln hsh
      go_wp2_with fail
      refine HCC.out.mono ?_
      rintro e w2 ⟨rfl, hD2, hbf⟩
      have HD2 := Lib.hid (show DiskM w2 F1 G1 d (rep s (1 - f) b 3) from hD2)
      have HB2 := Lib.hid (HB.out.trans hbf)
      clear hD2 hbf HCC x0 x1 x2 y0 y1 y2 y3 y4
      go_wp2_with fail
      go_roundw
      case rel => exact ⟨3, by omega, by go_num, HD2, HB2⟩
      case measure => simp [intOf] <;> omega
    · have HCC := Lib.hid (clos3 wr HDK.out hok hsh x0 x2 0 hc4 _ rfl)
      clear hc1 hc2 hc3 hc4 hc5 hok hln hsh
      go_wp2_with fail
      refine HCC.out.mono ?_
      rintro e w2 ⟨rfl, hD2, hbf⟩
      have HD2 := Lib.hid (show DiskM w2 F1 G1 d (rep s (1 - f) b 4) from hD2)
      have HB2 := Lib.hid (HB.out.trans hbf)
      clear hD2 hbf HCC x0 x1 x2 y0 y1 y2 y3 y4
      go_wp2_with fail
      go_roundw
      case rel => exact ⟨4, by omega, by go_num, HD2, HB2⟩
      case measure => simp [intOf] <;> omega
    · have HCC := Lib.hid (sync_any wr HDK.out hok (hln.long (by have := HML.out; omega)) 0 _ (show (0, (syncS (rep s (1 - f) b 4)).2) = syncS (rep s (1 - f) b 4) from by rw [← hc5]))
      clear hc1 hc2 hc3 hc4 hc5 hok hln hsh
      go_wp2_with fail
      refine HCC.out.mono ?_
      rintro e w2 ⟨rfl, hD2, hbf⟩
      have HD2 := Lib.hid (show DiskM w2 F1 G1 d (rep s (1 - f) b 5) from hD2)
      have HB2 := Lib.hid (HB.out.trans hbf)
      clear hD2 hbf HCC x0 x1 x2 y0 y1 y2 y3 y4
      go_wp2_with fail
      go_roundw
      case rel => exact ⟨5, by omega, by go_num, HD2, HB2⟩
      case measure => simp [intOf] <;> omega
    · obtain ⟨hsub, hsubG, hGF, hbV⟩ := HFV.out
      have HE := Lib.hid (show DiskM wr F G d (rep s (1 - f) b 5) ∧ BelF F w wr from ⟨shrink HDK.out hsub hsubG hGF, hbV.trans (HB.out.mono hsub)⟩)
      clear hsub hsubG hGF hbV hc1 hc2 hc3 hc4 hc5 hok hln hsh
      go_wp2_with fail
      go_ret
      exact ⟨rfl, HE.out⟩
end Go.Proofs.Ytjipjfionelpkaa.wl

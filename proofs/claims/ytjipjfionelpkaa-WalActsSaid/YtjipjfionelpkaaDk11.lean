/- What a crash makes of a disk: its data, and its ten cells written anew. -/
import Derived.Test.YtjipjfionelpkaaDk10
namespace Go.Proofs.Ytjipjfionelpkaa.dk
open Go.RowKit Go.Proofs.Ytjipjfionelpkaa.lib Go.Proofs.Ytjipjfionelpkaa.byt
set_option linter.unusedVariables false

def keepN (s : DS) (keep : Int) : Nat := (min (max keep 0) s.lo.length).toNat
def cutB (torn : Int) (b : List UInt8) : List UInt8 := b.take (min (max torn 0) b.length).toNat
/-- What lasts behind a crash. -/
def lastS (s : DS) (keep torn : Int) : DS :=
  match s.lo[keepN s keep]? with
  | some p => if p.1 = 0 then doS 0 (foldS 0 s (s.lo.take (keepN s keep))) (0, p.2.1, cutB torn p.2.2) else foldS 0 s (s.lo.take (keepN s keep))
  | none => foldS 0 s (s.lo.take (keepN s keep))
def freshS (s : DS) : DS := { by_ := fun j => if j < 2 then s.by_ j else s.by_ (j - 2), f0 := s.f0, f1 := s.f0, lo := [], arm := false, left := 0, down := false }
def crashS (s : DS) (keep torn : Int) : DS := freshS (lastS s keep torn)

theorem set10 {w : World} {d : Nat} {cs : Array Value} {t : TypeId} (h : w.heap[d]? = some (.cells cs t (0, 0))) (hcs : cs.size = 10) (v0 v1 v2 v3 v4 v5 v6 v7 v8 v9 : Value) :
    ((((((((((w.setCell ⟨d, 0, none⟩ v0).setCell ⟨d, 1, none⟩ v1).setCell ⟨d, 2, none⟩ v2).setCell ⟨d, 3, none⟩ v3).setCell ⟨d, 4, none⟩ v4).setCell ⟨d, 5, none⟩ v5).setCell ⟨d, 6, none⟩ v6).setCell ⟨d, 7, none⟩ v7).setCell ⟨d, 8, none⟩ v8).setCell ⟨d, 9, none⟩ v9).heap[d]? = some (.cells #[v0, v1, v2, v3, v4, v5, v6, v7, v8, v9] t (0, 0)) := by
  obtain ⟨l⟩ := cs
  match l, hcs with
  | [a0, a1, a2, a3, a4, a5, a6, a7, a8, a9], _ =>
    have e0 := heap_setCell_same w d 0 _ _ v0 h
    have e1 := heap_setCell_same _ d 1 _ _ v1 e0
    have e2 := heap_setCell_same _ d 2 _ _ v2 e1
    have e3 := heap_setCell_same _ d 3 _ _ v3 e2
    have e4 := heap_setCell_same _ d 4 _ _ v4 e3
    have e5 := heap_setCell_same _ d 5 _ _ v5 e4
    have e6 := heap_setCell_same _ d 6 _ _ v6 e5
    have e7 := heap_setCell_same _ d 7 _ _ v7 e6
    have e8 := heap_setCell_same _ d 8 _ _ v8 e7
    have e9 := heap_setCell_same _ d 9 _ _ v9 e8
    simp only [List.setIfInBounds_toArray, List.set_cons_zero, List.set_cons_succ] at e9
    exact e9
section
variable {w w' : World} {F G : Nat → Prop} {d : Nat} {s : DS} {A : Nat → Option Addr} {c : Nat → Nat} {AL : Option Addr} {cL : Nat} {H : List Hd}
/-- The lasting areas stay, those as they are become clones of them, nothing is loose. -/
theorem DiskP.fresh (h : DiskP w F G d s A c AL cL H) {b0 : Nat} (hb' : Below b0 w w') (hb0 : w.heap.size ≤ b0) {w2 : World} {A2 A3 : Option Addr} {c2 c3 : Nat} (h2 : OwnB w' w.heap.size A2 c2 (s.by_ 0)) (h3 : OwnB w' w.heap.size A3 c3 (s.by_ 1)) (hf : FarB A2 A3)
    (hcell : w2.heap[d]? = some (.cells #[.slice (A 0) (s.by_ 0).length (c 0), .slice (A 1) (s.by_ 1).length (c 1), .int .i64 s.f0, .slice A2 (s.by_ 0).length c2, .slice A3 (s.by_ 1).length c3, .int .i64 s.f0, .slice none 0 0, .bool false, .int .i64 0, .bool false] 75 (0, 0)))
    (hoth : ∀ b, b ≠ d → w2.heap[b]? = w'.heap[b]?) (hsz : w'.heap.size ≤ w2.heap.size) : DiskM w2 F G d (freshS s) := by
  have hdl := h.dlt
  have hkeep : ∀ {b1 : Nat} {Ak : Option Addr} {ck : Nat} {bs : List UInt8}, OwnB w' b1 Ak ck bs → Ak.map (·.block) ≠ some d → OwnB w2 0 Ak ck bs := fun {b1 Ak ck bs} ho hne => by
    refine ⟨ho.1, ?_⟩
    rcases ho.2 with hn | ⟨g, cap, cur, e, hbg, hg, rest⟩
    · exact .inl hn
    · refine .inr ⟨g, cap, cur, e, Nat.zero_le _, ?_, rest⟩
      rw [hoth g (fun e2 => hne (by injection e with e3 _ _; subst e3 e2; rfl))]
      exact hg
  have hd2 : A2.map (·.block) ≠ some d := fun e => by have := (own_lt h2 e).1; omega
  have hd3 : A3.map (·.block) ≠ some d := fun e => by have := (own_lt h3 e).1; omega
  have hold : ∀ k, k < 2 → OwnB w2 0 (A k) (c k) (s.by_ k) := fun k hk => hkeep (own_below (h.own k (by omega)) hb' hb0) (h.notd k (by omega))
  have lo0 := fun b e => (own_lt (h.own 0 (by omega)) (b := b) e).2
  have lo1 := fun b e => (own_lt (h.own 1 (by omega)) (b := b) e).2
  have lo2 := fun b e => (own_lt h2 (b := b) e).1
  have lo3 := fun b e => (own_lt h3 (b := b) e).1
  refine ⟨fun k => if k = 0 then A 0 else if k = 1 then A 1 else if k = 2 then A2 else A3, fun k => if k = 0 then c 0 else if k = 1 then c 1 else if k = 2 then c2 else c3, none, 0, [], hcell, h.base, h.ebase, fun b hb => by have := h.flt b hb; have := hb'.size; omega, fun k hk => ?_, fun k hk => ?_, fun k hk b hb => ?_, fun k l hk hl hkl b hb' => ?_, World.ownsRow_nil _ _ _ _, (fun e => by cases e), (fun b e => by cases e), (fun k hk b _ e => by cases e), rfl, fun i h1 => absurd h1 (Nat.not_lt_zero _)⟩
  · rcases k with _ | _ | _ | _ | k
    · exact hold 0 (by omega)
    · exact hold 1 (by omega)
    · exact hkeep h2 hd2
    · exact hkeep h3 hd3
    · omega
  · rcases k with _ | _ | _ | _ | k
    · exact h.notd 0 (by omega)
    · exact h.notd 1 (by omega)
    · exact hd2
    · exact hd3
    · omega
  · rcases k with _ | _ | _ | _ | k
    · exact h.notF 0 (by omega) b hb
    · exact h.notF 1 (by omega) b hb
    · exact fun hf => by have := h.flt b hf; have := (own_lt h2 hb).1; omega
    · exact fun hf => by have := h.flt b hf; have := (own_lt h3 hb).1; omega
    · omega
  · rcases k with _ | _ | _ | _ | k <;> rcases l with _ | _ | _ | _ | l <;> first | exact absurd rfl hkl | omega | skip
    · exact h.apart 0 1 (by omega) (by omega) (by omega) b hb'
    · exact fun e => by have := lo0 b hb'; have := lo2 b e; omega
    · exact fun e => by have := lo0 b hb'; have := lo3 b e; omega
    · exact h.apart 1 0 (by omega) (by omega) (by omega) b hb'
    · exact fun e => by have := lo1 b hb'; have := lo2 b e; omega
    · exact fun e => by have := lo1 b hb'; have := lo3 b e; omega
    · exact fun e => by have := lo2 b hb'; have := lo0 b e; omega
    · exact fun e => by have := lo2 b hb'; have := lo1 b e; omega
    · exact hf b hb'
    · exact fun e => by have := lo3 b hb'; have := lo0 b e; omega
    · exact fun e => by have := lo3 b hb'; have := lo1 b e; omega
    · exact fun e => hf b e hb'
end
end Go.Proofs.Ytjipjfionelpkaa.dk

/- What net's Send answers. -/
import Derived.Test.YtnmamfgebbcehaaNet2
import Derived.Deep.RegionLaw
import Derived.Deep.AppendLies
import Derived.IntWalk
namespace Go.Proofs.Ytnmamfgebbcehaa.pk
open Go.RowKit Go.Proofs.Ytnmamfgebbcehaa.lib Go.Proofs.Ytnmamfgebbcehaa.byt

theorem step_append_run {P : Program} {w w' : World} {ops : Array Oper} {o : Oper} {a : Act} {K : Act → World → Prop} {Q : Exit → Act → World → Prop} {E : Prop} (hgd : o.guard = none) {s x : Operand} {t u : TypeId}
    (ho : o.op = .call { callee := .builtin .append, args := #[s, x], argTypes := #[t, u] }) {v1 v2 v' : Value} (hs : a.eval s = v1) (hx : a.eval x = v2)
    (hrun : (Builtin.append_ #[t, u] o.type #[v1, v2]).run P w = .ok v' w') (h : K (a.put o.dst v') w') : if Region.wanted o (yielded ops a.tmps) = true then Oper.wp P o a w K Q else E := by
  have hw : Region.wanted o (yielded ops a.tmps) = true := by simp [Region.wanted, hgd]
  rw [if_pos hw]
  unfold Oper.wp execOp
  simp only [ho, resolve, invoke, builtin, Sem.run_bind, Sem.run_pure, Result.andThen_ok, List.map_toArray, List.map_cons, List.map_nil, hs, hx, hrun]
  exact h

/-- A write elsewhere than in the row A. -/
theorem ElemB.upd {w w' : World} {B k : Nat} {A A' : Option Addr} {v : Value} {r : List UInt8} (h : ElemB w B A v r) (hu : Upd w w' A k A') : ElemB w' B A' v r := by
  obtain ⟨Ai, ci, e, hr, ha⟩ := h
  have hblk : ∀ ad, Ai = some ad → w'.heap[ad.block]? = w.heap[ad.block]? := fun ad e => hu.grown.block _ (ha ad e).1 (Ne.symm (ha ad e).2.2.1)
  refine ⟨Ai, ci, e, ⟨hr.1, fun hn => ?_⟩, fun ad ea => ?_⟩
  · obtain ⟨ad, e2, hb, hc⟩ := hr.2 hn
    refine ⟨ad, e2, Nat.lt_of_lt_of_le hb hu.size, fun j u hu' => ?_⟩
    rw [World.cell?_of_block (w := w) (by rw [block_of_add]; exact hblk ad e2)]
    exact hc j u hu'
  · obtain ⟨h1, h2, h3, h4⟩ := ha ad ea
    refine ⟨Nat.lt_of_lt_of_le h1 hu.size, h2, ?_, fun j hj => ?_⟩
    · rcases hu.lies with e' | ⟨g, e', hg⟩
      · rw [e']; exact h3
      · rw [e']
        simp only [Option.map_some, ne_eq, Option.some.injEq]
        omega
    · rw [World.frozen?_of_block (w := w) (by rw [block_of_add]; exact hblk ad ea)]
      exact h4 j hj
theorem own_row {w : World} {B : Nat} {e : TypeId} {size n c : Nat} {A : Option Addr} {xs : List Value} (h : w.ownsRow B e size (.slice A n c) n xs) {b : Nat} (hb : A.map (·.block) = some b) : B ≤ b ∧ b < w.heap.size := by
  cases A with
  | none => simp at hb
  | some a =>
    simp only [Option.map_some, Option.some.injEq] at hb
    subst hb
    exact h.lt a.block rfl
theorem Reads.new_row' (w : World) (size n : Nat) (cs : Array Value) (t : TypeId) (xs : List Value) (e : cs.toList = xs) (h : xs.length = n * size) : Reads (w.alloc (.cells cs t)) (w.heap.size + 1) size (some ⟨w.heap.size, 0, none⟩) n xs := by
  subst e
  exact Reads.new_ w size n cs t (by simpa using h)
/-- The same as OwnP, and nothing of it lies in block x. -/
def OwnPN (w : World) (B : Nat) (A : Option Addr) (c : Nat) (P : List Pk) (x : Nat) : Prop :=
  ∃ H, w.ownsRow B 29 3 (.slice A P.length c) P.length (pkV H) ∧ H.length = P.length ∧ A.map (·.block) ≠ some x ∧ ∀ i (h : i < H.length) (h' : i < P.length), H[i].1 = P[i].1 ∧ H[i].2.1 = P[i].2.1 ∧ ElemB w B A H[i].2.2 P[i].2.2 ∧ H[i].2.2.ownBlock ≠ some x
theorem ElemB.blk {w : World} {B : Nat} {A : Option Addr} {v : Value} {r : List UInt8} (h : ElemB w B A v r) {x : Nat} (hx : w.heap.size ≤ x) : v.ownBlock ≠ some x := by
  obtain ⟨Ai, ci, e, _, ha⟩ := h
  subst e
  intro e
  cases Ai with
  | none => cases e
  | some ad =>
    have h1 : ad.block = x := by injection e
    have := (ha ad rfl).1
    omega
theorem OwnP.away {w : World} {B : Nat} {A : Option Addr} {c : Nat} {P : List Pk} (h : OwnP w B A c P) {x : Nat} (hx : w.heap.size ≤ x) : OwnPN w B A c P x := by
  obtain ⟨H, h1, h2, h3⟩ := h
  refine ⟨H, h1, h2, fun e => ?_, fun i g1 g2 => let ⟨a, b, c⟩ := h3 i g1 g2; ⟨a, b, c, c.blk hx⟩⟩
  have := (own_row h1 e).2
  omega
theorem OwnPN.own {w : World} {B : Nat} {A : Option Addr} {c : Nat} {P : List Pk} {x : Nat} (h : OwnPN w B A c P x) : OwnP w B A c P :=
  let ⟨H, h1, h2, _, h3⟩ := h; ⟨H, h1, h2, fun i g1 g2 => let ⟨a, b, c, _⟩ := h3 i g1 g2; ⟨a, b, c⟩⟩
theorem OwnPN.below {w w' : World} {B : Nat} {A : Option Addr} {c : Nat} {P : List Pk} {x : Nat} (h : OwnPN w B A c P x) {k : Nat} (hb : Below k w w') (hk : w.heap.size ≤ k) : OwnPN w' B A c P x :=
  let ⟨H, h1, h2, h0, h3⟩ := h; ⟨H, own_below h1 hb hk, h2, h0, fun i g1 g2 => let ⟨a, b, c, d⟩ := h3 i g1 g2; ⟨a, b, c.below hb hk, d⟩⟩
theorem ElemB.other {w : World} {B : Nat} {A : Option Addr} {v : Value} {r : List UInt8} (h : ElemB w B A v r) {p : Addr} (hp : v.ownBlock ≠ some p.block) (u : Value) : ElemB (w.setCell p u) B A v r := by
  obtain ⟨Ai, ci, e, hr, ha⟩ := h
  subst e
  refine ⟨Ai, ci, rfl, ⟨hr.1, fun hn => ?_⟩, fun ad ea => ?_⟩
  · obtain ⟨ad, e2, hb, hc⟩ := hr.2 hn
    subst e2
    refine ⟨ad, rfl, by simpa using hb, fun j u' hu' => ?_⟩
    rw [World.cell?_setCell_other w p _ u (fun e3 => hp (by rw [e3, block_of_add]; rfl))]
    exact hc j u' hu'
  · obtain ⟨h1, h2, h3, h4⟩ := ha ad ea
    exact ⟨by simpa using h1, h2, h3, fun j hj => by simpa using h4 j hj⟩
theorem OwnPN.store {w : World} {B : Nat} {A : Option Addr} {c : Nat} {P : List Pk} {x : Nat} (h : OwnPN w B A c P x) {p : Addr} (hp : p.block = x) (u : Value) : OwnPN (w.setCell p u) B A c P x := by
  subst hp
  obtain ⟨H, h1, h2, h0, h3⟩ := h
  refine ⟨H, ownsRow_setCell_other h1 (fun e => h0 ?_) u, h2, h0, fun i g1 g2 => let ⟨a, b, c, d⟩ := h3 i g1 g2; ⟨a, b, c.other d u, d⟩⟩
  cases A with
  | none => cases e
  | some a => exact e
/-- 'append(list, Packet{..})', the bytes of the call's own. -/
theorem append_onePk (w : World) (B : Nat) {A : Option Addr} {n c : Nat} {P : List Pk} {z : Nat} (hn : n = P.length) (hown : OwnPN w B A c P z) (x y : Int) {A2 : Option Addr} {m c2 : Nat} {bs : List UInt8} (hm : m = bs.length) {B2 : Nat} (ho : OwnB w B2 A2 c2 bs) (hB2 : B ≤ B2) (hz : z < B2) (hzw : z < w.heap.size) (hfar : ∀ b, A.map (·.block) = some b → b < B2) (hs : n ≤ 1099511627775) (hB : B ≤ w.heap.size) :
    ∃ A' c' w', (Builtin.append_ #[22, 22] 22 #[.slice A n c, .slice (some ⟨w.heap.size, 0, none⟩) 1 1]).run Try.prog (w.alloc (.cells #[.int .i64 x, .int .i64 y, .slice A2 m c2] 29)) = .ok (.slice A' (n + 1) c') w' ∧ OwnPN w' B A' c' (P ++ [(x, y, bs)]) z ∧ Below B w w' ∧ w'.heap[z]? = w.heap[z]? := by
  obtain ⟨H, h1, h2, h0, h3⟩ := hown
  subst hm
  have hr := pk.Reads.new_row' w 3 1 #[.int .i64 x, .int .i64 y, .slice A2 bs.length c2] 29 (pkV [(x, y, .slice A2 bs.length c2)]) rfl rfl
  rw [← hn] at h1
  obtain ⟨A', c', w', g1, g2, g3, g4⟩ := append_pk (w.alloc (.cells #[.int .i64 x, .int .i64 y, .slice A2 bs.length c2] 29)) B (World.ownsRow.alloc h1 _) (m := 1) (c2 := 1) hr (by intro u hu; simp [pkV] at hu; rcases hu with rfl | rfl | rfl <;> rfl) (by omega) (by simp; omega)
  have hbA : Below w.heap.size w (w.alloc (.cells #[.int .i64 x, .int .i64 y, .slice A2 bs.length c2] 29)) := (Below.refl _ _).alloc (Nat.le_refl _) _
  refine ⟨A', c', w', g1, ⟨H ++ [(x, y, .slice A2 bs.length c2)], ?_, by simp [h2], ?_, fun i hi hi' => ?_⟩, (hbA.mono hB).trans g4, ?_⟩
  · have e : (P ++ [(x, y, bs)]).length = n + 1 := by simp [hn]
    rw [e]
    exact g2
  · rcases g3.lies with e | ⟨g, e, hg⟩
    · rw [e]; exact h0
    · rw [e]
      simp only [Option.map_some, ne_eq, Option.some.injEq]
      simp at hg
      omega
  · by_cases hl : i < H.length
    · rw [List.getElem_append_left hl, List.getElem_append_left (by omega)]
      obtain ⟨a, b, c, d⟩ := h3 i hl (by omega)
      exact ⟨a, b, (c.below hbA (Nat.le_refl _)).upd g3, d⟩
    · have e : i = H.length := by simp at hi; omega
      subst e
      rw [List.getElem_append_right (Nat.le_refl _), List.getElem_append_right (by omega)]
      simp only [Nat.sub_self, h2, List.getElem_cons_zero]
      have he : ElemB w B A (.slice A2 bs.length c2) bs := (ElemB.of_own ho hfar).base hB2
      refine ⟨trivial, trivial, (he.below hbA (Nat.le_refl _)).upd g3, fun e => ?_⟩
      have : B2 ≤ z ∧ z < w.heap.size := by
        cases A2 with
        | none => cases e
        | some a =>
          have e' : a.block = z := by injection e
          subst e'
          exact ho.lt a.block rfl
      omega
  · rw [g3.grown.block z (by simp; omega) (Ne.symm h0)]
    exact Below.heap_alloc w _ z hzw
end Go.Proofs.Ytnmamfgebbcehaa.pk

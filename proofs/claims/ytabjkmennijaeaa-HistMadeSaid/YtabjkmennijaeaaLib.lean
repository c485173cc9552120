/- Words for memory: a slice that reads as a list, append onto a row of the call's own, conversions between bytes and strings. After the guide's own words for copying, and turned. No condition. -/
import Derived.WalkKit
import Derived.WalkSpells
import Derived.WalkLawsBesides
import Derived.Lib.Hide
import Derived.Lib.AppendStr
import Derived.Lib.ConvBytes
import Derived.Maps.AppendAt
import Derived.Deep.AppendLies
import Derived.Deep.Draws
import Derived.Laws.OwnMore
import Derived.Laws.BytesArg
import Derived.Lib.Strings
import Derived.Lib.IndexBytes
namespace Go.Proofs.Ytabjkmennijaeaa.lib
open Go.RowKit
theorem block_of_add (a : Addr) (n : Nat) : (a.add n).block = a.block := by unfold Addr.add; split <;> rfl
theorem add_of_add (a : Addr) (i j : Nat) : (a.add i).add j = a.add (i + j) := by
  unfold Addr.add
  by_cases hi : i = 0 <;> by_cases hj : j = 0 <;> simp [hi, hj, Nat.add_assoc]

def Reads (w : World) (B size : Nat) (A : Option Addr) (n : Nat) (xs : List Value) : Prop :=
  xs.length = n * size ∧ (0 < n → ∃ ad, A = some ad ∧ ad.block < B ∧ ∀ j u, xs[j]? = some u → w.cell? (ad.add j) = some u)

section
variable {w w' : World} {B B' size n : Nat} {A : Option Addr} {xs : List Value}
theorem Reads.none_ : Reads w B size A 0 [] := ⟨by simp, fun h => absurd h (by omega)⟩
theorem Reads.at_ {k : Nat} (h : Reads w B 1 A n xs) (hk : k < n) : ∃ ad u, A = some ad ∧ ad.block < B ∧ xs[k]? = some u ∧ w.cell? (ad.add k) = some u := by
  obtain ⟨ad, e, hb, hc⟩ := h.2 (by omega)
  have hl : k < xs.length := by have := h.1; omega
  exact ⟨ad, xs[k], e, hb, List.getElem?_eq_getElem hl, hc k _ (List.getElem?_eq_getElem hl)⟩
theorem Reads.keep (h : Reads w B size A n xs) (hk : ∀ p : Addr, p.block < B → w'.cell? p = w.cell? p) : Reads w' B size A n xs :=
  ⟨h.1, fun hn => by
    obtain ⟨ad, e, hb, hc⟩ := h.2 hn
    exact ⟨ad, e, hb, fun j u hu => (hk _ (by rw [block_of_add]; exact hb)).trans (hc j u hu)⟩⟩
theorem Reads.more (h : Reads w B size A n xs) (hB : B ≤ B') : Reads w B' size A n xs :=
  ⟨h.1, fun hn => by
    obtain ⟨ad, e, hb, hc⟩ := h.2 hn
    exact ⟨ad, e, by omega, hc⟩⟩
theorem Reads.below (h : Reads w B size A n xs) (hb : Below B w w') : Reads w' B size A n xs := h.keep fun _ hp => hb.cell hp
theorem Reads.drew (h : Reads w B size A n xs) : Reads w.drew B size A n xs := h
theorem Reads.drewN (h : Reads w B size A n xs) (k : Nat) : Reads (w.drewN k) B size A n xs := h
theorem Reads.alloc (h : Reads w B size A n xs) (hB : B ≤ w.heap.size) (o : Obj) : Reads (w.alloc o) B size A n xs := h.keep fun p hp => World.cell?_alloc_lt w o p (by omega)
theorem Reads.setCell (h : Reads w B size A n xs) {p : Addr} (hB : B ≤ p.block) (u : Value) : Reads (w.setCell p u) B size A n xs :=
  h.keep fun q hq => World.cell?_setCell_other w p q u (fun e => by subst e; omega)
theorem Reads.grown (h : Reads w B size A n xs) {row : Option Nat} (hg : w.grownBy w' row) (hB : B ≤ w.heap.size) (hr : ∀ g, row = some g → B ≤ g) : Reads w' B size A n xs :=
  h.keep fun p hp => World.cell?_of_block (hg.block p.block (by omega) (fun e => by have := hr _ e.symm; omega))
theorem Reads.cut (h : Reads w B size A n xs) {k cap : Nat} (hk : k ≤ n) (hc : n ≤ cap) :
    Reads w B size (if cap = k then A else A.map (·.add (k * size))) (n - k) (xs.drop (k * size)) := by
  refine ⟨by rw [List.length_drop, h.1, Nat.sub_mul], fun hn => ?_⟩
  obtain ⟨ad, rfl, hb, hcell⟩ := h.2 (by omega)
  rw [if_neg (by omega)]
  refine ⟨ad.add (k * size), rfl, by rw [block_of_add]; exact hb, fun j u hu => ?_⟩
  rw [add_of_add]
  exact hcell _ u (by rw [← hu, List.getElem?_drop])
theorem Reads.of_own {base : Nat} {e : TypeId} {c : Nat} (h : w.ownsRow base e size (.slice A n c) n xs) : Reads w w.heap.size size A n xs := by
  refine ⟨h.1, fun hn => ?_⟩
  obtain ⟨g, cap, hv, _, hlt⟩ := h.form hn
  have hA : A = some ⟨g, 0, none⟩ := by injection hv
  subst hA
  exact ⟨_, rfl, hlt, h.cells (g := g) rfl⟩
end
section
variable {P : Program} (w : World)

theorem run_append_of_nil (base : Nat) (t ty e : TypeId) (i : TypeInfo) (size : Nat) (ht : P.underlying t = some (.slice e)) (hi : P.info? e = some i)
    (v : Value) (n : Nat) (xs : List Value) (hown : w.ownsRow base e size v n xs) (c : Nat) : (Builtin.append_ #[t, t] ty #[v, .slice none 0 c]).run P w = .ok v w := by
  rcases hown.2 with ⟨rfl, rfl⟩ | ⟨g, cap, cur, rfl, _, _, hnc, _⟩
  · simp [Builtin.append_, run_underlying ht, sizeOf, typeInfo, hi, Builtin.lenOf, Builtin.firstCells]
  · simp [Builtin.append_, run_underlying ht, sizeOf, typeInfo, hi, Builtin.lenOf, Builtin.firstCells, hnc, storeCells]

theorem run_append_any (base : Nat) (t ty e : TypeId) (i : TypeInfo) (z : Value) (size bytes : Nat) (ht : P.underlying t = some (.slice e)) (hi : P.info? e = some i) (hz : i.zero = some z)
    (hsize : i.size = size) (hby : i.bytes = bytes) (hzs : z.cells.size = size) (hsz : 0 < size)
    (v : Value) (n : Nat) (xs : List Value) (hown : w.ownsRow base e size v n xs)
    (B : Nat) (A : Option Addr) (m c : Nat) (news : List Value) (hr : Reads w B size A m news) (h1 : ∀ u ∈ news, u.oneCell' = true)
    (h63 : n + m ≤ maxLen) (hbytes : (n + m) * bytes ≤ 140737488355328) (hbase : base ≤ w.heap.size) :
    ∃ v' w', (Builtin.append_ #[t, t] ty #[v, .slice A m c]).run P w = .ok v' w' ∧ w'.ownsRow base e size v' (n + m) (xs ++ news) ∧ w.grownBy w' v.ownBlock ∧
      (v'.ownBlock = v.ownBlock ∨ v'.ownBlock = some w.heap.size) := by
  rcases A with _ | ad
  · have hm : m = 0 := by
      rcases Nat.eq_zero_or_pos m with h0 | h0
      · exact h0
      · obtain ⟨ad, h, _⟩ := hr.2 h0
        cases h
    subst hm
    have hn : news = [] := List.eq_nil_of_length_eq_zero (by simpa using hr.1)
    subst hn
    exact ⟨v, w, run_append_of_nil w base t ty e i size ht hi v n xs hown c, by simpa using hown, World.grownBy.refl w _, .inl rfl⟩
  · have hcells : ∀ j u, news[j]? = some u → w.cell? (ad.add j) = some u := by
      intro j u hu
      rcases Nat.eq_zero_or_pos m with h0 | h0
      · subst h0
        have hn : news = [] := List.eq_nil_of_length_eq_zero (by simpa using hr.1)
        subst hn
        simp at hu
      · obtain ⟨ad', h, _, hc⟩ := hr.2 h0
        injection h with h
        subst h
        exact hc j u hu
    obtain ⟨v', w', hrun, h2, h3, _, h5⟩ := run_append_own_at (P := P) w base t ty e i z size bytes ht hi hz hsize hby hzs hsz v n xs hown ad m c news hr.1 hcells h1 h63 hbytes hbase
    exact ⟨v', w', hrun, h2, h3, h5⟩

theorem wp_append_any {o : Oper} {a : Act} {K : Act → World → Prop} {Q : Exit → Act → World → Prop} (s x : Operand) (t : TypeId)
    (ho : o.op = .call { callee := .builtin .append, args := #[s, x], argTypes := #[t, t] })
    (base : Nat) (e : TypeId) (i : TypeInfo) (z : Value) (size bytes : Nat) (ht : P.underlying t = some (.slice e)) (hi : P.info? e = some i) (hz : i.zero = some z)
    (hsize : i.size = size) (hby : i.bytes = bytes) (hzs : z.cells.size = size) (hsz : 0 < size)
    (v : Value) (n : Nat) (xs : List Value) (hs : a.eval s = v) (hown : w.ownsRow base e size v n xs)
    (B : Nat) (A : Option Addr) (m c : Nat) (news : List Value) (hx : a.eval x = .slice A m c) (hr : Reads w B size A m news) (h1 : ∀ u ∈ news, u.oneCell' = true)
    (h63 : n + m ≤ maxLen) (hbytes : (n + m) * bytes ≤ 140737488355328) (hbase : base ≤ w.heap.size)
    (h : ∀ v' w', w'.ownsRow base e size v' (n + m) (xs ++ news) → w.grownBy w' v.ownBlock → (v'.ownBlock = v.ownBlock ∨ v'.ownBlock = some w.heap.size) → K (a.put o.dst v') w') : o.wp P a w K Q := by
  obtain ⟨v', w', hrun, h2, h3, h4⟩ := run_append_any (P := P) w base t o.type e i z size bytes ht hi hz hsize hby hzs hsz v n xs hown B A m c news hr h1 h63 hbytes hbase
  unfold Oper.wp execOp
  simp only [ho, resolve, invoke, builtin, Sem.run_bind, Sem.run_pure, Result.andThen_ok, List.map_toArray, List.map_cons, List.map_nil, hs, hx, hrun]
  exact h v' w' h2 h3 h4

theorem wpList_append_any {ops : Array Oper} {rest : List Oper} {o : Oper} {a : Act} {Q : Exit → Act → World → Prop} (hgd : o.guard = none) (s x : Operand) (t : TypeId)
    (ho : o.op = .call { callee := .builtin .append, args := #[s, x], argTypes := #[t, t] })
    (base : Nat) (e : TypeId) (i : TypeInfo) (z : Value) (size bytes : Nat) (ht : P.underlying t = some (.slice e)) (hi : P.info? e = some i) (hz : i.zero = some z)
    (hsize : i.size = size) (hby : i.bytes = bytes) (hzs : z.cells.size = size) (hsz : 0 < size)
    (v : Value) (n : Nat) (xs : List Value) (hs : a.eval s = v) (hown : w.ownsRow base e size v n xs)
    (B : Nat) (A : Option Addr) (m c : Nat) (news : List Value) (hx : a.eval x = .slice A m c) (hr : Reads w B size A m news) (h1 : ∀ u ∈ news, u.oneCell' = true)
    (h63 : n + m ≤ maxLen) (hbytes : (n + m) * bytes ≤ 140737488355328) (hbase : base ≤ w.heap.size)
    (h : ∀ v' w', w'.ownsRow base e size v' (n + m) (xs ++ news) → w.grownBy w' v.ownBlock → (v'.ownBlock = v.ownBlock ∨ v'.ownBlock = some w.heap.size) → wpList P ops Q rest (a.put o.dst v') w') : wpList P ops Q (o :: rest) a w :=
  wpList_plain hgd fun _ hK => wp_append_any w s x t ho base e i z size bytes ht hi hz hsize hby hzs hsz v n xs hs hown B A m c news hx hr h1 h63 hbytes hbase fun v' w' h2 h3 h4 => hK _ _ (h v' w' h2 h3 h4)

theorem step_append_any {ops : Array Oper} {o : Oper} {a : Act} {K : Act → World → Prop} {Q : Exit → Act → World → Prop} {E : Prop} (hgd : o.guard = none) (s x : Operand) (t : TypeId)
    (ho : o.op = .call { callee := .builtin .append, args := #[s, x], argTypes := #[t, t] })
    (base : Nat) (e : TypeId) (i : TypeInfo) (z : Value) (size bytes : Nat) (ht : P.underlying t = some (.slice e)) (hi : P.info? e = some i) (hz : i.zero = some z)
    (hsize : i.size = size) (hby : i.bytes = bytes) (hzs : z.cells.size = size) (hsz : 0 < size)
    (v : Value) (n : Nat) (xs : List Value) (hs : a.eval s = v) (hown : w.ownsRow base e size v n xs)
    (B : Nat) (A : Option Addr) (m c : Nat) (news : List Value) (hx : a.eval x = .slice A m c) (hr : Reads w B size A m news) (h1 : ∀ u ∈ news, u.oneCell' = true)
    (h63 : n + m ≤ maxLen) (hbytes : (n + m) * bytes ≤ 140737488355328) (hbase : base ≤ w.heap.size)
    (h : ∀ v' w', w'.ownsRow base e size v' (n + m) (xs ++ news) → w.grownBy w' v.ownBlock → (v'.ownBlock = v.ownBlock ∨ v'.ownBlock = some w.heap.size) → K (a.put o.dst v') w') :
    if Region.wanted o (yielded ops a.tmps) = true then Oper.wp P o a w K Q else E := by
  have hw : Region.wanted o (yielded ops a.tmps) = true := by simp [Region.wanted, hgd]
  rw [if_pos hw]
  exact wp_append_any w s x t ho base e i z size bytes ht hi hz hsize hby hzs hsz v n xs hs hown B A m c news hx hr h1 h63 hbytes hbase h
end


/-! ### append, from whatever source, onto whatever the call owns: where the new slice lies, what is as it was -/
/-- x is something that append takes its m elements, the cells news, from. -/
structure Src (P : Program) (w : World) (u : TypeId) (x : Value) (size m : Nat) (news : List Value) : Prop where
  kind : (∃ e', P.underlying u = some (.slice e')) ∨ P.underlying u = some .string
  len : ∀ w2, (Builtin.lenOf x).run P w2 = .ok m w2
  cells : ∀ w2 : World, w2.heap = w.heap → (Builtin.firstCells size m x).run P w2 = .ok news.toArray w2
  length : news.length = m * size
  one : ∀ u ∈ news, u.oneCell' = true
theorem Src.of_reads {P : Program} {w : World} {u e : TypeId} (hu : P.underlying u = some (.slice e)) {B size : Nat} {A : Option Addr} {m c : Nat} {news : List Value} (h : Reads w B size A m news) (h1 : ∀ u ∈ news, u.oneCell' = true) :
    Src P w u (.slice A m c) size m news := by
  refine ⟨.inl ⟨_, hu⟩, fun w2 => by simp [Builtin.lenOf], fun w2 hw => ?_, h.1, h1⟩
  rcases A with _ | ad
  · have h0 : m = 0 := by
      rcases Nat.eq_zero_or_pos m with h0 | h0
      · exact h0
      · obtain ⟨ad, h, _⟩ := h.2 h0
        cases h
    have : news = [] := List.eq_nil_of_length_eq_zero (by rw [h.1, h0, Nat.zero_mul])
    subst this
    exact run_firstCells_none w2 size m m c
  · refine run_firstCells_some w2 size m ad m c news h.1 fun j v hv => ?_
    have hm : 0 < m := by
      have h2 := (List.getElem?_eq_some_iff.1 hv).1
      rw [h.1] at h2
      rcases Nat.eq_zero_or_pos m with h0 | h0
      · rw [h0, Nat.zero_mul] at h2; omega
      · exact h0
    obtain ⟨ad', e', _, hc⟩ := h.2 hm
    injection e' with e'
    subst e'
    have := hc j v hv
    simp only [World.cell?, hw] at this ⊢
    exact this
theorem Src.of_string {P : Program} {w : World} {u : TypeId} (hu : P.underlying u = some .string) (s : ByteArray) :
    Src P w u (.string s) 1 s.size (Lib.strCells s) :=
  ⟨.inr hu, fun w2 => by simp [Builtin.lenOf], fun w2 _ => Lib.run_firstCells_string w2 1 s, by rw [Lib.strCells_length, Nat.mul_one], Lib.strCells_oneCell s⟩

/-- What an append has turned: at most the row that A leads to, and there nothing of the first k cells; new blocks may have come. -/
structure Upd (w w' : World) (A : Option Addr) (k : Nat) (A' : Option Addr) : Prop where
  grown : w.grownBy w' (A.map (·.block))
  old : ∀ ad j, A = some ad → j < k → w'.cell? (ad.add j) = w.cell? (ad.add j)
  lies : A' = A ∨ ∃ g, A' = some ⟨g, 0, none⟩ ∧ w.heap.size ≤ g

theorem append_law {P : Program} (w : World) (B : Nat) (t u ty e : TypeId) (i : TypeInfo) (z : Value) (size bytes : Nat) (ht : P.underlying t = some (.slice e)) (hi : P.info? e = some i) (hz : i.zero = some z)
    (hsize : i.size = size) (hby : i.bytes = bytes) (hzs : z.cells.size = size) (hsz : 0 < size)
    {A : Option Addr} {n c : Nat} {xs : List Value} (hown : w.ownsRow B e size (.slice A n c) n xs)
    {x : Value} {m : Nat} {news : List Value} (hs : Src P w u x size m news)
    (h63 : n + m ≤ maxLen) (hbytes : (n + m) * bytes ≤ 140737488355328) (hB : B ≤ w.heap.size) :
    ∃ A' c' w', (Builtin.append_ #[t, u] ty #[.slice A n c, x]).run P w = .ok (.slice A' (n + m) c') w' ∧ w'.ownsRow B e size (.slice A' (n + m) c') (n + m) (xs ++ news) ∧ Upd w w' A (n * size) A' := by
  subst hsize
  subst hby
  have hsmall : n + m ≤ 9223372036854775807 := by simp only [maxLen] at h63; omega
  have hlen : (xs ++ news).length = (n + m) * i.size := by rw [List.length_append, hown.1, hs.length, Nat.add_mul]
  have hf := hs.cells w rfl
  have hfd := hs.cells w.drew rfl
  have hl := hs.len w
  have hnew : ∀ cap, n + m ≤ cap → cap ≤ maxLen → (w.drew.alloc (.cells (xs.toArray ++ news.toArray ++ Builtin.zeroCells z.cells (cap - (n + m))) e)).ownsRow B e i.size (.slice (some ⟨w.heap.size, 0, none⟩) (n + m) cap) (n + m) (xs ++ news) := by
    intro cap h1 h2
    refine ⟨hlen, .inr ⟨w.heap.size, _, _, rfl, hB, heap_alloc_new w.drew _, h1, h2, ?_, ?_⟩⟩
    · simp only [Array.size_append, List.size_toArray, size_zeroCells, hzs, hown.1, hs.length, ← Nat.add_mul]
      congr 1
      omega
    · simp only [Array.toList_append, List.append_assoc]
      rw [← List.append_assoc, ← hlen]
      exact List.take_left
  have hgr : ∀ (o : Obj) (row : Option Nat), w.grownBy (w.drew.alloc o) row := fun o row => ⟨rfl, rfl, rfl, by simp, fun k hk _ => Below.heap_alloc w.drew o k hk⟩
  rcases hown.2 with ⟨hv, hn0⟩ | ⟨g, cap, cur, hv, hbg, hg, hnc, hcm, hcs, htake⟩
  · injection hv with hA hn hc
    subst hA hn hc
    have hx : xs = [] := List.eq_nil_of_length_eq_zero (by simpa using hown.1)
    subst hx
    by_cases hm : m = 0
    · subst hm
      have hn : news = [] := List.eq_nil_of_length_eq_zero (by simpa using hs.length)
      subst hn
      refine ⟨none, 0, w, ?_, World.ownsRow_nil w B e i.size, ⟨⟨rfl, rfl, rfl, Nat.le_refl _, fun _ _ _ => rfl⟩, fun ad j h => (by cases h), .inl rfl⟩⟩
      rcases hs.kind with ⟨e', hd⟩ | hd <;> simp [Builtin.append_, run_underlying ht, run_underlying hd, sizeOf, typeInfo, hi, hl, hf]
    · have hn : ¬ (m ≤ 0) := by omega
      have h63' : ¬ (9223372036854775807 < (m : Int)) := by omega
      have hfit := growslice_fits (need := m) (old := 0) (bytes := i.bytes) (by omega) (by simpa using hbytes)
      have h48' : ¬ (281474976710656 < Builtin.nextslicecap m 0 * i.bytes) := by omega
      have hge := grownCap_ge w m 0 e
      have hcm : grownCap w m 0 e ≤ maxLen := grownCap_le_maxLen w m 0 e (by simpa using h63)
      refine ⟨some ⟨w.heap.size, 0, none⟩, grownCap w m 0 e, w.drew.alloc (.cells (news.toArray ++ Builtin.zeroCells z.cells (grownCap w m 0 e - m)) e), ?_, ?_, ⟨hgr _ _, fun ad j h => (by cases h), .inr ⟨_, rfl, Nat.le_refl _⟩⟩⟩
      · rcases hs.kind with ⟨e', hd⟩ | hd <;> simp [Builtin.append_, run_underlying ht, run_underlying hd, sizeOf, typeInfo, zeroValue, hi, hz, hl, hm, h63', h48', Question.forced, hfd, run_firstCells_none, newRow, grownCap]
      · have := hnew (grownCap w m 0 e) (by simpa using hge) hcm
        simpa using this
  · injection hv with hA hn hc
    subst hA hc
    have hadd : ∀ j, (⟨g, 0, none⟩ : Addr).add j = ⟨g, j, none⟩ := fun j => by unfold Addr.add; split <;> simp_all
    by_cases hroom : n + m ≤ c
    · have hfit : n * i.size + news.length ≤ cur.size := by rw [hs.length, hcs, ← Nat.add_mul]; exact Nat.mul_le_mul_right _ hroom
      have hst := run_storeCells_at P g (n * i.size) e news 0 cur w hg (by simpa using hfit) hs.one
      simp only [Nat.add_zero] at hst
      refine ⟨some ⟨g, 0, none⟩, c, w.setRow g (cur.toList.take (n * i.size) ++ news ++ cur.toList.drop (n * i.size + news.length)).toArray, ?_, ⟨hlen, .inr ⟨g, c, _, rfl, hbg, setRow_heap w g cur _ e _ hg, hroom, hcm, ?_, ?_⟩⟩, ⟨⟨rfl, rfl, rfl, ?_, fun k _ hk => setRow_other w g k _ (fun e => hk (by simp [e]))⟩, ?_, .inl rfl⟩⟩
      · rcases hs.kind with ⟨e', hd⟩ | hd <;> simp [Builtin.append_, run_underlying ht, run_underlying hd, sizeOf, typeInfo, hi, hl, hroom, hf, Addr.add_lit, hst]
      · simp only [List.size_toArray, List.length_append, List.length_take, List.length_drop, Array.length_toList]
        omega
      · rw [htake, ← hlen]
        exact List.take_left
      · simp [World.setRow]
      · intro ad j h hj
        injection h with h
        subst h
        rw [hadd, cell_of_row _ g j _ e (0, 0) (setRow_heap w g cur _ e _ hg), cell_of_row w g j cur e (0, 0) hg]
        have hjl : j < (cur.toList.take (n * i.size)).length := by rw [List.length_take, Array.length_toList]; omega
        rw [List.getElem?_toArray, List.append_assoc, List.getElem?_append_left hjl, List.getElem?_take_of_lt hj]
        simp
    · have hn : ¬ (n + m ≤ c) := hroom
      have h63' : ¬ (9223372036854775807 < ((n : Int) + (m : Int))) := by omega
      have hfit := growslice_fits (need := n + m) (old := c) (bytes := i.bytes) (by omega) hbytes
      have h48' : ¬ (281474976710656 < Builtin.nextslicecap (n + m) c * i.bytes) := by omega
      have hge := grownCap_ge w (n + m) c e
      have hcm : grownCap w (n + m) c e ≤ maxLen := grownCap_le_maxLen w (n + m) c e h63
      have holds : ∀ j u, xs[j]? = some u → w.cell? ((⟨g, 0, none⟩ : Addr).add j) = some u := hown.cells (g := g) rfl
      have hfo := run_firstCells_some (P := P) w.drew i.size n ⟨g, 0, none⟩ n c xs hown.1 (by simpa using holds)
      refine ⟨some ⟨w.heap.size, 0, none⟩, grownCap w (n + m) c e, w.drew.alloc (.cells (xs.toArray ++ news.toArray ++ Builtin.zeroCells z.cells (grownCap w (n + m) c e - (n + m))) e), ?_, hnew _ hge hcm, ⟨hgr _ _, ?_, .inr ⟨_, rfl, Nat.le_refl _⟩⟩⟩
      · rcases hs.kind with ⟨e', hd⟩ | hd <;> simp [Builtin.append_, run_underlying ht, run_underlying hd, sizeOf, typeInfo, zeroValue, hi, hz, hl, hn, h63', h48', Question.forced, hfd, hfo, newRow, grownCap] <;> (congr 2; apply Array.ext'; simp)
      · intro ad j h hj
        injection h with h
        subst h
        have hlt : g < w.heap.size := (Array.getElem?_eq_some_iff.1 hg).1
        rw [hadd]
        exact World.cell?_of_block (Below.heap_alloc w.drew _ g hlt)

section
variable {w w' : World} {A A' : Option Addr} {k : Nat}
theorem Upd.size (h : Upd w w' A k A') : w.heap.size ≤ w'.heap.size := h.grown.size
theorem Upd.below {B : Nat} (h : Upd w w' A k A') (hA : ∀ ad, A = some ad → B ≤ ad.block) (hB : B ≤ w.heap.size) : Below B w w' :=
  (Below.refl _ _).grown h.grown hB fun j hj => by
    rcases A with _ | ad
    · cases hj
    · simp only [Option.map_some, Option.some.injEq] at hj
      have := hA ad rfl
      omega
theorem Upd.below_own {B e size n c : Nat} {xs : List Value} (h : Upd w w' A k A') (hown : w.ownsRow B e size (.slice A n c) n xs) (hB : B ≤ w.heap.size) : Below B w w' :=
  h.below (fun ad e => by subst e; exact (hown.lt ad.block rfl).1) hB
theorem Upd.refl (w : World) (A : Option Addr) (k : Nat) : Upd w w A k A := ⟨⟨rfl, rfl, rfl, Nat.le_refl _, fun _ _ _ => rfl⟩, fun _ _ _ _ => rfl, .inl rfl⟩
theorem Upd.trans {w2 : World} {A2 : Option Addr} {k2 : Nat} (h : Upd w w' A k A') (h2 : Upd w' w2 A' k2 A2) (hk : k ≤ k2) (hA : ∀ ad, A = some ad → ad.block < w.heap.size) : Upd w w2 A k A2 := by
  refine ⟨⟨h2.grown.os.trans h.grown.os, h2.grown.tape.trans h.grown.tape, h2.grown.output.trans h.grown.output, Nat.le_trans h.grown.size h2.grown.size, fun b hb hne => ?_⟩, fun ad j e hj => ?_, ?_⟩
  · rw [h2.grown.block b (Nat.lt_of_lt_of_le hb h.grown.size) ?_]
    · exact h.grown.block b hb hne
    · rcases h.lies with e | ⟨g, e, hg⟩
      · rw [e]; exact hne
      · rw [e]
        simp only [Option.map_some, ne_eq, Option.some.injEq]
        omega
  · rcases h.lies with e' | ⟨g, e', hg⟩
    · rw [h2.old ad j (e'.trans e) (by omega)]
      exact h.old ad j e hj
    · rw [← h.old ad j e hj]
      have hb := hA ad e
      have hadd : (ad.add j).block = ad.block := block_of_add ad j
      refine World.cell?_of_block (h2.grown.block _ ?_ ?_)
      · rw [hadd]; exact Nat.lt_of_lt_of_le hb h.grown.size
      · rw [e', hadd]
        simp only [Option.map_some, ne_eq, Option.some.injEq]
        omega
  · rcases h2.lies with e | ⟨g, e, hg⟩
    · rcases h.lies with e' | ⟨g', e', hg'⟩
      · exact .inl (e.trans e')
      · exact .inr ⟨g', e.trans e', hg'⟩
    · exact .inr ⟨g, e, Nat.le_trans h.grown.size hg⟩
theorem Upd.of_below (h : Below w.heap.size w w') (hA : ∀ ad, A = some ad → ad.block < w.heap.size) : Upd w w' A k A :=
  ⟨⟨h.os, h.tape, h.output, h.size, fun b hb _ => h.block b hb⟩, fun ad j e _ => h.cell (by rw [block_of_add]; exact hA ad e), .inl rfl⟩
/-- A new block beside. -/
theorem Upd.alloc (h : Upd w w' A k A') (o : Obj) (hw : ∀ ad, A = some ad → ad.block < w.heap.size) : Upd w (w'.alloc o) A k A' := by
  have hb : ∀ b, b < w'.heap.size → (w'.alloc o).heap[b]? = w'.heap[b]? := fun b hb => Below.heap_alloc w' o b hb
  refine ⟨⟨h.grown.os, h.grown.tape, h.grown.output, Nat.le_trans h.grown.size (by simp), fun b h1 h2 => (hb b (Nat.lt_of_lt_of_le h1 h.grown.size)).trans (h.grown.block b h1 h2)⟩, fun ad j e hj => ?_, h.lies⟩
  rw [← h.old ad j e hj]
  exact World.cell?_of_block (hb _ (by rw [block_of_add]; exact Nat.lt_of_lt_of_le (hw ad e) h.grown.size))
/-- The old slice reads as it did. -/
theorem Upd.reads_old {B e size n c : Nat} {xs : List Value} (h : Upd w w' A (n * size) A') (hown : w.ownsRow B e size (.slice A n c) n xs) : Reads w' w'.heap.size size A n xs := by
  have hr := Reads.of_own hown
  refine ⟨hr.1, fun hn => ?_⟩
  obtain ⟨ad, hA, hb, hc⟩ := hr.2 hn
  refine ⟨ad, hA, Nat.lt_of_lt_of_le hb h.size, fun j u hu => ?_⟩
  have hj : j < n * size := by
    have := (List.getElem?_eq_some_iff.1 hu).1
    rw [hown.1] at this; exact this
  rw [h.old ad j hA hj]
  exact hc j u hu
end

/-- At the operation itself: its run is known. -/
theorem wpList_append_run {P : Program} {w w' : World} {ops : Array Oper} {rest : List Oper} {o : Oper} {a : Act} {Q : Exit → Act → World → Prop} (hgd : o.guard = none) {s x : Operand} {t u : TypeId}
    (ho : o.op = .call { callee := .builtin .append, args := #[s, x], argTypes := #[t, u] }) {v1 v2 v' : Value} (hs : a.eval s = v1) (hx : a.eval x = v2)
    (hrun : (Builtin.append_ #[t, u] o.type #[v1, v2]).run P w = .ok v' w') (h : wpList P ops Q rest (a.put o.dst v') w') : wpList P ops Q (o :: rest) a w := by
  refine wpList_plain hgd fun K hK => ?_
  unfold Oper.wp execOp
  simp only [ho, resolve, invoke, builtin, Sem.run_bind, Sem.run_pure, Result.andThen_ok, List.map_toArray, List.map_cons, List.map_nil, hs, hx, hrun]
  exact hK _ _ h

theorem own_below {w w' : World} {B e size n : Nat} {v : Value} {xs : List Value} (h : w.ownsRow B e size v n xs) {k : Nat} (hb : Below k w w') (hk : w.heap.size ≤ k) : w'.ownsRow B e size v n xs := by
  refine ⟨h.1, ?_⟩
  rcases h.2 with hn | ⟨g, cap, cur, rfl, hbg, hg, rest⟩
  · exact .inl hn
  · exact .inr ⟨g, cap, cur, rfl, hbg, (hb.block g (Nat.lt_of_lt_of_le (Array.getElem?_eq_some_iff.1 hg).1 hk)).trans hg, rest⟩
theorem Upd.below_none {w w' : World} {k : Nat} {A' : Option Addr} (h : Upd w w' none k A') : Below w.heap.size w w' := h.below (fun _ e => by cases e) (Nat.le_refl _)

theorem add_at (g j : Nat) : (⟨g, 0, none⟩ : Addr).add j = ⟨g, j, none⟩ := by unfold Addr.add; split <;> simp_all

theorem below_drewN {B : Nat} {a w : World} (h : Below B a w) (n : Nat) : Below B a (w.drewN n) := ⟨h.os, h.tape, h.output, h.size, h.block⟩

/-! ### a scope with jumps to several labels -/
/-- As Q; by a goto to label l: J l. -/
def jumps (J : Nat → Act → World → Prop) (Q : Exit → Act → World → Prop) : Exit → Act → World → Prop
  | .goto l, a, w => J l a w
  | e, a, w => Q e a w
theorem wp_scope_labels {P : Program} {c : Code} {a : Act} {w : World} {Q : Exit → Act → World → Prop} (J : Nat → Act → World → Prop) (rest : Nat → Code) (μ : Nat → Act → World → Nat)
    (hf : ∀ l a w, J l a w → findLabel c l = some (rest l)) (first : c.wp P (jumps J Q) a w)
    (pass : ∀ l a w, J l a w → (rest l).wp P (jumps (fun l' a' w' => J l' a' w' ∧ μ l' a' w' < μ l a w) Q) a w) : (Code.scope c).wp P Q a w := by
  intro b k cs
  have hg : ∀ l a w, J l a w → gotoIn l (.inScope c :: k) = some (.code (rest l) :: .inScope c :: k) := fun l a w h => by simp [gotoIn, hf l a w h]
  have key : ∀ n l a w, μ l a w = n → J l a w → ∃ e a' w', Q e a' w' ∧ Arrives P (lone (b.at a (.code (rest l) :: .inScope c :: k)) cs w) b k cs e a' w' := by
    intro n
    induction n using Nat.strongRecOn with
    | _ n ih =>
      intro l a w hn hJ
      obtain ⟨e, a₁, w₁, hq, harr⟩ := pass l a w hJ b (.inScope c :: k) cs
      cases e with
      | normal => exact ⟨.normal, a₁, w₁, hq, Steps.trans harr (.one step_inScope)⟩
      | exit id => exact ⟨.exit id, a₁, w₁, hq, fun k' hk => harr k' (by simp [exitTo, hk])⟩
      | goto l' =>
        obtain ⟨hJ', hlt⟩ := hq
        obtain ⟨e₂, a₂, w₂, hq₂, harr₂⟩ := ih _ (by omega) l' a₁ w₁ rfl hJ'
        exact ⟨e₂, a₂, w₂, hq₂, .of_steps (harr _ (hg _ _ _ hJ')) harr₂⟩
      | ret => exact ⟨_, a₁, w₁, hq, harr⟩
      | panic ch => exact ⟨_, a₁, w₁, hq, harr⟩
      | outgrown => exact ⟨_, a₁, w₁, hq, harr⟩
  obtain ⟨e, a₁, w₁, hq, harr⟩ := first b (.inScope c :: k) cs
  cases e with
  | normal => exact ⟨.normal, a₁, w₁, hq, .head step_scope (Steps.trans harr (.one step_inScope))⟩
  | exit id => exact ⟨.exit id, a₁, w₁, hq, fun k' hk => .head step_scope (harr k' (by simp [exitTo, hk]))⟩
  | goto l' =>
    obtain ⟨e₂, a₂, w₂, hq₂, harr₂⟩ := key _ l' a₁ w₁ rfl hq
    exact ⟨e₂, a₂, w₂, hq₂, .of_steps (.head step_scope (harr _ (hg _ _ _ hq))) harr₂⟩
  | ret => exact ⟨_, a₁, w₁, hq, .of_steps (.one step_scope) harr⟩
  | panic ch => exact ⟨_, a₁, w₁, hq, .of_steps (.one step_scope) harr⟩
  | outgrown => exact ⟨_, a₁, w₁, hq, .of_steps (.one step_scope) harr⟩

/-- The two labels of a search: l1, where it goes on (J1, a measure), and l0, where it ends (J0, no jump from there on). -/
def jump2 (l1 l0 : Nat) (J1 J0 : Act → World → Prop) (Q : Exit → Act → World → Prop) : Exit → Act → World → Prop
  | .goto l, a, w => (l = l1 ∧ J1 a w) ∨ (l = l0 ∧ J0 a w)
  | e, a, w => Q e a w
theorem wp_scope_two {P : Program} {c r1 r0 : Code} {a : Act} {w : World} {Q : Exit → Act → World → Prop} (l1 l0 : Nat) (hne : l1 ≠ l0) (J1 J0 : Act → World → Prop) (μ : Act → World → Nat)
    (hf1 : findLabel c l1 = some r1) (hf0 : findLabel c l0 = some r0) (first : c.wp P (jump2 l1 l0 J1 J0 Q) a w)
    (pass1 : ∀ a w, J1 a w → r1.wp P (jump2 l1 l0 (fun a' w' => J1 a' w' ∧ μ a' w' < μ a w) J0 Q) a w)
    (pass0 : ∀ a w, J0 a w → r0.wp P (Exit.noGoto Q) a w) : (Code.scope c).wp P Q a w := by
  refine wp_scope_labels (fun l a w => (l = l1 ∧ J1 a w) ∨ (l = l0 ∧ J0 a w)) (fun l => if l = l1 then r1 else r0) (fun l a w => if l = l1 then μ a w + 1 else 0) ?_ ?_ ?_
  · rintro l a w (⟨rfl, _⟩ | ⟨rfl, _⟩)
    · simp [hf1]
    · simp [hf0, Ne.symm hne]
  · exact Code.wp_mono (fun e a w h => by cases e <;> exact h) first
  · rintro l a w (⟨rfl, h⟩ | ⟨rfl, h⟩)
    · simp only [if_true]
      refine Code.wp_mono (fun e a w h => ?_) (pass1 a w h)
      cases e with
      | goto l' =>
        rcases h with ⟨rfl, h1, h2⟩ | ⟨rfl, h1⟩
        · exact ⟨.inl ⟨rfl, h1⟩, by simpa using h2⟩
        · exact ⟨.inr ⟨rfl, h1⟩, by simp [Ne.symm hne]⟩
      | _ => exact h
    · simp only [if_neg (Ne.symm hne)]
      refine Code.wp_mono (fun e a w h => ?_) (pass0 a w h)
      cases e with
      | goto l' => exact h.elim
      | _ => exact h

def noWay : Exit → Act → World → Prop := fun _ _ _ => False
theorem wp_then_mono {P : Program} {y : Code} {K K' : Act → World → Prop} {Q' : Exit → Act → World → Prop} {a : Act} {w : World} (h : y.wp P (Exit.then K noWay) a w) (hK : ∀ a w, K a w → K' a w) : y.wp P (Exit.then K' Q') a w :=
  Code.wp_mono (fun e a w h => by cases e <;> first | exact hK _ _ h | exact h.elim) h
/-- The same, where three statements stand ahead of the label l1 (the shape of a function that begins with declarations): what stands behind the label is walked once. -/
theorem wp_scope_search {P : Program} {y1 y2 y3 X r0 : Code} {a : Act} {w : World} {Q : Exit → Act → World → Prop} (l1 l0 : Nat) (hne : l1 ≠ l0) (J1 J0 : Act → World → Prop) (μ : Act → World → Nat)
    (hf1 : findLabel (y1.seq (y2.seq (y3.seq ((Code.label l1).seq X)))) l1 = some (Code.skip.seq X)) (hf0 : findLabel (y1.seq (y2.seq (y3.seq ((Code.label l1).seq X)))) l0 = some r0)
    (init : y1.wp P (Exit.then (y2.wp P (Exit.then (y3.wp P (Exit.then J1 noWay)) noWay)) noWay) a w)
    (pass1 : ∀ a w, J1 a w → X.wp P (jump2 l1 l0 (fun a' w' => J1 a' w' ∧ μ a' w' < μ a w) J0 Q) a w)
    (pass0 : ∀ a w, J0 a w → r0.wp P (Exit.noGoto Q) a w) : (Code.scope (y1.seq (y2.seq (y3.seq ((Code.label l1).seq X))))).wp P Q a w := by
  refine wp_scope_two l1 l0 hne J1 J0 μ hf1 hf0 ?_ (fun a w h => wp_seq (wp_skip (pass1 a w h))) pass0
  refine wp_seq (wp_then_mono init fun a w h => wp_seq (wp_then_mono h fun a w h => wp_seq (wp_then_mono h fun a w h => wp_seq (wp_label ?_))))
  refine Code.wp_mono (fun e a w h => ?_) (pass1 a w h)
  cases e with
  | goto l' =>
    rcases h with ⟨rfl, h1, _⟩ | ⟨rfl, h1⟩
    · exact .inl ⟨rfl, h1⟩
    · exact .inr ⟨rfl, h1⟩
  | _ => exact h

/-! ### bytes -/
def bytesV (bs : List UInt8) : List Value := bs.map fun b => Value.int .u8 (b.toNat : Int)
theorem bytesV_length (bs : List UInt8) : (bytesV bs).length = bs.length := by simp [bytesV]
theorem bytesV_append (a b : List UInt8) : bytesV (a ++ b) = bytesV a ++ bytesV b := by simp [bytesV]
theorem bytesV_one (bs : List UInt8) : ∀ u ∈ bytesV bs, u.oneCell' = true := by
  intro u hu
  simp only [bytesV, List.mem_map] at hu
  obtain ⟨b, _, rfl⟩ := hu
  rfl
theorem bytesV_get (bs : List UInt8) (i : Nat) (h : i < bs.length) : (bytesV bs)[i]? = some (.int .u8 (bs[i].toNat : Int)) := by
  simp [bytesV, h]
theorem bytesV_inj {a b : List UInt8} (h : bytesV a = bytesV b) : a = b := by
  unfold bytesV at h
  refine (List.map_inj_right ?_).1 h
  intro x y e
  injection e with _ e
  exact UInt8.toNat_inj.1 (by omega)
theorem bytesV_str (s : ByteArray) : Lib.strCells s = bytesV s.data.toList := rfl

theorem run_bytes_to_string {P : Program} (w : World) (src dst e : TypeId) (hs : P.underlying src = some (.slice e)) (he : P.underlying e = some (.int .u8)) (hd : P.underlying dst = some .string)
    {B : Nat} {A : Option Addr} {n c : Nat} {bs : List UInt8} (h : Reads w B 1 A n (bytesV bs)) :
    (convert src dst (.slice A n c)).run P w = .ok (.string ⟨bs.toArray⟩) w := by
  have hlen : bs.length = n := by have := h.1; rw [bytesV_length] at this; omega
  rw [run_convert_bytes_string w src dst e A n c hs he hd]
  rcases A with _ | ad
  · have h0 : n = 0 := by
      rcases Nat.eq_zero_or_pos n with h0 | h0
      · exact h0
      · obtain ⟨ad, h, _⟩ := h.2 h0
        cases h
    have : bs = [] := List.eq_nil_of_length_eq_zero (by omega)
    subst this
    simp [Conv.bytesToString]
    rfl
  · have hc : ∀ j u, (bytesV bs)[j]? = some u → w.cell? (ad.add j) = some u := by
      intro j u hu
      have hj : j < n := by
        have := (List.getElem?_eq_some_iff.1 hu).1
        rw [bytesV_length] at this; omega
      obtain ⟨ad', e', _, hc⟩ := h.2 (by omega)
      injection e' with e'
      subst e'
      exact hc j u hu
    have hl := run_loadCells_list (P := P) w ad (bytesV bs) hc
    rw [bytesV_length, hlen] at hl
    have e1 : bytesV bs = (bs.map fun b => (b.toNat : Int)).map (Value.int .u8) := by simp [bytesV]
    rw [e1] at hl
    rw [run_bytesToString w ad n c _ hl, foldl_push_bytes]
    have e2 : (List.map (fun n => UInt8.ofNat n.toNat) (List.map (fun b => (b.toNat : Int)) bs)) = bs := by
      rw [List.map_map]
      conv => rhs; rw [← List.map_id bs]
      refine List.map_congr_left fun b _ => ?_
      simp
    rw [e2]
    simp

/-- '[]byte(s)': a new block that reads as the text's bytes and may be written; all that was there is there. -/
theorem run_string_to_bytes {P : Program} (w : World) (src dst e : TypeId) (s : ByteArray) (hs : P.underlying src = some .string) (hd : P.underlying dst = some (.slice e)) (he : P.underlying e = some (.int .u8)) :
    ∃ c w', (convert src dst (.string s)).run P w = .ok (.slice (some ⟨w.heap.size, 0, none⟩) s.size c) w' ∧ Below w.heap.size w w' ∧ w'.heap.size = w.heap.size + 1 ∧
      (∀ j, j < s.size → w'.cell? ⟨w.heap.size, j, none⟩ = some (.int .u8 ((s.data.toList.getD j 0).toNat : Int)) ∧ w'.frozen? ⟨w.heap.size, j, none⟩ = false) := by
  refine ⟨_, _, Lib.run_convert_string_bytes w src dst e s hs hd he, ⟨rfl, rfl, rfl, by rw [Lib.bytesWorld_size]; omega, fun k hk => Lib.bytesWorld_at_old w e s k hk⟩, Lib.bytesWorld_size w e s, fun j hj => ⟨Lib.bytesWorld_cell w e s j hj, ?_⟩⟩
  have hsz : s.size ≤ (Lib.bytesCells w e s).size := by simp [Lib.bytesCells]
  simp only [World.frozen?, Lib.bytesWorld_at_new]
  simp
  omega

/-- A new block of cells reads as them. -/
theorem Reads.new_ (w : World) (size n : Nat) (cs : Array Value) (t : TypeId) (h : cs.size = n * size) : Reads (w.alloc (.cells cs t)) (w.heap.size + 1) size (some ⟨w.heap.size, 0, none⟩) n cs.toList := by
  refine ⟨by simpa using h, fun _ => ⟨_, rfl, by simp, fun j u hu => ?_⟩⟩
  have e : (⟨w.heap.size, 0, none⟩ : Addr).add j = ⟨w.heap.size, j, none⟩ := by unfold Addr.add; split <;> simp_all
  rw [e, cell_of_row (w.alloc (.cells cs t)) w.heap.size j cs t (0, 0) (heap_alloc_new w _)]
  simpa using hu
theorem reads_of_cells {w : World} {g B : Nat} {l : List UInt8} (hB : g < B) (h : ∀ j, j < l.length → w.cell? ⟨g, j, none⟩ = some (.int .u8 ((l.getD j 0).toNat : Int))) :
    Reads w B 1 (some ⟨g, 0, none⟩) l.length (bytesV l) := by
  refine ⟨by simp [bytesV], fun _ => ⟨_, rfl, hB, fun j u hu => ?_⟩⟩
  have hj : j < l.length := by
    have := (List.getElem?_eq_some_iff.1 hu).1
    rwa [bytesV_length] at this
  have e : (⟨g, 0, none⟩ : Addr).add j = ⟨g, j, none⟩ := by unfold Addr.add; split <;> simp_all
  rw [bytesV_get l j hj] at hu
  injection hu with hu
  subst hu
  rw [e, h j hj]
  simp [List.getD, hj]
/-- One byte is written: the row reads as the list with that byte in its place. -/
theorem cells_set {w : World} {g : Nat} {l : List UInt8} {k : Nat} {b : UInt8} (h : ∀ j, j < l.length → w.cell? ⟨g, j, none⟩ = some (.int .u8 ((l.getD j 0).toNat : Int))) :
    ∀ j, j < (l.set k b).length → (w.setCell ⟨g, k, none⟩ (.int .u8 (b.toNat : Int))).cell? ⟨g, j, none⟩ = some (.int .u8 (((l.set k b).getD j 0).toNat : Int)) := by
  intro j hj
  rw [List.length_set] at hj
  by_cases e : k = j
  · subst e
    rw [World.cell?_setCell_same w _ _ (h k hj)]
    simp [List.getD, hj]
  · rw [World.cell?_setCell_other w _ _ _ (by simp only [ne_eq, Addr.mk.injEq]; omega), h j hj]
    simp [List.getD, e]
theorem byte_of {c : Int} (h : 0 ≤ c ∧ c ≤ 255) : ∃ b : UInt8, c = (b.toNat : Int) := by
  refine ⟨UInt8.ofNat c.toNat, ?_⟩
  have : (UInt8.ofNat c.toNat).toNat = c.toNat % 256 := by simp
  omega
end Go.Proofs.Ytabjkmennijaeaa.lib

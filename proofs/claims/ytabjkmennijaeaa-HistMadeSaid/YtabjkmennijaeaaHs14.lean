/- awake: answers that the document fixes. -/
import Derived.Test.YtabjkmennijaeaaHs13
namespace Go.Proofs.Ytabjkmennijaeaa.hs
open Go.RowKit Go.Proofs.Ytabjkmennijaeaa.lib Go.Proofs.Ytabjkmennijaeaa.byt
set_option linter.unusedVariables false
set_option linter.unusedSimpArgs false
theorem load_row_g {P : Program} {ops : Array Oper} {rest : List Oper} {o : Oper} {a : Act} {w : World} {Q : Exit → Act → World → Prop} (hw : Region.wanted o (yielded ops a.tmps) = true) (ty : TypeId) (x : Operand) (ho : o.op = .load ty x)
    (g : Nat) (hx : a.eval x = .pointer (some ⟨g, 0, none⟩)) (t : TypeId) (cs : Array Value) (fr : Nat × Nat) (d : TypeDesc) (hg : w.heap[g]? = some (.cells cs t fr))
    (hu : P.underlying ty = some d) (hd : (match d with | .struct _ | .array _ _ => true | _ => false) = true) (hi : (P.info? ty).map (·.size) = some cs.size)
    (h : wpList P ops Q rest (a.put o.dst (.agg cs)) w) : wpList P ops Q (o :: rest) a w := by
  unfold wpList
  rw [if_pos hw]
  exact .inl (wp_load_row ty x ho g hx t cs fr d hg hu hd hi h)
theorem rowkeep {w w' : World} {g : Nat} {o : Obj} (h : w.heap[g]? = some o) (hb : Below w.heap.size w w') : w'.heap[g]? = some o :=
  (hb.block g (Array.getElem?_eq_some_iff.1 h).1).trans h
theorem cells_row {w : World} {g : Nat} {d : Dn} (h : w.heap[g]? = some (.cells #[.int .i64 0, .int .i64 0, .int .i64 0, .int .i64 0, .int .i64 (d).kind, .string (d).key, .string (d).val, .string (d).old, .bool (d).hold, .int .i64 (d).fr, .int .i64 (d).to, .int .i64 (d).code, .string (d).rv, .bool (d).has, .complex .f64 0 0] 36)) : ∀ j, w.cell? ⟨g, j, none⟩ = (dnL d)[j]? := fun j => by
  rw [cell_of_row _ _ _ _ _ (0, 0) h]; simp [dnL]
theorem rd_pg (X : World) : RdD (X.alloc (.cells #[.int .i64 0, .int .i64 0, .int .i64 0, .int .i64 0, .int .i64 putD.kind, .string putD.key, .string putD.val, .string putD.old, .bool putD.hold, .int .i64 putD.fr, .int .i64 putD.to, .int .i64 putD.code, .string putD.rv, .bool putD.has, .complex .f64 0 0, .int .i64 0, .int .i64 0, .int .i64 0, .int .i64 0, .int .i64 getD.kind, .string getD.key, .string getD.val, .string getD.old, .bool getD.hold, .int .i64 getD.fr, .int .i64 getD.to, .int .i64 getD.code, .string getD.rv, .bool getD.has, .complex .f64 0 0] 36)) (X.alloc (.cells #[.int .i64 0, .int .i64 0, .int .i64 0, .int .i64 0, .int .i64 putD.kind, .string putD.key, .string putD.val, .string putD.old, .bool putD.hold, .int .i64 putD.fr, .int .i64 putD.to, .int .i64 putD.code, .string putD.rv, .bool putD.has, .complex .f64 0 0, .int .i64 0, .int .i64 0, .int .i64 0, .int .i64 0, .int .i64 getD.kind, .string getD.key, .string getD.val, .string getD.old, .bool getD.hold, .int .i64 getD.fr, .int .i64 getD.to, .int .i64 getD.code, .string getD.rv, .bool getD.has, .complex .f64 0 0] 36)).heap.size (some ⟨X.heap.size, 0, none⟩) [putD, getD] := by
  rw [World.size_alloc]
  exact Reads.new_ X 15 2 _ _ rfl
theorem rd_pl (X : World) : RdD (X.alloc (.cells #[.int .i64 0, .int .i64 0, .int .i64 0, .int .i64 0, .int .i64 putD.kind, .string putD.key, .string putD.val, .string putD.old, .bool putD.hold, .int .i64 putD.fr, .int .i64 putD.to, .int .i64 putD.code, .string putD.rv, .bool putD.has, .complex .f64 0 0, .int .i64 0, .int .i64 0, .int .i64 0, .int .i64 0, .int .i64 lateD.kind, .string lateD.key, .string lateD.val, .string lateD.old, .bool lateD.hold, .int .i64 lateD.fr, .int .i64 lateD.to, .int .i64 lateD.code, .string lateD.rv, .bool lateD.has, .complex .f64 0 0] 36)) (X.alloc (.cells #[.int .i64 0, .int .i64 0, .int .i64 0, .int .i64 0, .int .i64 putD.kind, .string putD.key, .string putD.val, .string putD.old, .bool putD.hold, .int .i64 putD.fr, .int .i64 putD.to, .int .i64 putD.code, .string putD.rv, .bool putD.has, .complex .f64 0 0, .int .i64 0, .int .i64 0, .int .i64 0, .int .i64 0, .int .i64 lateD.kind, .string lateD.key, .string lateD.val, .string lateD.old, .bool lateD.hold, .int .i64 lateD.fr, .int .i64 lateD.to, .int .i64 lateD.code, .string lateD.rv, .bool lateD.has, .complex .f64 0 0] 36)).heap.size (some ⟨X.heap.size, 0, none⟩) [putD, lateD] := by
  rw [World.size_alloc]
  exact Reads.new_ X 15 2 _ _ rfl
theorem below_alloc (X : World) (o : Obj) : Below X.heap.size X (X.alloc o) := (Below.refl _ _).alloc (Nat.le_refl _) _
theorem key_j : keyP [putD, getD] ⟨#[106]⟩ = [] := by
  have h1 : ¬ ((⟨#[107]⟩ : ByteArray).toList == (⟨#[106]⟩ : ByteArray).toList) = true := fun h => by
    have := (Lib.bytes_beq_iff _ _).1 h
    revert this
    decide
  have h2 : ∀ d : Dn, d.key = ⟨#[107]⟩ → ((d.key.toList == (⟨#[106]⟩ : ByteArray).toList) && countsP d) = false := fun d hd => by
    rw [hd]
    cases h : ((⟨#[107]⟩ : ByteArray).toList == (⟨#[106]⟩ : ByteArray).toList)
    · rfl
    · exact absurd h h1
  unfold keyP
  rw [List.filter_cons, h2 putD rfl, List.filter_cons, h2 getD rfl]
  rfl
theorem keys_k : ∀ d ∈ [putD, getD], d.key = ⟨#[107]⟩ ∧ keyK d.kind = true := by
  intro d hd
  rcases List.mem_cons.1 hd with rfl | hd
  · exact ⟨rfl, rfl⟩
  · obtain rfl : d = getD := by simpa using hd
    exact ⟨rfl, rfl⟩
set_option maxHeartbeats 4000000 in
theorem awake26 (w : World) : Calls Try.prog 5 #[] w fun e w' => e = .returned (.bool true) ∧ Below w.heap.size w w' := by
  have hb1 := below_alloc w (.cells #[.int .i64 0, .int .i64 0, .int .i64 0, .int .i64 0, .int .i64 (putD).kind, .string (putD).key, .string (putD).val, .string (putD).old, .bool (putD).hold, .int .i64 (putD).fr, .int .i64 (putD).to, .int .i64 (putD).code, .string (putD).rv, .bool (putD).has, .complex .f64 0 0] 36)
  have h1 : (w.alloc (.cells #[.int .i64 0, .int .i64 0, .int .i64 0, .int .i64 0, .int .i64 (putD).kind, .string (putD).key, .string (putD).val, .string (putD).old, .bool (putD).hold, .int .i64 (putD).fr, .int .i64 (putD).to, .int .i64 (putD).code, .string (putD).rv, .bool (putD).has, .complex .f64 0 0] 36)).heap[w.heap.size]? = some (.cells #[.int .i64 0, .int .i64 0, .int .i64 0, .int .i64 0, .int .i64 (putD).kind, .string (putD).key, .string (putD).val, .string (putD).old, .bool (putD).hold, .int .i64 (putD).fr, .int .i64 (putD).to, .int .i64 (putD).code, .string (putD).rv, .bool (putD).has, .complex .f64 0 0] 36) := heap_alloc_new w _
  have s1 : (w.alloc (.cells #[.int .i64 0, .int .i64 0, .int .i64 0, .int .i64 0, .int .i64 (putD).kind, .string (putD).key, .string (putD).val, .string (putD).old, .bool (putD).hold, .int .i64 (putD).fr, .int .i64 (putD).to, .int .i64 (putD).code, .string (putD).rv, .bool (putD).has, .complex .f64 0 0] 36)).heap.size = w.heap.size + 1 := World.size_alloc _ _
  have hb2 := below_alloc (w.alloc (.cells #[.int .i64 0, .int .i64 0, .int .i64 0, .int .i64 0, .int .i64 (putD).kind, .string (putD).key, .string (putD).val, .string (putD).old, .bool (putD).hold, .int .i64 (putD).fr, .int .i64 (putD).to, .int .i64 (putD).code, .string (putD).rv, .bool (putD).has, .complex .f64 0 0] 36)) (.cells #[.int .i64 0, .int .i64 0, .int .i64 0, .int .i64 0, .int .i64 (getD).kind, .string (getD).key, .string (getD).val, .string (getD).old, .bool (getD).hold, .int .i64 (getD).fr, .int .i64 (getD).to, .int .i64 (getD).code, .string (getD).rv, .bool (getD).has, .complex .f64 0 0] 36)
  have h2 : ((w.alloc (.cells #[.int .i64 0, .int .i64 0, .int .i64 0, .int .i64 0, .int .i64 (putD).kind, .string (putD).key, .string (putD).val, .string (putD).old, .bool (putD).hold, .int .i64 (putD).fr, .int .i64 (putD).to, .int .i64 (putD).code, .string (putD).rv, .bool (putD).has, .complex .f64 0 0] 36)).alloc (.cells #[.int .i64 0, .int .i64 0, .int .i64 0, .int .i64 0, .int .i64 (getD).kind, .string (getD).key, .string (getD).val, .string (getD).old, .bool (getD).hold, .int .i64 (getD).fr, .int .i64 (getD).to, .int .i64 (getD).code, .string (getD).rv, .bool (getD).has, .complex .f64 0 0] 36)).heap[w.heap.size + 1]? = some (.cells #[.int .i64 0, .int .i64 0, .int .i64 0, .int .i64 0, .int .i64 (getD).kind, .string (getD).key, .string (getD).val, .string (getD).old, .bool (getD).hold, .int .i64 (getD).fr, .int .i64 (getD).to, .int .i64 (getD).code, .string (getD).rv, .bool (getD).has, .complex .f64 0 0] 36) := by have := heap_alloc_new (w.alloc (.cells #[.int .i64 0, .int .i64 0, .int .i64 0, .int .i64 0, .int .i64 (putD).kind, .string (putD).key, .string (putD).val, .string (putD).old, .bool (putD).hold, .int .i64 (putD).fr, .int .i64 (putD).to, .int .i64 (putD).code, .string (putD).rv, .bool (putD).has, .complex .f64 0 0] 36)) (.cells #[.int .i64 0, .int .i64 0, .int .i64 0, .int .i64 0, .int .i64 (getD).kind, .string (getD).key, .string (getD).val, .string (getD).old, .bool (getD).hold, .int .i64 (getD).fr, .int .i64 (getD).to, .int .i64 (getD).code, .string (getD).rv, .bool (getD).has, .complex .f64 0 0] 36); rwa [s1] at this
  have s2 : ((w.alloc (.cells #[.int .i64 0, .int .i64 0, .int .i64 0, .int .i64 0, .int .i64 (putD).kind, .string (putD).key, .string (putD).val, .string (putD).old, .bool (putD).hold, .int .i64 (putD).fr, .int .i64 (putD).to, .int .i64 (putD).code, .string (putD).rv, .bool (putD).has, .complex .f64 0 0] 36)).alloc (.cells #[.int .i64 0, .int .i64 0, .int .i64 0, .int .i64 0, .int .i64 (getD).kind, .string (getD).key, .string (getD).val, .string (getD).old, .bool (getD).hold, .int .i64 (getD).fr, .int .i64 (getD).to, .int .i64 (getD).code, .string (getD).rv, .bool (getD).has, .complex .f64 0 0] 36)).heap.size = w.heap.size + 1 + 1 := by rw [World.size_alloc, s1]
  have hb3 := below_alloc ((w.alloc (.cells #[.int .i64 0, .int .i64 0, .int .i64 0, .int .i64 0, .int .i64 (putD).kind, .string (putD).key, .string (putD).val, .string (putD).old, .bool (putD).hold, .int .i64 (putD).fr, .int .i64 (putD).to, .int .i64 (putD).code, .string (putD).rv, .bool (putD).has, .complex .f64 0 0] 36)).alloc (.cells #[.int .i64 0, .int .i64 0, .int .i64 0, .int .i64 0, .int .i64 (getD).kind, .string (getD).key, .string (getD).val, .string (getD).old, .bool (getD).hold, .int .i64 (getD).fr, .int .i64 (getD).to, .int .i64 (getD).code, .string (getD).rv, .bool (getD).has, .complex .f64 0 0] 36)) (.cells #[.int .i64 0, .int .i64 0, .int .i64 0, .int .i64 0, .int .i64 (lateD).kind, .string (lateD).key, .string (lateD).val, .string (lateD).old, .bool (lateD).hold, .int .i64 (lateD).fr, .int .i64 (lateD).to, .int .i64 (lateD).code, .string (lateD).rv, .bool (lateD).has, .complex .f64 0 0] 36)
  have h3 : (((w.alloc (.cells #[.int .i64 0, .int .i64 0, .int .i64 0, .int .i64 0, .int .i64 (putD).kind, .string (putD).key, .string (putD).val, .string (putD).old, .bool (putD).hold, .int .i64 (putD).fr, .int .i64 (putD).to, .int .i64 (putD).code, .string (putD).rv, .bool (putD).has, .complex .f64 0 0] 36)).alloc (.cells #[.int .i64 0, .int .i64 0, .int .i64 0, .int .i64 0, .int .i64 (getD).kind, .string (getD).key, .string (getD).val, .string (getD).old, .bool (getD).hold, .int .i64 (getD).fr, .int .i64 (getD).to, .int .i64 (getD).code, .string (getD).rv, .bool (getD).has, .complex .f64 0 0] 36)).alloc (.cells #[.int .i64 0, .int .i64 0, .int .i64 0, .int .i64 0, .int .i64 (lateD).kind, .string (lateD).key, .string (lateD).val, .string (lateD).old, .bool (lateD).hold, .int .i64 (lateD).fr, .int .i64 (lateD).to, .int .i64 (lateD).code, .string (lateD).rv, .bool (lateD).has, .complex .f64 0 0] 36)).heap[w.heap.size + 1 + 1]? = some (.cells #[.int .i64 0, .int .i64 0, .int .i64 0, .int .i64 0, .int .i64 (lateD).kind, .string (lateD).key, .string (lateD).val, .string (lateD).old, .bool (lateD).hold, .int .i64 (lateD).fr, .int .i64 (lateD).to, .int .i64 (lateD).code, .string (lateD).rv, .bool (lateD).has, .complex .f64 0 0] 36) := by have := heap_alloc_new ((w.alloc (.cells #[.int .i64 0, .int .i64 0, .int .i64 0, .int .i64 0, .int .i64 (putD).kind, .string (putD).key, .string (putD).val, .string (putD).old, .bool (putD).hold, .int .i64 (putD).fr, .int .i64 (putD).to, .int .i64 (putD).code, .string (putD).rv, .bool (putD).has, .complex .f64 0 0] 36)).alloc (.cells #[.int .i64 0, .int .i64 0, .int .i64 0, .int .i64 0, .int .i64 (getD).kind, .string (getD).key, .string (getD).val, .string (getD).old, .bool (getD).hold, .int .i64 (getD).fr, .int .i64 (getD).to, .int .i64 (getD).code, .string (getD).rv, .bool (getD).has, .complex .f64 0 0] 36)) (.cells #[.int .i64 0, .int .i64 0, .int .i64 0, .int .i64 0, .int .i64 (lateD).kind, .string (lateD).key, .string (lateD).val, .string (lateD).old, .bool (lateD).hold, .int .i64 (lateD).fr, .int .i64 (lateD).to, .int .i64 (lateD).code, .string (lateD).rv, .bool (lateD).has, .complex .f64 0 0] 36); rwa [s2] at this
  have s3 : (((w.alloc (.cells #[.int .i64 0, .int .i64 0, .int .i64 0, .int .i64 0, .int .i64 (putD).kind, .string (putD).key, .string (putD).val, .string (putD).old, .bool (putD).hold, .int .i64 (putD).fr, .int .i64 (putD).to, .int .i64 (putD).code, .string (putD).rv, .bool (putD).has, .complex .f64 0 0] 36)).alloc (.cells #[.int .i64 0, .int .i64 0, .int .i64 0, .int .i64 0, .int .i64 (getD).kind, .string (getD).key, .string (getD).val, .string (getD).old, .bool (getD).hold, .int .i64 (getD).fr, .int .i64 (getD).to, .int .i64 (getD).code, .string (getD).rv, .bool (getD).has, .complex .f64 0 0] 36)).alloc (.cells #[.int .i64 0, .int .i64 0, .int .i64 0, .int .i64 0, .int .i64 (lateD).kind, .string (lateD).key, .string (lateD).val, .string (lateD).old, .bool (lateD).hold, .int .i64 (lateD).fr, .int .i64 (lateD).to, .int .i64 (lateD).code, .string (lateD).rv, .bool (lateD).has, .complex .f64 0 0] 36)).heap.size = w.heap.size + 1 + 1 + 1 := by rw [World.size_alloc, s2]
  have hb4 := below_alloc (((w.alloc (.cells #[.int .i64 0, .int .i64 0, .int .i64 0, .int .i64 0, .int .i64 (putD).kind, .string (putD).key, .string (putD).val, .string (putD).old, .bool (putD).hold, .int .i64 (putD).fr, .int .i64 (putD).to, .int .i64 (putD).code, .string (putD).rv, .bool (putD).has, .complex .f64 0 0] 36)).alloc (.cells #[.int .i64 0, .int .i64 0, .int .i64 0, .int .i64 0, .int .i64 (getD).kind, .string (getD).key, .string (getD).val, .string (getD).old, .bool (getD).hold, .int .i64 (getD).fr, .int .i64 (getD).to, .int .i64 (getD).code, .string (getD).rv, .bool (getD).has, .complex .f64 0 0] 36)).alloc (.cells #[.int .i64 0, .int .i64 0, .int .i64 0, .int .i64 0, .int .i64 (lateD).kind, .string (lateD).key, .string (lateD).val, .string (lateD).old, .bool (lateD).hold, .int .i64 (lateD).fr, .int .i64 (lateD).to, .int .i64 (lateD).code, .string (lateD).rv, .bool (lateD).has, .complex .f64 0 0] 36)) (.cells #[.int .i64 0, .int .i64 0, .int .i64 0, .int .i64 0, .int .i64 putD.kind, .string putD.key, .string putD.val, .string putD.old, .bool putD.hold, .int .i64 putD.fr, .int .i64 putD.to, .int .i64 putD.code, .string putD.rv, .bool putD.has, .complex .f64 0 0, .int .i64 0, .int .i64 0, .int .i64 0, .int .i64 0, .int .i64 getD.kind, .string getD.key, .string getD.val, .string getD.old, .bool getD.hold, .int .i64 getD.fr, .int .i64 getD.to, .int .i64 getD.code, .string getD.rv, .bool getD.has, .complex .f64 0 0] 36)
  have HP4 := Lib.hid (rowkeep (rowkeep (rowkeep h1 hb2) hb3) hb4)
  have HG4 := Lib.hid (rowkeep (rowkeep h2 hb3) hb4)
  have HL4 := Lib.hid (rowkeep h3 hb4)
  have HR4 := Lib.hid (rd_pg (((w.alloc (.cells #[.int .i64 0, .int .i64 0, .int .i64 0, .int .i64 0, .int .i64 (putD).kind, .string (putD).key, .string (putD).val, .string (putD).old, .bool (putD).hold, .int .i64 (putD).fr, .int .i64 (putD).to, .int .i64 (putD).code, .string (putD).rv, .bool (putD).has, .complex .f64 0 0] 36)).alloc (.cells #[.int .i64 0, .int .i64 0, .int .i64 0, .int .i64 0, .int .i64 (getD).kind, .string (getD).key, .string (getD).val, .string (getD).old, .bool (getD).hold, .int .i64 (getD).fr, .int .i64 (getD).to, .int .i64 (getD).code, .string (getD).rv, .bool (getD).has, .complex .f64 0 0] 36)).alloc (.cells #[.int .i64 0, .int .i64 0, .int .i64 0, .int .i64 0, .int .i64 (lateD).kind, .string (lateD).key, .string (lateD).val, .string (lateD).old, .bool (lateD).hold, .int .i64 (lateD).fr, .int .i64 (lateD).to, .int .i64 (lateD).code, .string (lateD).rv, .bool (lateD).has, .complex .f64 0 0] 36)))
  rw [s3] at HR4
  have HB4 := Lib.hid (((hb1.trans (hb2.mono hb1.size)).trans (hb3.mono (hb1.trans (hb2.mono hb1.size)).size)).trans (hb4.mono ((hb1.trans (hb2.mono hb1.size)).trans (hb3.mono (hb1.trans (hb2.mono hb1.size)).size)).size))
  have HP3 := Lib.hid (rowkeep (rowkeep h1 hb2) hb3)
  have HG3 := Lib.hid (rowkeep h2 hb3)
  clear hb1 hb2 hb3 hb4 h1 h2 h3 s1 s2 s3
  go_enter Try.func5, Try.ntmps5
  go_wp2_with (first | (refine load_row_g (by rfl) _ _ rfl _ rfl _ _ _ _ HP3.out Try.underlying36 rfl (by kernel_rfl) ?_) | (refine load_row_g (by rfl) _ _ rfl _ rfl _ _ _ _ HG3.out Try.underlying36 rfl (by kernel_rfl) ?_) | (rw [store_cx]; go_simp))
  clear HP3 HG3
  generalize hW : (((w.alloc _).alloc _).alloc _).alloc _ = W
  have hW2 : (((w.alloc (.cells #[.int .i64 0, .int .i64 0, .int .i64 0, .int .i64 0, .int .i64 (putD).kind, .string (putD).key, .string (putD).val, .string (putD).old, .bool (putD).hold, .int .i64 (putD).fr, .int .i64 (putD).to, .int .i64 (putD).code, .string (putD).rv, .bool (putD).has, .complex .f64 0 0] 36)).alloc (.cells #[.int .i64 0, .int .i64 0, .int .i64 0, .int .i64 0, .int .i64 (getD).kind, .string (getD).key, .string (getD).val, .string (getD).old, .bool (getD).hold, .int .i64 (getD).fr, .int .i64 (getD).to, .int .i64 (getD).code, .string (getD).rv, .bool (getD).has, .complex .f64 0 0] 36)).alloc (.cells #[.int .i64 0, .int .i64 0, .int .i64 0, .int .i64 0, .int .i64 (lateD).kind, .string (lateD).key, .string (lateD).val, .string (lateD).old, .bool (lateD).hold, .int .i64 (lateD).fr, .int .i64 (lateD).to, .int .i64 (lateD).code, .string (lateD).rv, .bool (lateD).has, .complex .f64 0 0] 36)).alloc (.cells #[.int .i64 0, .int .i64 0, .int .i64 0, .int .i64 0, .int .i64 putD.kind, .string putD.key, .string putD.val, .string putD.old, .bool putD.hold, .int .i64 putD.fr, .int .i64 putD.to, .int .i64 putD.code, .string putD.rv, .bool putD.has, .complex .f64 0 0, .int .i64 0, .int .i64 0, .int .i64 0, .int .i64 0, .int .i64 getD.kind, .string getD.key, .string getD.val, .string getD.old, .bool getD.hold, .int .i64 getD.fr, .int .i64 getD.to, .int .i64 getD.code, .string getD.rv, .bool getD.has, .complex .f64 0 0] 36) = W := hW
  rw [hW2] at HP4 HG4 HL4 HR4 HB4
  clear hW hW2
  refine (linear_any W (n := 2) (L := [putD, getD]) rfl HR4.out (by omega)).mono ?_
  rintro e w5 ⟨b, rfl, ht, hf, hb⟩
  have hb1 : b = true := by
    cases b
    · exact absurd awake_one (hf rfl)
    · rfl
  subst hb1
  have HB5 := Lib.hid (HB4.out.trans (hb.mono HB4.out.size))
  have HP5 := Lib.hid (rowkeep HP4.out hb)
  have HG5 := Lib.hid (rowkeep HG4.out hb)
  have HL5 := Lib.hid (rowkeep HL4.out hb)
  clear ht hf hb HR4 HP4 HG4 HL4 HB4
  have hba := below_alloc w5 (.cells #[.int .i64 0, .int .i64 0, .int .i64 0, .int .i64 0, .int .i64 putD.kind, .string putD.key, .string putD.val, .string putD.old, .bool putD.hold, .int .i64 putD.fr, .int .i64 putD.to, .int .i64 putD.code, .string putD.rv, .bool putD.has, .complex .f64 0 0, .int .i64 0, .int .i64 0, .int .i64 0, .int .i64 0, .int .i64 lateD.kind, .string lateD.key, .string lateD.val, .string lateD.old, .bool lateD.hold, .int .i64 lateD.fr, .int .i64 lateD.to, .int .i64 lateD.code, .string lateD.rv, .bool lateD.has, .complex .f64 0 0] 36)
  have HR6 := Lib.hid (rd_pl w5)
  have HB6 := Lib.hid (HB5.out.trans (hba.mono HB5.out.size))
  have HP6 := Lib.hid (rowkeep HP5.out hba)
  have HG6 := Lib.hid (rowkeep HG5.out hba)
  have HL6 := Lib.hid (rowkeep HL5.out hba)
  clear hba HB5
  go_wp2_with (first | (refine load_row_g (by rfl) _ _ rfl _ rfl _ _ _ _ HP5.out Try.underlying36 rfl (by kernel_rfl) ?_) | (refine load_row_g (by rfl) _ _ rfl _ rfl _ _ _ _ HL5.out Try.underlying36 rfl (by kernel_rfl) ?_) | (rw [store_cx]; go_simp))
  clear HP5 HG5 HL5
  generalize hW : w5.alloc _ = W6
  have hW2 : w5.alloc (.cells #[.int .i64 0, .int .i64 0, .int .i64 0, .int .i64 0, .int .i64 putD.kind, .string putD.key, .string putD.val, .string putD.old, .bool putD.hold, .int .i64 putD.fr, .int .i64 putD.to, .int .i64 putD.code, .string putD.rv, .bool putD.has, .complex .f64 0 0, .int .i64 0, .int .i64 0, .int .i64 0, .int .i64 0, .int .i64 lateD.kind, .string lateD.key, .string lateD.val, .string lateD.old, .bool lateD.hold, .int .i64 lateD.fr, .int .i64 lateD.to, .int .i64 lateD.code, .string lateD.rv, .bool lateD.has, .complex .f64 0 0] 36) = W6 := hW
  rw [hW2] at HP6 HG6 HL6 HR6 HB6
  clear hW hW2
  refine (linear_any W6 (n := 2) (L := [putD, lateD]) rfl HR6.out (by omega)).mono ?_
  rintro e w7 ⟨b, rfl, ht, hf, hb⟩
  have hb1 : b = false := by
    cases b
    · rfl
    · exact absurd (ht rfl) awake_two
  subst hb1
  have HB7 := Lib.hid (HB6.out.trans (hb.mono HB6.out.size))
  have HP7 := Lib.hid (rowkeep HP6.out hb)
  have HG7 := Lib.hid (rowkeep HG6.out hb)
  have HL7 := Lib.hid (rowkeep HL6.out hb)
  clear ht hf hb HR6 HP6 HG6 HL6 HB6
  have hba := below_alloc w7 (.cells #[.int .i64 0, .int .i64 0, .int .i64 0, .int .i64 0, .int .i64 putD.kind, .string putD.key, .string putD.val, .string putD.old, .bool putD.hold, .int .i64 putD.fr, .int .i64 putD.to, .int .i64 putD.code, .string putD.rv, .bool putD.has, .complex .f64 0 0, .int .i64 0, .int .i64 0, .int .i64 0, .int .i64 0, .int .i64 getD.kind, .string getD.key, .string getD.val, .string getD.old, .bool getD.hold, .int .i64 getD.fr, .int .i64 getD.to, .int .i64 getD.code, .string getD.rv, .bool getD.has, .complex .f64 0 0] 36)
  have HR8 := Lib.hid (rd_pg w7)
  have HB8 := Lib.hid (HB7.out.trans (hba.mono HB7.out.size))
  have HP8 := Lib.hid (rowkeep HP7.out hba)
  have HG8 := Lib.hid (rowkeep HG7.out hba)
  have HL8 := Lib.hid (rowkeep HL7.out hba)
  clear hba HB7
  go_wp2_with (first | (refine load_row_g (by rfl) _ _ rfl _ rfl _ _ _ _ HP7.out Try.underlying36 rfl (by kernel_rfl) ?_) | (refine load_row_g (by rfl) _ _ rfl _ rfl _ _ _ _ HG7.out Try.underlying36 rfl (by kernel_rfl) ?_) | (rw [store_cx]; go_simp))
  clear HP7 HG7 HL7
  generalize hW : w7.alloc _ = W8
  have hW2 : w7.alloc (.cells #[.int .i64 0, .int .i64 0, .int .i64 0, .int .i64 0, .int .i64 putD.kind, .string putD.key, .string putD.val, .string putD.old, .bool putD.hold, .int .i64 putD.fr, .int .i64 putD.to, .int .i64 putD.code, .string putD.rv, .bool putD.has, .complex .f64 0 0, .int .i64 0, .int .i64 0, .int .i64 0, .int .i64 0, .int .i64 getD.kind, .string getD.key, .string getD.val, .string getD.old, .bool getD.hold, .int .i64 getD.fr, .int .i64 getD.to, .int .i64 getD.code, .string getD.rv, .bool getD.has, .complex .f64 0 0] 36) = W8 := hW
  rw [hW2] at HP8 HG8 HL8 HR8 HB8
  clear hW hW2
  refine (key_any W8 (n := 2) (L := [putD, getD]) rfl HR8.out ⟨#[106]⟩ (by omega)).mono ?_
  rintro e w9 ⟨A', c', n', rfl, hn', -, hb⟩
  have hn0 : n' = 0 := by rw [hn', key_j]; rfl
  subst hn0
  have HB9 := Lib.hid (HB8.out.trans (hb.mono HB8.out.size))
  have HP9 := Lib.hid (rowkeep HP8.out hb)
  have HG9 := Lib.hid (rowkeep HG8.out hb)
  have HL9 := Lib.hid (rowkeep HL8.out hb)
  clear hn' hb HR8 HP8 HG8 HL8 HB8
  have hba := below_alloc w9 (.cells #[.int .i64 0, .int .i64 0, .int .i64 0, .int .i64 0, .int .i64 putD.kind, .string putD.key, .string putD.val, .string putD.old, .bool putD.hold, .int .i64 putD.fr, .int .i64 putD.to, .int .i64 putD.code, .string putD.rv, .bool putD.has, .complex .f64 0 0, .int .i64 0, .int .i64 0, .int .i64 0, .int .i64 0, .int .i64 getD.kind, .string getD.key, .string getD.val, .string getD.old, .bool getD.hold, .int .i64 getD.fr, .int .i64 getD.to, .int .i64 getD.code, .string getD.rv, .bool getD.has, .complex .f64 0 0] 36)
  have HR10 := Lib.hid (rd_pg w9)
  have HB10 := Lib.hid (HB9.out.trans (hba.mono HB9.out.size))
  clear hba HB9
  go_wp2_with (first | (refine load_row_g (by rfl) _ _ rfl _ rfl _ _ _ _ HP9.out Try.underlying36 rfl (by kernel_rfl) ?_) | (refine load_row_g (by rfl) _ _ rfl _ rfl _ _ _ _ HG9.out Try.underlying36 rfl (by kernel_rfl) ?_) | (rw [store_cx]; go_simp))
  clear HP9 HG9 HL9
  generalize hW : w9.alloc _ = W10
  have hW2 : w9.alloc (.cells #[.int .i64 0, .int .i64 0, .int .i64 0, .int .i64 0, .int .i64 putD.kind, .string putD.key, .string putD.val, .string putD.old, .bool putD.hold, .int .i64 putD.fr, .int .i64 putD.to, .int .i64 putD.code, .string putD.rv, .bool putD.has, .complex .f64 0 0, .int .i64 0, .int .i64 0, .int .i64 0, .int .i64 0, .int .i64 getD.kind, .string getD.key, .string getD.val, .string getD.old, .bool getD.hold, .int .i64 getD.fr, .int .i64 getD.to, .int .i64 getD.code, .string getD.rv, .bool getD.has, .complex .f64 0 0] 36) = W10 := hW
  rw [hW2] at HR10 HB10
  clear hW hW2
  refine (keys_two W10 (L := [putD, getD]) (s := ⟨#[107]⟩) rfl keys_k HR10.out).mono ?_
  rintro e w11 ⟨⟨g, c2, rfl⟩, hb⟩
  have HB11 := Lib.hid (HB10.out.trans (hb.mono HB10.out.size))
  clear hb HR10 HB10
  go_wp2_with fail
  go_ret
  exact ⟨rfl, HB11.out⟩
end Go.Proofs.Ytabjkmennijaeaa.hs

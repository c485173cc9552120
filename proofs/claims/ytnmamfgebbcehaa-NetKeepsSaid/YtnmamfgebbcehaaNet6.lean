/- append within the capacity, and clear, of a row of the call's own. -/
import Derived.Test.YtnmamfgebbcehaaNet5
namespace Go.Proofs.Ytnmamfgebbcehaa.pk
open Go.RowKit Go.Proofs.Ytnmamfgebbcehaa.lib Go.Proofs.Ytnmamfgebbcehaa.byt

/-- 'append(s[:n], x...)' where there is room: the row's cells from n on are overwritten; address and capacity stay. -/
theorem append_room {P : Program} (w : World) (t u ty e : TypeId) (i : TypeInfo) (size : Nat) (ht : P.underlying t = some (.slice e)) (hi : P.info? e = some i) (hsize : i.size = size)
    {g n c : Nat} {cur : Array Value} (hg : w.heap[g]? = some (.cells cur e (0, 0))) (hcs : cur.size = c * size) {x : Value} {m : Nat} {news : List Value} (hs : Src P w u x size m news) (hroom : n + m ≤ c) :
    (Builtin.append_ #[t, u] ty #[.slice (some ⟨g, 0, none⟩) n c, x]).run P w = .ok (.slice (some ⟨g, 0, none⟩) (n + m) c) (w.setRow g (cur.toList.take (n * size) ++ news ++ cur.toList.drop (n * size + news.length)).toArray) := by
  subst hsize
  have hf := hs.cells w rfl
  have hl := hs.len w
  have hfit : n * i.size + news.length ≤ cur.size := by rw [hs.length, hcs, ← Nat.add_mul]; exact Nat.mul_le_mul_right _ hroom
  have hst := run_storeCells_at P g (n * i.size) e news 0 cur w hg (by simpa using hfit) hs.one
  simp only [Nat.add_zero] at hst
  rcases hs.kind with ⟨e', hd⟩ | hd <;> simp [Builtin.append_, run_underlying ht, run_underlying hd, sizeOf, typeInfo, hi, hl, hroom, hf, Addr.add_lit, hst]

/-- 'clear(s)' of n elements of a row of the call's own, whatever their cells are. -/
theorem clear_row {P : Program} (w : World) (t e ty : TypeId) (zv : Value) (ht : P.underlying t = some (.slice e)) (hv : ∀ w, (zeroValue e).run P w = .ok zv w)
    {g o n c : Nat} {cur : Array Value} (hg : w.heap[g]? = some (.cells cur e (0, 0))) (hn : 0 < n) (Z : List Value) (hZ : (Builtin.zeroCells zv.cells n).toList = Z) (h1 : ∀ v ∈ Z, v.oneCell' = true) (hfit : o + Z.length ≤ cur.size) :
    (Builtin.clear_ #[t] ty #[.slice (some ⟨g, o, none⟩) n c]).run P w = .ok (.tuple #[]) (w.setRow g (cur.toList.take o ++ Z ++ cur.toList.drop (o + Z.length)).toArray) := by
  have hst := run_storeCells_at P g o e Z 0 cur w hg (by simpa using hfit) h1
  simp only [Nat.add_zero] at hst
  obtain ⟨m, rfl⟩ : ∃ m, n = m + 1 := ⟨n - 1, by omega⟩
  simp [Builtin.clear_, run_underlying ht, hv, hZ, hst]
theorem zero_pk : ∀ w : World, (zeroValue 29).run Try.prog w = .ok (.agg #[.int .i64 0, .int .i64 0, .slice none 0 0]) w := fun w => by
  obtain ⟨i0, hi, hz0, _, _⟩ := info_parts info_pk
  simp [zeroValue, typeInfo, hi, hz0]
end Go.Proofs.Ytnmamfgebbcehaa.pk

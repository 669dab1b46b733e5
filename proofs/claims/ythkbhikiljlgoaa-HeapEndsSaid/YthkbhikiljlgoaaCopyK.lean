/- copy and clear on elements of several cells, told of whole blocks; copy as one step of a region that draws. -/
import Derived.Test.YthkbhikiljlgoaaRun
import Derived.Deep.RegionLaw
import Derived.Laws.CopyRow
namespace Go.Proofs.Ythkbhikiljlgoaa
open Go.RowKit

theorem take_splice {α : Type} (l : List α) (o : Nat) (xs : List α) (N : Nat) (h : o + xs.length ≤ N) (h2 : N ≤ l.length) : (splice l o xs).take N = splice (l.take N) o xs := by
  apply List.ext_getElem?
  intro j
  rw [List.getElem?_take, splice_get l o xs (by omega), splice_get (l.take N) o xs (by simp; omega), List.getElem?_take]
  by_cases h1 : j < N
  · rw [if_pos h1, if_pos h1]
  · rw [if_neg h1, if_neg h1, if_neg (by omega)]
theorem splice_out {α : Type} (l : List α) (o : Nat) (xs : List α) (N : Nat) (h : N ≤ o) (h2 : o + xs.length ≤ l.length) : (splice l o xs).take N = l.take N := by
  apply List.ext_getElem?
  intro j
  rw [List.getElem?_take, List.getElem?_take]
  by_cases h1 : j < N
  · rw [if_pos h1, if_pos h1, splice_get l o xs h2, if_neg (by omega)]
  · rw [if_neg h1, if_neg h1]

theorem splice_end {α : Type} (l : List α) (o : Nat) (xs : List α) (N : Nat) (h : o ≤ l.length) (hN : N = o + xs.length) : (splice l o xs).take N = l.take o ++ xs := by
  subst hN
  unfold splice
  exact List.take_left' (by simp; omega)
/-- copy into a block, from cells that are read: elements of K cells. -/
theorem copy_blkK {W : World} {dT sT ty elem : TypeId} {K g o n dl sl dc sc : Nat} {a : Option Addr} {cur : List Value} {T : Nat} {vs : List Value}
    (hu : Try.prog.underlying dT = some (.slice elem)) (hs : (Try.prog.info? elem).map (·.size) = some K) (hg : W.heap[g]? = some (.cells cur.toArray T (0, 0)))
    (hm : Nat.min sl dl = n) (hrd : RdV W a vs) (hn : vs.length = n * K) (hfit : o + n * K ≤ cur.length) (h1 : ∀ v ∈ vs, v.oneCell' = true) (h0 : 0 < n) (hK : 0 < K) :
    ∃ W1, (Builtin.copy_ #[dT, sT] ty #[.slice (some ⟨g, o, none⟩) dl dc, .slice a sl sc]).run Try.prog W = .ok (.int .i64 n) W1 ∧
      W1.heap[g]? = some (.cells (splice cur o vs).toArray T (0, 0)) ∧ Fr (fun k => k = g) W W1 ∧ W1.heap.size = W.heap.size := by
  have hpos : 0 < n * K := Nat.mul_pos h0 hK
  rcases hrd with h | ⟨b, p, rfl, hc⟩
  · subst h; simp at hn; omega
  · have hsrc : ∀ j v, vs[j]? = some v → W.cell? ((⟨b, p, none⟩ : Addr).add j) = some v := fun j v hv => by
      obtain ⟨hj, rfl⟩ := List.getElem?_eq_some_iff.1 hv
      rw [addr_add]; exact hc j hj
    have hl := run_loadCells_list (P := Try.prog) W ⟨b, p, none⟩ vs hsrc
    have hst := run_storeCells_at Try.prog g o T vs 0 cur.toArray W hg (by simpa [hn] using hfit) h1
    have e2 : cur.toArray.toList = cur := by simp
    rw [e2] at hst
    cases hq : Try.prog.info? elem with
    | none => simp [hq] at hs
    | some i =>
      have hi : i.size = K := by simpa [hq] using hs
      rw [hn] at hl
      refine ⟨W.setRow g (splice cur o vs).toArray, ?_, setRow_heap W g cur.toArray _ T _ hg, fr_setRow _, by simp [World.setRow]⟩
      simp [Builtin.copy_, run_underlying hu, Builtin.lenOf, Builtin.firstCells, sizeOf, typeInfo, hq, hi, hm, hl, hst, splice, goInt]
/-- copy of nothing. -/
theorem copy_zeroK {W : World} {dT sT ty elem : TypeId} {K : Nat} {d a : Option Addr} {dl sl dc sc : Nat}
    (hu : Try.prog.underlying dT = some (.slice elem)) (hs : (Try.prog.info? elem).map (·.size) = some K) (hm : Nat.min sl dl = 0) :
    (Builtin.copy_ #[dT, sT] ty #[.slice d dl dc, .slice a sl sc]).run Try.prog W = .ok (.int .i64 0) W := by
  cases hq : Try.prog.info? elem with
  | none => simp [hq] at hs
  | some i =>
    cases a with
    | none => cases d <;> simp [Builtin.copy_, run_underlying hu, Builtin.lenOf, Builtin.firstCells, sizeOf, typeInfo, hq, hm, storeCells, goInt]
    | some a =>
      have hl := run_loadCells_list (P := Try.prog) W a [] (by simp)
      simp only [List.length_nil] at hl
      cases d <;> simp [Builtin.copy_, run_underlying hu, Builtin.lenOf, Builtin.firstCells, sizeOf, typeInfo, hq, hm, hl, storeCells, goInt]
/-- clear of a run of a block: elements of K cells. -/
theorem clear_blkK {W : World} {t ty elem : TypeId} {K g o n dc : Nat} {cur : List Value} {T : Nat} {z : Value}
    (hu : Try.prog.underlying t = some (.slice elem)) (hv : ∀ w, (zeroValue elem).run Try.prog w = .ok z w) (hz : z.cells.size = K) (h1 : ∀ v ∈ z.cells.toList, v.oneCell' = true)
    (hg : W.heap[g]? = some (.cells cur.toArray T (0, 0))) (hfit : o + n * K ≤ cur.length) (h0 : 0 < n) :
    ∃ W1 zs, (Builtin.clear_ #[t] ty #[.slice (some ⟨g, o, none⟩) n dc]).run Try.prog W = .ok (.tuple #[]) W1 ∧ zs.length = n * K ∧
      W1.heap[g]? = some (.cells (splice cur o zs).toArray T (0, 0)) ∧ Fr (fun k => k = g) W W1 ∧ W1.heap.size = W.heap.size := by
  have hl : (Builtin.zeroCells z.cells n).toList.length = n * K := by rw [Array.length_toList, size_zeroCells, hz]
  have hone : ∀ v ∈ (Builtin.zeroCells z.cells n).toList, v.oneCell' = true := by
    intro v hv'
    simp only [Builtin.zeroCells, Array.toList_map, List.mem_map, Array.toList_range, List.mem_range] at hv'
    obtain ⟨i, hi, rfl⟩ := hv'
    have h9 : 0 < z.cells.size := by
      rcases Nat.eq_zero_or_pos z.cells.size with h | h
      · rw [h] at hi; simp at hi
      · exact h
    have h8 : i % z.cells.size < z.cells.size := Nat.mod_lt _ h9
    simp only [h8, getElem!_pos]
    exact h1 _ (by simp)
  have hst := run_storeCells_at Try.prog g o T (Builtin.zeroCells z.cells n).toList 0 cur.toArray W hg (by rw [hl]; simpa using hfit) hone
  have e2 : cur.toArray.toList = cur := by simp
  simp only [Nat.add_zero, e2] at hst
  refine ⟨W.setRow g (splice cur o (Builtin.zeroCells z.cells n).toList).toArray, _, ?_, hl, setRow_heap W g cur.toArray _ T _ hg, fr_setRow _, by simp [World.setRow]⟩
  obtain ⟨m, rfl⟩ : ∃ m, n = m + 1 := ⟨n - 1, by omega⟩
  simp only [Builtin.clear_]
  simp [run_underlying hu, hv, hst, splice]
theorem clear_zeroK {W : World} {t ty elem : TypeId} {z : Value} {a : Option Addr} {dc : Nat}
    (hu : Try.prog.underlying t = some (.slice elem)) (hv : ∀ w, (zeroValue elem).run Try.prog w = .ok z w) :
    (Builtin.clear_ #[t] ty #[.slice a 0 dc]).run Try.prog W = .ok (.tuple #[]) W := by
  cases a <;> simp [Builtin.clear_, run_underlying hu, hv, Builtin.zeroCells, storeCells]

/-- copy as one step of a region that draws, its run being known. -/
theorem step_copy {ops : Array Oper} {o : Oper} {a : Act} {w : World} {K : Act → World → Prop} {Q : Exit → Act → World → Prop} {E : Prop}
    (hg : o.guard = none) (d x : Operand) (dT sT : TypeId) (hop : o.op = Op.call { callee := Callee.builtin Builtin.copy, args := #[d, x], argTypes := #[dT, sT] })
    (v u : Value) (hd : a.eval d = v) (hx : a.eval x = u) {v' : Value} {w' : World} (hr : (Builtin.copy_ #[dT, sT] o.type #[v, u]).run Try.prog w = .ok v' w') (hK : K (a.put o.dst v') w') :
    if Region.wanted o (yielded ops a.tmps) = true then Oper.wp Try.prog o a w K Q else E := by
  have hw : Region.wanted o (yielded ops a.tmps) = true := by simp [Region.wanted, hg]
  rw [if_pos hw]
  unfold Oper.wp
  simp [execOp, hop, resolve, invoke, builtin, hd, hx, hr, Result.andThen]
  exact hK
end Go.Proofs.Ythkbhikiljlgoaa

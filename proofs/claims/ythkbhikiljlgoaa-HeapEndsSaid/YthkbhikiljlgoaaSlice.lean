/- copy and clear on one-cell elements, told of whole blocks. -/
import Derived.Test.YthkbhikiljlgoaaFrame
import Derived.Laws.CopyRow
import Derived.Laws.IdiomCopy
import Derived.Lib.SliceRun
namespace Go.Proofs.Ythkbhikiljlgoaa
open Go.RowKit

/-- A list with a run of it replaced. -/
def splice {α : Type} (l : List α) (o : Nat) (xs : List α) : List α := l.take o ++ xs ++ l.drop (o + xs.length)
theorem splice_length {α : Type} (l : List α) (o : Nat) (xs : List α) (h : o + xs.length ≤ l.length) : (splice l o xs).length = l.length := by
  simp [splice]; omega
theorem splice_map {α β : Type} (f : α → β) (l : List α) (o : Nat) (xs : List α) : (splice l o xs).map f = splice (l.map f) o (xs.map f) := by
  simp [splice, List.map_take, List.map_drop]
theorem splice_mem {α : Type} {l : List α} {o : Nat} {xs : List α} {x : α} (h : x ∈ splice l o xs) : x ∈ l ∨ x ∈ xs := by
  simp only [splice, List.mem_append] at h
  rcases h with (h | h) | h
  · exact .inl (List.mem_of_mem_take h)
  · exact .inr h
  · exact .inl (List.mem_of_mem_drop h)
theorem splice_get {α : Type} (l : List α) (o : Nat) (xs : List α) (h : o + xs.length ≤ l.length) (j : Nat) :
    (splice l o xs)[j]? = if o ≤ j ∧ j < o + xs.length then xs[j - o]? else l[j]? := by
  unfold splice
  rw [List.append_assoc, List.getElem?_append]
  by_cases h1 : j < o
  · rw [if_pos (by simp; omega), if_neg (by omega), List.getElem?_take, if_pos h1]
  · rw [if_neg (by simp; omega), List.getElem?_append]
    simp only [List.length_take, Nat.min_eq_left (show o ≤ l.length by omega)]
    by_cases h2 : j - o < xs.length
    · rw [if_pos h2, if_pos (by omega)]
    · rw [if_neg h2, if_neg (by omega), List.getElem?_drop]
      congr 1; omega
theorem splice_nil {α : Type} (l : List α) (o : Nat) : splice l o [] = l := by simp [splice]

theorem splice_set {α : Type} (l : List α) (o : Nat) (xs : List α) (h : o + xs.length ≤ l.length) (i : Nat) (hi : i < xs.length) :
    (splice l o (xs.take i)).set (o + i) xs[i] = splice l o (xs.take (i + 1)) := by
  have h1 : (xs.take i).length = i := by simp; omega
  have h2 : (xs.take (i + 1)).length = i + 1 := by simp; omega
  apply List.ext_getElem?
  intro j
  rw [List.getElem?_set, splice_get l o _ (by omega), splice_get l o _ (by omega), splice_length l o _ (by omega), h1, h2]
  by_cases e : o + i = j
  · subst e
    rw [if_pos rfl, if_pos (by omega), if_pos (by omega), List.getElem?_take, if_pos (by omega), show o + i - o = i by omega, List.getElem?_eq_getElem hi]
  · rw [if_neg e]
    by_cases e2 : o ≤ j ∧ j < o + i
    · rw [if_pos e2, if_pos (by omega), List.getElem?_take, List.getElem?_take, if_pos (by omega), if_pos (by omega)]
    · rw [if_neg e2, if_neg (by omega)]
theorem splice_row_same {α : Type} (l : List α) (o : Nat) (xs : List α) (h : o + xs.length ≤ l.length) : ((splice l o xs).drop o).take xs.length = xs := by
  apply List.ext_getElem?
  intro j
  rw [List.getElem?_take]
  split
  · rename_i hj
    rw [List.getElem?_drop, splice_get l o xs h, if_pos (by omega), show o + j - o = j by omega]
  · rename_i hj
    rw [List.getElem?_eq_none (by omega)]
theorem splice_row_other {α : Type} (l : List α) (t : Nat) (ys : List α) (h : t + ys.length ≤ l.length) (o n : Nat) (hd : o + n ≤ t ∨ t + ys.length ≤ o) : ((splice l t ys).drop o).take n = (l.drop o).take n := by
  apply List.ext_getElem?
  intro j
  rw [List.getElem?_take, List.getElem?_take]
  split
  · rename_i hj
    rw [List.getElem?_drop, List.getElem?_drop, splice_get l t ys h, if_neg (by omega)]
  · rfl
theorem addr_add (b p j : Nat) : (⟨b, p, none⟩ : Addr).add j = ⟨b, p + j, none⟩ := by
  unfold Addr.add; split <;> simp_all

theorem fr_setRow {w : World} {g : Nat} (cs : Array Value) : Fr (fun k => k = g) w (w.setRow g cs) :=
  ⟨rfl, rfl, rfl, by simp [World.setRow], fun k _ hn => by simp [World.setRow, Array.getElem?_modify, Ne.symm hn]⟩

/-- copy into a block, from cells that are read. -/
theorem copy_blk {W : World} {dT sT ty elem : TypeId} {g o n dc sc : Nat} {a : Option Addr} {cur : List Value} {T : Nat} {vs : List Value}
    (hu : Try.prog.underlying dT = some (.slice elem)) (hs : (Try.prog.info? elem).map (·.size) = some 1) (hg : W.heap[g]? = some (.cells cur.toArray T (0, 0)))
    (hrd : RdV W a vs) (hn : vs.length = n) (hfit : o + n ≤ cur.length) (h1 : ∀ v ∈ vs, v.oneCell' = true) (h0 : 0 < n) :
    ∃ W1, (Builtin.copy_ #[dT, sT] ty #[.slice (some ⟨g, o, none⟩) n dc, .slice a n sc]).run Try.prog W = .ok (.int .i64 n) W1 ∧
      W1.heap[g]? = some (.cells (splice cur o vs).toArray T (0, 0)) ∧ Fr (fun k => k = g) W W1 ∧ W1.heap.size = W.heap.size := by
  subst hn
  rcases hrd with h | ⟨b, p, rfl, hc⟩
  · subst h; simp at h0
  · have := run_copy_row Try.prog W dT sT ty elem g o vs.length dc ⟨b, p, none⟩ vs.length sc cur.toArray T vs hu hs hg (by simp)
      (fun j v hv => by
        obtain ⟨hj, rfl⟩ := List.getElem?_eq_some_iff.1 hv
        rw [addr_add]; exact hc j hj) (by simpa using hfit) h1
    have e2 : cur.toArray.toList = cur := by simp
    rw [e2] at this
    exact ⟨W.setRow g (splice cur o vs).toArray, this, setRow_heap W g cur.toArray _ T _ hg, fr_setRow _, by simp [World.setRow]⟩

/-- The operation 'copy' in a walk, its run being known. -/
theorem wp_copy {w : World} {ops : Array Oper} {rest : List Oper} {o : Oper} {a : Act} {Q : Exit → Act → World → Prop} {d s : Operand} {t t' : TypeId} {v u v' : Value} {w' : World}
    (hgd : o.guard = none) (ho : o.op = .call { callee := .builtin .copy, args := #[d, s], argTypes := #[t, t'] }) (hd : a.eval d = v) (hs : a.eval s = u)
    (hr : (Builtin.copy_ #[t, t'] o.type #[v, u]).run Try.prog w = .ok v' w') (h : wpList Try.prog ops Q rest (a.put o.dst v') w') : wpList Try.prog ops Q (o :: rest) a w := by
  refine wpList_plain hgd fun K hK => ?_
  unfold Oper.wp execOp
  simp only [ho, resolve, invoke, builtin, Sem.run_bind, Sem.run_pure, Result.andThen_ok, List.map_toArray, List.map_cons, List.map_nil, hd, hs, hr]
  exact hK _ _ h
theorem wp_clear {w : World} {ops : Array Oper} {rest : List Oper} {o : Oper} {a : Act} {Q : Exit → Act → World → Prop} {d : Operand} {t : TypeId} {v v' : Value} {w' : World}
    (hgd : o.guard = none) (ho : o.op = .call { callee := .builtin .clear, args := #[d], argTypes := #[t] }) (hd : a.eval d = v)
    (hr : (Builtin.clear_ #[t] o.type #[v]).run Try.prog w = .ok v' w') (h : wpList Try.prog ops Q rest (a.put o.dst v') w') : wpList Try.prog ops Q (o :: rest) a w := by
  refine wpList_plain hgd fun K hK => ?_
  unfold Oper.wp execOp
  simp only [ho, resolve, invoke, builtin, Sem.run_bind, Sem.run_pure, Result.andThen_ok, List.map_toArray, List.map_cons, List.map_nil, hd, hr]
  exact hK _ _ h

/-- copy of nothing. -/
theorem copy_zero {W : World} {dT sT ty elem : TypeId} {d a : Option Addr} {dc sc n m : Nat}
    (hu : Try.prog.underlying dT = some (.slice elem)) (hs : (Try.prog.info? elem).map (·.size) = some 1) (h : n = 0 ∨ m = 0) :
    (Builtin.copy_ #[dT, sT] ty #[.slice d n dc, .slice a m sc]).run Try.prog W = .ok (.int .i64 0) W := by
  exact run_copy_none W dT sT ty elem d a n dc m sc hu hs (by rcases h with rfl | rfl <;> simp)

theorem cell_set_same {w : World} {b i : Nat} {x : Value} (h : w.cell? ⟨b, i, none⟩ = some x) (v : Value) : (w.setCell ⟨b, i, none⟩ v).cell? ⟨b, i, none⟩ = some v := by
  obtain ⟨cs, T, fz, hb⟩ : ∃ cs T fz, w.heap[b]? = some (.cells cs T fz) := by
    unfold World.cell? at h
    split at h
    · rename_i c T fz hb; exact ⟨_, _, _, hb⟩
    · simp at h
  rw [blk_cell hb] at h
  rw [blk_cell (blk_setCell hb i v)]
  have := (Array.getElem?_eq_some_iff.1 h).1
  simp [this]

theorem clear_none (W : World) (t ty e : TypeId) (hu : Try.prog.underlying t = some (.slice e)) : (Builtin.clear_ #[t] ty #[.slice none 0 0]).run Try.prog W = .ok (.tuple #[]) W := by
  simp [Builtin.clear_, run_underlying hu]

/-- clear of a run of a block. -/
theorem clear_blk {W : World} {t ty elem : TypeId} {g o n dc : Nat} {cur : List Value} {T : Nat} {z : Value}
    (hu : Try.prog.underlying t = some (.slice elem)) (hv : ∀ w, (zeroValue elem).run Try.prog w = .ok z w) (hz : z.cells = #[z]) (h1 : z.oneCell' = true)
    (hg : W.heap[g]? = some (.cells cur.toArray T (0, 0))) (hfit : o + n ≤ cur.length) (h0 : 0 < n) :
    ∃ W1, (Builtin.clear_ #[t] ty #[.slice (some ⟨g, o, none⟩) n dc]).run Try.prog W = .ok (.tuple #[]) W1 ∧
      W1.heap[g]? = some (.cells (splice cur o (List.replicate n z)).toArray T (0, 0)) ∧ Fr (fun k => k = g) W W1 ∧ W1.heap.size = W.heap.size := by
  have hzc : (Builtin.zeroCells z.cells n).toList = List.replicate n z := by
    rw [hz]
    simp [Builtin.zeroCells]
    apply List.ext_getElem
    · simp
    · intro i h1 h2
      simp [Nat.mod_one]
  have hst := run_storeCells_at Try.prog g o T (List.replicate n z) 0 cur.toArray W hg (by simpa using hfit) (by intro v hv'; rw [List.eq_of_mem_replicate hv']; exact h1)
  have e2 : cur.toArray.toList = cur := by simp
  simp only [Nat.add_zero, e2] at hst
  refine ⟨W.setRow g (splice cur o (List.replicate n z)).toArray, ?_, setRow_heap W g cur.toArray _ T _ hg, fr_setRow _, by simp [World.setRow]⟩
  obtain ⟨m, rfl⟩ : ∃ m, n = m + 1 := ⟨n - 1, by omega⟩
  simp only [Builtin.clear_]
  simp [run_underlying hu, hv, hzc, hst, splice]

theorem RdV.cells {w : World} {b o : Nat} {vs : List Value} (h : RdV w (some ⟨b, o, none⟩) vs) : ∀ j u, vs[j]? = some u → w.cell? ((⟨b, o, none⟩ : Addr).add j) = some u := by
  intro j u hj
  obtain ⟨hlt, rfl⟩ := List.getElem?_eq_some_iff.1 hj
  rcases h with h | ⟨b', o', e, h⟩
  · subst h; simp at hlt
  · injection e with e; injection e with e1 e2
    subst e1; subst e2
    rw [addr_add]; exact h j hlt
theorem u64s_one (xs : List Int) : ∀ v ∈ u64s xs, v.oneCell' = true := by
  intro v hv; simp only [u64s, List.mem_map] at hv; obtain ⟨x, _, rfl⟩ := hv; rfl
/-- A struct of two cells, written whole, is read so. -/
theorem two_set {w : World} {R T : Nat} {x0 y0 : Value} (g : w.heap[R]? = some (.cells #[x0, y0] T (0, 0))) (x y : Value) :
    (w.setCell ⟨R, 0, none⟩ x).cell? ⟨R, 0, none⟩ = some x ∧ ((w.setCell ⟨R, 0, none⟩ x).setCell ⟨R, 1, none⟩ y).cell? ⟨R, 1, none⟩ = some y ∧
    ((w.setCell ⟨R, 0, none⟩ x).setCell ⟨R, 1, none⟩ y).heap[R]? = some (.cells #[x, y] T (0, 0)) := by
  have h1 := blk_setCell g 0 x
  have h2 := blk_setCell h1 1 y
  exact ⟨cell_set_same (blk_cell g 0) x, cell_set_same (x := y0) (by rw [blk_cell h1]; rfl) y, by simpa using h2⟩
theorem two_cells {w : World} {R T : Nat} {x0 y0 : Value} (g : w.heap[R]? = some (.cells #[x0, y0] T (0, 0))) :
    w.cell? ⟨R, 0, none⟩ = some x0 ∧ w.cell? ⟨R, 1, none⟩ = some y0 ∧ w.frozen? ⟨R, 0, none⟩ = false ∧ w.frozen? ⟨R, 1, none⟩ = false :=
  ⟨blk_cell g 0, blk_cell g 1, blk_frozen g 0, blk_frozen g 1⟩
/-- A struct of two written where it was new. -/
theorem fr_two {S : Nat → Prop} {w w1 : World} (h : Fr S w w1) {R : Nat} (hR : w.heap.size ≤ R) (x y : Value) : Fr S w ((w1.setCell ⟨R, 0, none⟩ x).setCell ⟨R, 1, none⟩ y) :=
  (h.setCell (.inr hR) _).setCell (.inr hR) _
theorem bel_two {w w1 : World} (h : Bel w w1) {R : Nat} (hR : w.heap.size ≤ R) (x y : Value) : Bel w ((w1.setCell ⟨R, 0, none⟩ x).setCell ⟨R, 1, none⟩ y) :=
  Fr.bel (fr_two (S := fun _ => False) (Fr.of_bel h) hR x y) (fun _ (h : False) => h.elim)
end Go.Proofs.Ythkbhikiljlgoaa

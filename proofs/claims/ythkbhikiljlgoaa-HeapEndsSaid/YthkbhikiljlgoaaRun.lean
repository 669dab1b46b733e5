/- Runs in memory: what came in, what is one's own. -/
import Derived.Test.YthkbhikiljlgoaaSlice
import Derived.Test.YthkbhikiljlgoaaPIndex
import Derived.Maps.AppendAt
import Derived.Laws.AppendOwnNone
import Derived.OwnWalk
namespace Go.Proofs.Ythkbhikiljlgoaa
open Go.RowKit

def rnCells (x : Rn) : List Value := [.int .i64 x.1, .int .i64 x.2]
def rnV (x : Rn) : Value := .agg #[.int .i64 x.1, .int .i64 x.2]
theorem info_run : (Try.prog.info? 33).map (fun i => (i.zero, i.size, i.bytes)) = some (some (.agg #[.int .i64 0, .int .i64 0]), 2, 16) := by kernel_rfl
def cellsOf (zs : List Rn) : List Value := zs.flatMap rnCells
theorem cellsOf_snoc (zs : List Rn) (x : Rn) : cellsOf (zs ++ [x]) = cellsOf zs ++ [.int .i64 x.1, .int .i64 x.2] := by simp [cellsOf, rnCells]
theorem cellsOf_get : ∀ (zs : List Rn) (i : Nat) (h : i < zs.length), (cellsOf zs)[i * 2]? = some (.int .i64 zs[i].1) ∧ (cellsOf zs)[i * 2 + 1]? = some (.int .i64 zs[i].2)
  | [], i, h => by simp at h
  | z :: zs, 0, _ => by simp [cellsOf, rnCells]
  | z :: zs, i + 1, h => by
    have := cellsOf_get zs i (by simpa using h)
    have e : cellsOf (z :: zs) = [.int .i64 z.1, .int .i64 z.2] ++ cellsOf zs := by simp [cellsOf, rnCells]
    rw [e, show (i + 1) * 2 = i * 2 + 2 by omega]
    constructor
    · rw [List.getElem?_append_right (by simp)]; simpa using this.1
    · rw [show i * 2 + 2 + 1 = (i * 2 + 1) + 2 by omega, List.getElem?_append_right (by simp)]; simpa using this.2
theorem cellsOf_length (zs : List Rn) : (cellsOf zs).length = zs.length * 2 := by
  induction zs with
  | nil => rfl
  | cons z zs ih => have e : cellsOf (z :: zs) = [.int .i64 z.1, .int .i64 z.2] ++ cellsOf zs := by simp [cellsOf, rnCells]
                    rw [e]; simp [ih]; omega
theorem bel_app {w w1 w2 : World} {o : Obj} {e size n : Nat} {v : Value} {xs : List Value} (hown : w1.ownsRow w.heap.size e size v n xs) (hB : Bel w w1) (hg : (w1.alloc o).grownBy w2 v.ownBlock) : Bel w w2 := by
  have hB2 := hB.alloc o
  refine Below.grown hB2 hg hB2.size (fun k hk => ?_)
  rcases hown.2 with ⟨h1, _⟩ | ⟨g, cap, cur, h1, h2, _⟩
  · rw [h1] at hk; simp [Value.ownBlock] at hk
  · rw [h1] at hk; simp [Value.ownBlock] at hk; omega
/-- Runs that came in: a slice of them. -/
def RunsIn (w : World) (a : Option Addr) (rs : List Rn) : Prop := rs = [] ∨ ∃ b o, a = some ⟨b, o, none⟩ ∧ ∀ i (h : i < rs.length), w.cell? ⟨b, o + i * 2, none⟩ = some (.int .i64 rs[i].1) ∧ w.cell? ⟨b, o + i * 2 + 1, none⟩ = some (.int .i64 rs[i].2)
theorem RunsIn.bel {w w' : World} {a : Option Addr} {rs : List Rn} (h : RunsIn w a rs) (k : Bel w w') : RunsIn w' a rs := by
  rcases h with h | ⟨b, o, e, h⟩
  · exact .inl h
  · exact .inr ⟨b, o, e, fun i hi => ⟨k.cell (h i hi).1, k.cell (h i hi).2⟩⟩
theorem RunsIn.at {w : World} {a : Option Addr} {rs : List Rn} (h : RunsIn w a rs) (i : Nat) (hi : i < rs.length) : ∃ b o, a = some ⟨b, o, none⟩ ∧ w.cell? ⟨b, o + i * 2, none⟩ = some (.int .i64 rs[i].1) ∧ w.cell? ⟨b, o + i * 2 + 1, none⟩ = some (.int .i64 rs[i].2) := by
  rcases h with h | ⟨b, o, e, h⟩
  · subst h; simp at hi
  · exact ⟨b, o, e, h i hi⟩
theorem RunsIn.fr {S : Nat → Prop} {w w' : World} {a : Option Addr} {rs : List Rn} (h : RunsIn w a rs) (k : Fr S w w') (hn : ∀ p, a = some p → ¬ S p.block) : RunsIn w' a rs := by
  rcases h with h | ⟨b, o, e, h⟩
  · exact .inl h
  · exact .inr ⟨b, o, e, fun i hi => ⟨k.cell (h i hi).1 (show ¬ S b from hn ⟨b, o, none⟩ e), k.cell (h i hi).2 (show ¬ S b from hn ⟨b, o, none⟩ e)⟩⟩
theorem RunsIn.of_row {w : World} {a : Option Addr} {rs : List Rn} (h : RdV w a (cellsOf rs)) : RunsIn w a rs := by
  rcases h with h | ⟨b, o, e, h⟩
  · left
    have := cellsOf_length rs
    rw [h] at this
    exact List.eq_nil_of_length_eq_zero (by simp at this; omega)
  · refine .inr ⟨b, o, e, fun i hi => ?_⟩
    have hl := cellsOf_length rs
    have h2 := cellsOf_get rs i hi
    have h3 := h (i * 2) (by omega)
    have h4 := h (i * 2 + 1) (by omega)
    rw [List.getElem?_eq_getElem (by omega), Option.some.injEq, List.getElem?_eq_getElem (by omega), Option.some.injEq] at h2
    rw [h2.1] at h3
    rw [h2.2] at h4
    exact ⟨h3, h4⟩
/-- One cell of a row of one's own, written. -/
theorem own_set {w : World} {base e size n : Nat} {v : Value} {xs : List Value} (h : w.ownsRow base e size v n xs) {t : Nat} (ht : t < n * size) : ∃ g cap, v = .slice (some ⟨g, 0, none⟩) n cap ∧ base ≤ g ∧ n ≤ cap ∧ w.cell? ⟨g, t, none⟩ = xs[t]? ∧ w.frozen? ⟨g, t, none⟩ = false ∧
    ∀ y, (w.setCell ⟨g, t, none⟩ y).ownsRow base e size v n (xs.set t y) := by
  rcases h.2 with ⟨_, h1⟩ | ⟨g, cap, cur, rfl, h2, h3, h4, h5, h6, h7⟩
  · subst h1; simp at ht
  · refine ⟨g, cap, rfl, h2, h4, ?_, blk_frozen h3 t, fun y => ⟨by rw [List.length_set]; exact h.1, .inr ⟨g, cap, cur.setIfInBounds t y, rfl, h2, ?_, h4, h5, by simpa using h6, ?_⟩⟩⟩
    · rw [blk_cell h3, ← h7, List.getElem?_take, if_pos ht]; simp
    · have := blk_setCell h3 t y
      simpa using this
    · rw [Array.toList_setIfInBounds, List.take_set, h7]
/-- Runs in a row of one's own. -/
def NewRuns (w : World) (rs : List Rn) (e : Ending) (w' : World) : Prop := ∃ v, e = .returned v ∧ w'.ownsRow w.heap.size 33 2 v rs.length (cellsOf rs) ∧ Bel w w'
theorem cellsOf_last (L : List Rn) (s m m' : Int) : (cellsOf (L ++ [(s, m)])).set (L.length * 2 + 1) (.int .i64 m') = cellsOf (L ++ [(s, m')]) ∧ (cellsOf (L ++ [(s, m)]))[L.length * 2 + 1]? = some (.int .i64 m) := by
  rw [cellsOf_snoc, cellsOf_snoc]
  have hl := cellsOf_length L
  constructor
  · rw [List.set_append_right _ _ (by omega)]
    congr 1
    rw [show L.length * 2 + 1 - (cellsOf L).length = 1 by omega]; rfl
  · rw [List.getElem?_append_right (by omega), show L.length * 2 + 1 - (cellsOf L).length = 1 by omega]; rfl
theorem runsIn_new {w w' : World} {rs : List Rn} {e : Ending} (h : NewRuns w rs e w') : ∃ a c, e = .returned (.slice a rs.length c) ∧ RunsIn w' a rs ∧ Bel w w' := by
  obtain ⟨v, rfl, hown, hB⟩ := h
  obtain ⟨a, c, rfl, hr, _⟩ := own_slice hown
  exact ⟨a, c, rfl, RunsIn.of_row hr, hB⟩
/-- The cells of runs are read one by one. -/
theorem runsIn_cells {w : World} {b o : Nat} {rs : List Rn} (h : RunsIn w (some ⟨b, o, none⟩) rs) : ∀ j u, (cellsOf rs)[j]? = some u → w.cell? ((⟨b, o, none⟩ : Addr).add j) = some u := by
  intro j u hj
  have hl := cellsOf_length rs
  obtain ⟨hlt, _⟩ := List.getElem?_eq_some_iff.1 hj
  have hi : j / 2 < rs.length := by omega
  obtain ⟨_, _, e, p0, p1⟩ := h.at (j / 2) hi
  cases e
  obtain ⟨q0, q1⟩ := cellsOf_get rs (j / 2) hi
  rw [addr_add]
  rcases Nat.mod_two_eq_zero_or_one j with hm | hm
  · rw [show j / 2 * 2 = j by omega] at p0 q0
    rw [p0, ← hj, q0]
  · rw [show o + j / 2 * 2 + 1 = o + j by omega] at p1
    rw [show j / 2 * 2 + 1 = j by omega] at q1
    rw [p1, ← hj, q1]
theorem cellsOf_one (L : List Rn) : ∀ u ∈ cellsOf L, u.oneCell' = true := by
  intro u hu
  simp only [cellsOf, List.mem_flatMap, rnCells] at hu
  obtain ⟨x, _, hu⟩ := hu
  simp at hu
  rcases hu with rfl | rfl <;> rfl
theorem cellsOf_append (L l : List Rn) : cellsOf (L ++ l) = cellsOf L ++ cellsOf l := by simp [cellsOf]
/-- append of runs (as many as one likes) to runs that are one's own. -/
theorem wpList_append_runs {w : World} {ops : Array Oper} {rest : List Oper} {o : Oper} {a : Act} {Q : Exit → Act → World → Prop} (hgd : o.guard = none) (s x : Operand)
    (ho : o.op = .call { callee := .builtin .append, args := #[s, x], argTypes := #[38, 38] }) (base : Nat) (v : Value) (L : List Rn) (hs : a.eval s = v) (hown : w.ownsRow base 33 2 v L.length (cellsOf L))
    (ao : Option Addr) (c : Nat) (rs : List Rn) (hx : a.eval x = .slice ao rs.length c) (hr : RunsIn w ao rs) (hnone : ao = none → rs = [] ∧ c = 0) (hlen : L.length + rs.length ≤ 65536) (hbase : base ≤ w.heap.size)
    (h : ∀ v' w', w'.ownsRow base 33 2 v' (L ++ rs).length (cellsOf (L ++ rs)) → w.grownBy w' v.ownBlock → wpList Try.prog ops Q rest (a.put o.dst v') w') : wpList Try.prog ops Q (o :: rest) a w := by
  obtain ⟨i0, hi0, hz0, hz1, hz2⟩ := info_parts info_run
  cases ao with
  | none =>
    obtain ⟨rfl, rfl⟩ := hnone rfl
    refine wpList_append_own_none hgd s x 38 ho base 33 i0 2 Try.underlying38 hi0 v L.length (cellsOf L) hs hown hx ?_
    exact h v w (by simpa using hown) (World.grownBy.refl _ _)
  | some ad =>
    have hnews : ∀ j u, (cellsOf rs)[j]? = some u → w.cell? (ad.add j) = some u := by
      rcases hr with rfl | ⟨b, q, e, hr⟩
      · intro j u hj; simp [cellsOf] at hj
      · cases e
        exact runsIn_cells (.inr ⟨b, q, rfl, hr⟩)
    refine wpList_append_own w hgd s x 38 ho base 33 i0 (.agg #[.int .i64 0, .int .i64 0]) 2 16 Try.underlying38 hi0 hz0 hz1 hz2 rfl (by decide) v L.length (cellsOf L) hs hown ad rs.length c (cellsOf rs) hx (cellsOf_length rs) hnews (cellsOf_one rs) (by unfold maxLen; omega) (by omega) hbase ?_
    intro v' w' h1 h2 _
    exact h v' w' (by rw [List.length_append, cellsOf_append]; exact h1) h2
/-- A block that was just made is read, its number being known. -/
theorem RdV.newAt (w : World) (cs : Array Value) (T k : Nat) (hk : w.heap.size = k) : RdV (w.alloc (.cells cs T)) (some ⟨k, 0, none⟩) cs.toList := hk ▸ RdV.new w cs T
end Go.Proofs.Ythkbhikiljlgoaa

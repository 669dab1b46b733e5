/- Runs in memory: what came in, what is one's own. -/
import Derived.Test.YtokefhplodbheaaFrame
import Derived.Test.YtokefhplodbheaaPIndex
import Derived.Maps.AppendAt
namespace Go.Proofs.Ytokefhplodbheaa
open Go.RowKit

def rnCells (x : Rn) : List Value := [.int .i64 x.1, .int .i64 x.2]
def rnV (x : Rn) : Value := .agg #[.int .i64 x.1, .int .i64 x.2]
theorem info_run : (Try.prog.info? 44).map (fun i => (i.zero, i.size, i.bytes)) = some (some (.agg #[.int .i64 0, .int .i64 0]), 2, 16) := by kernel_rfl
def cellsOf (zs : List Rn) : List Value := zs.flatMap rnCells
theorem cellsOf_snoc (zs : List Rn) (x : Rn) : cellsOf (zs ++ [x]) = cellsOf zs ++ [.int .i64 x.1, .int .i64 x.2] := by simp [cellsOf, rnCells]
theorem cellsOf_get : ∀ (zs : List Rn) (i : Nat) (h : i < zs.length), (cellsOf zs)[i * 2]? = some (.int .i64 zs[i].1) ∧ (cellsOf zs)[i * 2 + 1]? = some (.int .i64 zs[i].2)
  | [], i, h => by simp at h
  | z :: zs, 0, _ => by simp [cellsOf, rnCells]
  | z :: zs, i + 1, h => by
    have := cellsOf_get zs i (by simpa using h)
    have e : cellsOf (z :: zs) = [.int .i64 z.1, .int .i64 z.2] ++ cellsOf zs := by simp [cellsOf, rnCells]
    rw [e, show (i + 1) * 2 = i * 2 + 2 by omega]
    constructor
    · rw [List.getElem?_append_right (by simp)]; simpa using this.1
    · rw [show i * 2 + 2 + 1 = (i * 2 + 1) + 2 by omega, List.getElem?_append_right (by simp)]; simpa using this.2
theorem cellsOf_length (zs : List Rn) : (cellsOf zs).length = zs.length * 2 := by
  induction zs with
  | nil => rfl
  | cons z zs ih => have e : cellsOf (z :: zs) = [.int .i64 z.1, .int .i64 z.2] ++ cellsOf zs := by simp [cellsOf, rnCells]
                    rw [e]; simp [ih]; omega
theorem bel_app {w w1 w2 : World} {o : Obj} {e size n : Nat} {v : Value} {xs : List Value} (hown : w1.ownsRow w.heap.size e size v n xs) (hB : Bel w w1) (hg : (w1.alloc o).grownBy w2 v.ownBlock) : Bel w w2 := by
  have hB2 := hB.alloc o
  refine Below.grown hB2 hg hB2.size (fun k hk => ?_)
  rcases hown.2 with ⟨h1, _⟩ | ⟨g, cap, cur, h1, h2, _⟩
  · rw [h1] at hk; simp [Value.ownBlock] at hk
  · rw [h1] at hk; simp [Value.ownBlock] at hk; omega
/-- Runs that came in: a slice of them. -/
def RunsIn (w : World) (a : Option Addr) (rs : List Rn) : Prop := rs = [] ∨ ∃ b o, a = some ⟨b, o, none⟩ ∧ ∀ i (h : i < rs.length), w.cell? ⟨b, o + i * 2, none⟩ = some (.int .i64 rs[i].1) ∧ w.cell? ⟨b, o + i * 2 + 1, none⟩ = some (.int .i64 rs[i].2)
theorem RunsIn.bel {w w' : World} {a : Option Addr} {rs : List Rn} (h : RunsIn w a rs) (k : Bel w w') : RunsIn w' a rs := by
  rcases h with h | ⟨b, o, e, h⟩
  · exact .inl h
  · exact .inr ⟨b, o, e, fun i hi => ⟨k.cell (h i hi).1, k.cell (h i hi).2⟩⟩
theorem RunsIn.at {w : World} {a : Option Addr} {rs : List Rn} (h : RunsIn w a rs) (i : Nat) (hi : i < rs.length) : ∃ b o, a = some ⟨b, o, none⟩ ∧ w.cell? ⟨b, o + i * 2, none⟩ = some (.int .i64 rs[i].1) ∧ w.cell? ⟨b, o + i * 2 + 1, none⟩ = some (.int .i64 rs[i].2) := by
  rcases h with h | ⟨b, o, e, h⟩
  · subst h; simp at hi
  · exact ⟨b, o, e, h i hi⟩
theorem RunsIn.fr {S : Nat → Prop} {w w' : World} {a : Option Addr} {rs : List Rn} (h : RunsIn w a rs) (k : Fr S w w') (hn : ∀ p, a = some p → ¬ S p.block) : RunsIn w' a rs := by
  rcases h with h | ⟨b, o, e, h⟩
  · exact .inl h
  · exact .inr ⟨b, o, e, fun i hi => ⟨k.cell (h i hi).1 (show ¬ S b from hn ⟨b, o, none⟩ e), k.cell (h i hi).2 (show ¬ S b from hn ⟨b, o, none⟩ e)⟩⟩
theorem RunsIn.of_row {w : World} {a : Option Addr} {rs : List Rn} (h : RdV w a (cellsOf rs)) : RunsIn w a rs := by
  rcases h with h | ⟨b, o, e, h⟩
  · left
    have := cellsOf_length rs
    rw [h] at this
    exact List.eq_nil_of_length_eq_zero (by simp at this; omega)
  · refine .inr ⟨b, o, e, fun i hi => ?_⟩
    have hl := cellsOf_length rs
    have h2 := cellsOf_get rs i hi
    have h3 := h (i * 2) (by omega)
    have h4 := h (i * 2 + 1) (by omega)
    rw [List.getElem?_eq_getElem (by omega), Option.some.injEq, List.getElem?_eq_getElem (by omega), Option.some.injEq] at h2
    rw [h2.1] at h3
    rw [h2.2] at h4
    exact ⟨h3, h4⟩
/-- One cell of a row of one's own, written. -/
theorem own_set {w : World} {base e size n : Nat} {v : Value} {xs : List Value} (h : w.ownsRow base e size v n xs) {t : Nat} (ht : t < n * size) : ∃ g cap, v = .slice (some ⟨g, 0, none⟩) n cap ∧ base ≤ g ∧ n ≤ cap ∧ w.cell? ⟨g, t, none⟩ = xs[t]? ∧ w.frozen? ⟨g, t, none⟩ = false ∧
    ∀ y, (w.setCell ⟨g, t, none⟩ y).ownsRow base e size v n (xs.set t y) := by
  rcases h.2 with ⟨_, h1⟩ | ⟨g, cap, cur, rfl, h2, h3, h4, h5, h6, h7⟩
  · subst h1; simp at ht
  · refine ⟨g, cap, rfl, h2, h4, ?_, blk_frozen h3 t, fun y => ⟨by rw [List.length_set]; exact h.1, .inr ⟨g, cap, cur.setIfInBounds t y, rfl, h2, ?_, h4, h5, by simpa using h6, ?_⟩⟩⟩
    · rw [blk_cell h3, ← h7, List.getElem?_take, if_pos ht]; simp
    · have := blk_setCell h3 t y
      simpa using this
    · rw [Array.toList_setIfInBounds, List.take_set, h7]
/-- Runs in a row of one's own. -/
def NewRuns (w : World) (rs : List Rn) (e : Ending) (w' : World) : Prop := ∃ v, e = .returned v ∧ w'.ownsRow w.heap.size 44 2 v rs.length (cellsOf rs) ∧ Bel w w'
theorem cellsOf_last (L : List Rn) (s m m' : Int) : (cellsOf (L ++ [(s, m)])).set (L.length * 2 + 1) (.int .i64 m') = cellsOf (L ++ [(s, m')]) ∧ (cellsOf (L ++ [(s, m)]))[L.length * 2 + 1]? = some (.int .i64 m) := by
  rw [cellsOf_snoc, cellsOf_snoc]
  have hl := cellsOf_length L
  constructor
  · rw [List.set_append_right _ _ (by omega)]
    congr 1
    rw [show L.length * 2 + 1 - (cellsOf L).length = 1 by omega]; rfl
  · rw [List.getElem?_append_right (by omega), show L.length * 2 + 1 - (cellsOf L).length = 1 by omega]; rfl
theorem runsIn_new {w w' : World} {rs : List Rn} {e : Ending} (h : NewRuns w rs e w') : ∃ a c, e = .returned (.slice a rs.length c) ∧ RunsIn w' a rs ∧ Bel w w' := by
  obtain ⟨v, rfl, hown, hB⟩ := h
  obtain ⟨a, c, rfl, hr, _⟩ := own_slice hown
  exact ⟨a, c, rfl, RunsIn.of_row hr, hB⟩
end Go.Proofs.Ytokefhplodbheaa

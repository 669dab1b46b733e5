/- Package index: its small functions. -/
import Derived.Test.YthkbhikiljlgoaaWSorted
import Derived.Test.YthkbhikiljlgoaaWSlI
import Derived.Recover
import Derived.Defers
namespace Go.Proofs.Ythkbhikiljlgoaa
open Go.RowKit

/-- An index: its struct is block bx, its numbers are block bi. -/
structure IndexAt (w : World) (bx bi : Nat) (ids : List Int) : Prop where
  ne : bx ≠ bi
  hd : w.heap[bx]? = some (.cells #[.slice (some ⟨bi, 0, none⟩) ids.length ids.length] 74 (0, 0))
  nums : w.heap[bi]? = some (.cells (ints ids).toArray 3 (0, 0))
  small : ids.length ≤ 1024
  ok : ∀ x ∈ ids, I64 x
/-- An index's pointer: nil (it has no pages), or it leads to one. -/
def IndexP (w : World) (p : Value) (ids : List Int) : Prop := (p = .pointer none ∧ ids = []) ∨ ∃ bx bi, p = .pointer (some ⟨bx, 0, none⟩) ∧ IndexAt w bx bi ids
theorem IndexAt.bel {w w' : World} {bx bi : Nat} {ids : List Int} (h : IndexAt w bx bi ids) (k : Bel w w') : IndexAt w' bx bi ids :=
  ⟨h.ne, (k.block bx (heap_lt h.hd)).trans h.hd, (k.block bi (heap_lt h.nums)).trans h.nums, h.small, h.ok⟩
theorem IndexAt.fr {S : Nat → Prop} {w w' : World} {bx bi : Nat} {ids : List Int} (h : IndexAt w bx bi ids) (k : Fr S w w') (h1 : ¬ S bx) (h2 : ¬ S bi) : IndexAt w' bx bi ids :=
  ⟨h.ne, k.heap h.hd h1, k.heap h.nums h2, h.small, h.ok⟩
theorem IndexP.bel {w w' : World} {p : Value} {ids : List Int} (h : IndexP w p ids) (k : Bel w w') : IndexP w' p ids := by
  rcases h with h | ⟨bx, bi, e, h⟩
  · exact .inl h
  · exact .inr ⟨bx, bi, e, h.bel k⟩
theorem IndexP.small {w : World} {p : Value} {ids : List Int} (h : IndexP w p ids) : ids.length ≤ 1024 := by
  rcases h with ⟨_, rfl⟩ | ⟨_, _, _, h⟩
  · simp
  · exact h.small
theorem IndexAt.num {w : World} {bx bi : Nat} {ids : List Int} (h : IndexAt w bx bi ids) (i : Nat) (hi : i < ids.length) : w.cell? ⟨bi, i, none⟩ = some (.int .i64 ids[i]) := by
  rw [blk_cell h.nums]; simp [ints, hi]

theorem index_Pages (p : Value) (ids : List Int) (w : World) (h : IndexP w p ids) :
    Calls Try.prog 29 #[p] w fun e w' => e = .returned (.int .i64 ids.length) ∧ w = w' := by
  rcases h with ⟨rfl, rfl⟩ | ⟨bx, bi, rfl, h⟩
  · go_enter Try.func29, Try.ntmps29
    go_wp2
    go_ret
    exact ⟨rfl, rfl⟩
  · have hc : w.cell? ⟨bx, 0, none⟩ = some (.slice (some ⟨bi, 0, none⟩) ids.length ids.length) := by rw [blk_cell h.hd]; rfl
    go_enter Try.func29, Try.ntmps29
    go_wp2
    go_ret
    exact ⟨rfl, rfl⟩

/-- A page's number; 0. -/
def ofF (ids : List Int) (page : Int) : Int := if 0 ≤ page ∧ page < ids.length then wd ids page else 0

/-! ### what is thrown -/
abbrev wrongV (e : Int) : Value := .iface 95 (.agg #[.int .i64 e])
theorem must_holds (e : Int) (w : World) : Calls Try.prog 32 #[.bool true, .int .i64 e] w fun en w' => en = .returned (.tuple #[]) ∧ w = w' := by
  go_enter Try.func32, Try.ntmps32
  go_wp2
  go_end0
  exact ⟨rfl, rfl⟩
theorem must_not (e : Int) (w : World) : Calls Try.prog 32 #[.bool false, .int .i64 e] w fun en w' => en = .panicked [{ v := wrongV e, recovered := false }] ∧ w = w' := by
  go_enter Try.func32, Try.ntmps32
  go_wp2
  exact ⟨rfl, rfl, rfl⟩
end Go.Proofs.Ythkbhikiljlgoaa

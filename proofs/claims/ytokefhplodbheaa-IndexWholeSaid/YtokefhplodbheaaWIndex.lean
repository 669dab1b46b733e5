/- Package index: its small functions. -/
import Derived.Test.YtokefhplodbheaaWSorted
import Derived.Test.YtokefhplodbheaaWSlI
import Derived.Recover
import Derived.Defers
namespace Go.Proofs.Ytokefhplodbheaa
open Go.RowKit

/-- An index: its struct is block bx, its numbers are block bi. -/
structure IndexAt (w : World) (bx bi : Nat) (ids : List Int) : Prop where
  ne : bx ≠ bi
  hd : w.heap[bx]? = some (.cells #[.slice (some ⟨bi, 0, none⟩) ids.length ids.length] 49 (0, 0))
  nums : w.heap[bi]? = some (.cells (ints ids).toArray 3 (0, 0))
  small : ids.length ≤ 1024
  ok : ∀ x ∈ ids, I64 x
/-- An index's pointer: nil (it has no pages), or it leads to one. -/
def IndexP (w : World) (p : Value) (ids : List Int) : Prop := (p = .pointer none ∧ ids = []) ∨ ∃ bx bi, p = .pointer (some ⟨bx, 0, none⟩) ∧ IndexAt w bx bi ids
theorem IndexAt.bel {w w' : World} {bx bi : Nat} {ids : List Int} (h : IndexAt w bx bi ids) (k : Bel w w') : IndexAt w' bx bi ids :=
  ⟨h.ne, (k.block bx (heap_lt h.hd)).trans h.hd, (k.block bi (heap_lt h.nums)).trans h.nums, h.small, h.ok⟩
theorem IndexAt.fr {S : Nat → Prop} {w w' : World} {bx bi : Nat} {ids : List Int} (h : IndexAt w bx bi ids) (k : Fr S w w') (h1 : ¬ S bx) (h2 : ¬ S bi) : IndexAt w' bx bi ids :=
  ⟨h.ne, k.heap h.hd h1, k.heap h.nums h2, h.small, h.ok⟩
theorem IndexP.bel {w w' : World} {p : Value} {ids : List Int} (h : IndexP w p ids) (k : Bel w w') : IndexP w' p ids := by
  rcases h with h | ⟨bx, bi, e, h⟩
  · exact .inl h
  · exact .inr ⟨bx, bi, e, h.bel k⟩
theorem IndexP.small {w : World} {p : Value} {ids : List Int} (h : IndexP w p ids) : ids.length ≤ 1024 := by
  rcases h with ⟨_, rfl⟩ | ⟨_, _, _, h⟩
  · simp
  · exact h.small
theorem IndexAt.num {w : World} {bx bi : Nat} {ids : List Int} (h : IndexAt w bx bi ids) (i : Nat) (hi : i < ids.length) : w.cell? ⟨bi, i, none⟩ = some (.int .i64 ids[i]) := by
  rw [blk_cell h.nums]; simp [ints, hi]

theorem index_Pages (p : Value) (ids : List Int) (w : World) (h : IndexP w p ids) :
    Calls Try.prog 16 #[p] w fun e w' => e = .returned (.int .i64 ids.length) ∧ w = w' := by
  rcases h with ⟨rfl, rfl⟩ | ⟨bx, bi, rfl, h⟩
  · go_enter Try.func16, Try.ntmps16
    go_wp2
    go_ret
    exact ⟨rfl, rfl⟩
  · have hc : w.cell? ⟨bx, 0, none⟩ = some (.slice (some ⟨bi, 0, none⟩) ids.length ids.length) := by rw [blk_cell h.hd]; rfl
    go_enter Try.func16, Try.ntmps16
    go_wp2
    go_ret
    exact ⟨rfl, rfl⟩

/-- A page's number; 0. -/
def ofF (ids : List Int) (page : Int) : Int := if 0 ≤ page ∧ page < ids.length then wd ids page else 0
theorem index_Of (p : Value) (ids : List Int) (page : Int) (w : World) (h : IndexP w p ids) (hp : I64 page) :
    Calls Try.prog 13 #[p, .int .i64 page] w fun e w' => e = .returned (.int .i64 (ofF ids page)) ∧ w = w' := by
  obtain ⟨p0, p1⟩ := hp
  have hsm := h.small
  by_cases c : 0 ≤ page ∧ page < ids.length
  · obtain ⟨k, rfl⟩ := Int.eq_ofNat_of_zero_le c.1
    have hk : k < ids.length := by omega
    have HO : Hid (ofF ids k = ids[k]) := Lib.hid (by unfold ofF wd; rw [if_pos c]; simp [List.getD_eq_getElem?_getD, hk])
    rcases h with ⟨_, rfl⟩ | ⟨bx, bi, rfl, h⟩
    · simp at hk
    · have hc : w.cell? ⟨bx, 0, none⟩ = some (.slice (some ⟨bi, 0, none⟩) ids.length ids.length) := by rw [blk_cell h.hd]; rfl
      have hn := h.num k hk
      generalize ids[k] = y at hn HO
      clear c
      go_enter Try.func13, Try.ntmps13
      go_wp2_with fail
      refine (index_Pages _ ids w (.inr ⟨bx, bi, rfl, h⟩)).mono ?_; rintro e w' ⟨rfl, rfl⟩
      go_wp2
      go_ret
      exact ⟨by rw [HO.out]; simp, rfl⟩
  · have HO : Hid (ofF ids page = 0) := Lib.hid (by unfold ofF; rw [if_neg c])
    have c2 : page < 0 ∨ (¬ page < 0 ∧ (ids.length : Int) ≤ page) := by omega
    clear c
    rcases c2 with c | ⟨c1, c2⟩
    · go_enter Try.func13, Try.ntmps13
      go_wp2
      go_ret
      exact ⟨by rw [HO.out]; rfl, rfl⟩
    · go_enter Try.func13, Try.ntmps13
      go_wp2_with fail
      refine (index_Pages p ids w h).mono ?_; rintro e w' ⟨rfl, rfl⟩
      go_wp2
      go_ret
      exact ⟨by rw [HO.out]; rfl, rfl⟩

/-! ### what is thrown -/
abbrev wrongV (e : Int) : Value := .iface 62 (.agg #[.int .i64 e])
theorem must_holds (e : Int) (w : World) : Calls Try.prog 23 #[.bool true, .int .i64 e] w fun en w' => en = .returned (.tuple #[]) ∧ w = w' := by
  go_enter Try.func23, Try.ntmps23
  go_wp2
  go_end0
  exact ⟨rfl, rfl⟩
theorem must_not (e : Int) (w : World) : Calls Try.prog 23 #[.bool false, .int .i64 e] w fun en w' => en = .panicked [{ v := wrongV e, recovered := false }] ∧ w = w' := by
  go_enter Try.func23, Try.ntmps23
  go_wp2
  exact ⟨rfl, rfl, rfl⟩
end Go.Proofs.Ytokefhplodbheaa

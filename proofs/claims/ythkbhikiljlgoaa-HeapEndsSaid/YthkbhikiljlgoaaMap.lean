/- A set of numbers that is kept in a map[int]bool of one's own. -/
import Derived.Test.YthkbhikiljlgoaaFrame
import Derived.Maps.OwnOps
import Derived.Maps.Views
namespace Go.Proofs.Ythkbhikiljlgoaa
open Go.RowKit Go.Maps Go.WideShapes

theorem keyed_int : Keyed Try.prog 3 := int_keyed Try.underlying3
theorem zero_bool (w : World) : (zeroValue 4).run Try.prog w = .ok (.bool false) w := by kernel_rfl
theorem plain_bool_inv {P : Program} {e : TypeId} (he : P.underlying e = some .bool) {v : Value} {z : DataW Unit × List MemPlace} (h : plainElem P e v = some z) : ∃ b, v = .bool b ∧ z = (.lit (.bool b), []) := by
  unfold plainElem at h
  rw [he] at h
  cases v <;> simp at h
  exact ⟨_, rfl, h.symm⟩

/-- Block b is a map that has just xs. -/
def MetAt (w : World) (b : Nat) (xs : List Int) : Prop :=
  ∃ D : DataW Unit, w.ownsMap Try.prog 3 (plainElem Try.prog 4) b xs.length D ∧ IsMap D ∧ ∀ k : Int, D.atKey (.int .i64 k) (.lit (.bool false)) = .lit (.bool (decide (k ∈ xs)))

theorem MetAt.made (w : World) : MetAt (w.alloc (.map #[] 0)) w.heap.size [] :=
  ⟨_, World.ownsMap_made w _ _ _, isMap_empty, fun k => by simp [DataW.atKey]⟩
theorem MetAt.lt {w : World} {b : Nat} {xs : List Int} (h : MetAt w b xs) : b < w.heap.size := by
  obtain ⟨D, hD, _⟩ := h
  exact hD.lt
theorem MetAt.fr {S : Nat → Prop} {w w' : World} {b : Nat} {xs : List Int} (h : MetAt w b xs) (k : Fr S w w') (hb : ¬ S b) : MetAt w' b xs := by
  obtain ⟨D, ⟨es, clock, h1, h2, h3, h4⟩, hM, hk⟩ := h
  exact ⟨D, ⟨es, clock, k.heap h1 hb, h2, h3, h4⟩, hM, hk⟩
theorem MetAt.bel {w w' : World} {b : Nat} {xs : List Int} (h : MetAt w b xs) (k : Bel w w') : MetAt w' b xs := h.fr (Fr.of_bel (S := fun _ => False) k) (fun h => h)
/-- Is a number met? -/
theorem MetAt.look {w : World} {b : Nat} {xs : List Int} (h : MetAt w b xs) (k : Int) (hk : (Lit.int .i64 k).wf = true) :
    (Instr.lookup 56 (.map (some b)) (.int .i64 k) false).run Try.prog w = .ok (.bool (decide (k ∈ xs))) w := by
  obtain ⟨D, hD, _, hat⟩ := h
  obtain ⟨v, ps, hrun, hv⟩ := hD.lookup keyed_int Try.underlying56 (zero_bool w) (plainElem_bool Try.underlying4 false) (keyOf_int_mk Try.underlying3 hk)
  obtain ⟨c, rfl, hc⟩ := plain_bool_inv Try.underlying4 hv
  rw [hat k] at hc
  simp only [Prod.mk.injEq, DataW.lit.injEq, Lit.bool.injEq] at hc
  rw [hrun, hc.1]
/-- A number is met. -/
theorem MetAt.put {w : World} {b : Nat} {xs : List Int} (h : MetAt w b xs) (k : Int) (hk : (Lit.int .i64 k).wf = true) (hl : xs.length < maxLen) :
    ∃ w', (Instr.mapUpdate 56 (.map (some b)) (.int .i64 k) (.bool true)).run Try.prog w = .ok () w' ∧ MetAt w' b (k :: xs) ∧ w.grownBy w' (some b) := by
  obtain ⟨D, hD, hM, hat⟩ := h
  obtain ⟨w', hrun, hD', hg⟩ := hD.update keyed_int Try.underlying56 hl (keyOf_int_mk Try.underlying3 hk) (plainElem_bool Try.underlying4 true)
  refine ⟨w', hrun, ⟨_, hD', hM.put _ _, fun j => ?_⟩, hg⟩
  by_cases e : j = k
  · subst e
    rw [atKey_put_same (k := .int .i64 j) hM trivial]
    simp
  · rw [atKey_put_other (by simpa using e), hat j]
    simp [e]
end Go.Proofs.Ythkbhikiljlgoaa

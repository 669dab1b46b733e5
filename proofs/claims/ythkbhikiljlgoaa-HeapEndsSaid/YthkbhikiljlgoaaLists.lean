/- Lists of runs that were made; the twin's Same at one list twice. -/
import Derived.Test.YthkbhikiljlgoaaSame
import Derived.Test.YthkbhikiljlgoaaRun
namespace Go.Proofs.Ythkbhikiljlgoaa
open Go.RowKit

theorem dec_self6 (xs : List Rn) : decide (xs = xs) = true := decide_eq_true rfl
/-- A list that was made. -/
def ListPost (w V : World) (L : List Rn) (e : Ending) (V' : World) : Prop :=
  ∃ a c, e = .returned (.slice a L.length c) ∧ RunsIn V' a L ∧ Bel w V' ∧ ∀ p, a = some p → w.heap.size ≤ p.block ∧ p.block < V'.heap.size
theorem list_post {w V V' : World} {L : List Rn} {e : Ending} (hV : Bel w V) (h : NewRuns V L e V') : ListPost w V L e V' := by
  obtain ⟨v, rfl, hown, hB⟩ := h
  obtain ⟨a, c, rfl, hr, _, hp⟩ := own_slice2 hown
  refine ⟨a, c, rfl, RunsIn.of_row hr, hV.trans hB, fun p hp9 => ⟨Nat.le_trans hV.size (hp p hp9), ?_⟩⟩
  exact (hown.lt p.block (by rw [hp9]; rfl)).2
/-- The blocks of a slice. -/
def blkOf (a : Option Addr) : Nat → Prop := fun i => ∃ p, a = some p ∧ p.block = i
theorem RunsIn.watched {N : Nat → Prop} {w w' : World} {a : Option Addr} {rs : List Rn} (h : RunsIn w a rs) (k : Fr (fun i => ¬ N i) w w') (hN : ∀ i, blkOf a i → N i) : RunsIn w' a rs :=
  h.fr k (fun p hp h9 => h9 (hN _ ⟨p, hp, rfl⟩))
theorem same_true {a b : Option Addr} {xs : List Rn} {c d : Nat} {w : World} (hl : xs.length ≤ 65536) (ha : RunsIn w a xs) (hb : RunsIn w b xs) :
    Calls Try.prog 13 #[.slice a xs.length c, .slice b xs.length d] w fun e w' => e = .returned (.bool true) ∧ Bel w w' := by
  refine (ref5_Same a b xs xs _ c _ d w rfl rfl hl hl ha hb).mono ?_
  rintro e w' ⟨rfl, hB⟩
  exact ⟨by rw [dec_self6], hB⟩
end Go.Proofs.Ythkbhikiljlgoaa

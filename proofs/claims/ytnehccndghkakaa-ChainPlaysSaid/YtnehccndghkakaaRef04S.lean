/- The slow twin of layer 4: Store, in one. -/
import Derived.Test.YtnehccndghkakaaRef04
namespace Go.Proofs.Ytnehccndghkakaa
open Go.RowKit

/-- The words behind a store: where they are, and the error's number. -/
def RefStored (w : World) (a : Option Addr) (ws : List Int) (at_ : Int) (xs : List Int) (e : Ending) (w' : World) : Prop :=
  ∃ a' c', e = .returned (.tuple #[.slice a' ws.length c', .int .i64 (okE (inB ws.length at_ xs.length))]) ∧ RdV w' a' (u64s (stW ws at_ xs)) ∧ (∀ p, a' = some p → a' = a ∨ w.heap.size ≤ p.block) ∧ Bel w w'
theorem ref_Store (a b : Option Addr) (ws xs : List Int) (at_ : Int) (c d : Nat) (w : World) (hw : ws.length ≤ 65536) (hx : xs.length ≤ maxLen) (ha : I64 at_)
    (hra : RdV w a (ws.map (.int .u64))) (hrb : RdV w b (xs.map (.int .u64))) (h0 : ws ≠ []) :
    Calls Try.prog 10 #[.slice a ws.length c, .int .i64 at_, .slice b xs.length d] w (RefStored w a ws at_ xs) := by
  cases hb : inB ws.length at_ xs.length
  · refine (ref_Store_out a b ws xs at_ _ c _ d w rfl rfl hw hx ha hb).mono ?_
    rintro e w' ⟨rfl, rfl⟩
    exact ⟨a, c, by rw [hb]; rfl, by unfold stW; rw [hb]; exact hra, fun p hp => .inl rfl, Bel.refl _⟩
  · refine (ref_Store_in a b ws xs at_ _ c _ d w rfl rfl hw hra hrb hb h0).mono ?_
    rintro e w' ⟨v, rfl, hN, hB⟩
    obtain ⟨a', c', rfl, hr, _, hp⟩ := own_slice2 hN
    exact ⟨a', c', by rw [hb, putW_length hb]; rfl, by unfold stW; rw [hb]; exact hr, fun p h => .inr (hp p h), hB⟩
end Go.Proofs.Ytnehccndghkakaa

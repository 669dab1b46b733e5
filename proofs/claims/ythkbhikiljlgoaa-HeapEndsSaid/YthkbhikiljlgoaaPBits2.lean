/- The slow twin of layer 6 in plain Lean: the tightest run, how many pages. -/
import Derived.Test.YthkbhikiljlgoaaPBits
namespace Go.Proofs.Ythkbhikiljlgoaa

theorem best_found {L : List Rn} {n : Int} {i : Nat} (hn : 1 ≤ n) (hi : i < L.length) (h1 : n ≤ L[i].2) (h2 : ∀ r ∈ L, ¬ (n ≤ r.2 ∧ r.2 < L[i].2)) (h3 : ∀ j (hj : j < i), (L[j]'(by omega)).2 ≠ L[i].2) : bestF L n = L[i] := by
  have hb : bestF L n = bestP n L (0, 0) := by unfold bestF; rw [if_neg (by omega)]
  rw [hb]
  rcases best_spec (n := n) (by omega) L.length L (Nat.le_refl _) with ⟨_, h⟩ | ⟨k, hk, _, e, g1, g2, g3⟩
  · have := h i hi hi; omega
  · rw [List.take_length] at e
    rw [e]
    have h4 := g2 i hi hi h1
    have h5 := h2 _ (List.getElem_mem hk)
    rcases Nat.lt_trichotomy k i with hlt | rfl | hlt
    · have := h3 k hlt; omega
    · rfl
    · have := g3 i hlt h1; omega
theorem best_none {L : List Rn} {n : Int} (h : n < 1 ∨ ∀ r ∈ L, r.2 < n) : bestF L n = (0, 0) := by
  by_cases hn : n < 1
  · unfold bestF; rw [if_pos hn]
  · have hb : bestF L n = bestP n L (0, 0) := by unfold bestF; rw [if_neg hn]
    rw [hb]
    rcases best_spec (n := n) (by omega) L.length L (Nat.le_refl _) with ⟨e, _⟩ | ⟨k, hk, _, _, g1, _, _⟩
    · rw [List.take_length] at e; exact e
    · rcases h with h | h
      · omega
      · have := h _ (List.getElem_mem hk); omega
/-- How many of the first pages. -/
def cntF (f : Int → Bool) : Nat → Int
  | 0 => 0
  | q + 1 => cntF f q + (if f (q : Int) then 1 else 0)
theorem cntF_bound (f : Int → Bool) : ∀ q : Nat, 0 ≤ cntF f q ∧ cntF f q ≤ q
  | 0 => by simp [cntF]
  | q + 1 => by
    have := cntF_bound f q
    unfold cntF
    split <;> omega
theorem sum_runs {ids : List Int} {f : Int → Bool} {N : Nat} (hw : ∀ p : Nat, p < N → (wd ids (p : Int) = 1 ↔ f (p : Int) = true)) : ∀ q : Nat, q ≤ N → ((runsP ids 1 q).map (·.2)).sum = cntF f q
  | 0, _ => by simp [runsP, cntF]
  | q + 1, hq => by
    have ih := sum_runs hw q (by omega)
    have hwq := hw q (by omega)
    by_cases h : wd ids (q : Int) = 1
    · unfold cntF
      rw [if_pos (hwq.1 h), ← ih]
      by_cases h0 : q = 0 ∨ wd ids ((q : Int) - 1) ≠ 1
      · rw [runs_start h h0]; simp
      · obtain ⟨q', rfl⟩ : ∃ q', q = q' + 1 := ⟨q - 1, by omega⟩
        have hw' : wd ids q' = 1 := by
          refine Classical.byContradiction fun hn => h0 (.inr ?_)
          rw [show (((q' + 1 : Nat) : Int) - 1) = q' by omega]; exact hn
        obtain ⟨L, s, n, e, _⟩ := runs_last hw'
        rw [runs_grow h hw' e, e]
        simp; omega
    · unfold cntF
      rw [runs_skip h, ih, if_neg (fun h9 => h (hwq.2 h9))]; omega
/-- Has, page by page. -/
theorem has_pages {f : Int → Bool} {x : Rn} (hx : there 1024 x = true) : (listP f).any (hasR x) = true ↔ ∀ p, x.1 ≤ p → p < x.1 + x.2 → f p = true := by
  have hx2 := there_iff.1 hx
  rw [List.any_eq_true, has_run (listP_canon f) hx2.2.1]
  constructor
  · intro h p h1 h2
    exact (inL_listP.1 (h p (inR_iff.2 ⟨h1, h2⟩))).2.2
  · intro h p hp
    have := inR_iff.1 hp
    exact inL_listP.2 ⟨by omega, by omega, h p this.1 this.2⟩
end Go.Proofs.Ythkbhikiljlgoaa

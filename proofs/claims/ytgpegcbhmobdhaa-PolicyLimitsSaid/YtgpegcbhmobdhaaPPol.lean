/- The laws of layer 18 on whole numbers: growing and shrinking by powers of two. No Go in it. -/
import Derived.Test.YtgpegcbhmobdhaaPNum
namespace Go.Proofs.Ytgpegcbhmobdhaa

theorem up_le {n : Int} {k : Nat} (hk : k ≤ 62) (h : n ≤ 2 ^ k) : upI n ≤ 2 ^ k := by
  rcases Int.lt_or_le n 2 with h2 | h2
  · rw [up_low (by omega)]; have := pow_pos' k; omega
  · have h62 := pow_mono hk; rw [p62] at h62
    obtain ⟨a, b, j, hj, e⟩ := up_spec h2 (by omega)
    rw [e] at b ⊢
    rcases Nat.lt_or_ge k j with h3 | h3
    · exfalso
      have := pow_mono (show k + 1 ≤ j by omega)
      rw [pow_succ'] at this; omega
    · exact pow_mono h3
theorem up_ge {n : Int} {k : Nat} (hn : n ≤ 4611686018427387904) (h : (2 : Int) ^ k < n) : (2 : Int) ^ (k + 1) ≤ upI n := by
  have := pow_pos' k
  obtain ⟨a, b, j, hj, e⟩ := up_spec (n := n) (by omega) hn
  rw [e] at a ⊢
  have : k < j := pow_lt_of (by omega)
  exact pow_mono this
/-- The doubling loop's end. -/
theorem grow_done {n : Int} {k : Nat} (hk : k ≤ 62) (h : n ≤ 2 ^ k) : max ((2 : Int) ^ k) (upI n) = 2 ^ k := by
  have := up_le hk h; omega
theorem grow_step {n : Int} {k : Nat} (hn : n ≤ 4611686018427387904) (h : (2 : Int) ^ k < n) : max ((2 : Int) ^ (k + 1)) (upI n) = max ((2 : Int) ^ k) (upI n) := by
  have := up_ge hn h
  have := pow_succ' k
  have := pow_pos' k
  omega
theorem limB_bounds {n : Int} (h : limB n = true) : 16 ≤ n ∧ n ≤ 65536 := by
  simp only [limB, szB, Bool.and_eq_true, decide_eq_true_eq] at h; omega
theorem limB_szB {n : Int} (h : n ≤ 65536) : limB n = szB n := by simp [limB, h]
theorem szB_up {k : Nat} (h4 : 4 ≤ k) (h : k < 63) : szB (2 ^ k) = true := by
  have a := pow_mono h4
  simp only [show (2 : Int) ^ 4 = 16 from rfl] at a
  simp [szB, isB_pow h, a]

/-- What Grow says, where it says a size. -/
theorem grow_ok {size used more limit : Int} (hl : limB limit = true) (hs : limB size = true) (h1 : ¬ limit < size) (h2 : ¬ used < 0) (h3 : ¬ size < used) (h4 : ¬ more < 0) (h5 : ¬ limit - used < more) :
    growI size used more limit = (max size (upI (used + more)), 0) ∧ szB (max size (upI (used + more))) = true ∧ max size (upI (used + more)) ≤ limit ∧ used + more ≤ max size (upI (used + more)) ∧
      (size < max size (upI (used + more)) → max size (upI (used + more)) < 2 * (used + more)) := by
  refine ⟨?_, ?_⟩
  · unfold growI
    rw [hl, hs, if_neg (by simp; omega), if_neg h5]
  · obtain ⟨a, a4, a16, rfl⟩ := limB_iff.1 hl
    obtain ⟨b, b4, b16, rfl⟩ := limB_iff.1 hs
    have hb := limB_bounds hl
    have hc := limB_bounds hs
    have hu : upI (used + more) ≤ 2 ^ a := up_le (by omega) (by omega)
    rcases Int.lt_or_le (used + more) 2 with h | h
    · have e : upI (used + more) = 1 := up_low (by omega)
      rw [e, show max ((2 : Int) ^ b) 1 = 2 ^ b by omega]
      exact ⟨szB_up b4 (by omega), by omega, by omega, by omega⟩
    · obtain ⟨p, q, j, hj, e⟩ := up_spec h (by omega)
      rcases Int.lt_or_le (2 ^ b) (upI (used + more)) with h6 | h6
      · rw [show max ((2 : Int) ^ b) (upI (used + more)) = upI (used + more) by omega]
        refine ⟨?_, hu, p, fun _ => q⟩
        rw [e] at h6 ⊢
        have := pow_lt_of h6
        exact szB_up (by omega) (by omega)
      · rw [show max ((2 : Int) ^ b) (upI (used + more)) = 2 ^ b by omega]
        exact ⟨szB_up b4 (by omega), by omega, by omega, by omega⟩
theorem first_ok {words limit : Int} (hl : limB limit = true) (h1 : ¬ words < 1) (h2 : ¬ limit < words) :
    firstI words limit = (upI (max words 16), 0) ∧ szB (upI (max words 16)) = true ∧ upI (max words 16) ≤ limit ∧ words ≤ upI (max words 16) ∧ (upI (max words 16) = 16 ∨ upI (max words 16) < 2 * words) := by
  have hb := limB_bounds hl
  refine ⟨?_, ?_⟩
  · unfold firstI
    rw [hl, if_neg (by simp; omega), if_neg h2]
  · obtain ⟨a, a4, a16, rfl⟩ := limB_iff.1 hl
    have hu : upI (max words 16) ≤ 2 ^ a := up_le (by omega) (by omega)
    obtain ⟨p, q, j, hj, e⟩ := up_spec (n := max words 16) (by omega) (by omega)
    refine ⟨?_, hu, by omega, ?_⟩
    · rw [e] at p ⊢
      have h4 : (2 : Int) ^ 4 ≤ 2 ^ j := by rw [show (2 : Int) ^ 4 = 16 from rfl]; omega
      have : 4 ≤ j := by
        rcases Nat.lt_or_ge j 4 with h | h
        · have := pow_mono (show j ≤ 3 by omega)
          rw [show (2 : Int) ^ 3 = 8 from rfl] at this
          rw [show (2 : Int) ^ 4 = 16 from rfl] at h4
          omega
        · exact h
      exact szB_up this (by omega)
    · rcases Int.lt_or_le words 16 with h | h
      · left
        rw [show max words 16 = 2 ^ 4 by rw [show (2 : Int) ^ 4 = 16 from rfl]; omega, up_pow (by omega)]
        rfl
      · right
        rw [show max words 16 = words by omega] at q ⊢
        omega
theorem shrink_ok {size used : Int} (h : size < 9223372036854775808) (h0 : szB size = true) (h1 : ¬ size ≤ 16) (h2 : ¬ used < 0) (h3 : ¬ size / 4 < used) :
    shrinkI size used = (size / 2, true) ∧ szB (size / 2) = true ∧ 2 * (size / 2) = size ∧ used ≤ size / 2 / 2 ∧ 4 * used ≤ size ∧ size ≤ 4611686018427387904 := by
  obtain ⟨k, k4, k63, rfl⟩ := (szB_iff h).1 h0
  obtain ⟨j, rfl⟩ : ∃ j, k = j + 1 := ⟨k - 1, by omega⟩
  have hj : 4 ≤ j := by
    rcases Nat.lt_or_ge j 4 with h | h
    · obtain rfl : j = 3 := by omega
      simp at h1
    · exact h
  obtain ⟨i, rfl⟩ : ∃ i, j = i + 1 := ⟨j - 1, by omega⟩
  have e1 := pow_succ' (i + 1)
  have e2 := pow_succ' i
  have m := pow_mono (show i + 1 + 1 ≤ 62 by omega)
  rw [p62] at m
  have e3 : (2 : Int) ^ (i + 1 + 1) / 2 = 2 ^ (i + 1) := by omega
  refine ⟨?_, ?_, by omega, by omega, by omega, m⟩
  · unfold shrinkI; rw [h0, if_neg (by simp; omega)]
  · rw [e3]; exact szB_up hj (by omega)
theorem grow_bad {size used more limit : Int} (h : (limB limit && limB size) = false ∨ limit < size ∨ used < 0 ∨ size < used ∨ more < 0) : growI size used more limit = (0, 1) := by
  unfold growI; rw [if_pos h]
theorem grow_lim {size used more limit : Int} (h : ¬ ((limB limit && limB size) = false ∨ limit < size ∨ used < 0 ∨ size < used ∨ more < 0)) (h' : limit - used < more) : growI size used more limit = (0, 4) := by
  unfold growI; rw [if_neg h, if_pos h']
theorem shrink_no {size used : Int} (h : szB size = false ∨ size ≤ 16 ∨ used < 0 ∨ size / 4 < used) : shrinkI size used = (size, false) := by
  unfold shrinkI; rw [if_pos h]
end Go.Proofs.Ytgpegcbhmobdhaa

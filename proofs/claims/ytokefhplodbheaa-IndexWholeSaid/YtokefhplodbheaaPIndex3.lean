/- The index in plain Lean: page by page. -/
import Derived.Test.YtokefhplodbheaaPIndex2
namespace Go.Proofs.Ytokefhplodbheaa

/-- How far it has gone well, dropping. -/
theorem each_step {ids : List Int} {L : List Rn} {s : Int} {j : Nat} (h : EachSet ids (L ++ [(s, (j : Int))])) (hp : wd ids (s + j) ≠ 0) : EachSet ids (L ++ [(s, ((j + 1 : Nat) : Int))]) := by
  intro p p0 p1 hc
  by_cases e : p = s + j
  · rw [e]; exact hp
  · refine h p p0 p1 ?_
    simp only [List.any_append, List.any_cons, List.any_nil, Bool.or_false, Bool.or_eq_true] at hc ⊢
    rcases hc with hc | hc
    · exact .inl hc
    · right
      rw [inR_iff] at hc ⊢
      dsimp only at hc ⊢; omega
theorem each_zero {ids : List Int} {L : List Rn} {s : Int} (h : EachSet ids L) : EachSet ids (L ++ [(s, ((0 : Nat) : Int))]) := by
  intro p p0 p1 hc
  refine h p p0 p1 ?_
  simp only [List.any_append, List.any_cons, List.any_nil, Bool.or_false, Bool.or_eq_true] at hc
  rcases hc with hc | hc
  · exact hc
  · rw [inR_iff] at hc; dsimp only at hc; omega
/-- .. setting. -/
structure SetSo (ids : List Int) (L : List Rn) (s : Int) (j : Nat) : Prop where
  none : NoneSet ids (L ++ [(s, (j : Int))])
  apart : L.Pairwise Apart
  new : ∀ t : Nat, t < j → L.any (inR · (s + t)) = false
theorem SetSo.start {ids : List Int} {L : List Rn} {s : Int} (h : NoneSet ids L) (ha : L.Pairwise Apart) : SetSo ids L s 0 := by
  refine ⟨fun p p0 p1 hc => h p p0 p1 ?_, ha, fun t ht => by omega⟩
  simp only [List.any_append, List.any_cons, List.any_nil, Bool.or_false, Bool.or_eq_true] at hc
  rcases hc with hc | hc
  · exact hc
  · rw [inR_iff] at hc; dsimp only at hc; omega
theorem SetSo.step {ids : List Int} {id : Int} {L : List Rn} {s : Int} {j : Nat} (h : SetSo ids L s j) (hid : 1 ≤ id) (p0 : 0 ≤ s + j) (p1 : s + j < ids.length) (hw : wd (fillA ids id (L ++ [(s, (j : Int))])) (s + j) = 0) : SetSo ids L s (j + 1) := by
  rw [wd_fillA p0 p1] at hw
  have hc : (L ++ [(s, (j : Int))]).any (inR · (s + j)) = false := by
    cases hc : (L ++ [(s, (j : Int))]).any (inR · (s + j))
    · rfl
    · rw [hc] at hw; simp at hw; omega
  rw [hc] at hw
  have hw2 : wd ids (s + j) = 0 := by simpa using hw
  have hL : L.any (inR · (s + j)) = false := by
    rw [List.any_append, Bool.or_eq_false_iff] at hc
    exact hc.1
  refine ⟨fun p q0 q1 hcc => ?_, h.apart, fun t ht => ?_⟩
  · by_cases e : p = s + j
    · rw [e]; exact hw2
    · refine h.none p q0 q1 ?_
      simp only [List.any_append, List.any_cons, List.any_nil, Bool.or_false, Bool.or_eq_true] at hcc ⊢
      rcases hcc with hcc | hcc
      · exact .inl hcc
      · right
        rw [inR_iff] at hcc ⊢
        dsimp only at hcc ⊢; omega
  · rcases Nat.lt_or_ge t j with h9 | h9
    · exact h.new t h9
    · obtain rfl : t = j := by omega
      exact hL
theorem SetSo.done {ids : List Int} {L : List Rn} {s : Int} {m : Nat} (h : SetSo ids L s m) (hL : ∀ r ∈ L, 1 ≤ r.2) (hm : 1 ≤ m) : (L ++ [(s, (m : Int))]).Pairwise Apart := by
  rw [List.pairwise_append]
  refine ⟨h.apart, by simp, fun a ha b hb => ?_⟩
  simp at hb
  subst hb
  unfold Apart
  dsimp only
  refine Classical.byContradiction fun hn => ?_
  have h1 := hL a ha
  have h2 : ¬ (a.1 + a.2 ≤ s) := fun h => hn (.inl h)
  have h3 : ¬ (s + m ≤ a.1) := fun h => hn (.inr h)
  by_cases hs : s ≤ a.1
  · have h4 := h.new (a.1 - s).toNat (by omega)
    rw [List.any_eq_false] at h4
    exact h4 a ha (inR_iff.2 (by omega))
  · have h4 := h.new 0 (by omega)
    rw [List.any_eq_false] at h4
    exact h4 a ha (inR_iff.2 (by omega))
theorem fail_drop {ids : List Int} {rs : List Rn} {p : Int} {i : Nat} (hi : i < rs.length) (hp : inR rs[i] p = true) (p0 : 0 ≤ p) (p1 : p < ids.length) (hw : wd ids p = 0) : ¬ EachSet ids rs := fun h =>
  h p p0 p1 (List.any_eq_true.2 ⟨_, List.getElem_mem hi, hp⟩) hw
theorem fail_set {ids : List Int} {id : Int} {rs : List Rn} {s : Int} {j i : Nat} (hi : i < rs.length) (hp : inR rs[i] (s + j) = true) (p0 : 0 ≤ s + j) (p1 : s + j < ids.length) (hw : wd (fillA ids id (rs.take i ++ [(s, (j : Int))])) (s + j) ≠ 0) : ¬ (NoneSet ids rs ∧ rs.Pairwise Apart) := by
  rintro ⟨hn, ha⟩
  rw [wd_fillA p0 p1] at hw
  have h0 := hn (s + j) p0 p1 (List.any_eq_true.2 ⟨_, List.getElem_mem hi, hp⟩)
  by_cases hc : (rs.take i ++ [(s, (j : Int))]).any (inR · (s + j)) = true
  · simp only [List.any_append, List.any_cons, List.any_nil, Bool.or_false, Bool.or_eq_true] at hc
    rcases hc with hc | hc
    · obtain ⟨r, hr, hrp⟩ := List.any_eq_true.1 hc
      obtain ⟨k, hk, rfl⟩ := List.getElem_of_mem hr
      rw [List.getElem_take] at hrp
      have hk2 : k < i := by simp at hk; omega
      have := List.pairwise_iff_getElem.1 ha k i (by omega) hi hk2
      have h1 := inR_iff.1 hp
      have h2 := inR_iff.1 hrp
      rcases this with h3 | h3 <;> omega
    · rw [inR_iff] at hc; dsimp only at hc; omega
  · rw [if_neg hc] at hw
    exact hw h0
theorem each_nil (ids : List Int) : EachSet ids [] := fun p _ _ h => by simp at h
theorem none_nil (ids : List Int) : NoneSet ids [] := fun p _ _ h => by simp at h
end Go.Proofs.Ytokefhplodbheaa

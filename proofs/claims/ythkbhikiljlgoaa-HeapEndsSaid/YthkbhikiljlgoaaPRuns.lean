/- Runs in plain Lean: rising, with a gap between each two; what pages they have says which they are. -/
import Derived.Test.YthkbhikiljlgoaaPIndex2
namespace Go.Proofs.Ythkbhikiljlgoaa

/-- Rising runs below q, none of which touches another one. -/
structure Canon (q : Int) (L : List Rn) : Prop where
  ok : ∀ r ∈ L, 0 ≤ r.1 ∧ 1 ≤ r.2 ∧ r.1 + r.2 ≤ q
  gap : L.Pairwise (fun a b => a.1 + a.2 < b.1)
theorem Canon.nil (q : Int) : Canon q [] := ⟨fun r h => by simp at h, List.Pairwise.nil⟩
theorem Canon.tail {q : Int} {a : Rn} {L : List Rn} (h : Canon q (a :: L)) : Canon q L := ⟨fun r hr => h.ok r (by simp [hr]), (List.pairwise_cons.1 h.gap).2⟩
theorem Canon.mono {q q' : Int} {L : List Rn} (h : Canon q L) (hq : q ≤ q') : Canon q' L := ⟨fun r hr => by have := h.ok r hr; omega, h.gap⟩
theorem Canon.snoc {q q' : Int} {L : List Rn} {s n : Int} (h : Canon q L) (hl : ∀ r ∈ L, r.1 + r.2 < s) (h0 : 0 ≤ s) (h1 : 1 ≤ n) (h2 : s + n ≤ q') (hq : q ≤ q') : Canon q' (L ++ [(s, n)]) := by
  refine ⟨fun r hr => ?_, ?_⟩
  · rcases List.mem_append.1 hr with hr | hr
    · have := h.ok r hr; omega
    · simp at hr; subst hr; exact ⟨h0, h1, h2⟩
  · rw [List.pairwise_append]
    exact ⟨h.gap, by simp, fun a ha b hb => by simp at hb; subst hb; exact hl a ha⟩
theorem Canon.init {q : Int} {L : List Rn} {x : Rn} (h : Canon q (L ++ [x])) : Canon q L ∧ (∀ r ∈ L, r.1 + r.2 < x.1) ∧ 0 ≤ x.1 ∧ 1 ≤ x.2 ∧ x.1 + x.2 ≤ q := by
  have h1 := List.pairwise_append.1 h.gap
  have h2 := h.ok x (by simp)
  exact ⟨⟨fun r hr => h.ok r (by simp [hr]), h1.1⟩, fun r hr => h1.2.2 r hr x (by simp), h2⟩
/-- Is a page in one of them? -/
def inL (L : List Rn) (p : Int) : Bool := L.any (inR · p)
theorem inL_iff {L : List Rn} {p : Int} : inL L p = true ↔ ∃ r ∈ L, r.1 ≤ p ∧ p < r.1 + r.2 := by
  unfold inL
  rw [List.any_eq_true]
  constructor
  · rintro ⟨r, h1, h2⟩; exact ⟨r, h1, inR_iff.1 h2⟩
  · rintro ⟨r, h1, h2⟩; exact ⟨r, h1, inR_iff.2 h2⟩
theorem inL_cons {a : Rn} {L : List Rn} {p : Int} : inL (a :: L) p = true ↔ (a.1 ≤ p ∧ p < a.1 + a.2) ∨ inL L p = true := by
  unfold inL; rw [List.any_cons, Bool.or_eq_true, inR_iff]
theorem inL_append {L M : List Rn} {p : Int} : inL (L ++ M) p = true ↔ inL L p = true ∨ inL M p = true := by
  unfold inL; rw [List.any_append, Bool.or_eq_true]
theorem inL_one {s n p : Int} : inL [(s, n)] p = true ↔ s ≤ p ∧ p < s + n := by
  unfold inL; simp [inR_iff]
theorem Canon.above {q : Int} {a : Rn} {L : List Rn} (h : Canon q (a :: L)) {p : Int} (hp : inL L p = true) : a.1 + a.2 < p := by
  obtain ⟨r, hr, h1, h2⟩ := inL_iff.1 hp
  have := (List.pairwise_cons.1 h.gap).1 r hr
  omega
/-- Their pages say which they are. -/
theorem canon_unique {q : Int} : ∀ (L M : List Rn), Canon q L → Canon q M → (∀ p, inL L p = true ↔ inL M p = true) → L = M
  | [], [], _, _, _ => rfl
  | [], b :: M, _, hM, h => by
    have h1 := hM.ok b (by simp)
    have := (h b.1).2 (inL_cons.2 (.inl ⟨Int.le_refl _, by omega⟩))
    simp [inL] at this
  | a :: L, [], hL, _, h => by
    have h1 := hL.ok a (by simp)
    have := (h a.1).1 (inL_cons.2 (.inl ⟨Int.le_refl _, by omega⟩))
    simp [inL] at this
  | a :: L, b :: M, hL, hM, h => by
    obtain ⟨s, n⟩ := a
    obtain ⟨t, m⟩ := b
    have a1 := hL.ok (s, n) (by simp)
    have b1 := hM.ok (t, m) (by simp)
    dsimp only at a1 b1
    have est : s = t := by
      have h1 := (h s).1 (inL_cons.2 (.inl ⟨Int.le_refl _, by show s < s + n; omega⟩))
      have h2 := (h t).2 (inL_cons.2 (.inl ⟨Int.le_refl _, by show t < t + m; omega⟩))
      rcases inL_cons.1 h1 with h3 | h3
      · rcases inL_cons.1 h2 with h4 | h4
        · dsimp only at h3 h4; omega
        · have := hL.above h4; dsimp only at h3 this; omega
      · have h5 := hM.above h3
        rcases inL_cons.1 h2 with h4 | h4
        · dsimp only at h4 h5; omega
        · have := hL.above h4; dsimp only at h5 this; omega
    subst est
    have enm : n = m := by
      by_cases hlt : n < m
      · have h1 := (h (s + n)).2 (inL_cons.2 (.inl ⟨by show s ≤ s + n; omega, by show s + n < s + m; omega⟩))
        rcases inL_cons.1 h1 with h3 | h3
        · dsimp only at h3; omega
        · have := hL.above h3; dsimp only at this; omega
      · by_cases hgt : m < n
        · have h1 := (h (s + m)).1 (inL_cons.2 (.inl ⟨by show s ≤ s + m; omega, by show s + m < s + n; omega⟩))
          rcases inL_cons.1 h1 with h3 | h3
          · dsimp only at h3; omega
          · have := hM.above h3; dsimp only at this; omega
        · omega
    subst enm
    rw [canon_unique L M hL.tail hM.tail (fun p => ?_)]
    constructor
    · intro hp
      have h1 := hL.above hp
      rcases inL_cons.1 ((h p).1 (inL_cons.2 (.inr hp))) with h3 | h3
      · dsimp only at h1 h3; omega
      · exact h3
    · intro hp
      have h1 := hM.above hp
      rcases inL_cons.1 ((h p).2 (inL_cons.2 (.inr hp))) with h3 | h3
      · dsimp only at h1 h3; omega
      · exact h3

/-- The runs of a number are rising ones, and have just its pages. -/
theorem runsP_canon {ids : List Int} {id : Int} : ∀ q : Nat, Canon q (runsP ids id q) ∧ (∀ p : Int, inL (runsP ids id q) p = true ↔ 0 ≤ p ∧ p < q ∧ wd ids p = id) ∧ ((q = 0 ∨ wd ids ((q : Int) - 1) ≠ id) → ∀ r ∈ runsP ids id q, r.1 + r.2 < q)
  | 0 => ⟨Canon.nil _, fun p => ⟨fun h => by simp [runsP, inL] at h, fun h => by omega⟩, fun _ r hr => by simp [runsP] at hr⟩
  | q + 1 => by
    obtain ⟨h1, h2, h3⟩ := runsP_canon (ids := ids) (id := id) q
    have e1 : (((q + 1 : Nat) : Int) - 1) = q := by omega
    by_cases hw : wd ids q = id
    · by_cases h0 : q = 0 ∨ wd ids ((q : Int) - 1) ≠ id
      · rw [runs_start hw h0]
        refine ⟨h1.snoc (h3 h0) (by omega) (by omega) (by omega) (by omega), fun p => ?_, fun h => ?_⟩
        · rw [inL_append, h2, inL_one]
          constructor
          · rintro (⟨a, b, c⟩ | ⟨a, b⟩)
            · exact ⟨a, by omega, c⟩
            · obtain rfl : p = q := by omega
              exact ⟨by omega, by omega, hw⟩
          · rintro ⟨a, b, c⟩
            by_cases h9 : p < q
            · exact .inl ⟨a, h9, c⟩
            · exact .inr ⟨by omega, by omega⟩
        · rcases h with h | h
          · omega
          · rw [e1] at h; exact (h hw).elim
      · obtain ⟨q', rfl⟩ : ∃ q', q = q' + 1 := ⟨q - 1, by omega⟩
        have hw' : wd ids q' = id := by
          refine Classical.byContradiction fun hn => h0 (.inr ?_)
          rw [show (((q' + 1 : Nat) : Int) - 1) = q' by omega]; exact hn
        obtain ⟨L, s, n, e, e2, e3, e4⟩ := runs_last hw'
        rw [runs_grow hw hw' e]
        rw [e] at h1 h2
        obtain ⟨i1, i2, i3, i4, i5⟩ := h1.init
        refine ⟨i1.snoc (q' := ((q' + 1 + 1 : Nat) : Int)) i2 i3 (by dsimp only at i4; omega) (by omega) (by omega), fun p => ?_, fun h => ?_⟩
        · have h9 := h2 p
          rw [inL_append, inL_one] at h9 ⊢
          constructor
          · rintro (h | ⟨a, b⟩)
            · obtain ⟨a, b, c⟩ := h9.1 (.inl h)
              exact ⟨a, by omega, c⟩
            · by_cases h8 : p < s + n
              · obtain ⟨a, b, c⟩ := h9.1 (.inr ⟨a, h8⟩)
                exact ⟨a, by omega, c⟩
              · obtain rfl : p = ((q' + 1 : Nat) : Int) := by omega
                exact ⟨by omega, by omega, hw⟩
          · rintro ⟨a, b, c⟩
            by_cases h8 : p < ((q' + 1 : Nat) : Int)
            · rcases h9.2 ⟨a, h8, c⟩ with h | h
              · exact .inl h
              · exact .inr ⟨h.1, by omega⟩
            · exact .inr ⟨by omega, by omega⟩
        · rcases h with h | h
          · omega
          · rw [e1] at h; exact (h hw).elim
    · rw [runs_skip hw]
      refine ⟨h1.mono (by omega), fun p => ?_, fun _ r hr => ?_⟩
      · rw [h2]
        constructor
        · rintro ⟨a, b, c⟩; exact ⟨a, by omega, c⟩
        · rintro ⟨a, b, c⟩
          by_cases h9 : p = q
          · subst h9; exact (hw c).elim
          · exact ⟨a, by omega, c⟩
      · have := h1.ok r hr
        omega
theorem runsF_canon (ids : List Int) (id : Int) : Canon ids.length (runsF ids id) := (runsP_canon ids.length).1
theorem inL_runsF {ids : List Int} {id p : Int} : inL (runsF ids id) p = true ↔ 0 ≤ p ∧ p < ids.length ∧ wd ids p = id := (runsP_canon ids.length).2.1 p
theorem Canon.next {q : Int} {L : List Rn} (h : Canon q L) {i : Nat} (hi : i + 1 < L.length) : (L[i]'(by omega)).1 + (L[i]'(by omega)).2 < L[i + 1].1 := List.pairwise_iff_getElem.1 h.gap i (i + 1) (by omega) hi (by omega)
/-- Between two of them, ahead of the first, and behind the last, no page is in one. -/
theorem Canon.between {q : Int} {L : List Rn} (h : Canon q L) {i : Nat} (hi : i < L.length) {p : Int} (h1 : L[i].1 + L[i].2 ≤ p) (h2 : ∀ hj : i + 1 < L.length, p < L[i + 1].1) : inL L p = false := by
  rw [← Bool.not_eq_true, inL_iff]
  rintro ⟨r, hr, r1, r2⟩
  obtain ⟨j, hj, rfl⟩ := List.getElem_of_mem hr
  have hg := List.pairwise_iff_getElem.1 h.gap
  rcases Nat.lt_trichotomy j i with hlt | rfl | hlt
  · have := hg j i hj hi hlt
    have := h.ok _ (List.getElem_mem hi)
    omega
  · omega
  · have h3 := h2 (by omega)
    by_cases he : i + 1 = j
    · subst he; omega
    · have := hg (i + 1) j (by omega) hj (by omega)
      have := h.ok _ (List.getElem_mem (show i + 1 < L.length by omega))
      omega
theorem Canon.ahead {q : Int} {L : List Rn} (h : Canon q L) {p : Int} (h2 : ∀ hj : 0 < L.length, p < L[0].1) : inL L p = false := by
  rw [← Bool.not_eq_true, inL_iff]
  rintro ⟨r, hr, r1, r2⟩
  obtain ⟨j, hj, rfl⟩ := List.getElem_of_mem hr
  have h3 := h2 (by omega)
  by_cases he : j = 0
  · subst he; omega
  · have := List.pairwise_iff_getElem.1 h.gap 0 j (by omega) hj (by omega)
    have := h.ok _ (List.getElem_mem (show 0 < L.length by omega))
    omega
theorem runs_short5 {ids : List Int} {id : Int} : ∀ (q : Nat), (runsP ids id q).length ≤ q
  | 0 => by simp [runsP]
  | q + 1 => by
    have ih := runs_short5 (ids := ids) (id := id) q
    unfold runsP
    split
    · omega
    · split
      · rw [List.length_append, List.length_dropLast, List.length_singleton]
        rename_i h
        have : runsP ids id q ≠ [] := by
          intro h9
          obtain ⟨q', rfl⟩ : ∃ q', q = q' + 1 := ⟨q - 1, by omega⟩
          have e1 : (((q' + 1 : Nat) : Int) - 1) = q' := by omega
          rw [e1] at h
          obtain ⟨L, s, n, e, _⟩ := runs_last h.2
          rw [h9] at e
          simp at e
        have := List.length_pos_iff.2 this
        omega
      · rw [List.length_append, List.length_singleton]; omega
end Go.Proofs.Ythkbhikiljlgoaa

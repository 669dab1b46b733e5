/- Layer 6 in plain Lean: the program's answers and the twin's. -/
import Derived.Test.YthkbhikiljlgoaaPBits2
import Derived.Test.YthkbhikiljlgoaaWRuns8
namespace Go.Proofs.Ythkbhikiljlgoaa

theorem twin_add {L l : List Rn} {f : Int → Bool} (h : Twin L f) : ∃ L' f' k, addR L l = (L', k) ∧ putB f l true = (f', k) ∧ Twin L' f' := by
  by_cases h1 : AllThere 1024 l
  · by_cases h0 : l = []
    · subst h0
      exact ⟨L, f, 0, addR_none, by rw [putB_ok h1 (okB_nil _ _), setB_nil], h⟩
    · by_cases h2 : (L ++ l).Pairwise Apart
      · exact ⟨_, _, 0, addR_ok h1 h0 h2, putB_ok h1 ((h.okB h1).2 h2), by rw [addF_listP]; exact h.set⟩
      · exact ⟨L, f, 9, addR_bad h1 h0 h2, putB_bad h1 (fun h9 => h2 ((h.okB h1).1 h9)), h⟩
  · exact ⟨L, f, 2, addR_out h1, putB_out h1, h⟩
theorem twin_cut {L : List Rn} {x : Rn} {f : Int → Bool} (h : Twin L f) : ∃ L' f' k, cutR L x = (L', k) ∧ putB f [x] false = (f', k) ∧ Twin L' f' := by
  by_cases h1 : there 1024 x = true
  · by_cases h2 : L.any (hasR x) = true
    · exact ⟨_, _, 0, cutR_ok h1 h2, putB_ok (allThere_one.2 h1) ((h.okC h1).2 h2), by rw [cutF_listP]; exact h.set⟩
    · exact ⟨L, f, 9, cutR_bad h1 h2, putB_bad (allThere_one.2 h1) (fun h9 => h2 ((h.okC h1).1 h9)), h⟩
  · exact ⟨L, f, 2, cutR_out h1, putB_out (fun h9 => h1 (allThere_one.1 h9)), h⟩
theorem twin_take {L : List Rn} {f : Int → Bool} {n : Int} (h : Twin L f) :
    (bestF L n = (0, 0) ∧ takeR L n = (L, (0, 0), false)) ∨ (1 ≤ n ∧ 0 < (bestF L n).2 ∧ 0 ≤ (bestF L n).1 ∧ (bestF L n).1 ≤ 1024 ∧ n ≤ 1024 ∧ ∃ L' f', takeR L n = (L', ((bestF L n).1, n), true) ∧ putB f [((bestF L n).1, n)] false = (f', 0) ∧ Twin L' f') := by
  rcases best_or L n h.1 with ⟨hb, _⟩ | ⟨hn1, hmem, hle, hpos, hth, hany⟩
  · exact .inl ⟨hb, by unfold takeR; rw [hb, if_neg (by decide)]⟩
  · obtain ⟨t0, t1, t2, t3⟩ := there_iff.1 hth
    refine .inr ⟨hn1, hpos, t0, by have : (bestF L n).1 < 1024 := t2
                                   omega, by have : n ≤ 1024 - (bestF L n).1 := t3
                                             have : 0 ≤ (bestF L n).1 := t0
                                             omega, ?_⟩
    obtain ⟨L', f', k, e1, e2, e3⟩ := twin_cut (x := ((bestF L n).1, n)) h
    rw [cutR_ok hth hany, Prod.mk.injEq] at e1
    obtain ⟨g1, g2⟩ := e1
    subst g1
    subst g2
    exact ⟨_, f', by unfold takeR; rw [if_pos hpos], e2, e3⟩

/-! ### how many pages -/
theorem cntF_split {f g : Int → Bool} (h : ∀ p, g p = true → f p = true) : ∀ q : Nat, cntF f q = cntF (fun p => f p && !g p) q + cntF g q
  | 0 => by simp [cntF]
  | q + 1 => by
    unfold cntF
    rw [cntF_split h q]
    have := h (q : Int)
    cases hf : f (q : Int) <;> cases hg : g (q : Int) <;> simp_all <;> omega
theorem cntF_inR {x : Rn} (h0 : 0 ≤ x.1) (h1 : 0 ≤ x.2) : ∀ q : Nat, cntF (inR x) q = if (q : Int) ≤ x.1 then 0 else if (q : Int) ≤ x.1 + x.2 then q - x.1 else x.2
  | 0 => by simp [cntF, h0]
  | q + 1 => by
    unfold cntF
    rw [cntF_inR h0 h1 q]
    by_cases h : inR x (q : Int) = true
    · rw [if_pos h]
      rw [inR_iff] at h
      split <;> split <;> (try split) <;> (try split) <;> omega
    · rw [if_neg h]
      rw [inR_iff] at h
      split <;> split <;> (try split) <;> (try split) <;> omega
theorem cntF_congr {f g : Int → Bool} : ∀ q : Nat, (∀ p : Nat, p < q → f (p : Int) = g (p : Int)) → cntF f q = cntF g q
  | 0, _ => rfl
  | q + 1, h => by
    unfold cntF
    rw [cntF_congr q (fun p hp => h p (by omega)), h q (by omega)]
theorem sum_listP (f : Int → Bool) : sumR (listP f) = cntF f 1024 := by
  show sumR (runsF ((List.range 1024).map fun (p : Nat) => if f p then (1 : Int) else 0) 1) = _
  unfold sumR runsF
  rw [listP_len]
  exact sum_runs (N := 1024) (fun p hp => by
    rw [listP_wd f (by omega) (by omega)]
    cases f (p : Int) <;> simp) 1024 (Nat.le_refl _)
theorem sum_cut {L : List Rn} {x : Rn} (hL : Canon 1024 L) (hx : there 1024 x = true) (h : L.any (hasR x) = true) : sumR (cutF L x) = sumR L - x.2 := by
  obtain ⟨t0, t1, t2, t3⟩ := there_iff.1 hx
  have hsub : ∀ p, inR x p = true → inL L p = true := (has_run hL t1).1 (List.any_eq_true.1 h)
  have e1 : sumR L = cntF (inL L) 1024 := by rw [← sum_listP, listP_self hL]
  have e2 := cntF_split hsub 1024
  have e3 := cntF_inR (x := x) t0 (by omega) 1024
  have e4 : sumR (cutF L x) = cntF (fun p => inL L p && !inR x p) 1024 := sum_listP _
  rw [e4, e1, e2, e3]
  split
  · omega
  · split
    · omega
    · omega

/-! ### what was cut is there no more, and comes back -/
theorem inL_one' {x : Rn} {p : Int} : inL [x] p = inR x p := by simp [inL]
theorem inL_cutF {L : List Rn} {x : Rn} {p : Int} : inL (cutF L x) p = true ↔ 0 ≤ p ∧ p < 1024 ∧ inL L p = true ∧ inR x p = false := by
  unfold cutF
  rw [inL_listP]; simp
theorem cut_gone {L : List Rn} {x : Rn} (hx : there 1024 x = true) : (cutF L x).any (hasR x) = false := by
  obtain ⟨t0, t1, t2, t3⟩ := there_iff.1 hx
  rw [← Bool.not_eq_true, List.any_eq_true, has_run (cutF_canon L x) t1]
  intro h
  have h1 : inR x x.1 = true := inR_iff.2 ⟨by omega, by omega⟩
  have := inL_cutF.1 (h x.1 h1)
  rw [h1] at this
  exact absurd this.2.2.2 (by simp)
theorem cut_back {L : List Rn} {x : Rn} (hL : Canon 1024 L) (hx : there 1024 x = true) (h : L.any (hasR x) = true) : addR (cutF L x) [x] = (L, 0) := by
  obtain ⟨t0, t1, t2, t3⟩ := there_iff.1 hx
  have hsub : ∀ p, inR x p = true → inL L p = true := (has_run hL t1).1 (List.any_eq_true.1 h)
  rw [addR_ok (allThere_one.2 hx) (by simp) ((pairwise_apart_append (cutF_canon L x) (allThere_one.2 hx)).2 ⟨fun p hp => by
    rw [← Bool.not_eq_true, inL_cutF]
    rw [inL_one'] at hp
    rw [hp]; simp, by simp⟩)]
  have : addF (cutF L x) [x] = L := by
    symm
    refine canon_eq_listP hL (fun p h0 h1 => ?_)
    rw [inL_one', Bool.or_eq_true, inL_cutF]
    constructor
    · intro h9
      by_cases hc : inR x p = true
      · exact .inr hc
      · exact .inl ⟨h0, h1, h9, by simpa using hc⟩
    · rintro (h9 | h9)
      · exact h9.2.2.1
      · exact hsub p h9
  rw [this]
/-! ### the tightest run, by its place -/
def BestAt (L : List Rn) (n : Int) (i : Nat) (k : Int) : Prop :=
  (k = -1 ∧ ∀ j (_ : j < i) (h : j < L.length), ¬ (1 ≤ n ∧ n ≤ L[j].2)) ∨
  ∃ m : Nat, k = m ∧ m < i ∧ 1 ≤ n ∧ ∃ hm : m < L.length, n ≤ L[m].2 ∧ (∀ j (_ : j < i) (h : j < L.length), n ≤ L[j].2 → L[m].2 ≤ L[j].2) ∧ ∀ j (hj : j < m), (L[j]'(by omega)).2 ≠ L[m].2
theorem bestAt_start (L : List Rn) (n : Int) : BestAt L n 0 (-1) := .inl ⟨rfl, fun j h => by omega⟩
theorem BestAt.range {L : List Rn} {n : Int} {i : Nat} {k : Int} (h : BestAt L n i k) : k = -1 ∨ (0 ≤ k ∧ k < i ∧ k < L.length) := by
  rcases h with ⟨h, _⟩ | ⟨m, rfl, h, _, h2, _⟩
  · exact .inl h
  · right; omega
theorem BestAt.keep {L : List Rn} {n : Int} {i : Nat} {k : Int} (h : BestAt L n i k) (hi : i < L.length) (hk : ¬ (1 ≤ n ∧ n ≤ L[i].2 ∧ (k < 0 ∨ ∃ hk : k.toNat < L.length, L[i].2 < L[k.toNat].2))) : BestAt L n (i + 1) k := by
  rcases h with ⟨rfl, h⟩ | ⟨m, rfl, h0, h1, hm, h2, h3, h4⟩
  · refine .inl ⟨rfl, fun j hj hl => ?_⟩
    by_cases e : j = i
    · subst e
      intro h9; exact hk ⟨h9.1, h9.2, .inl (by omega)⟩
    · exact h j (by omega) hl
  · refine .inr ⟨m, rfl, by omega, h1, hm, h2, fun j hj hl hn => ?_, h4⟩
    by_cases e : j = i
    · subst e
      refine Classical.byContradiction fun h9 => hk ⟨h1, hn, .inr ⟨by simpa using hm, ?_⟩⟩
      have e2 : ((m : Int)).toNat = m := by omega
      simp only [e2]
      omega
    · exact h3 j (by omega) hl hn
theorem BestAt.take {L : List Rn} {n : Int} {i : Nat} {k : Int} (h : BestAt L n i k) (hi : i < L.length) (h1 : 1 ≤ n) (h2 : n ≤ L[i].2) (hk : k < 0 ∨ ∃ hk : k.toNat < L.length, L[i].2 < L[k.toNat].2) : BestAt L n (i + 1) i := by
  refine .inr ⟨i, rfl, by omega, h1, hi, h2, fun j hj hl hn => ?_, fun j hj => ?_⟩
  · by_cases e : j = i
    · subst e; omega
    · rcases h with ⟨rfl, h⟩ | ⟨m, rfl, h0, _, hm, g2, g3, g4⟩
      · exact absurd ⟨h1, hn⟩ (h j (by omega) hl)
      · have := g3 j (by omega) hl hn
        rcases hk with hk | ⟨hk, h9⟩
        · omega
        · have e2 : ((m : Int)).toNat = m := by omega
          simp only [e2] at h9
          omega
  · rcases h with ⟨rfl, h⟩ | ⟨m, rfl, h0, _, hm, g2, g3, g4⟩
    · intro e
      exact h j hj (by omega) ⟨h1, by omega⟩
    · intro e
      rcases hk with hk | ⟨hk, h9⟩
      · omega
      · have e2 : ((m : Int)).toNat = m := by omega
        simp only [e2] at h9
        have := g3 j hj (by omega) (by omega)
        omega
theorem BestAt.done {L : List Rn} {n k : Int} (h : BestAt L n L.length k) : (k = -1 ∧ bestF L n = (0, 0)) ∨ ∃ m : Nat, ∃ hm : m < L.length, k = m ∧ 1 ≤ n ∧ bestF L n = L[m] := by
  rcases h with ⟨rfl, h⟩ | ⟨m, rfl, h0, h1, hm, h2, h3, h4⟩
  · refine .inl ⟨rfl, best_none ?_⟩
    by_cases hn : n < 1
    · exact .inl hn
    · refine .inr (fun r hr => ?_)
      obtain ⟨j, hj, rfl⟩ := List.getElem_of_mem hr
      have := h j hj hj
      omega
  · refine .inr ⟨m, hm, rfl, h1, best_found h1 hm h2 (fun r hr h9 => ?_) h4⟩
    obtain ⟨j, hj, rfl⟩ := List.getElem_of_mem hr
    have := h3 j hj hj h9.1
    omega

/-! ### one after another -/
theorem apart_pages {r x : Rn} (hr : 1 ≤ r.2) (hx : 1 ≤ x.2) : Apart r x ↔ ∀ p, ¬ (inR r p = true ∧ inR x p = true) := by
  unfold Apart
  constructor
  · intro h p ⟨h1, h2⟩
    rw [inR_iff] at h1 h2
    omega
  · intro h
    refine Classical.byContradiction fun h9 => ?_
    by_cases hc : r.1 ≤ x.1
    · exact h x.1 ⟨inR_iff.2 ⟨by omega, by omega⟩, inR_iff.2 ⟨by omega, by omega⟩⟩
    · exact h r.1 ⟨inR_iff.2 ⟨by omega, by omega⟩, inR_iff.2 ⟨by omega, by omega⟩⟩
/-- Free runs after adding some, each by itself. -/
structure Each (L : List Rn) (A : List Rn) : Prop where
  canon : Canon 1024 L
  all : AllThere 1024 A
  apart : A.Pairwise Apart
  pages : ∀ p, inL L p = true ↔ inL A p = true
theorem Each.nil : Each [] [] := ⟨Canon.nil _, fun r h => by simp at h, List.Pairwise.nil, fun p => Iff.rfl⟩
theorem Each.step {L A : List Rn} (h : Each L A) (x : Rn) : (addR L [x]).2 = 0 ∧ Each (addR L [x]).1 (A ++ [x]) ∨ (addR L [x]).2 ≠ 0 ∧ ∀ B, ¬ (AllThere 1024 (A ++ [x] ++ B) ∧ (A ++ [x] ++ B).Pairwise Apart) := by
  by_cases h1 : there 1024 x = true
  · have hx := there_iff.1 h1
    by_cases h2 : (L ++ [x]).Pairwise Apart
    · rw [addR_ok (allThere_one.2 h1) (by simp) h2]
      have h3 := ((pairwise_apart_append h.canon (allThere_one.2 h1)).1 h2).1
      dsimp only
      refine .inl ⟨by rfl, addF_canon _ _, fun r hr => ?_, List.pairwise_append.2 ⟨h.apart, by simp, fun r hr y hy => ?_⟩, fun p => ?_⟩
      · rcases List.mem_append.1 hr with hr | hr
        · exact h.all r hr
        · simp at hr; rw [hr]; exact h1
      · simp at hy; subst hy
        rw [apart_pages (there_iff.1 (h.all r hr)).2.1 hx.2.1]
        rintro p ⟨p1, p2⟩
        have := h3 p (by rw [inL_one']; exact p2)
        rw [← Bool.not_eq_true, h.pages] at this
        exact this (inL_iff.2 ⟨r, hr, inR_iff.1 p1⟩)
      · show inL (addF L [x]) p = true ↔ _
        unfold addF
        rw [inL_listP, Bool.or_eq_true, h.pages, inL_append]
        constructor
        · rintro ⟨_, _, h9⟩; exact h9
        · intro h9
          refine ⟨?_, ?_, h9⟩
          · rcases h9 with h9 | h9
            · exact (allThere_range h.all h9).1
            · exact (allThere_range (allThere_one.2 h1) h9).1
          · rcases h9 with h9 | h9
            · exact (allThere_range h.all h9).2
            · exact (allThere_range (allThere_one.2 h1) h9).2
    · rw [addR_bad (allThere_one.2 h1) (by simp) h2]
      refine .inr ⟨show (9 : Int) ≠ 0 by decide, fun B ⟨_, hB⟩ => h2 ?_⟩
      rw [pairwise_apart_append h.canon (allThere_one.2 h1)]
      refine ⟨fun p hp => ?_, by simp⟩
      rw [← Bool.not_eq_true, h.pages]
      intro h9
      obtain ⟨r, hr, r1⟩ := inL_iff.1 h9
      have hq := (List.pairwise_append.1 (List.pairwise_append.1 hB).1).2.2 r hr x (by simp)
      rw [apart_pages (there_iff.1 (h.all r hr)).2.1 hx.2.1] at hq
      rw [inL_one'] at hp
      exact hq p ⟨inR_iff.2 r1, hp⟩
  · rw [addR_out (fun h9 => h1 (allThere_one.1 h9))]
    exact .inr ⟨show (2 : Int) ≠ 0 by decide, fun B ⟨hB, _⟩ => h1 (hB x (by simp))⟩
theorem Each.all_at_once {L l : List Rn} (h : Each L l.reverse) : addR [] l = (L, 0) := by
  have h1 : AllThere 1024 l := fun r hr => h.all r (by simpa using hr)
  by_cases h0 : l = []
  · subst h0
    rw [addR_none]
    rw [canon_unique [] L (Canon.nil _) h.canon (fun p => by rw [h.pages]; simp)]
  · rw [addR_ok h1 h0 (by rw [List.nil_append]; exact (apart_perm (List.reverse_perm l)).1 h.apart)]
    have : L = addF [] l := canon_unique (q := 1024) _ _ h.canon (addF_canon _ _) (fun p => by
      rw [h.pages]
      unfold addF
      rw [inL_listP]
      have e : inL l.reverse p = inL l p := by simp [inL]
      rw [e]
      constructor
      · intro h9; have := allThere_range h1 h9; exact ⟨this.1, this.2, by rw [h9]; simp⟩
      · rintro ⟨_, _, h9⟩; simpa [inL] using h9)
    rw [← this]
theorem each_bad {l : List Rn} (h : ¬ (AllThere 1024 l.reverse ∧ l.reverse.Pairwise Apart)) : (addR [] l).2 ≠ 0 := by
  by_cases h1 : AllThere 1024 l
  · have h2 : ¬ ([] ++ l).Pairwise Apart := fun h9 => h ⟨fun r hr => h1 r (by simpa using hr), (apart_perm (List.reverse_perm l)).2 (by simpa using h9)⟩
    by_cases h0 : l = []
    · subst h0; exact absurd ⟨fun r hr => by simp at hr, by simp⟩ h
    · rw [addR_bad h1 h0 h2]; show (9 : Int) ≠ 0; decide
  · rw [addR_out h1]; show (2 : Int) ≠ 0; decide
/-- nil: what is wanted of Add, Cut. -/
theorem nil_add (l : List Rn) : nilR l = if 0 < l.length then (if (putB (fun _ => false) l true).2 = 2 then 2 else 9) else 0 := by
  unfold nilR
  by_cases h1 : AllThere 1024 l
  · rw [if_neg (by simpa using h1)]
    by_cases h0 : l = []
    · subst h0; simp
    · rw [if_neg h0, if_pos (List.length_pos_iff.2 h0)]
      by_cases h2 : OkB (fun _ => false) l true
      · rw [putB_ok h1 h2]; simp
      · rw [putB_bad h1 h2]; simp
  · rw [if_pos h1]
    have h0 : l ≠ [] := by rintro rfl; exact h1 (fun r hr => by simp at hr)
    rw [if_pos (List.length_pos_iff.2 h0), putB_out h1]; simp
theorem nil_cut (x : Rn) : (cutR [] x).2 = if there 1024 x = true then 9 else 2 := by
  by_cases h : there 1024 x = true
  · rw [cutR_bad h (by simp), if_pos h]
  · rw [cutR_out h, if_neg h]
end Go.Proofs.Ythkbhikiljlgoaa

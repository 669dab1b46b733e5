/- The library's iterator over a slice of runs, and what collects it. (Turned from the kit's worked proofs over an iterator on ints.) maps.DeleteFunc at spans, with the function of heap's Free. A heap in plain Lean: its pages, its spans. Spans that are kept in a map of one's own, by their numbers. A set of numbers that is kept in a map[int]bool of one's own. Layer 6 in plain Lean: the program's answers and the twin's. -/
import Derived.Test.YtbldidlbhahciaaGreatGLargeHolds1
import Derived.Test.YtbldidlbhahciaaGreatGLargeHolds3
import Derived.Test.YtbldidlbhahciaaGreatGLargeHolds0
import Derived.Maps.OwnOps
import Derived.Maps.Views
import Derived.Maps.RangeWalk
import Derived.Lib.SlMapFilter
import Derived.WalkKit
import Derived.Maps.Ext
import Derived.Laws.IdiomRangeMap
import Derived.Deep.LoopGhost
import Derived.Shelf.Abstract
import Derived.RangeFuncNested
import Derived.RangeFuncBox
import Derived.RangeFuncBound
import Derived.RangeFuncCalls
import Derived.RangeFuncLeaves
import Derived.Shelf.RegionOpen
import Derived.OwnWalkIn
import Derived.TacticsInMore
import Derived.LoopNIn
import Derived.LoopIn
import Derived.Maps.AppendAt
set_option linter.unusedVariables false
set_option linter.unusedSimpArgs false
namespace Go.Proofs.YtbldidlbhahciaaGreat

theorem twin_add {L l : List Rn} {f : Int → Bool} (h : Twin L f) : ∃ L' f' k, addR L l = (L', k) ∧ putB f l true = (f', k) ∧ Twin L' f' := by
  by_cases h1 : AllThere 1024 l
  · by_cases h0 : l = []
    · subst h0
      exact ⟨L, f, 0, addR_none, by rw [putB_ok h1 (okB_nil _ _), setB_nil], h⟩
    · by_cases h2 : (L ++ l).Pairwise Apart
      · exact ⟨_, _, 0, addR_ok h1 h0 h2, putB_ok h1 ((h.okB h1).2 h2), by rw [addF_listP]; exact h.set⟩
      · exact ⟨L, f, 9, addR_bad h1 h0 h2, putB_bad h1 (fun h9 => h2 ((h.okB h1).1 h9)), h⟩
  · exact ⟨L, f, 2, addR_out h1, putB_out h1, h⟩
theorem twin_cut {L : List Rn} {x : Rn} {f : Int → Bool} (h : Twin L f) : ∃ L' f' k, cutR L x = (L', k) ∧ putB f [x] false = (f', k) ∧ Twin L' f' := by
  by_cases h1 : there 1024 x = true
  · by_cases h2 : L.any (hasR x) = true
    · exact ⟨_, _, 0, cutR_ok h1 h2, putB_ok (allThere_one.2 h1) ((h.okC h1).2 h2), by rw [cutF_listP]; exact h.set⟩
    · exact ⟨L, f, 9, cutR_bad h1 h2, putB_bad (allThere_one.2 h1) (fun h9 => h2 ((h.okC h1).1 h9)), h⟩
  · exact ⟨L, f, 2, cutR_out h1, putB_out (fun h9 => h1 (allThere_one.1 h9)), h⟩
theorem twin_take {L : List Rn} {f : Int → Bool} {n : Int} (h : Twin L f) :
    (bestF L n = (0, 0) ∧ takeR L n = (L, (0, 0), false)) ∨ (1 ≤ n ∧ 0 < (bestF L n).2 ∧ 0 ≤ (bestF L n).1 ∧ (bestF L n).1 ≤ 1024 ∧ n ≤ 1024 ∧ ∃ L' f', takeR L n = (L', ((bestF L n).1, n), true) ∧ putB f [((bestF L n).1, n)] false = (f', 0) ∧ Twin L' f') := by
  rcases best_or L n h.1 with ⟨hb, _⟩ | ⟨hn1, hmem, hle, hpos, hth, hany⟩
  · exact .inl ⟨hb, by unfold takeR; rw [hb, if_neg (by decide)]⟩
  · obtain ⟨t0, t1, t2, t3⟩ := there_iff.1 hth
    refine .inr ⟨hn1, hpos, t0, by have : (bestF L n).1 < 1024 := t2
                                   omega, by have : n ≤ 1024 - (bestF L n).1 := t3
                                             have : 0 ≤ (bestF L n).1 := t0
                                             omega, ?_⟩
    obtain ⟨L', f', k, e1, e2, e3⟩ := twin_cut (x := ((bestF L n).1, n)) h
    rw [cutR_ok hth hany, Prod.mk.injEq] at e1
    obtain ⟨g1, g2⟩ := e1
    subst g1
    subst g2
    exact ⟨_, f', by unfold takeR; rw [if_pos hpos], e2, e3⟩

/-! ### how many pages -/
theorem cntF_split {f g : Int → Bool} (h : ∀ p, g p = true → f p = true) : ∀ q : Nat, cntF f q = cntF (fun p => f p && !g p) q + cntF g q
  | 0 => by simp [cntF]
  | q + 1 => by
    unfold cntF
    rw [cntF_split h q]
    have := h (q : Int)
    cases hf : f (q : Int) <;> cases hg : g (q : Int) <;> simp_all <;> omega
theorem cntF_inR {x : Rn} (h0 : 0 ≤ x.1) (h1 : 0 ≤ x.2) : ∀ q : Nat, cntF (inR x) q = if (q : Int) ≤ x.1 then 0 else if (q : Int) ≤ x.1 + x.2 then q - x.1 else x.2
  | 0 => by simp [cntF, h0]
  | q + 1 => by
    unfold cntF
    rw [cntF_inR h0 h1 q]
    by_cases h : inR x (q : Int) = true
    · rw [if_pos h]
      rw [inR_iff] at h
      split <;> split <;> (try split) <;> (try split) <;> omega
    · rw [if_neg h]
      rw [inR_iff] at h
      split <;> split <;> (try split) <;> (try split) <;> omega
theorem cntF_congr {f g : Int → Bool} : ∀ q : Nat, (∀ p : Nat, p < q → f (p : Int) = g (p : Int)) → cntF f q = cntF g q
  | 0, _ => rfl
  | q + 1, h => by
    unfold cntF
    rw [cntF_congr q (fun p hp => h p (by omega)), h q (by omega)]
theorem sum_listP (f : Int → Bool) : sumR (listP f) = cntF f 1024 := by
  show sumR (runsF ((List.range 1024).map fun (p : Nat) => if f p then (1 : Int) else 0) 1) = _
  unfold sumR runsF
  rw [listP_len]
  exact sum_runs (N := 1024) (fun p hp => by
    rw [listP_wd f (by omega) (by omega)]
    cases f (p : Int) <;> simp) 1024 (Nat.le_refl _)
theorem sum_cut {L : List Rn} {x : Rn} (hL : Canon 1024 L) (hx : there 1024 x = true) (h : L.any (hasR x) = true) : sumR (cutF L x) = sumR L - x.2 := by
  obtain ⟨t0, t1, t2, t3⟩ := there_iff.1 hx
  have hsub : ∀ p, inR x p = true → inL L p = true := (has_run hL t1).1 (List.any_eq_true.1 h)
  have e1 : sumR L = cntF (inL L) 1024 := by rw [← sum_listP, listP_self hL]
  have e2 := cntF_split hsub 1024
  have e3 := cntF_inR (x := x) t0 (by omega) 1024
  have e4 : sumR (cutF L x) = cntF (fun p => inL L p && !inR x p) 1024 := sum_listP _
  rw [e4, e1, e2, e3]
  split
  · omega
  · split
    · omega
    · omega

/-! ### what was cut is there no more, and comes back -/
theorem inL_one' {x : Rn} {p : Int} : inL [x] p = inR x p := by simp [inL]
theorem inL_cutF {L : List Rn} {x : Rn} {p : Int} : inL (cutF L x) p = true ↔ 0 ≤ p ∧ p < 1024 ∧ inL L p = true ∧ inR x p = false := by
  unfold cutF
  rw [inL_listP]; simp
theorem cut_gone {L : List Rn} {x : Rn} (hx : there 1024 x = true) : (cutF L x).any (hasR x) = false := by
  obtain ⟨t0, t1, t2, t3⟩ := there_iff.1 hx
  rw [← Bool.not_eq_true, List.any_eq_true, has_run (cutF_canon L x) t1]
  intro h
  have h1 : inR x x.1 = true := inR_iff.2 ⟨by omega, by omega⟩
  have := inL_cutF.1 (h x.1 h1)
  rw [h1] at this
  exact absurd this.2.2.2 (by simp)
theorem cut_back {L : List Rn} {x : Rn} (hL : Canon 1024 L) (hx : there 1024 x = true) (h : L.any (hasR x) = true) : addR (cutF L x) [x] = (L, 0) := by
  obtain ⟨t0, t1, t2, t3⟩ := there_iff.1 hx
  have hsub : ∀ p, inR x p = true → inL L p = true := (has_run hL t1).1 (List.any_eq_true.1 h)
  rw [addR_ok (allThere_one.2 hx) (by simp) ((pairwise_apart_append (cutF_canon L x) (allThere_one.2 hx)).2 ⟨fun p hp => by
    rw [← Bool.not_eq_true, inL_cutF]
    rw [inL_one'] at hp
    rw [hp]; simp, by simp⟩)]
  have : addF (cutF L x) [x] = L := by
    symm
    refine canon_eq_listP hL (fun p h0 h1 => ?_)
    rw [inL_one', Bool.or_eq_true, inL_cutF]
    constructor
    · intro h9
      by_cases hc : inR x p = true
      · exact .inr hc
      · exact .inl ⟨h0, h1, h9, by simpa using hc⟩
    · rintro (h9 | h9)
      · exact h9.2.2.1
      · exact hsub p h9
  rw [this]
/-! ### the tightest run, by its place -/
def BestAt (L : List Rn) (n : Int) (i : Nat) (k : Int) : Prop :=
  (k = -1 ∧ ∀ j (_ : j < i) (h : j < L.length), ¬ (1 ≤ n ∧ n ≤ L[j].2)) ∨
  ∃ m : Nat, k = m ∧ m < i ∧ 1 ≤ n ∧ ∃ hm : m < L.length, n ≤ L[m].2 ∧ (∀ j (_ : j < i) (h : j < L.length), n ≤ L[j].2 → L[m].2 ≤ L[j].2) ∧ ∀ j (hj : j < m), (L[j]'(by omega)).2 ≠ L[m].2
theorem bestAt_start (L : List Rn) (n : Int) : BestAt L n 0 (-1) := .inl ⟨rfl, fun j h => by omega⟩
theorem BestAt.range {L : List Rn} {n : Int} {i : Nat} {k : Int} (h : BestAt L n i k) : k = -1 ∨ (0 ≤ k ∧ k < i ∧ k < L.length) := by
  rcases h with ⟨h, _⟩ | ⟨m, rfl, h, _, h2, _⟩
  · exact .inl h
  · right; omega
theorem BestAt.keep {L : List Rn} {n : Int} {i : Nat} {k : Int} (h : BestAt L n i k) (hi : i < L.length) (hk : ¬ (1 ≤ n ∧ n ≤ L[i].2 ∧ (k < 0 ∨ ∃ hk : k.toNat < L.length, L[i].2 < L[k.toNat].2))) : BestAt L n (i + 1) k := by
  rcases h with ⟨rfl, h⟩ | ⟨m, rfl, h0, h1, hm, h2, h3, h4⟩
  · refine .inl ⟨rfl, fun j hj hl => ?_⟩
    by_cases e : j = i
    · subst e
      intro h9; exact hk ⟨h9.1, h9.2, .inl (by omega)⟩
    · exact h j (by omega) hl
  · refine .inr ⟨m, rfl, by omega, h1, hm, h2, fun j hj hl hn => ?_, h4⟩
    by_cases e : j = i
    · subst e
      refine Classical.byContradiction fun h9 => hk ⟨h1, hn, .inr ⟨by simpa using hm, ?_⟩⟩
      have e2 : ((m : Int)).toNat = m := by omega
      simp only [e2]
      omega
    · exact h3 j (by omega) hl hn
theorem BestAt.take {L : List Rn} {n : Int} {i : Nat} {k : Int} (h : BestAt L n i k) (hi : i < L.length) (h1 : 1 ≤ n) (h2 : n ≤ L[i].2) (hk : k < 0 ∨ ∃ hk : k.toNat < L.length, L[i].2 < L[k.toNat].2) : BestAt L n (i + 1) i := by
  refine .inr ⟨i, rfl, by omega, h1, hi, h2, fun j hj hl hn => ?_, fun j hj => ?_⟩
  · by_cases e : j = i
    · subst e; omega
    · rcases h with ⟨rfl, h⟩ | ⟨m, rfl, h0, _, hm, g2, g3, g4⟩
      · exact absurd ⟨h1, hn⟩ (h j (by omega) hl)
      · have := g3 j (by omega) hl hn
        rcases hk with hk | ⟨hk, h9⟩
        · omega
        · have e2 : ((m : Int)).toNat = m := by omega
          simp only [e2] at h9
          omega
  · rcases h with ⟨rfl, h⟩ | ⟨m, rfl, h0, _, hm, g2, g3, g4⟩
    · intro e
      exact h j hj (by omega) ⟨h1, by omega⟩
    · intro e
      rcases hk with hk | ⟨hk, h9⟩
      · omega
      · have e2 : ((m : Int)).toNat = m := by omega
        simp only [e2] at h9
        have := g3 j hj (by omega) (by omega)
        omega
theorem BestAt.done {L : List Rn} {n k : Int} (h : BestAt L n L.length k) : (k = -1 ∧ bestF L n = (0, 0)) ∨ ∃ m : Nat, ∃ hm : m < L.length, k = m ∧ 1 ≤ n ∧ bestF L n = L[m] := by
  rcases h with ⟨rfl, h⟩ | ⟨m, rfl, h0, h1, hm, h2, h3, h4⟩
  · refine .inl ⟨rfl, best_none ?_⟩
    by_cases hn : n < 1
    · exact .inl hn
    · refine .inr (fun r hr => ?_)
      obtain ⟨j, hj, rfl⟩ := List.getElem_of_mem hr
      have := h j hj hj
      omega
  · refine .inr ⟨m, hm, rfl, h1, best_found h1 hm h2 (fun r hr h9 => ?_) h4⟩
    obtain ⟨j, hj, rfl⟩ := List.getElem_of_mem hr
    have := h3 j hj hj h9.1
    omega

/-! ### one after another -/
theorem apart_pages {r x : Rn} (hr : 1 ≤ r.2) (hx : 1 ≤ x.2) : Apart r x ↔ ∀ p, ¬ (inR r p = true ∧ inR x p = true) := by
  unfold Apart
  constructor
  · intro h p ⟨h1, h2⟩
    rw [inR_iff] at h1 h2
    omega
  · intro h
    refine Classical.byContradiction fun h9 => ?_
    by_cases hc : r.1 ≤ x.1
    · exact h x.1 ⟨inR_iff.2 ⟨by omega, by omega⟩, inR_iff.2 ⟨by omega, by omega⟩⟩
    · exact h r.1 ⟨inR_iff.2 ⟨by omega, by omega⟩, inR_iff.2 ⟨by omega, by omega⟩⟩
/-- Free runs after adding some, each by itself. -/
structure Each (L : List Rn) (A : List Rn) : Prop where
  canon : Canon 1024 L
  all : AllThere 1024 A
  apart : A.Pairwise Apart
  pages : ∀ p, inL L p = true ↔ inL A p = true
theorem Each.nil : Each [] [] := ⟨Canon.nil _, fun r h => by simp at h, List.Pairwise.nil, fun p => Iff.rfl⟩
theorem Each.step {L A : List Rn} (h : Each L A) (x : Rn) : (addR L [x]).2 = 0 ∧ Each (addR L [x]).1 (A ++ [x]) ∨ (addR L [x]).2 ≠ 0 ∧ ∀ B, ¬ (AllThere 1024 (A ++ [x] ++ B) ∧ (A ++ [x] ++ B).Pairwise Apart) := by
  by_cases h1 : there 1024 x = true
  · have hx := there_iff.1 h1
    by_cases h2 : (L ++ [x]).Pairwise Apart
    · rw [addR_ok (allThere_one.2 h1) (by simp) h2]
      have h3 := ((pairwise_apart_append h.canon (allThere_one.2 h1)).1 h2).1
      dsimp only
      refine .inl ⟨by rfl, addF_canon _ _, fun r hr => ?_, List.pairwise_append.2 ⟨h.apart, by simp, fun r hr y hy => ?_⟩, fun p => ?_⟩
      · rcases List.mem_append.1 hr with hr | hr
        · exact h.all r hr
        · simp at hr; rw [hr]; exact h1
      · simp at hy; subst hy
        rw [apart_pages (there_iff.1 (h.all r hr)).2.1 hx.2.1]
        rintro p ⟨p1, p2⟩
        have := h3 p (by rw [inL_one']; exact p2)
        rw [← Bool.not_eq_true, h.pages] at this
        exact this (inL_iff.2 ⟨r, hr, inR_iff.1 p1⟩)
      · show inL (addF L [x]) p = true ↔ _
        unfold addF
        rw [inL_listP, Bool.or_eq_true, h.pages, inL_append]
        constructor
        · rintro ⟨_, _, h9⟩; exact h9
        · intro h9
          refine ⟨?_, ?_, h9⟩
          · rcases h9 with h9 | h9
            · exact (allThere_range h.all h9).1
            · exact (allThere_range (allThere_one.2 h1) h9).1
          · rcases h9 with h9 | h9
            · exact (allThere_range h.all h9).2
            · exact (allThere_range (allThere_one.2 h1) h9).2
    · rw [addR_bad (allThere_one.2 h1) (by simp) h2]
      refine .inr ⟨show (9 : Int) ≠ 0 by decide, fun B ⟨_, hB⟩ => h2 ?_⟩
      rw [pairwise_apart_append h.canon (allThere_one.2 h1)]
      refine ⟨fun p hp => ?_, by simp⟩
      rw [← Bool.not_eq_true, h.pages]
      intro h9
      obtain ⟨r, hr, r1⟩ := inL_iff.1 h9
      have hq := (List.pairwise_append.1 (List.pairwise_append.1 hB).1).2.2 r hr x (by simp)
      rw [apart_pages (there_iff.1 (h.all r hr)).2.1 hx.2.1] at hq
      rw [inL_one'] at hp
      exact hq p ⟨inR_iff.2 r1, hp⟩
  · rw [addR_out (fun h9 => h1 (allThere_one.1 h9))]
    exact .inr ⟨show (2 : Int) ≠ 0 by decide, fun B ⟨hB, _⟩ => h1 (hB x (by simp))⟩
theorem Each.all_at_once {L l : List Rn} (h : Each L l.reverse) : addR [] l = (L, 0) := by
  have h1 : AllThere 1024 l := fun r hr => h.all r (by simpa using hr)
  by_cases h0 : l = []
  · subst h0
    rw [addR_none]
    rw [canon_unique [] L (Canon.nil _) h.canon (fun p => by rw [h.pages]; simp)]
  · rw [addR_ok h1 h0 (by rw [List.nil_append]; exact (apart_perm (List.reverse_perm l)).1 h.apart)]
    have : L = addF [] l := canon_unique (q := 1024) _ _ h.canon (addF_canon _ _) (fun p => by
      rw [h.pages]
      unfold addF
      rw [inL_listP]
      have e : inL l.reverse p = inL l p := by simp [inL]
      rw [e]
      constructor
      · intro h9; have := allThere_range h1 h9; exact ⟨this.1, this.2, by rw [h9]; simp⟩
      · rintro ⟨_, _, h9⟩; simpa [inL] using h9)
    rw [← this]
theorem each_bad {l : List Rn} (h : ¬ (AllThere 1024 l.reverse ∧ l.reverse.Pairwise Apart)) : (addR [] l).2 ≠ 0 := by
  by_cases h1 : AllThere 1024 l
  · have h2 : ¬ ([] ++ l).Pairwise Apart := fun h9 => h ⟨fun r hr => h1 r (by simpa using hr), (apart_perm (List.reverse_perm l)).2 (by simpa using h9)⟩
    by_cases h0 : l = []
    · subst h0; exact absurd ⟨fun r hr => by simp at hr, by simp⟩ h
    · rw [addR_bad h1 h0 h2]; show (9 : Int) ≠ 0; decide
  · rw [addR_out h1]; show (2 : Int) ≠ 0; decide
/-- nil: what is wanted of Add, Cut. -/
theorem nil_add (l : List Rn) : nilR l = if 0 < l.length then (if (putB (fun _ => false) l true).2 = 2 then 2 else 9) else 0 := by
  unfold nilR
  by_cases h1 : AllThere 1024 l
  · rw [if_neg (by simpa using h1)]
    by_cases h0 : l = []
    · subst h0; simp
    · rw [if_neg h0, if_pos (List.length_pos_iff.2 h0)]
      by_cases h2 : OkB (fun _ => false) l true
      · rw [putB_ok h1 h2]; simp
      · rw [putB_bad h1 h2]; simp
  · rw [if_pos h1]
    have h0 : l ≠ [] := by rintro rfl; exact h1 (fun r hr => by simp at hr)
    rw [if_pos (List.length_pos_iff.2 h0), putB_out h1]; simp
theorem nil_cut (x : Rn) : (cutR [] x).2 = if there 1024 x = true then 9 else 2 := by
  by_cases h : there 1024 x = true
  · rw [cutR_bad h (by simp), if_pos h]
  · rw [cutR_out h, if_neg h]
end Go.Proofs.YtbldidlbhahciaaGreat

namespace Go.Proofs.YtbldidlbhahciaaGreat
open Go.RowKit Go.Maps Go.WideShapes

theorem keyed_int : Keyed Tryz.prog 3 := int_keyed Tryz.underlying3
theorem zero_bool (w : World) : (zeroValue 4).run Tryz.prog w = .ok (.bool false) w := by kernel_rfl
theorem plain_bool_inv {P : Program} {e : TypeId} (he : P.underlying e = some .bool) {v : Value} {z : DataW Unit × List MemPlace} (h : plainElem P e v = some z) : ∃ b, v = .bool b ∧ z = (.lit (.bool b), []) := by
  unfold plainElem at h
  rw [he] at h
  cases v <;> simp at h
  exact ⟨_, rfl, h.symm⟩

/-- Block b is a map that has just xs. -/
def MetAt (w : World) (b : Nat) (xs : List Int) : Prop :=
  ∃ D : DataW Unit, w.ownsMap Tryz.prog 3 (plainElem Tryz.prog 4) b xs.length D ∧ IsMap D ∧ ∀ k : Int, D.atKey (.int .i64 k) (.lit (.bool false)) = .lit (.bool (decide (k ∈ xs)))

theorem MetAt.made (w : World) : MetAt (w.alloc (.map #[] 0)) w.heap.size [] :=
  ⟨_, World.ownsMap_made w _ _ _, isMap_empty, fun k => by simp [DataW.atKey]⟩
theorem MetAt.lt {w : World} {b : Nat} {xs : List Int} (h : MetAt w b xs) : b < w.heap.size := by
  obtain ⟨D, hD, _⟩ := h
  exact hD.lt
theorem MetAt.fr {S : Nat → Prop} {w w' : World} {b : Nat} {xs : List Int} (h : MetAt w b xs) (k : Fr S w w') (hb : ¬ S b) : MetAt w' b xs := by
  obtain ⟨D, ⟨es, clock, h1, h2, h3, h4⟩, hM, hk⟩ := h
  exact ⟨D, ⟨es, clock, k.heap h1 hb, h2, h3, h4⟩, hM, hk⟩
theorem MetAt.bel {w w' : World} {b : Nat} {xs : List Int} (h : MetAt w b xs) (k : Bel w w') : MetAt w' b xs := h.fr (Fr.of_bel (S := fun _ => False) k) (fun h => h)
/-- Is a number met? -/
theorem MetAt.look {w : World} {b : Nat} {xs : List Int} (h : MetAt w b xs) (k : Int) (hk : (Lit.int .i64 k).wf = true) :
    (Instr.lookup 146 (.map (some b)) (.int .i64 k) false).run Tryz.prog w = .ok (.bool (decide (k ∈ xs))) w := by
  obtain ⟨D, hD, _, hat⟩ := h
  obtain ⟨v, ps, hrun, hv⟩ := hD.lookup keyed_int Tryz.underlying146 (zero_bool w) (plainElem_bool Tryz.underlying4 false) (keyOf_int_mk Tryz.underlying3 hk)
  obtain ⟨c, rfl, hc⟩ := plain_bool_inv Tryz.underlying4 hv
  rw [hat k] at hc
  simp only [Prod.mk.injEq, DataW.lit.injEq, Lit.bool.injEq] at hc
  rw [hrun, hc.1]
/-- A number is met. -/
theorem MetAt.put {w : World} {b : Nat} {xs : List Int} (h : MetAt w b xs) (k : Int) (hk : (Lit.int .i64 k).wf = true) (hl : xs.length < maxLen) :
    ∃ w', (Instr.mapUpdate 146 (.map (some b)) (.int .i64 k) (.bool true)).run Tryz.prog w = .ok () w' ∧ MetAt w' b (k :: xs) ∧ w.grownBy w' (some b) := by
  obtain ⟨D, hD, hM, hat⟩ := h
  obtain ⟨w', hrun, hD', hg⟩ := hD.update keyed_int Tryz.underlying146 hl (keyOf_int_mk Tryz.underlying3 hk) (plainElem_bool Tryz.underlying4 true)
  refine ⟨w', hrun, ⟨_, hD', hM.put _ _, fun j => ?_⟩, hg⟩
  by_cases e : j = k
  · subst e
    rw [atKey_put_same (k := .int .i64 j) hM trivial]
    simp
  · rw [atKey_put_other (by simpa using e), hat j]
    simp [e]
end Go.Proofs.YtbldidlbhahciaaGreat

namespace Go.Proofs.YtbldidlbhahciaaGreat
open Go.RowKit Go.Maps Go.WideShapes

/-- A span: its number, its run, its order. -/
abbrev Sp := Int × (Int × Int) × Int
def spCells (s : Sp) : List Value := [.int .i64 s.1, .int .i64 s.2.1.1, .int .i64 s.2.1.2, .int .i64 s.2.2]
def spV (s : Sp) : Value := .agg #[.int .i64 s.1, .int .i64 s.2.1.1, .int .i64 s.2.1.2, .int .i64 s.2.2]
def sp0 : Sp := (0, (0, 0), 0)
def spanR (v : Value) : Option (DataW Sp × List MemPlace) :=
  match v with
  | .agg cs => match cs.toList with
    | [.int .i64 a, .int .i64 b, .int .i64 c, .int .i64 d] => some (.held (a, (b, c), d), [])
    | _ => none
  | _ => none
theorem spanR_mk (s : Sp) : spanR (spV s) = some (.held s, []) := rfl
theorem spanR_inv {v : Value} {z : DataW Sp × List MemPlace} (h : spanR v = some z) : ∃ s, v = spV s ∧ z = (.held s, []) := by
  unfold spanR at h
  split at h
  · rename_i cs
    split at h
    · rename_i a b c d he
      simp only [Option.some.injEq] at h
      refine ⟨(a, (b, c), d), ?_, h.symm⟩
      have : cs = #[.int .i64 a, .int .i64 b, .int .i64 c, .int .i64 d] := Array.toList_inj.1 (by simpa using he)
      rw [this]; rfl
    · cases h
  · cases h
theorem zero_span (w : World) : (zeroValue 33).run Tryz.prog w = .ok (spV sp0) w := by kernel_rfl

/-- What stands at a number. -/
def look (S : List Sp) (k : Int) : DataW Sp := match S.find? (fun s => s.1 == k) with | some s => .held s | none => .nil
def getS (S : List Sp) (k : Int) : Option Sp := S.find? (fun s => s.1 == k)
theorem look_some {S : List Sp} {k : Int} {s : Sp} (h : getS S k = some s) : look S k = .held s := by
  unfold getS at h
  unfold look; rw [h]
theorem look_none {S : List Sp} {k : Int} (h : getS S k = none) : look S k = .nil := by
  unfold getS at h
  unfold look; rw [h]
theorem look_or (S : List Sp) (k : Int) : (getS S k = none ∧ look S k = .nil) ∨ ∃ s, getS S k = some s ∧ look S k = .held s := by
  cases h : getS S k with
  | none => exact .inl ⟨rfl, look_none h⟩
  | some s => exact .inr ⟨s, rfl, look_some h⟩
theorem getS_mem {S : List Sp} {k : Int} {s : Sp} (h : getS S k = some s) : s ∈ S ∧ s.1 = k := by
  unfold getS at h
  exact ⟨List.mem_of_find?_eq_some h, by simpa using List.find?_some h⟩
theorem getS_none {S : List Sp} {k : Int} : getS S k = none ↔ ∀ s ∈ S, s.1 ≠ k := by
  unfold getS
  rw [List.find?_eq_none]
  simp
theorem getS_of_mem {S : List Sp} (hd : (S.map (·.1)).Nodup) {s : Sp} (h : s ∈ S) : getS S s.1 = some s := by
  induction S with
  | nil => simp at h
  | cons a S ih =>
    simp only [List.map_cons, List.nodup_cons] at hd
    unfold getS
    rcases List.mem_cons.1 h with rfl | h
    · simp
    · rw [List.find?_cons_of_neg]
      · exact ih hd.2 h
      · simp only [beq_iff_eq]
        intro e
        exact hd.1 (by rw [e]; exact List.mem_map_of_mem h)
theorem getS_filter {S : List Sp} {p : Int → Bool} {k : Int} : getS (S.filter (fun s => !p s.1)) k = if p k then none else getS S k := by
  unfold getS
  induction S with
  | nil => simp
  | cons a S ih =>
    by_cases hp : p a.1 = true
    · rw [List.filter_cons_of_neg (by simp [hp]), ih]
      by_cases hk : a.1 = k
      · rw [← hk, if_pos hp, if_pos hp]
      · rw [List.find?_cons_of_neg (by simpa using hk)]
    · rw [List.filter_cons_of_pos (by simpa using hp)]
      by_cases hk : a.1 = k
      · rw [← hk, if_neg hp]; simp
      · rw [List.find?_cons_of_neg (by simpa using hk), List.find?_cons_of_neg (by simpa using hk)]
        exact ih
theorem getS_snoc {S : List Sp} {s : Sp} (hn : getS S s.1 = none) (k : Int) : getS (S ++ [s]) k = if k = s.1 then some s else getS S k := by
  unfold getS at *
  rw [List.find?_append]
  by_cases hk : k = s.1
  · subst hk; rw [if_pos rfl, hn]; simp
  · rw [if_neg hk]
    cases h : S.find? (fun x => x.1 == k) with
    | some y => rfl
    | none =>
      have : (s.1 == k) = false := by simpa using Ne.symm hk
      simp [this]

/-- Block b is a map of just those spans. -/
structure SpansAt (w : World) (b n : Nat) (S : List Sp) : Prop where
  nd : (S.map (·.1)).Nodup
  map : ∃ D : DataW Sp, w.ownsMap Tryz.prog 3 spanR b n D ∧ ∀ k : Int, D.atKey (.int .i64 k) .nil = look S k
theorem SpansAt.made (w : World) : SpansAt (w.alloc (.map #[] 0)) w.heap.size 0 [] :=
  ⟨by simp, _, World.ownsMap_made w _ _ _, fun k => by simp [DataW.atKey, look]⟩
theorem SpansAt.lt {w : World} {b n : Nat} {S : List Sp} (h : SpansAt w b n S) : b < w.heap.size := by
  obtain ⟨D, hD, _⟩ := h.map
  exact hD.lt
theorem ownsMap_fr {H : Type} {Q : Nat → Prop} {w w' : World} {P : Program} {k : TypeId} {R : Value → Option (DataW H × List MemPlace)} {b n : Nat} {D : DataW H} (h : w.ownsMap P k R b n D) (kf : Fr Q w w') (hb : ¬ Q b) : w'.ownsMap P k R b n D := by
  obtain ⟨es, clock, h1, h2, h3, h4⟩ := h
  exact ⟨es, clock, kf.heap h1 hb, h2, h3, h4⟩
theorem SpansAt.fr {Q : Nat → Prop} {w w' : World} {b n : Nat} {S : List Sp} (h : SpansAt w b n S) (k : Fr Q w w') (hb : ¬ Q b) : SpansAt w' b n S := by
  obtain ⟨D, hD, hk⟩ := h.map
  exact ⟨h.nd, D, ownsMap_fr hD k hb, hk⟩
theorem SpansAt.bel {w w' : World} {b n : Nat} {S : List Sp} (h : SpansAt w b n S) (k : Bel w w') : SpansAt w' b n S := h.fr (Fr.of_bel (S := fun _ => False) k) (fun h => h)
theorem SpansAt.map? {w : World} {b n : Nat} {S : List Sp} (h : SpansAt w b n S) : ∃ es clock, w.heap[b]? = some (.map es clock) := by
  obtain ⟨D, ⟨es, clock, h1, _⟩, _⟩ := h.map
  exact ⟨es, clock, h1⟩
/-- 's, ok := m[k]'. -/
theorem SpansAt.get {w : World} {b n : Nat} {S : List Sp} (h : SpansAt w b n S) (k : Int) (hk : (Lit.int .i64 k).wf = true) :
    (Instr.lookup 72 (.map (some b)) (.int .i64 k) true).run Tryz.prog w = .ok (.tuple #[spV ((getS S k).getD sp0), .bool (getS S k).isSome]) w := by
  obtain ⟨D, ⟨es, clock, hb, F, _, rfl⟩, hat⟩ := h.map
  have hkk := hat k
  rcases Maps.fit_look true keyed_int Tryz.underlying72 (zero_span w) hb F (keyOf_int_mk Tryz.underlying3 hk) with ⟨hrun, _, h2⟩ | ⟨e0, y, _, _, hrun, hR, h2, _⟩
  · rw [h2 .nil] at hkk
    rcases look_or S k with ⟨h3, _⟩ | ⟨s, _, h4⟩
    · rw [hrun, h3]; rfl
    · rw [h4] at hkk; cases hkk
  · obtain ⟨s, h3, rfl⟩ := spanR_inv hR
    rw [h2 .nil] at hkk
    rcases look_or S k with ⟨_, h4⟩ | ⟨s', h3', h4⟩
    · rw [h4] at hkk; cases hkk
    · rw [h4] at hkk
      cases hkk
      rw [hrun, h3', h3]; rfl
/-- Another span. -/
theorem SpansAt.put {w : World} {b n : Nat} {S : List Sp} (h : SpansAt w b n S) (s : Sp) (hk : (Lit.int .i64 s.1).wf = true) (hl : n < maxLen) (hn : getS S s.1 = none) :
    ∃ w', (Instr.mapUpdate 72 (.map (some b)) (.int .i64 s.1) (spV s)).run Tryz.prog w = .ok () w' ∧ SpansAt w' b (n + 1) (S ++ [s]) ∧ w.grownBy w' (some b) := by
  obtain ⟨D, hD, hat⟩ := h.map
  obtain ⟨es, rfl, _⟩ := hD.entries keyed_int
  obtain ⟨w', hrun, hD', hg⟩ := hD.update keyed_int Tryz.underlying72 hl (keyOf_int_mk Tryz.underlying3 hk) (spanR_mk s)
  refine ⟨w', hrun, ⟨?_, _, hD', fun j => ?_⟩, hg⟩
  · rw [List.map_append, List.nodup_append]
    refine ⟨h.nd, by simp, fun a ha c hc => ?_⟩
    simp at hc
    subst hc
    obtain ⟨t, ht, rfl⟩ := List.mem_map.1 ha
    exact getS_none.1 hn t ht
  · have hs := getS_snoc hn j
    by_cases e : j = s.1
    · subst e
      rw [if_pos rfl] at hs
      rw [atKey_put_same (k := .int .i64 s.1) ⟨es, rfl⟩ trivial, look_some hs]
    · rw [if_neg e] at hs
      rw [atKey_put_other (by simpa using e), hat j]
      rcases look_or S j with ⟨h1, h2⟩ | ⟨t, h1, h2⟩
      · rw [h2, look_none (hs.trans h1)]
      · rw [h2, look_some (hs.trans h1)]
/-- Some struck out. -/
theorem look_filter {S : List Sp} {D : DataW Sp} {es : List (Lit × DataW Sp)} (hD : D = .map es) (hat : ∀ k : Int, D.atKey (.int .i64 k) .nil = look S k) (p : Int → Bool) (pd : Lit → DataW Sp → Bool) (hpd : ∀ k d, pd (.int .i64 k) d = p k) :
    ∀ k : Int, (Lib.deleteFuncD pd D).atKey (.int .i64 k) .nil = look (S.filter (fun s => !p s.1)) k := by
  intro k
  subst hD
  have hk := hat k
  have hf := getS_filter (S := S) (p := p) (k := k)
  simp only [Lib.deleteFuncD, DataW.atKey] at hk ⊢
  by_cases hp : p k = true
  · rw [if_pos hp] at hf
    rw [look_none hf]
    have : (es.filter fun q => !pd q.1 q.2).find? (fun q => q.1.sameKey (.int .i64 k)) = none := by
      rw [List.find?_eq_none]
      intro q hq hs
      have e1 := WideAt.sameKey_eq hs
      have := (List.mem_filter.1 hq).2
      rw [e1, hpd, hp] at this
      cases this
    rw [this]
  · rw [if_neg hp] at hf
    rw [find_filter_keep (fun q hs => by
      have e1 := WideAt.sameKey_eq hs
      rw [e1, hpd]; simpa using hp)]
    rw [hk]
    rcases look_or S k with ⟨h1, h2⟩ | ⟨t, h1, h2⟩
    · rw [h2, look_none (hf.trans h1)]
    · rw [h2, look_some (hf.trans h1)]
end Go.Proofs.YtbldidlbhahciaaGreat

namespace Go.Proofs.YtbldidlbhahciaaGreat

/-- Free runs, page numbers, spans agree. -/
structure HInv (ids : List Int) (L : List Rn) (S : List Sp) (last : Nat) : Prop where
  canon : Canon 1024 L
  lo : 4 ≤ ids.length
  hi : ids.length ≤ 1024
  nd : (S.map (·.1)).Nodup
  free : ∀ p, inL L p = true ↔ 0 ≤ p ∧ p < ids.length ∧ wd ids p = 0
  span : ∀ s ∈ S, 1 ≤ s.1 ∧ s.1 ≤ last ∧ there ids.length s.2.1 = true ∧ ∀ p, inR s.2.1 p = true → wd ids p = s.1
  all : ∀ p : Int, 0 ≤ p → p < ids.length → wd ids p ≠ 0 → ∃ s ∈ S, inR s.2.1 p = true
theorem HInv.start {n : Nat} (h1 : 4 ≤ n) (h2 : n ≤ 1024) : HInv (List.replicate n 0) [(0, (n : Int))] [] 0 := by
  have hw : ∀ p : Int, wd (List.replicate n 0) p = 0 := fun p => by
    unfold wd
    rw [List.getD_eq_getElem?_getD, List.getElem?_replicate]
    split <;> rfl
  refine ⟨⟨by intro r hr; simp at hr; subst hr; exact ⟨by simp, by simp; omega, by simp; omega⟩, by simp⟩, by simpa using h1, by simpa using h2, by simp, fun p => ?_, fun s hs => by simp at hs, fun p _ _ h => absurd (hw p) h⟩
  rw [inL_one, hw, List.length_replicate]
  omega
theorem inR_fst {r : Rn} (h : 1 ≤ r.2) : inR r r.1 = true := inR_iff.2 ⟨by omega, by omega⟩
/-- Two spans share no page. -/
theorem HInv.apart {ids : List Int} {L : List Rn} {S : List Sp} {last : Nat} (h : HInv ids L S last) {s t : Sp} (hs : s ∈ S) (ht : t ∈ S) (hne : s.1 ≠ t.1) : Apart s.2.1 t.2.1 := by
  obtain ⟨s0, s1, s2, s3⟩ := h.span s hs
  obtain ⟨t0, t1, t2, t3⟩ := h.span t ht
  rw [apart_pages (there_iff.1 s2).2.1 (there_iff.1 t2).2.1]
  rintro p ⟨p1, p2⟩
  exact hne ((s3 p p1).symm.trans (t3 p p2))
theorem HInv.eq {ids : List Int} {L : List Rn} {S : List Sp} {last : Nat} (h : HInv ids L S last) {s t : Sp} (hs : s ∈ S) (ht : t ∈ S) (he : s.1 = t.1) : s = t := by
  have h1 := getS_of_mem h.nd hs
  have h2 := getS_of_mem h.nd ht
  rw [he] at h1
  rw [h1] at h2
  exact Option.some.inj h2
theorem there_le {n m : Nat} {r : Rn} (h : there n r = true) (hm : n ≤ m) : there m r = true := by
  rw [there_iff] at *
  omega

/-! ### Make -/
/-- Another span of the tightest run. -/
structure Made (ids : List Int) (L : List Rn) (S : List Sp) (last : Nat) (n ord : Int) (t : Int) (L' : List Rn) (ids' : List Int) : Prop where
  take : takeR L n = (L', (t, n), true)
  set : putF ids ((last : Int) + 1) [(t, n)] false = (ids', 0)
  fresh : getS S ((last : Int) + 1) = none
  inv : HInv ids' L' (S ++ [((last : Int) + 1, (t, n), ord)]) (last + 1)
  len : ids'.length = ids.length
  t0 : 0 ≤ t
  t1 : t ≤ 1024
  n1 : n ≤ 1024
  ids' : ids' = fillA ids ((last : Int) + 1) [(t, n)]
  back : addR L' [(t, n)] = (L, 0)
theorem HInv.make {ids : List Int} {L : List Rn} {S : List Sp} {last : Nat} (h : HInv ids L S last) (n ord : Int) :
    (takeR L n = (L, (0, 0), false) ∧ bestF L n = (0, 0)) ∨ ∃ t L' ids', Made ids L S last n ord t L' ids' ∧ 1 ≤ n ∧ (bestF L n).1 = t ∧ 0 < (bestF L n).2 := by
  rcases best_or L n h.canon with ⟨hb, _⟩ | ⟨hn1, hmem, hle, hpos, hth, hany⟩
  · exact .inl ⟨by unfold takeR; rw [hb, if_neg (by decide)], hb⟩
  · obtain ⟨t, ht⟩ : ∃ t, (bestF L n).1 = t := ⟨_, rfl⟩
    rw [ht] at hth hany
    have hsub : ∀ p, inR (t, n) p = true → inL L p = true := (has_run h.canon (by exact hn1)).1 (List.any_eq_true.1 hany)
    obtain ⟨t0, t1, t2, t3⟩ := there_iff.1 hth
    dsimp only at t0 t1 t2 t3
    have hth2 : there ids.length (t, n) = true := by
      have h1 := (h.free (t + n - 1)).1 (hsub _ (inR_iff.2 ⟨by show t ≤ _; omega, by show _ < t + n; omega⟩))
      rw [there_iff]
      dsimp only
      omega
    have hall : AllThere ids.length [(t, n)] := by intro r hr; simp at hr; subst hr; exact hth2
    have hno : NoneSet ids [(t, n)] := fun p h0 h1 hp => by
      have hp2 : inR (t, n) p = true := by simpa using hp
      exact ((h.free p).1 (hsub p hp2)).2.2
    have hw : ∀ p : Int, 0 ≤ p → p < ids.length → wd (fillA ids ((last : Int) + 1) [(t, n)]) p = if inR (t, n) p = true then (last : Int) + 1 else wd ids p := fun p h0 h1 => by
      rw [wd_fillA h0 h1]; simp
    refine .inr ⟨t, cutF L (t, n), fillA ids ((last : Int) + 1) [(t, n)], ⟨?_, set_ok (by omega) hall hno (by simp), ?_, ?_, fillA_length _ _ _, t0, by omega, by omega, rfl, cut_back h.canon hth hany⟩, hn1, ht, hpos⟩
    · unfold takeR; rw [if_pos hpos, ht]
    · rw [getS_none]
      intro s hs
      have := (h.span s hs).2.1
      omega
    · refine ⟨cutF_canon _ _, by rw [fillA_length]; exact h.lo, by rw [fillA_length]; exact h.hi, ?_, fun p => ?_, fun s hs => ?_, fun p h0 h1 hne => ?_⟩
      · rw [List.map_append, List.nodup_append]
        refine ⟨h.nd, by simp, fun a ha b hb => ?_⟩
        simp at hb
        obtain ⟨s, hs, rfl⟩ := List.mem_map.1 ha
        have := (h.span s hs).2.1
        omega
      · rw [inL_cutF, h.free p, fillA_length]
        have := h.hi
        constructor
        · rintro ⟨p0, p1, ⟨_, p2, p3⟩, p4⟩
          refine ⟨p0, p2, ?_⟩
          rw [hw p p0 p2, if_neg (by rw [p4]; simp), p3]
        · rintro ⟨p0, p1, p2⟩
          rw [hw p p0 p1] at p2
          by_cases hc : inR (t, n) p = true
          · rw [if_pos hc] at p2; omega
          · rw [if_neg hc] at p2
            exact ⟨p0, by omega, ⟨p0, p1, p2⟩, by simpa using hc⟩
      · rw [fillA_length]
        rcases List.mem_append.1 hs with hs | hs
        · obtain ⟨s0, s1, s2, s3⟩ := h.span s hs
          refine ⟨s0, by omega, s2, fun p hp => ?_⟩
          have hr := inR_iff.1 hp
          have hs2 := there_iff.1 s2
          rw [hw p (by omega) (by omega), if_neg]
          · exact s3 p hp
          · intro hc
            have h9 := ((h.free p).1 (hsub p hc)).2.2
            rw [s3 p hp] at h9; omega
        · simp at hs
          subst hs
          refine ⟨by show (1 : Int) ≤ (last : Int) + 1; omega, by show (last : Int) + 1 ≤ ((last + 1 : Nat) : Int); omega, hth2, fun p hp => ?_⟩
          have hr := inR_iff.1 hp
          have hs2 := there_iff.1 hth2
          dsimp only at hr hs2
          rw [hw p (by omega) (by omega), if_pos hp]
      · rw [fillA_length] at h1
        rw [hw p h0 h1] at hne
        by_cases hc : inR (t, n) p = true
        · exact ⟨((last : Int) + 1, (t, n), ord), List.mem_append.2 (.inr (by simp)), hc⟩
        · rw [if_neg hc] at hne
          obtain ⟨s, hs, hp⟩ := h.all p h0 h1 hne
          exact ⟨s, List.mem_append.2 (.inl hs), hp⟩

/-! ### Free -/
/-- The numbers' runs. -/
def runsOf (S : List Sp) (l : List Int) : List Rn := l.map fun k => ((getS S k).getD sp0).2.1
theorem runsOf_snoc (S : List Sp) (l : List Int) (k : Int) (s : Sp) (h : getS S k = some s) : runsOf S (l ++ [k]) = runsOf S l ++ [s.2.1] := by simp [runsOf, h]
/-- What Free leaves. -/
structure Freed (ids : List Int) (L : List Rn) (S : List Sp) (last : Nat) (l : List Int) (L' : List Rn) (ids' : List Int) : Prop where
  drop : putF ids 0 (runsOf S l) true = (ids', 0)
  add : addR L (runsOf S l) = (L', 0)
  inv : HInv ids' L' (S.filter fun s => !decide (s.1 ∈ l)) last
  len : ids'.length = ids.length
  ok : ∀ r ∈ runsOf S l, 0 ≤ r.1 ∧ 1 ≤ r.2 ∧ r.1 + r.2 ≤ 1024
theorem runsOf_get {S : List Sp} {l : List Int} (h : ∀ k ∈ l, (getS S k).isSome = true) {r : Rn} : r ∈ runsOf S l ↔ ∃ s ∈ S, s.1 ∈ l ∧ getS S s.1 = some s ∧ s.2.1 = r := by
  unfold runsOf
  rw [List.mem_map]
  constructor
  · rintro ⟨k, hk, rfl⟩
    obtain ⟨s, hs⟩ := Option.isSome_iff_exists.1 (h k hk)
    obtain ⟨h1, h2⟩ := getS_mem hs
    refine ⟨s, h1, by rw [h2]; exact hk, by rw [h2]; exact hs, by rw [hs]; rfl⟩
  · rintro ⟨s, hs, hk, hg, rfl⟩
    exact ⟨s.1, hk, by rw [hg]; rfl⟩
theorem HInv.freed {ids : List Int} {L : List Rn} {S : List Sp} {last : Nat} (h : HInv ids L S last) {l : List Int} (hl : ∀ k ∈ l, (getS S k).isSome = true) (hn : l.Nodup) : ∃ L' ids', Freed ids L S last l L' ids' := by
  have hmem : ∀ {r : Rn}, r ∈ runsOf S l ↔ ∃ s ∈ S, s.1 ∈ l ∧ getS S s.1 = some s ∧ s.2.1 = r := fun {r} => runsOf_get hl
  have hall : AllThere ids.length (runsOf S l) := fun r hr => by
    obtain ⟨s, hs, _, _, rfl⟩ := hmem.1 hr
    exact (h.span s hs).2.2.1
  have hin : ∀ p, inL (runsOf S l) p = true ↔ 0 ≤ p ∧ p < ids.length ∧ wd ids p ≠ 0 ∧ wd ids p ∈ l := fun p => by
    rw [inL_iff]
    constructor
    · rintro ⟨r, hr, r1⟩
      obtain ⟨s, hs, hk, _, rfl⟩ := hmem.1 hr
      obtain ⟨s0, s1, s2, s3⟩ := h.span s hs
      have hs2 := there_iff.1 s2
      have hw := s3 p (inR_iff.2 r1)
      exact ⟨by omega, by omega, by omega, by rw [hw]; exact hk⟩
    · rintro ⟨p0, p1, p2, p3⟩
      obtain ⟨s, hs, hp⟩ := h.all p p0 p1 p2
      have hw := (h.span s hs).2.2.2 p hp
      exact ⟨s.2.1, hmem.2 ⟨s, hs, by rw [← hw]; exact p3, getS_of_mem h.nd hs, rfl⟩, inR_iff.1 hp⟩
  have hany : ∀ p, (runsOf S l).any (inR · p) = inL (runsOf S l) p := fun _ => rfl
  have heach : EachSet ids (runsOf S l) := fun p h0 h1 hp => by
    rw [hany] at hp
    exact ((hin p).1 hp).2.2.1
  have hap : (runsOf S l).Pairwise Apart := by
    unfold runsOf
    rw [List.pairwise_map]
    refine List.Pairwise.imp_of_mem ?_ hn
    intro a b ha hb hne
    obtain ⟨s, hs⟩ := Option.isSome_iff_exists.1 (hl a ha)
    obtain ⟨t, ht⟩ := Option.isSome_iff_exists.1 (hl b hb)
    rw [hs, ht]
    obtain ⟨s1, s2⟩ := getS_mem hs
    obtain ⟨t1, t2⟩ := getS_mem ht
    exact h.apart (s := s) (t := t) s1 t1 (by rw [s2, t2]; exact hne)
  have hall2 : AllThere 1024 (runsOf S l) := fun r hr => there_le (hall r hr) h.hi
  have hw : ∀ p : Int, 0 ≤ p → p < ids.length → wd (fillA ids 0 (runsOf S l)) p = if inL (runsOf S l) p = true then 0 else wd ids p := fun p h0 h1 => by
    rw [wd_fillA h0 h1, hany]
  have hpw : (L ++ runsOf S l).Pairwise Apart := (pairwise_apart_append h.canon hall2).2 ⟨fun p hp => by
    rw [← Bool.not_eq_true, h.free p]
    rintro ⟨_, _, h9⟩
    exact ((hin p).1 hp).2.2.1 h9, hap⟩
  refine ⟨(addR L (runsOf S l)).1, _, drop_ok hall heach, ?_, ?_, fillA_length _ _ _, fun r hr => by have := there_iff.1 (hall2 r hr); omega⟩
  · by_cases h0 : runsOf S l = []
    · rw [h0, addR_none]
    · rw [addR_ok hall2 h0 hpw]
  · have hLL : Canon 1024 (addR L (runsOf S l)).1 ∧ ∀ p, inL (addR L (runsOf S l)).1 p = true ↔ inL L p = true ∨ inL (runsOf S l) p = true := by
      by_cases h0 : runsOf S l = []
      · rw [h0, addR_none]
        exact ⟨h.canon, fun p => by simp [inL]⟩
      · rw [addR_ok hall2 h0 hpw]
        dsimp only
        refine ⟨addF_canon _ _, fun p => ?_⟩
        unfold addF
        rw [inL_listP, Bool.or_eq_true]
        constructor
        · exact fun h9 => h9.2.2
        · intro h9
          refine ⟨?_, ?_, h9⟩
          · rcases h9 with h9 | h9
            · exact ((h.free p).1 h9).1
            · exact (allThere_range hall2 h9).1
          · have := h.hi
            rcases h9 with h9 | h9
            · have := ((h.free p).1 h9).2.1; omega
            · exact (allThere_range hall2 h9).2
    refine ⟨hLL.1, by rw [fillA_length]; exact h.lo, by rw [fillA_length]; exact h.hi, ?_, fun p => ?_, fun s hs => ?_, fun p h0 h1 hne => ?_⟩
    · exact (h.nd.sublist (List.Sublist.map _ List.filter_sublist))
    · rw [hLL.2, h.free, fillA_length]
      constructor
      · rintro (⟨p0, p1, p2⟩ | h9)
        · refine ⟨p0, p1, ?_⟩
          rw [hw p p0 p1]
          split
          · rfl
          · exact p2
        · have h8 := (hin p).1 h9
          exact ⟨h8.1, h8.2.1, by rw [hw p h8.1 h8.2.1, if_pos h9]⟩
      · rintro ⟨p0, p1, p2⟩
        rw [hw p p0 p1] at p2
        by_cases hc : inL (runsOf S l) p = true
        · exact .inr hc
        · rw [if_neg hc] at p2; exact .inl ⟨p0, p1, p2⟩
    · rw [fillA_length]
      obtain ⟨hs1, hs2⟩ := List.mem_filter.1 hs
      obtain ⟨s0, s1, s2, s3⟩ := h.span s hs1
      refine ⟨s0, s1, s2, fun p hp => ?_⟩
      have hr := inR_iff.1 hp
      have ht := there_iff.1 s2
      rw [hw p (by omega) (by omega), if_neg]
      · exact s3 p hp
      · rw [hin p, s3 p hp]
        rintro ⟨_, _, _, h9⟩
        simp [h9] at hs2
    · rw [fillA_length] at h1
      rw [hw p h0 h1] at hne
      by_cases hc : inL (runsOf S l) p = true
      · rw [if_pos hc] at hne; exact absurd rfl hne
      · rw [if_neg hc] at hne
        obtain ⟨s, hs, hp⟩ := h.all p h0 h1 hne
        refine ⟨s, List.mem_filter.2 ⟨hs, ?_⟩, hp⟩
        have hws := (h.span s hs).2.2.2 p hp
        simp only [Bool.not_eq_true', decide_eq_false_iff_not]
        intro h9
        exact hc ((hin p).2 ⟨h0, h1, hne, by rw [hws]; exact h9⟩)
end Go.Proofs.YtbldidlbhahciaaGreat

namespace Go.Proofs.YtbldidlbhahciaaGreat
open Go.RowKit Go.Maps Go.WideShapes Go.Shelf

theorem MetAt.grown {w w' : World} {b : Nat} {xs : List Int} {row : Option Nat} (h : MetAt w b xs) (k : w.grownBy w' row) (hb : row ≠ some b) : MetAt w' b xs := by
  obtain ⟨D, hD, hM, hk⟩ := h
  exact ⟨D, hD.kept k (Ne.symm hb), hM, hk⟩
set_option maxRecDepth 20000 in
theorem free1_call (k : Int) (s : Sp) (g bm : Nat) (xs : List Int) (W : World) (hk : (Lit.int .i64 k).wf = true) (hg : W.cell? ⟨g, 0, none⟩ = some (.map (some bm))) (hM : MetAt W bm xs) :
    Calls Tryz.prog 93 #[.int .i64 k, spV s, .pointer (some ⟨g, 0, none⟩)] W fun e w' => e = .returned (.bool (decide (k ∈ xs))) ∧ W.grownBy w' none := by
  have hlk := (hM.bel ((Bel.refl W).alloc (.cells #[.int .i64 s.1, .int .i64 s.2.1.1, .int .i64 s.2.1.2, .int .i64 s.2.2] 33))).look k hk
  have hg2 := ((Bel.refl W).alloc (.cells #[.int .i64 s.1, .int .i64 s.2.1.1, .int .i64 s.2.1.2, .int .i64 s.2.2] 33)).cell hg
  unfold spV
  go_enter Tryz.func93, Tryz.ntmps93
  go_wp2
  go_ret
  exact ⟨rfl, World.grownBy_alloc _ _ _⟩
theorem free1_enters : Enters 93 := enters_of Tryz.func93 (by kernel_rfl) rfl

set_option maxHeartbeats 4000000 in
set_option maxRecDepth 100000 in
theorem delete_spans (b n : Nat) (S : List Sp) (xs : List Int) (g bm : Nat) (w : World) (hS : SpansAt w b n S) (hM : MetAt w bm xs) (hg : w.cell? ⟨g, 0, none⟩ = some (.map (some bm))) (hbm : bm ≠ b) (hgb : g ≠ b) :
    Calls Tryz.prog 92 #[.map (some b), .func (.func 93) #[] #[.pointer (some ⟨g, 0, none⟩)]] w fun e w' =>
      e = .returned (.tuple #[]) ∧ SpansAt w' b n (S.filter fun s => !decide (s.1 ∈ xs)) ∧ w.grownBy w' (some b) := by
  obtain ⟨D, hown, hat⟩ := hS.map
  obtain ⟨es0, rfl, hap, hkeys⟩ := hown.entries keyed_int
  obtain ⟨pd, hpd⟩ : ∃ pd : Lit → DataW Sp → Bool, ∀ k d, pd (.int .i64 k) d = decide (k ∈ xs) := ⟨fun l _ => match l with | .int _ k => decide (k ∈ xs) | _ => false, fun k d => rfl⟩
  have HFIN : Hid (∀ w', w'.ownsMap Tryz.prog 3 spanR b n (Lib.deleteFuncD pd (.map es0)) → SpansAt w' b n (S.filter fun s => !decide (s.1 ∈ xs))) := Lib.hid (fun w' h => ⟨hS.nd.sublist (List.Sublist.map _ List.filter_sublist), _, h, look_filter rfl hat (fun k => decide (k ∈ xs)) pd hpd⟩)
  have eg := free1_enters
  have HD : Hid (∀ W (k : Int) (s : Sp), w.grownBy W (some b) → (Lit.int .i64 k).wf = true → Calls Tryz.prog 93 #[.int .i64 k, spV s, .pointer (some ⟨g, 0, none⟩)] W fun e w' => e = .returned (.bool (decide (k ∈ xs))) ∧ W.grownBy w' none) := Lib.hid (fun W k s hW hk =>
    free1_call k s g bm xs W hk (hW.cell hg (by simpa using hgb)) (hM.grown hW (by simpa using Ne.symm hbm)))
  unfold Enters at eg
  go_enter Tryz.func92, Tryz.ntmps92
  go_wp2_with (first
    | (at_range; refine wpList_range_own _ rfl _ 72 rfl 3 33 keyed_int Tryz.underlying72 spanR b n _ rfl hown ?_; intro w0 hrg0 hg0 hs0)
    | go_in)
  go_frame
  go_loopw [8] (fun _ wr => ∃ (left : Lit → Bool) (cnt : Nat), wr.ranges Tryz.prog 3 spanR b w.heap.size n (Fk pd es0 left) left cnt ∧ w.grownBy wr (some b))
    (fun _ wr => wr.rangeLeft b w.heap.size)
  case atStart => exact ⟨_, _, by rw [Fk_start hkeys]; exact hrg0, hg0.but _⟩
  case round =>
    obtain ⟨left, cnt, hrg, hgw⟩ := hrel
    go_wp2_with (first
      | (at_next; refine wpList_next_ranges _ rfl _ rfl 3 keyed_int spanR (Value.int .i64) spV (fun key kl hk => by obtain ⟨x, rfl, _⟩ := Maps.keyOf_int_inv Tryz.underlying3 hk; exact ⟨x, rfl⟩) (fun v y hv => by obtain ⟨c, rfl, _⟩ := spanR_inv hv; exact ⟨c, rfl⟩) b w.heap.size n _ _ _ rfl hrg ?_ ?_)
      | go_in)
    · intro _ hl0
      go_wp2
      go_end0
      exact ⟨rfl, HFIN.out _ (by rw [← Fk_end hl0]; exact hrg.owns), hgw⟩
    · intro x a1 a2 a3 a4 kl yd yp w1 cnt1 hkey hlx hv hat1 hrg1 hlt hg1 hs1 hen
      obtain ⟨x', ex, rfl, hwx⟩ := Maps.keyOf_int_inv Tryz.underlying3 hkey
      obtain rfl : x = x' := by simpa using ex
      have hgw1 := hgw.andThen hg1 (fun j hj => by cases hj; exact Or.inl (Nat.le_refl _))
      have hgw2 := hgw1.andThen (World.grownBy_alloc w1 (.cells #[.int .i64 a1, .int .i64 a2, .int .i64 a3, .int .i64 a4] 33) none) (fun j hj => by cases hj)
      have hrg2 := hrg1.alloc (.cells #[.int .i64 a1, .int .i64 a2, .int .i64 a3, .int .i64 a4] 33)
      have hc := HD.out _ x (a1, (a2, a3), a4) hgw2 hwx
      have hp0 : pd (.int .i64 x) yd = decide (x ∈ xs) := hpd x yd
      have q0 := blk_cell (blk_alloc w1 (.cells #[.int .i64 a1, .int .i64 a2, .int .i64 a3, .int .i64 a4] 33))
      have q00 := q0 0
      have q01 := q0 1
      have q02 := q0 2
      have q03 := q0 3
      clear q0
      simp only [spV] at hen hc ⊢
      obtain ⟨p, hp⟩ : ∃ p, decide (x ∈ xs) = p := ⟨_, rfl⟩
      rw [hp] at hc hp0
      have HC := Lib.hid hc
      have HR2 := Lib.hid hrg2
      have HGW := Lib.hid hgw2
      clear hc hrg2 hgw2
      cases p
      · go_wp2_with (first
          | (go_at_fn 93; refine HC.out.mono ?_; rintro e w2 ⟨rfl, hg2⟩)
          | go_in)
        have hrg3 := HR2.out.kept hg2 (by simp) (by simp)
        go_roundw
        case rel => exact ⟨_, cnt1, by rw [← Fk_stays hap (keyed_int.key hkey) hlx hp0 hat1]; exact hrg3, HGW.out.andThen hg2 (fun j hj => by cases hj)⟩
        case measure => rw [hrg3.left_eq, hrg.left_eq]; exact hlt
      · go_wp2_with (first
          | (go_at_fn 93; refine HC.out.mono ?_; rintro e w2 ⟨rfl, hg2⟩; have hrg3 := HR2.out.kept hg2 (by simp) (by simp))
          | (at_delete; refine wpList_delete_ranges _ rfl _ _ 72 3 rfl 33 keyed_int Tryz.underlying72 spanR b w.heap.size n _ _ _ rfl hrg3 _ _ rfl hkey ?_; intro w3 cnt3 hrg4 hle hturn; go_frame)
          | go_in)
        rw [strike_twice] at hrg4
        go_roundw
        case rel => exact ⟨_, cnt3, by rw [← Fk_struck hap (keyed_int.key hkey) hlx hp0 hat1]; exact hrg4, (HGW.out.andThen hg2 (fun j hj => by cases hj)).andThen hturn.grown (fun j hj => by cases hj; exact Or.inr rfl)⟩
        case measure => rw [hrg4.left_eq, hrg.left_eq]; omega
end Go.Proofs.YtbldidlbhahciaaGreat

namespace Go.Proofs.YtbldidlbhahciaaGreat
open Go.RowKit Go.Shelf
attribute [local go_sem] Oper.semAt_some

def upto {α : Type} (f : Nat → α) (k : Nat) : List α := (List.range k).map f
theorem upto_succ {α : Type} (f : Nat → α) (k : Nat) : upto f (k + 1) = upto f k ++ [f k] := by simp [upto, List.range_succ]
theorem upto_length {α : Type} (f : Nat → α) (k : Nat) : (upto f k).length = k := by simp [upto]
theorem upto_all (zs : List Rn) : upto (fun j => zs[j]?.getD (0, 0)) zs.length = zs := by
  apply List.ext_getElem
  · simp [upto]
  · intro i h1 h2
    simp [upto, h2]
theorem upto_take (zs : List Rn) {k : Nat} (hk : k ≤ zs.length) : upto (fun j => zs[j]?.getD (0, 0)) k = zs.take k := by
  apply List.ext_getElem
  · simp [upto, hk]
  · intro i h1 h2
    have : i < zs.length := by simp [upto] at h1; omega
    simp [upto, this]

set_option maxRecDepth 100000 in
set_option maxHeartbeats 4000000 in
theorem values1_in (F : Fence) (n : Nat) (h7 : F.fn 131) (hro : F.round = none) (hn : 1 ≤ n) (l Bs n₀ b off len cap : Nat) (zs : List Rn) (hreach : len * 16 ≤ 140737488351232) (hb : b < n₀) (J Jx : List Rn → World → Prop)
    (hY : ∀ pre x W, J pre W → pre.length < len → YieldAt F (n - 1) Tryz.prog l #[.agg #[.int .i64 x.1, .int .i64 x.2]] W fun e W' =>
      (e = .returned (.bool true) ∧ J (pre ++ [x]) W' ∧ Below n₀ W W') ∨ (e = .returned (.bool false) ∧ Jx (pre ++ [x]) W'))
    (W : World) (hn0 : n₀ ≤ W.heap.size) (hJ : AbidesFrom W.heap.size J) (hBs : W.cell? ⟨Bs, 0, none⟩ = some (.slice (some ⟨b, off, none⟩) len cap))
    (hc : ∀ j, j < len → W.cell? ⟨b, off + j * 2, none⟩ = some (.int .i64 (zs[j]?.getD (0, 0)).1) ∧ W.cell? ⟨b, off + j * 2 + 1, none⟩ = some (.int .i64 (zs[j]?.getD (0, 0)).2)) (h0 : J [] W) :
    CallsIn F n Tryz.prog 131 #[.func (.yield l) #[] #[], .pointer (some ⟨Bs, 0, none⟩)] W fun e W' => (∃ v, e = .returned v) ∧
      ((∃ ys, ys = upto (fun j => zs[j]?.getD (0, 0)) len ∧ J ys W') ∨ (∃ pre, (∃ k, k ≤ len ∧ pre = upto (fun j => zs[j]?.getD (0, 0)) k) ∧ Jx pre W')) := by
  have HC := Lib.hid hc
  clear hc
  refine callsIn_of_wp Tryz.func131 rfl h7 ?_ hro
  simp only [Tryz.ntmps131, List.size_toArray, List.length_cons, List.length_nil, Nat.reduceAdd, Nat.reduceSub, Array.replicate_succ, Array.replicate_zero, List.push_toArray, List.append_toArray, List.nil_append, List.cons_append]
  gi_wp2
  gi_loopw [7] (fun i wr => ∃ k : Nat, k ≤ len ∧ i = .int .i64 k ∧ J (upto (fun j => zs[j]?.getD (0, 0)) k) wr ∧ Below n₀ W wr)
    (fun i _ => len - (intOf i).toNat)
  case atStart => exact ⟨0, Nat.zero_le _, rfl, h0, Below.refl _ _⟩
  case round =>
    obtain ⟨k, hk, rfl, hJs, hnx⟩ := hrel
    by_cases hlt : k < len
    · obtain ⟨hc0, hc1⟩ := HC.out k hlt
      have c0 := (hnx.cell (p := ⟨b, off + k * 2, none⟩) hb).trans hc0
      have c1 := (hnx.cell (p := ⟨b, off + k * 2 + 1, none⟩) hb).trans hc1
      obtain ⟨x, hx⟩ : ∃ x, zs[k]?.getD (0, 0) = x := ⟨_, rfl⟩
      rw [hx] at c0 c1
      have hsz := hnx.size
      have hJ2 : J (upto (fun j => zs[j]?.getD (0, 0)) k) (wr.alloc (.cells #[.int .i64 x.1, .int .i64 x.2] 31)) := hJ _ _ _ none hJs (World.grownBy_alloc wr _ none) (fun r e => by cases e)
      obtain ⟨fn, tmps, assign, body, hy, hR⟩ := hY _ x _ hJ2 (by rw [upto_length]; exact hlt)
      have hB2 : Below n₀ W (wr.alloc (.cells #[.int .i64 x.1, .int .i64 x.2] 31)) := hnx.alloc (by omega) _
      gi_wp2
      refine hR.mono ?_
      rintro e W3 (⟨rfl, hJ3, hk3⟩ | ⟨rfl, hJx3⟩)
      · gi_wp2
        go_roundw
        case rel => exact ⟨k + 1, by omega, by simp, by rw [upto_succ, hx]; exact hJ3, hB2.trans hk3⟩
        case measure => simp [intOf]; omega
      · gi_wp2
        refine bodyPost_ret (results_none rfl _ _ _) rfl ?_
        exact ⟨⟨_, rfl⟩, .inr ⟨_, ⟨k + 1, by omega, by rw [upto_succ, hx]⟩, hJx3⟩⟩
    · obtain rfl : k = len := by omega
      gi_wp2
      go_end0
      exact ⟨⟨_, rfl⟩, .inl ⟨_, rfl, hJs⟩⟩

/-- The slice value sv holds the runs zs, in a block below n₀; or there are none. -/
def RunsAt (n₀ : Nat) (W : World) (sv : Value) (zs : List Rn) : Prop :=
  (∃ a c, sv = .slice a 0 c ∧ zs = []) ∨ ∃ b off cap, sv = .slice (some ⟨b, off, none⟩) zs.length cap ∧ b < n₀ ∧ ∀ j, j < zs.length → W.cell? ⟨b, off + j * 2, none⟩ = some (.int .i64 (zs[j]?.getD (0, 0)).1) ∧ W.cell? ⟨b, off + j * 2 + 1, none⟩ = some (.int .i64 (zs[j]?.getD (0, 0)).2)
theorem RunsAt.below {n₀ : Nat} {A B : World} (h : Go.RowKit.Below n₀ A B) {sv : Value} {zs : List Rn} : RunsAt n₀ A sv zs → RunsAt n₀ B sv zs
  | .inl e => .inl e
  | .inr ⟨b, off, cap, e, hb, hc⟩ => .inr ⟨b, off, cap, e, hb, fun j hj => ⟨(h.cell (p := ⟨b, off + j * 2, none⟩) hb).trans (hc j hj).1, (h.cell (p := ⟨b, off + j * 2 + 1, none⟩) hb).trans (hc j hj).2⟩⟩

set_option maxRecDepth 100000 in
set_option maxHeartbeats 1000000 in
theorem values1_nil_in (F : Fence) (n : Nat) (h7 : F.fn 131) (hro : F.round = none) (l Bs : Nat) (a : Option Addr) (c : Nat) (J : List Rn → World → Prop) (W : World) (hBs : W.cell? ⟨Bs, 0, none⟩ = some (.slice a 0 c)) (h0 : J [] W) :
    CallsIn F n Tryz.prog 131 #[.func (.yield l) #[] #[], .pointer (some ⟨Bs, 0, none⟩)] W fun e W' => (∃ v, e = .returned v) ∧ J [] W' := by
  refine callsIn_of_wp Tryz.func131 rfl h7 ?_ hro
  simp only [Tryz.ntmps131, List.size_toArray, List.length_cons, List.length_nil, Nat.reduceAdd, Nat.reduceSub, Array.replicate_succ, Array.replicate_zero, List.push_toArray, List.append_toArray, List.nil_append, List.cons_append]
  gi_wp2
  gi_loopw [7] (fun i wr => i = .int .i64 0 ∧ J [] wr) (fun _ _ => 0)
  case atStart => exact ⟨rfl, h0⟩
  case round =>
    obtain ⟨rfl, hJs⟩ := hrel
    gi_wp2
    go_end0
    exact ⟨⟨_, rfl⟩, hJs⟩

theorem values_stops (F : Fence) (n : Nat) (h7 : F.fn 131) (hro : F.round = none) (hn : 1 ≤ n) (Bs n₀ : Nat) (sv : Value) (zs : List Rn) (hreach : zs.length * 16 ≤ 140737488351232) (w : World) (hBs : Bs < w.heap.size) (hn₀ : n₀ ≤ w.heap.size)
    (hc : w.cell? ⟨Bs, 0, none⟩ = some sv) (hI : RunsAt n₀ w sv zs) :
    SeqStopsK F n Tryz.prog 131 #[.pointer (some ⟨Bs, 0, none⟩)] (fun x : Rn => #[Value.agg #[.int .i64 x.1, .int .i64 x.2]]) (Go.RowKit.Below n₀) (fun ys => ys = zs) (fun pre => pre <+: zs) zs.length w := fun l J Jx W hW hJ _ hY h0 => by
  have hc' := (hW.cell (p := ⟨Bs, 0, none⟩) hBs).trans hc
  rcases hI.below (hW.mono hn₀) with ⟨a, c, rfl, rfl⟩ | ⟨b, off, cap, rfl, hb, hcs⟩
  · exact (values1_nil_in F n h7 hro l Bs a c J W hc' h0).mono fun e W' ⟨he, hj⟩ => ⟨he, .inl ⟨_, rfl, hj⟩⟩
  · refine (values1_in F n h7 hro hn l Bs n₀ b off zs.length cap zs hreach hb J Jx hY W (Nat.le_trans hn₀ hW.size) hJ hc' hcs h0).mono ?_
    rintro e W' ⟨he, ⟨ys, rfl, hj⟩ | ⟨pre, ⟨k, hk, rfl⟩, hj⟩⟩
    · exact ⟨he, .inl ⟨_, upto_all zs, hj⟩⟩
    · exact ⟨he, .inr ⟨_, by rw [upto_take zs hk]; exact List.take_prefix _ _, hj⟩⟩
end Go.Proofs.YtbldidlbhahciaaGreat

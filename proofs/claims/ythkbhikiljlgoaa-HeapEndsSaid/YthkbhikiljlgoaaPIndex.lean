/- The index of pages, in plain Lean: no program in sight. -/
import Derived.Test.YthkbhikiljlgoaaPChain
namespace Go.Proofs.Ythkbhikiljlgoaa

/-- A run: the first page, and how many. -/
abbrev Rn := Int × Int
/-- Are all pages of a run there? -/
def there (n : Nat) (r : Rn) : Bool := decide (0 ≤ r.1) && decide (1 ≤ r.2) && decide (r.1 < n) && decide (r.2 ≤ n - r.1)
theorem there_iff {n : Nat} {r : Rn} : there n r = true ↔ 0 ≤ r.1 ∧ 1 ≤ r.2 ∧ r.1 < n ∧ r.2 ≤ n - r.1 := by simp [there, and_assoc]
/-- Is a page in a run? -/
def inR (r : Rn) (p : Int) : Bool := decide (r.1 ≤ p) && decide (p < r.1 + r.2)
theorem inR_iff {r : Rn} {p : Int} : inR r p = true ↔ r.1 ≤ p ∧ p < r.1 + r.2 := by simp [inR]
/-- All pages of runs have a number. -/
def fillA (ids : List Int) (id : Int) (rs : List Rn) : List Int := ids.mapIdx fun p v => if rs.any (inR · p) then id else v
theorem fillA_length (ids : List Int) (id : Int) (rs : List Rn) : (fillA ids id rs).length = ids.length := by simp [fillA]
theorem wd_fillA {ids : List Int} {id : Int} {rs : List Rn} {p : Int} (h0 : 0 ≤ p) (h1 : p < ids.length) : wd (fillA ids id rs) p = if rs.any (inR · p) then id else wd ids p := by
  obtain ⟨q, rfl⟩ := Int.eq_ofNat_of_zero_le h0
  have hq : q < ids.length := by omega
  unfold wd fillA
  rw [List.getD_eq_getElem?_getD, List.getElem?_eq_getElem (by simpa using hq), List.getD_eq_getElem?_getD]
  simp [hq]
theorem fillA_nil (ids : List Int) (id : Int) : fillA ids id [] = ids := by
  refine words_ext (fillA_length _ _ _) (fun x h0 h1 => ?_)
  rw [wd_fillA h0 h1]
  rfl
/-- One page more. -/
theorem fillA_step {ids : List Int} {id s : Int} {i : Nat} {L : List Rn} (h0 : 0 ≤ s) (h1 : s + i < ids.length) : setW (fillA ids id (L ++ [(s, (i : Int))])) (s + i) id = fillA ids id (L ++ [(s, ((i + 1 : Nat) : Int))]) := by
  refine words_ext (by rw [setW_length, fillA_length, fillA_length]) (fun x x0 x1 => ?_)
  rw [fillA_length] at x1
  rw [wd_fillA x0 x1]
  by_cases hx : s + i = x
  · subst hx
    rw [wd_setW_same (by omega) (by rw [fillA_length]; omega), if_pos]
    rw [List.any_append, Bool.or_eq_true]
    right
    simp only [List.any_cons, List.any_nil, Bool.or_false]
    rw [inR_iff]; dsimp only; omega
  · rw [wd_setW_other (by omega) x0 hx, wd_fillA x0 x1]
    have : inR (s, (i : Int)) x = inR (s, ((i + 1 : Nat) : Int)) x := by
      rw [Bool.eq_iff_iff, inR_iff, inR_iff]; dsimp only; omega
    simp only [List.any_append, List.any_cons, List.any_nil, this]
theorem fillA_zero (ids : List Int) (id s : Int) (L : List Rn) : fillA ids id (L ++ [(s, ((0 : Nat) : Int))]) = fillA ids id L := by
  refine words_ext (by rw [fillA_length, fillA_length]) (fun x x0 x1 => ?_)
  rw [fillA_length] at x1
  rw [wd_fillA x0 x1, wd_fillA x0 x1]
  have : inR (s, ((0 : Nat) : Int)) x = false := by
    rw [← Bool.not_eq_true, inR_iff]; dsimp only; omega
  simp only [List.any_append, List.any_cons, List.any_nil, this, Bool.or_false]

/-! ### apart -/
/-- No page in both. -/
def Apart (a b : Rn) : Prop := a.1 + a.2 ≤ b.1 ∨ b.1 + b.2 ≤ a.1
/-- What is answered to runs that are to have a number (drop: none): the numbers, the error. -/
def AllThere (n : Nat) (rs : List Rn) : Prop := ∀ r ∈ rs, there n r = true
def NoneSet (ids : List Int) (rs : List Rn) : Prop := ∀ p : Int, 0 ≤ p → p < ids.length → rs.any (inR · p) = true → wd ids p = 0
def EachSet (ids : List Int) (rs : List Rn) : Prop := ∀ p : Int, 0 ≤ p → p < ids.length → rs.any (inR · p) = true → wd ids p ≠ 0
open Classical in
noncomputable def putF (ids : List Int) (id : Int) (rs : List Rn) (drop : Bool) : List Int × Int :=
  if drop = false ∧ id < 1 then (ids, 1)
  else if ¬ AllThere ids.length rs then (ids, 2)
  else if drop then (if EachSet ids rs then (fillA ids 0 rs, 0) else (ids, 9))
  else if NoneSet ids rs ∧ rs.Pairwise Apart then (fillA ids id rs, 0) else (ids, 9)
/-- Sorted runs, each of which ends ahead of the next one, share no page. -/
theorem apart_chain : ∀ (l : List Rn), (∀ r ∈ l, 1 ≤ r.2) → (∀ i (h : i + 1 < l.length), (l[i]'(by omega)).1 + (l[i]'(by omega)).2 ≤ l[i + 1].1) → l.Pairwise (fun a b => a.1 + a.2 ≤ b.1)
  | [], _, _ => List.Pairwise.nil
  | [x], _, _ => by simp
  | x :: y :: l, hl, hc => by
    have ih := apart_chain (y :: l) (fun r hr => hl r (by simp [hr])) (fun i h => hc (i + 1) (by simpa using h))
    have h0 := hc 0 (by simp)
    simp only [List.getElem_cons_zero, List.getElem_cons_succ] at h0
    refine List.pairwise_cons.2 ⟨fun z hz => ?_, ih⟩
    rcases List.mem_cons.1 hz with rfl | hz
    · exact h0
    · have h1 := (List.pairwise_cons.1 ih).1 z hz
      have h2 := hl y (by simp)
      omega
theorem apart_of_chain {l : List Rn} (hl : ∀ r ∈ l, 1 ≤ r.2) (hc : ∀ i (h : i + 1 < l.length), (l[i]'(by omega)).1 + (l[i]'(by omega)).2 ≤ l[i + 1].1) : l.Pairwise Apart :=
  (apart_chain l hl hc).imp (fun h => .inl h)
theorem chain_of_apart {l : List Rn} (hl : ∀ r ∈ l, 1 ≤ r.2) (hs : ∀ i j (h : i < j) (hj : j < l.length), (l[i]'(by omega)).1 ≤ l[j].1) (hp : l.Pairwise Apart) : ∀ i (h : i + 1 < l.length), (l[i]'(by omega)).1 + (l[i]'(by omega)).2 ≤ l[i + 1].1 := by
  intro i h
  have h1 := List.pairwise_iff_getElem.1 hp i (i + 1) (by omega) h (by omega)
  have h2 := hs i (i + 1) (by omega) h
  have h3 := hl l[i + 1] (List.getElem_mem _)
  rcases h1 with h1 | h1 <;> omega
theorem apart_symm {a b : Rn} (h : Apart a b) : Apart b a := h.symm
theorem apart_perm {l l' : List Rn} (h : l.Perm l') : l.Pairwise Apart ↔ l'.Pairwise Apart := h.pairwise_iff (fun h => apart_symm h)

/-! ### the runs of a number -/
/-- The runs among the first pages. -/
def runsP (ids : List Int) (id : Int) : Nat → List Rn
  | 0 => []
  | p + 1 => if wd ids p ≠ id then runsP ids id p else if p ≠ 0 ∧ wd ids ((p : Int) - 1) = id then (runsP ids id p).dropLast ++ [(((runsP ids id p).getLastD (0, 0)).1, ((runsP ids id p).getLastD (0, 0)).2 + 1)] else runsP ids id p ++ [((p : Int), 1)]
def runsF (ids : List Int) (id : Int) : List Rn := runsP ids id ids.length
theorem runs_skip {ids : List Int} {id : Int} {p : Nat} (h : wd ids p ≠ id) : runsP ids id (p + 1) = runsP ids id p := by rw [runsP, if_pos h]
theorem runs_start {ids : List Int} {id : Int} {p : Nat} (h : wd ids p = id) (h0 : p = 0 ∨ wd ids ((p : Int) - 1) ≠ id) : runsP ids id (p + 1) = runsP ids id p ++ [((p : Int), 1)] := by
  rw [runsP, if_neg (by simpa using h), if_neg (by rintro ⟨h1, h2⟩; rcases h0 with h0 | h0; exact h1 h0; exact h0 h2)]
/-- Where the last page has the number, the last run ends there. -/
theorem runs_last {ids : List Int} {id : Int} : ∀ {p : Nat}, wd ids p = id → ∃ (L : List Rn) (s n : Int), runsP ids id (p + 1) = L ++ [(s, n)] ∧ s + n = p + 1 ∧ 1 ≤ n ∧ 0 ≤ s
  | 0, h => ⟨[], 0, 1, by rw [runs_start h (.inl rfl)]; rfl, by omega, by omega, by omega⟩
  | p + 1, h => by
    by_cases h1 : wd ids p = id
    · obtain ⟨L, s, n, e, h2, h3, h4⟩ := runs_last (p := p) h1
      refine ⟨L, s, n + 1, ?_, by omega, by omega, h4⟩
      have e1 : (((p + 1 : Nat) : Int) - 1) = p := by omega
      rw [runsP, if_neg (by simpa using h), if_pos ⟨by omega, by rw [e1]; exact h1⟩, e]
      simp
    · refine ⟨runsP ids id (p + 1), ((p + 1 : Nat) : Int), 1, runs_start h (.inr ?_), by omega, by omega, by omega⟩
      have e1 : (((p + 1 : Nat) : Int) - 1) = p := by omega
      rw [e1]; exact h1
theorem runs_grow {ids : List Int} {id : Int} {p : Nat} {L : List Rn} {s n : Int} (h : wd ids ((p + 1 : Nat) : Int) = id) (h1 : wd ids p = id) (e : runsP ids id (p + 1) = L ++ [(s, n)]) : runsP ids id (p + 1 + 1) = L ++ [(s, n + 1)] := by
  have e1 : (((p + 1 : Nat) : Int) - 1) = p := by omega
  rw [runsP, if_neg (by simpa using h), if_pos ⟨by omega, by rw [e1]; exact h1⟩, e]
  simp
theorem runs_whole {ids : List Int} {id : Int} {p : Nat} (h0 : p = 0 ∨ wd ids ((p : Int) - 1) ≠ id) : ∀ (n : Nat), (∀ i : Nat, i < n + 1 → wd ids ((p + i : Nat) : Int) = id) → runsP ids id (p + (n + 1)) = runsP ids id p ++ [((p : Int), ((n + 1 : Nat) : Int))]
  | 0, h => by
    have := h 0 (by omega)
    rw [Nat.add_zero] at this
    rw [Nat.zero_add, runs_start this h0]; rfl
  | n + 1, h => by
    have ih := runs_whole h0 n (fun i hi => h i (by omega))
    rw [← Nat.add_assoc] at ih
    have h1 : wd ids ((p + n : Nat) : Int) = id := h n (by omega)
    have h2 : wd ids ((p + n + 1 : Nat) : Int) = id := h (n + 1) (by omega)
    rw [← Nat.add_assoc, ← Nat.add_assoc, runs_grow (p := p + n) h2 h1 ih]
    rfl
end Go.Proofs.Ythkbhikiljlgoaa

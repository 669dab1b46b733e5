/- Pages of which something holds, in plain Lean: the slow twin of layer 6. -/
import Derived.Test.YthkbhikiljlgoaaPR06
namespace Go.Proofs.Ythkbhikiljlgoaa

/-- Pages of runs are so, or not. -/
def setB (f : Int → Bool) (l : List Rn) (b : Bool) : Int → Bool := fun p => if inL l p then b else f p
/-- None of them is so already, and none is in two of them. -/
def OkB (f : Int → Bool) (l : List Rn) (b : Bool) : Prop := (∀ p, inL l p = true → f p = !b) ∧ l.Pairwise Apart
open Classical in
/-- What the twin's Put answers. -/
noncomputable def putB (f : Int → Bool) (l : List Rn) (b : Bool) : (Int → Bool) × Int := if ¬ AllThere 1024 l then (f, 2) else if OkB f l b then (setB f l b, 0) else (f, 9)
theorem putB_out {f : Int → Bool} {l : List Rn} {b : Bool} (h : ¬ AllThere 1024 l) : putB f l b = (f, 2) := by unfold putB; rw [if_pos h]
theorem putB_ok {f : Int → Bool} {l : List Rn} {b : Bool} (h : AllThere 1024 l) (h1 : OkB f l b) : putB f l b = (setB f l b, 0) := by unfold putB; rw [if_neg (by simpa using h), if_pos h1]
theorem putB_bad {f : Int → Bool} {l : List Rn} {b : Bool} (h : AllThere 1024 l) (h1 : ¬ OkB f l b) : putB f l b = (f, 9) := by unfold putB; rw [if_neg (by simpa using h), if_neg h1]
theorem okB_nil (f : Int → Bool) (b : Bool) : OkB f [] b := ⟨fun p h => by simp [inL] at h, List.Pairwise.nil⟩
theorem setB_nil (f : Int → Bool) (b : Bool) : setB f [] b = f := by funext p; simp [setB, inL]
theorem inL_zero (L : List Rn) (s p : Int) : inL (L ++ [(s, 0)]) p = inL L p := by
  rw [Bool.eq_iff_iff, inL_append, inL_one]
  constructor
  · rintro (h | h); exact h; omega
  · exact fun h => .inl h
theorem setB_zero (f : Int → Bool) (L : List Rn) (s : Int) (b : Bool) : setB f (L ++ [(s, 0)]) b = setB f L b := by
  funext p; unfold setB; rw [inL_zero]
/-- One page more. -/
theorem setB_step (f : Int → Bool) (L : List Rn) (s : Int) (j : Nat) (b : Bool) : (fun p => if p = s + j then b else setB f (L ++ [(s, (j : Int))]) b p) = setB f (L ++ [(s, ((j + 1 : Nat) : Int))]) b := by
  funext p
  unfold setB
  have h1 : inL (L ++ [(s, ((j + 1 : Nat) : Int))]) p = true ↔ inL (L ++ [(s, (j : Int))]) p = true ∨ p = s + j := by
    rw [inL_append, inL_append, inL_one, inL_one]
    constructor
    · rintro (h | h)
      · exact .inl (.inl h)
      · by_cases e : p = s + j
        · exact .inr e
        · exact .inl (.inr ⟨h.1, by omega⟩)
    · rintro ((h | h) | h)
      · exact .inl h
      · exact .inr ⟨h.1, by omega⟩
      · exact .inr ⟨by omega, by omega⟩
  by_cases e : p = s + j
  · rw [if_pos e, if_pos (h1.2 (.inr e))]
  · rw [if_neg e]
    by_cases h2 : inL (L ++ [(s, (j : Int))]) p = true
    · rw [if_pos h2, if_pos (h1.2 (.inl h2))]
    · rw [if_neg h2, if_neg (fun h => by rcases h1.1 h with h | h; exact h2 h; exact e h)]
/-- It has gone well as far as a page. -/
def OkP (f : Int → Bool) (A : List Rn) (s : Int) (j : Nat) (b : Bool) : Prop := OkB f A b ∧ ∀ p, s ≤ p → p < s + j → setB f A b p = !b
theorem okP_start {f : Int → Bool} {A : List Rn} {b : Bool} (h : OkB f A b) (s : Int) : OkP f A s 0 b := ⟨h, fun p h1 h2 => by omega⟩
theorem setB_here (f : Int → Bool) (A : List Rn) (s : Int) (j : Nat) (b : Bool) : setB f (A ++ [(s, (j : Int))]) b (s + j) = setB f A b (s + j) := by
  have e : inL (A ++ [(s, (j : Int))]) (s + j) = inL A (s + j) := by
    rw [Bool.eq_iff_iff, inL_append, inL_one]
    constructor
    · rintro (h | h); exact h; omega
    · exact fun h => .inl h
  unfold setB; rw [e]
theorem okP_step {f : Int → Bool} {A : List Rn} {s : Int} {j : Nat} {b : Bool} (h : OkP f A s j b) (hp : setB f (A ++ [(s, (j : Int))]) b (s + j) = !b) : OkP f A s (j + 1) b := by
  rw [setB_here] at hp
  refine ⟨h.1, fun p h1 h2 => ?_⟩
  by_cases e : p = s + j
  · rw [e]; exact hp
  · exact h.2 p h1 (by omega)
theorem setB_not {f : Int → Bool} {A : List Rn} {b : Bool} {p : Int} (h : setB f A b p = !b) : inL A p = false ∧ f p = !b := by
  unfold setB at h
  by_cases c : inL A p = true
  · rw [if_pos c] at h; cases b <;> cases h
  · rw [if_neg c] at h; exact ⟨by simpa using c, h⟩
theorem okP_end {f : Int → Bool} {A : List Rn} {s : Int} {m : Nat} {b : Bool} (h : OkP f A s m b) (hA : ∀ r ∈ A, 1 ≤ r.2) (hm : 1 ≤ m) : OkB f (A ++ [(s, (m : Int))]) b := by
  refine ⟨fun p hp => ?_, List.pairwise_append.2 ⟨h.1.2, by simp, fun r hr x hx => ?_⟩⟩
  · rw [inL_append, inL_one] at hp
    rcases hp with hp | hp
    · exact h.1.1 p hp
    · exact (setB_not (h.2 p hp.1 hp.2)).2
  · simp only [List.mem_cons, List.not_mem_nil, or_false] at hx
    subst hx
    have hr1 := hA r hr
    have no : ∀ p, s ≤ p → p < s + m → ¬ (r.1 ≤ p ∧ p < r.1 + r.2) := fun p h1 h2 h3 => by
      have h4 := (setB_not (h.2 p h1 h2)).1
      rw [inL_iff.2 ⟨r, hr, h3⟩] at h4; cases h4
    refine Classical.byContradiction fun hn => ?_
    unfold Apart at hn
    dsimp only at hn
    by_cases hc : r.1 ≤ s
    · exact no s (by omega) (by omega) (by omega)
    · exact no r.1 (by omega) (by omega) (by omega)
theorem okB_sub {f : Int → Bool} {A B : List Rn} {b : Bool} (h : OkB f (A ++ B) b) : OkB f A b :=
  ⟨fun p hp => h.1 p (inL_append.2 (.inl hp)), (List.pairwise_append.1 h.2).1⟩
/-- At a page that is so already it goes badly. -/
theorem okB_not {f : Int → Bool} {L B : List Rn} {s m : Int} {j : Nat} {b : Bool} (hj : (j : Int) < m) (hp : setB f (L ++ [(s, (j : Int))]) b (s + j) ≠ !b) : ¬ OkB f (L ++ [(s, m)] ++ B) b := by
  intro h
  have hin : inL (L ++ [(s, m)] ++ B) (s + j) = true := inL_append.2 (.inl (inL_append.2 (.inr (inL_one.2 ⟨by omega, by omega⟩))))
  have hf := h.1 _ hin
  have hLin : inL (L ++ [(s, (j : Int))]) (s + j) = true := by
    refine Classical.byContradiction fun h9 => hp ?_
    unfold setB
    rw [if_neg h9]; exact hf
  rw [inL_append, inL_one] at hLin
  rcases hLin with h9 | h9
  · obtain ⟨r, hr, r1, r2⟩ := inL_iff.1 h9
    have hq := (List.pairwise_append.1 (List.pairwise_append.1 h.2).1).2.2 r hr (s, m) (by simp)
    unfold Apart at hq
    dsimp only at hq
    omega
  · omega
/-- What the runs of both have. -/
theorem addF_listP {L l : List Rn} : addF L l = listP (setB (inL L) l true) := by
  unfold addF
  refine listP_congr (fun p _ _ => ?_)
  unfold setB
  by_cases h : inL l p = true
  · rw [if_pos h, h, Bool.or_true]
  · rw [if_neg h]; rw [Bool.not_eq_true] at h; rw [h, Bool.or_false]
theorem cutF_listP {L : List Rn} {x : Rn} : cutF L x = listP (setB (inL L) [x] false) := by
  unfold cutF
  refine listP_congr (fun p _ _ => ?_)
  unfold setB
  have e : inL [x] p = inR x p := by simp [inL]
  rw [e]
  by_cases h : inR x p = true
  · rw [if_pos h, h]; simp
  · rw [if_neg h]; rw [Bool.not_eq_true] at h; rw [h]; simp
/-- Free runs and what the twin says are one. -/
def Twin (L : List Rn) (f : Int → Bool) : Prop := Canon 1024 L ∧ ∀ p, 0 ≤ p → p < 1024 → (inL L p = true ↔ f p = true)
theorem Twin.eq {L : List Rn} {f : Int → Bool} (h : Twin L f) : L = listP f := canon_eq_listP h.1 h.2
theorem Twin.nil : Twin [] (fun _ => false) := ⟨Canon.nil _, fun p _ _ => by simp [inL]⟩
theorem allThere_range {l : List Rn} (h : AllThere 1024 l) {p : Int} (hp : inL l p = true) : 0 ≤ p ∧ p < 1024 := by
  obtain ⟨r, hr, r1, r2⟩ := inL_iff.1 hp
  have := there_iff.1 (h r hr)
  omega
theorem Twin.listP (f : Int → Bool) : Twin (listP f) f := ⟨listP_canon f, fun p h0 h1 => by rw [inL_listP]; exact ⟨fun h => h.2.2, fun h => ⟨h0, h1, h⟩⟩⟩
/-- Two runs that may be share no page just if they are apart. -/
theorem pairwise_apart_append {L l : List Rn} (hL : Canon 1024 L) (hl : AllThere 1024 l) : (L ++ l).Pairwise Apart ↔ (∀ p, inL l p = true → inL L p = false) ∧ l.Pairwise Apart := by
  rw [List.pairwise_append]
  constructor
  · rintro ⟨_, h2, h3⟩
    refine ⟨fun p hp => ?_, h2⟩
    rw [← Bool.not_eq_true]
    intro h9
    obtain ⟨r, hr, r1, r2⟩ := inL_iff.1 hp
    obtain ⟨y, hy, y1, y2⟩ := inL_iff.1 h9
    have := h3 y hy r hr
    unfold Apart at this
    omega
  · rintro ⟨h1, h2⟩
    refine ⟨gap_apart hL.gap, h2, fun y hy r hr => ?_⟩
    have hy2 := hL.ok y hy
    have hr2 := there_iff.1 (hl r hr)
    refine Classical.byContradiction fun h9 => ?_
    unfold Apart at h9
    by_cases hc : y.1 ≤ r.1
    · have := h1 r.1 (inL_iff.2 ⟨r, hr, by omega, by omega⟩)
      rw [← Bool.not_eq_true] at this
      exact this (inL_iff.2 ⟨y, hy, by omega, by omega⟩)
    · have := h1 y.1 (inL_iff.2 ⟨r, hr, by omega, by omega⟩)
      rw [← Bool.not_eq_true] at this
      exact this (inL_iff.2 ⟨y, hy, by omega, by omega⟩)
theorem Twin.okB {L l : List Rn} {f : Int → Bool} (h : Twin L f) (hl : AllThere 1024 l) : OkB f l true ↔ (L ++ l).Pairwise Apart := by
  rw [pairwise_apart_append h.1 hl]
  unfold OkB
  constructor
  · rintro ⟨h1, h2⟩
    refine ⟨fun p hp => ?_, h2⟩
    have hr := allThere_range hl hp
    rw [← Bool.not_eq_true, h.2 p hr.1 hr.2, h1 p hp]; simp
  · rintro ⟨h1, h2⟩
    refine ⟨fun p hp => ?_, h2⟩
    have hr := allThere_range hl hp
    have h3 := h1 p hp
    rw [← Bool.not_eq_true, h.2 p hr.1 hr.2] at h3
    simpa using h3
theorem Twin.okC {L : List Rn} {x : Rn} {f : Int → Bool} (h : Twin L f) (hx : there 1024 x = true) : OkB f [x] false ↔ L.any (hasR x) = true := by
  have hx2 := there_iff.1 hx
  rw [List.any_eq_true, has_run h.1 hx2.2.1]
  unfold OkB
  have e : ∀ p, inL [x] p = inR x p := fun p => by simp [inL]
  constructor
  · rintro ⟨h1, _⟩ p hp
    have := inR_iff.1 hp
    rw [h.2 p (by omega) (by omega), h1 p (by rw [e]; exact hp)]; rfl
  · intro h1
    refine ⟨fun p hp => ?_, by simp⟩
    rw [e] at hp
    have := inR_iff.1 hp
    rw [(h.2 p (by omega) (by omega)).1 (h1 p hp)]; rfl
theorem Twin.set {L l : List Rn} {f : Int → Bool} {b : Bool} (h : Twin L f) : Twin (Go.Proofs.Ythkbhikiljlgoaa.listP (setB (inL L) l b)) (setB f l b) := by
  refine ⟨listP_canon _, fun p h0 h1 => ?_⟩
  rw [inL_listP]
  unfold setB
  by_cases hp : inL l p = true
  · rw [if_pos hp, if_pos hp]
    exact ⟨fun h => h.2.2, fun h => ⟨h0, h1, h⟩⟩
  · rw [if_neg hp, if_neg hp, h.2 p h0 h1]
    exact ⟨fun h => h.2.2, fun h => ⟨h0, h1, h⟩⟩
end Go.Proofs.Ythkbhikiljlgoaa

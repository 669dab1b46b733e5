/- What acts on chains answer, and leave: plain Lean. -/
import Derived.Test.YtnehccndghkakaaPChain
namespace Go.Proofs.Ytnehccndghkakaa
open Classical in
/-- A chain's blocks, where it is right. -/
noncomputable def chL (ws : List Int) (hd ln : Int) : Option (List Int) := if h : ∃ l, RightC ws hd ln l then some h.choose else none
theorem chL_some {ws : List Int} {hd ln : Int} {l : List Int} (h : RightC ws hd ln l) : chL ws hd ln = some l := by
  have he : ∃ l, RightC ws hd ln l := ⟨l, h⟩
  unfold chL
  rw [dif_pos he]
  congr 1
  exact he.choose_spec.unique h
theorem chL_none {ws : List Int} {hd ln : Int} (h : ∀ l, ¬ RightC ws hd ln l) : chL ws hd ln = none := by
  unfold chL
  rw [dif_neg (fun ⟨l, hl⟩ => h l hl)]
theorem chL_or (ws : List Int) (hd ln : Int) : (∃ l, RightC ws hd ln l ∧ chL ws hd ln = some l) ∨ ((∀ l, ¬ RightC ws hd ln l) ∧ chL ws hd ln = none) := by
  by_cases h : ∃ l, RightC ws hd ln l
  · obtain ⟨l, hl⟩ := h
    exact .inl ⟨l, hl, chL_some hl⟩
  · exact .inr ⟨fun l hl => h ⟨l, hl⟩, chL_none (fun l hl => h ⟨l, hl⟩)⟩

/-- Is the address there? -/
def inW (ws : List Int) (x : Int) : Bool := decide (0 ≤ x) && decide (x < ws.length)
theorem inW_iff {ws : List Int} {x : Int} : inW ws x = true ↔ 0 ≤ x ∧ x < ws.length := by simp [inW]

/-- Words, head, length, error. -/
structure CR where
  ws : List Int
  hd : Int
  ln : Int
  e : Int
/-- Blocks put ahead. -/
noncomputable def pushF (ws : List Int) (hd ln : Int) (at_ : List Int) : CR :=
  match chL ws hd ln with
  | none => ⟨ws, hd, ln, 9⟩
  | some l => if at_.any (fun x => !inW ws x) then ⟨ws, hd, ln, 2⟩ else if (l ++ at_).Nodup then ⟨(pushW ws hd at_).1, (pushW ws hd at_).2, ln + at_.length, 0⟩ else ⟨ws, hd, ln, 1⟩
/-- One block taken out. -/
noncomputable def remF (ws : List Int) (hd ln x : Int) : CR :=
  match chL ws hd ln with
  | none => ⟨ws, hd, ln, 9⟩
  | some l => if x ∈ l then ⟨(remW ws l x).1, (remW ws l x).2, ln - 1, 0⟩ else ⟨ws, hd, ln, 6⟩
/-- The first one taken. -/
noncomputable def popF (ws : List Int) (hd ln : Int) : CR × Int :=
  match chL ws hd ln with
  | none => (⟨ws, hd, ln, 9⟩, 0)
  | some [] => (⟨ws, hd, ln, 6⟩, 0)
  | some (x :: l) => (remF ws hd ln x, x)

theorem pushF_bad {ws : List Int} {hd ln : Int} (at_ : List Int) (h : ∀ l, ¬ RightC ws hd ln l) : pushF ws hd ln at_ = ⟨ws, hd, ln, 9⟩ := by unfold pushF; rw [chL_none h]
theorem pushF_range {ws : List Int} {hd ln : Int} {l at_ : List Int} (h : RightC ws hd ln l) (h1 : at_.any (fun x => !inW ws x) = true) : pushF ws hd ln at_ = ⟨ws, hd, ln, 2⟩ := by
  unfold pushF; rw [chL_some h]; simp only [h1, if_true]
theorem pushF_twice {ws : List Int} {hd ln : Int} {l at_ : List Int} (h : RightC ws hd ln l) (h1 : at_.any (fun x => !inW ws x) = false) (h2 : ¬ (l ++ at_).Nodup) : pushF ws hd ln at_ = ⟨ws, hd, ln, 1⟩ := by
  unfold pushF; rw [chL_some h]; simp only [h1, Bool.false_eq_true, if_false, h2]
theorem pushF_ok {ws : List Int} {hd ln : Int} {l at_ : List Int} (h : RightC ws hd ln l) (h1 : at_.any (fun x => !inW ws x) = false) (h2 : (l ++ at_).Nodup) :
    pushF ws hd ln at_ = ⟨(pushW ws hd at_).1, (pushW ws hd at_).2, ln + at_.length, 0⟩ := by
  unfold pushF; rw [chL_some h]; simp only [h1, Bool.false_eq_true, if_false, h2, if_true]
theorem remF_bad {ws : List Int} {hd ln : Int} (x : Int) (h : ∀ l, ¬ RightC ws hd ln l) : remF ws hd ln x = ⟨ws, hd, ln, 9⟩ := by unfold remF; rw [chL_none h]
theorem remF_out {ws : List Int} {hd ln x : Int} {l : List Int} (h : RightC ws hd ln l) (h1 : x ∉ l) : remF ws hd ln x = ⟨ws, hd, ln, 6⟩ := by unfold remF; rw [chL_some h]; simp only [h1, if_false]
theorem remF_ok {ws : List Int} {hd ln x : Int} {l : List Int} (h : RightC ws hd ln l) (h1 : x ∈ l) : remF ws hd ln x = ⟨(remW ws l x).1, (remW ws l x).2, ln - 1, 0⟩ := by unfold remF; rw [chL_some h]; simp only [h1, if_true]
theorem popF_bad {ws : List Int} {hd ln : Int} (h : ∀ l, ¬ RightC ws hd ln l) : popF ws hd ln = (⟨ws, hd, ln, 9⟩, 0) := by unfold popF; rw [chL_none h]
theorem popF_none {ws : List Int} {hd ln : Int} (h : RightC ws hd ln []) : popF ws hd ln = (⟨ws, hd, ln, 6⟩, 0) := by unfold popF; rw [chL_some h]
theorem popF_some {ws : List Int} {hd ln x : Int} {l : List Int} (h : RightC ws hd ln (x :: l)) : popF ws hd ln = (remF ws hd ln x, x) := by unfold popF; rw [chL_some h]

theorem not_any_inW {ws at_ : List Int} (h : at_.any (fun x => !inW ws x) = false) : ∀ x ∈ at_, 0 ≤ x ∧ x < ws.length := by
  intro x hx
  rw [List.any_eq_false] at h
  have := h x hx
  simp only [Bool.not_eq_true', Bool.not_eq_false] at this
  exact inW_iff.1 this
theorem nodup_swap {l at_ : List Int} : (at_.reverse ++ l).Nodup ↔ (l ++ at_).Nodup :=
  ((List.Perm.append_right l (List.reverse_perm at_)).trans List.perm_append_comm).nodup_iff
/-- The words behind the first blocks pushed. -/
theorem pushW_step {ws : List Int} {hd : Int} (at_ : List Int) (i : Nat) (h : i < at_.length) : pushW ws hd (at_.take (i + 1)) = (setW (pushW ws hd (at_.take i)).1 at_[i] (pushW ws hd (at_.take i)).2, at_[i] + 1) := by
  rw [List.take_succ_eq_append_getElem h, pushW_snoc]
theorem pushW_head {ws : List Int} {hd : Int} (h0 : 0 ≤ hd ∧ hd ≤ ws.length) : ∀ (at_ : List Int), (∀ x ∈ at_, 0 ≤ x ∧ x < ws.length) → 0 ≤ (pushW ws hd at_).2 ∧ (pushW ws hd at_).2 ≤ ws.length
  | [], _ => h0
  | x :: at_, hb => by
    have hx := hb x (by simp)
    rw [pushW]
    have := pushW_head (ws := setW ws x hd) (hd := x + 1) (by rw [setW_length]; omega) at_ (fun y hy => by rw [setW_length]; exact hb y (by simp [hy]))
    rwa [setW_length] at this
end Go.Proofs.Ytnehccndghkakaa

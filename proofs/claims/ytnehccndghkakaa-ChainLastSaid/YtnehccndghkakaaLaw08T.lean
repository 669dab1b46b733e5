/- Layer 8: what is pushed last is popped first. -/
import Derived.Test.YtnehccndghkakaaLaw08L
namespace Go.Proofs.Ytnehccndghkakaa
open Go.ChangeShapes Go.WideShapes Go.ChangeAt Go.RowKit Go.Deep

/-- Numbers that came in, in a slice with its capacity. -/
structure IntsC (W : World) (a : Option Addr) (n c : Nat) (xs : List Int) : Prop where
  len : n = xs.length
  max : xs.length ≤ maxLen
  rd : RdV W a (ints xs)
  ok : ∀ x ∈ xs, I64 x
  cap : xs.length ≤ c
theorem arg_ints08 {H : Type} {enc : TypeId × Value → H} {W : World} {a : Option Addr} {len cap : Nat} {d : DataW H} {ps : List MemPlace}
    (h : DataW.Trod enc Try.prog W 0 (fun _ => true) true 33 (.slice a len cap) d ps) : ∃ xs, IntsC W a len cap xs := by
  obtain ⟨a', c', xs, he, h1, h2, h3, h4⟩ := rd_nums (arg_shape (.slice (.int .i64)) ⟨_, Try.underlying33, by kernel_rfl, by decide, Try.underlying3⟩ h)
  have he' : [Value.slice a len cap] = [.slice a' xs.length c'] := he
  simp only [List.cons.injEq, Value.slice.injEq, and_true] at he'
  obtain ⟨rfl, rfl, rfl⟩ := he'
  exact ⟨xs, rfl, h1, h2, fun x hx => i64_of_wf (h3 x hx), h4⟩

/-- The words with a mark, below place i. -/
def markW (l : List Int) (mark : Int) (i : Nat) : List Int := (List.range 256).map fun j => if j < i ∧ (j : Int) ∉ l then mark else 0
theorem markW_length (l : List Int) (mark : Int) (i : Nat) : (markW l mark i).length = 256 := by simp [markW]
theorem wd_mark (l : List Int) (mark : Int) (i : Nat) (y : Int) (h0 : 0 ≤ y) (h1 : y < 256) : wd (markW l mark i) y = if y < i ∧ y ∉ l then mark else 0 := by
  obtain ⟨j, rfl⟩ := Int.eq_ofNat_of_zero_le h0
  have hj : j < 256 := by omega
  unfold wd markW
  rw [List.getD_eq_getElem?_getD, List.getElem?_eq_getElem (by rw [List.length_map, List.length_range]; omega)]
  simp
theorem markW_zero (l : List Int) (mark : Int) : markW l mark 0 = List.replicate (64 * 4) 0 := by
  refine words_ext (by rw [markW_length, List.length_replicate]) (fun x h0 h1 => ?_)
  rw [List.length_replicate] at h1
  rw [wd_mark _ _ _ _ h0 h1, if_neg (by omega)]
  unfold wd
  rw [List.getD_eq_getElem?_getD, List.getElem?_replicate]
  split <;> rfl
theorem markW_in (l : List Int) (mark : Int) (i : Nat) (h : (i : Int) ∈ l) : markW l mark (i + 1) = markW l mark i := by
  refine words_ext (by rw [markW_length, markW_length]) (fun x h0 h1 => ?_)
  rw [markW_length] at h1
  rw [wd_mark _ _ _ _ h0 h1, wd_mark _ _ _ _ h0 h1]
  by_cases hj : x = i
  · subst hj; simp [h]
  · have : x < (i + 1 : Nat) ↔ x < i := by omega
    simp only [this]
theorem markW_out (l : List Int) (mark : Int) (i : Nat) (hi : i < 256) (h : (i : Int) ∉ l) : setW (markW l mark i) i mark = markW l mark (i + 1) := by
  refine words_ext (by rw [setW_length, markW_length, markW_length]) (fun x h0 h1 => ?_)
  rw [markW_length] at h1
  rw [wd_mark _ _ _ _ h0 h1]
  by_cases hj : (i : Int) = x
  · subst hj
    rw [wd_setW_same (by omega) (by rw [markW_length]; omega), if_pos ⟨by omega, h⟩]
  · rw [wd_setW_other (by omega) h0 hj, wd_mark _ _ _ _ h0 h1]
    have : x < (i + 1 : Nat) ↔ x < i := by omega
    simp only [this]
theorem wd_markW (l : List Int) (mark : Int) (y : Int) (h0 : 0 ≤ y) (h1 : y < 256) : wd (markW l mark 256) y = if y ∈ l then 0 else mark := by
  rw [wd_mark _ _ _ _ h0 h1]
  by_cases h : y ∈ l
  · simp [h]
  · rw [if_pos ⟨by omega, h⟩, if_neg h]
theorem take_rev {l : List Int} {m : Nat} (h : m < l.length) : (l.take (m + 1)).reverse = l[m] :: (l.take m).reverse := by
  rw [List.take_succ_eq_append_getElem h, List.reverse_append]; rfl

/-- How far it has been popped. -/
structure Popped (l : List Int) (mark : Int) (n : Nat) (P : List Int) (h : Int) : Prop where
  right : RightC P h n (l.take n).reverse
  len : P.length = 256
  out : ∀ y, 0 ≤ y → y < 256 → y ∉ l → wd P y = mark
  gone : ∀ y ∈ l.drop n, wd P y = 0
theorem Popped.step {l : List Int} {mark : Int} {m : Nat} {P : List Int} {h : Int} (hp : Popped l mark (m + 1) P h) (hm : m < l.length) (hn : l.Nodup) :
    popF P h ((m + 1 : Nat) : Int) = (⟨setW P l[m] 0, wd P l[m], m, 0⟩, l[m]) ∧ Popped l mark m (setW P l[m] 0) (wd P l[m]) ∧ I64 h ∧ I64 (wd P l[m]) := by
  have hr := hp.right
  rw [take_rev hm] at hr
  have hx := isCh_range hr.ch l[m] (by simp)
  have hnx := List.nodup_cons.1 hr.nd
  have e1 := rem_first hr.ch hr.nd
  obtain ⟨W2, h2, e2, r2, L2⟩ := rem_in hr (x := l[m]) (by simp)
  have e3 := remF_ok hr (x := l[m]) (by simp)
  rw [e1] at e3
  have e4 : ((m + 1 : Nat) : Int) - 1 = m := by omega
  rw [e4] at e3
  rw [e3, e4] at e2
  cases e2
  have hf : (l[m] :: (l.take m).reverse).filter (fun y => y != l[m]) = (l.take m).reverse := filter_mid (p := []) hr.nd
  rw [hf, e4] at r2
  have hmem : l[m] ∈ l := List.getElem_mem _
  refine ⟨by rw [popF_some hr, e3], ⟨r2, by rw [setW_length]; exact hp.len, fun y y0 y1 hy => ?_, fun y hy => ?_⟩, (right_i64 (by rw [hp.len]; omega) hr).1, (right_i64 (by rw [setW_length, hp.len]; omega) r2).1⟩
  · rw [wd_setW_other hx.1 y0 (fun e => hy (e ▸ hmem))]
    exact hp.out y y0 y1 hy
  · rw [List.drop_eq_getElem_cons hm] at hy
    rcases List.mem_cons.1 hy with rfl | hy
    · exact wd_setW_same hx.1 hx.2
    · by_cases e : l[m] = y
      · subst e; exact wd_setW_same hx.1 hx.2
      · have hy0 : 0 ≤ y ∨ y < 0 := by omega
        rcases hy0 with hy0 | hy0
        · rw [wd_setW_other hx.1 hy0 e]; exact hp.gone y hy
        · have h9 := hp.gone y hy
          unfold wd setW at *
          by_cases ht : l[m].toNat = y.toNat
          · rw [ht, List.getD_eq_getElem?_getD, List.getElem?_set_self (by have := hp.len; omega)]; rfl
          · rw [List.getD_eq_getElem?_getD, List.getElem?_set_ne ht, ← List.getD_eq_getElem?_getD]; exact h9
theorem Popped.start {l : List Int} {mark : Int} {P : List Int} {h : Int} (hr : RightC P h l.length l.reverse) (hl : P.length = 256) (ho : ∀ y, 0 ≤ y → y < 256 → y ∉ l → wd P y = mark) : Popped l mark l.length P h :=
  ⟨by rw [List.take_length]; exact hr, hl, ho, by simp⟩
theorem pushW_other : ∀ (at_ ws : List Int) (h y : Int), 0 ≤ y → (∀ x ∈ at_, 0 ≤ x) → y ∉ at_ → wd (pushW ws h at_).1 y = wd ws y
  | [], _, _, _, _, _, _ => rfl
  | x :: at_, ws, h, y, h0, hb, hn => by
    rw [pushW, pushW_other at_ _ _ y h0 (fun z hz => hb z (by simp [hz])) (fun hm => hn (by simp [hm]))]
    exact wd_setW_other (hb x (by simp)) h0 (fun e => hn (by simp [e]))
theorem Popped.last {l : List Int} {mark : Int} {P : List Int} {h : Int} (hp : Popped l mark 0 P h) : h = 0 ∧ popF P 0 0 = (⟨P, 0, 0, 6⟩, 0) ∧ ∀ i : Nat, i < 256 → ldW P i = (if (i : Int) ∈ l then 0 else mark) := by
  have hr := hp.right
  simp at hr
  obtain rfl : h = 0 := hr.ch
  refine ⟨rfl, popF_none hr, fun i hi => ?_⟩
  rw [ldW_wd (by omega) (by rw [hp.len]; omega)]
  split
  · rename_i h1; exact hp.gone _ (by simpa using h1)
  · rename_i h1; exact hp.out _ (by omega) (by omega) h1
end Go.Proofs.Ytnehccndghkakaa

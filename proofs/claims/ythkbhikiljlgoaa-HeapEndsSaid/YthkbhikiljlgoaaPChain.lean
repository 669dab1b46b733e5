/- Chains of blocks through words, in plain Lean: no program in sight. -/
import Derived.Test.YthkbhikiljlgoaaSlice
namespace Go.Proofs.Ythkbhikiljlgoaa

/-- The word at an address. -/
def wd (ws : List Int) (x : Int) : Int := ws.getD x.toNat 0
/-- From head h on the blocks are l. -/
def IsCh (ws : List Int) : Int → List Int → Prop
  | h, [] => h = 0
  | h, x :: l => h = x + 1 ∧ 0 ≤ x ∧ x < ws.length ∧ IsCh ws (wd ws x) l
/-- From head h on the blocks are l, and behind them head k. -/
def Seg (ws : List Int) : Int → List Int → Int → Prop
  | h, [], k => h = k
  | h, x :: l, k => h = x + 1 ∧ 0 ≤ x ∧ x < ws.length ∧ Seg ws (wd ws x) l k

theorem Seg.snoc {ws : List Int} : ∀ {l : List Int} {h x : Int}, Seg ws h l (x + 1) → 0 ≤ x → x < ws.length → Seg ws h (l ++ [x]) (wd ws x)
  | [], h, x, hs, h0, h1 => ⟨hs, h0, h1, rfl⟩
  | y :: l, h, x, ⟨a, b, c, hs⟩, h0, h1 => ⟨a, b, c, Seg.snoc hs h0 h1⟩
theorem Seg.split {ws : List Int} : ∀ {o : List Int} {h k : Int} {l : List Int}, Seg ws h o k → IsCh ws h l → ∃ l2, l = o ++ l2 ∧ IsCh ws k l2
  | [], h, k, l, hs, hc => ⟨l, rfl, by cases (show h = k from hs); exact hc⟩
  | y :: o, h, k, [], ⟨a, b, c, hs⟩, hc => by have : h = 0 := hc; omega
  | y :: o, h, k, z :: l, ⟨a, b, c, hs⟩, ⟨a', b', c', hc⟩ => by
    have : y = z := by omega
    subst this
    obtain ⟨l2, rfl, h2⟩ := Seg.split hs hc
    exact ⟨l2, rfl, h2⟩
theorem Seg.join {ws : List Int} : ∀ {o : List Int} {h k : Int} {l : List Int}, Seg ws h o k → IsCh ws k l → IsCh ws h (o ++ l)
  | [], h, k, l, hs, hc => by cases (show h = k from hs); exact hc
  | y :: o, h, k, l, ⟨a, b, c, hs⟩, hc => ⟨a, b, c, Seg.join hs hc⟩
theorem Seg.range {ws : List Int} : ∀ {o : List Int} {h k : Int}, Seg ws h o k → ∀ x ∈ o, 0 ≤ x ∧ x < ws.length
  | [], _, _, _, x, hx => by simp at hx
  | y :: o, h, k, ⟨a, b, c, hs⟩, x, hx => by
    rcases List.mem_cons.1 hx with rfl | hx
    · exact ⟨b, c⟩
    · exact Seg.range hs x hx
theorem isCh_unique {ws : List Int} : ∀ {l l' : List Int} {h : Int}, IsCh ws h l → IsCh ws h l' → l = l'
  | [], [], _, _, _ => rfl
  | [], y :: l', h, hc, ⟨a, b, _⟩ => by have : h = 0 := hc; omega
  | y :: l, [], h, ⟨a, b, _⟩, hc => by have : h = 0 := hc; omega
  | y :: l, z :: l', h, ⟨a, b, c, hs⟩, ⟨a', b', c', hs'⟩ => by
    have : y = z := by omega
    subst this
    rw [isCh_unique hs hs']
theorem isCh_range {ws : List Int} : ∀ {l : List Int} {h : Int}, IsCh ws h l → ∀ x ∈ l, 0 ≤ x ∧ x < ws.length
  | [], _, _, x, hx => by simp at hx
  | y :: l, h, ⟨a, b, c, hs⟩, x, hx => by
    rcases List.mem_cons.1 hx with rfl | hx
    · exact ⟨b, c⟩
    · exact isCh_range hs x hx
theorem isCh_head {ws : List Int} {l : List Int} {h : Int} (hc : IsCh ws h l) : 0 ≤ h ∧ h ≤ ws.length := by
  cases l with
  | nil => have : h = 0 := hc; omega
  | cons x l => obtain ⟨a, b, c, _⟩ := hc; omega
/-- Words that are the same along a chain bear the same chain. -/
theorem isCh_same {ws ws' : List Int} (hl : ws'.length = ws.length) : ∀ {l : List Int} {h : Int}, IsCh ws h l → (∀ x ∈ l, wd ws' x = wd ws x) → IsCh ws' h l
  | [], _, hc, _ => hc
  | y :: l, h, ⟨a, b, c, hs⟩, he => ⟨a, b, by omega, by rw [he y (by simp)]; exact isCh_same hl hs (fun x hx => he x (by simp [hx]))⟩

/-- A chain that is right: its blocks. -/
structure RightC (ws : List Int) (hd ln : Int) (l : List Int) : Prop where
  ch : IsCh ws hd l
  nd : l.Nodup
  len : (l.length : Int) = ln
theorem RightC.unique {ws : List Int} {hd ln : Int} {l l' : List Int} (h : RightC ws hd ln l) (h' : RightC ws hd ln l') : l = l' := isCh_unique h.ch h'.ch

theorem nodup_bound : ∀ (n : Nat) (l : List Int), l.Nodup → (∀ x ∈ l, 0 ≤ x ∧ x < n) → l.length ≤ n
  | 0, l, _, hb => by
    cases l with
    | nil => simp
    | cons x l => have := hb x (by simp); omega
  | n + 1, l, hn, hb => by
    by_cases h : (n : Int) ∈ l
    · have := nodup_bound n (l.erase n) (hn.erase _) (fun x hx => by
        have h1 := (hn.mem_erase_iff).1 hx
        have h2 := hb x h1.2
        omega)
      rw [List.length_erase_of_mem h] at this
      omega
    · have := nodup_bound n l hn (fun x hx => by
        have h2 := hb x hx
        have : x ≠ n := fun e => h (e ▸ hx)
        omega)
      omega
theorem RightC.small {ws : List Int} {hd ln : Int} {l : List Int} (h : RightC ws hd ln l) : l.length ≤ ws.length := nodup_bound _ l h.nd (isCh_range h.ch)

/-- What is behind a head, as the program sees it; -1: it isn't there, or is none. -/
def nxt (ws : List Int) (h : Int) : Int := if 0 ≤ h - 1 ∧ h - 1 < ws.length ∧ wd ws (h - 1) ≤ ws.length then wd ws (h - 1) else -1

/-! ### the walk along a chain that isn't right -/
theorem not_right_neg {ws : List Int} {hd ln h : Int} {o : List Int} (hs : Seg ws hd o h) (hh : h < 0) : ∀ l, ¬ RightC ws hd ln l := fun l hr => by
  obtain ⟨l2, rfl, h2⟩ := hs.split hr.ch
  have := isCh_head h2
  omega
theorem not_right_met {ws : List Int} {hd ln h : Int} {o : List Int} (hs : Seg ws hd o h) (h0 : h ≠ 0) (hm : h - 1 ∈ o) : ∀ l, ¬ RightC ws hd ln l := fun l hr => by
  obtain ⟨l2, rfl, h2⟩ := hs.split hr.ch
  cases l2 with
  | nil => exact h0 h2
  | cons x l2 =>
    have hx : x = h - 1 := by have := h2.1; omega
    subst hx
    exact (List.nodup_append.1 hr.nd).2.2 _ hm (h - 1) (by simp) rfl
theorem not_right_long {ws : List Int} {hd ln h : Int} {o : List Int} (hs : Seg ws hd o h) (h0 : h ≠ 0) (hm : ln ≤ o.length) : ∀ l, ¬ RightC ws hd ln l := fun l hr => by
  obtain ⟨l2, rfl, h2⟩ := hs.split hr.ch
  cases l2 with
  | nil => exact h0 h2
  | cons x l2 => have := hr.len; simp at this; omega
theorem not_right_end {ws : List Int} {hd ln : Int} {o : List Int} (hs : Seg ws hd o 0) (hm : (o.length : Int) ≠ ln) : ∀ l, ¬ RightC ws hd ln l := fun l hr => by
  have h1 := hs.join (l := []) rfl
  rw [List.append_nil] at h1
  have := isCh_unique h1 hr.ch
  subst this
  exact hm hr.len
theorem not_right_next {ws : List Int} {hd ln h : Int} {o : List Int} (hs : Seg ws hd o h) (h0 : h ≠ 0) (hn : nxt ws h = -1 ∧ ¬ (0 ≤ h - 1 ∧ h - 1 < ws.length ∧ wd ws (h - 1) ≤ ws.length)) : ∀ l, ¬ RightC ws hd ln l := fun l hr => by
  obtain ⟨l2, rfl, h2⟩ := hs.split hr.ch
  cases l2 with
  | nil => exact h0 h2
  | cons x l2 =>
    obtain ⟨a, b, c, d⟩ := h2
    have hx : x = h - 1 := by omega
    subst hx
    exact hn.2 ⟨b, c, (isCh_head d).2⟩

/-! ### words set -/
def setW (ws : List Int) (x v : Int) : List Int := ws.set x.toNat v
theorem setW_length (ws : List Int) (x v : Int) : (setW ws x v).length = ws.length := by simp [setW]
theorem wd_setW_same {ws : List Int} {x v : Int} (h0 : 0 ≤ x) (h1 : x < ws.length) : wd (setW ws x v) x = v := by
  unfold wd setW
  rw [List.getD_eq_getElem?_getD, List.getElem?_set_self (by omega)]
  rfl
theorem wd_setW_other {ws : List Int} {x y v : Int} (h0 : 0 ≤ x) (h1 : 0 ≤ y) (h : x ≠ y) : wd (setW ws x v) y = wd ws y := by
  unfold wd setW
  rw [List.getD_eq_getElem?_getD, List.getElem?_set_ne (by omega), List.getD_eq_getElem?_getD]
theorem setW_self {ws : List Int} {x : Int} (h1 : x.toNat < ws.length) : setW ws x (wd ws x) = ws := by
  unfold wd setW
  rw [List.getD_eq_getElem?_getD, List.getElem?_eq_getElem h1]
  simp
theorem splice_one {ws : List Int} {x v : Int} (h1 : x.toNat < ws.length) : splice ws x.toNat [v] = setW ws x v := by
  unfold splice setW
  rw [List.set_eq_take_append_cons_drop, if_pos h1]
  simp
theorem words_ext {ws ws' : List Int} (hl : ws'.length = ws.length) (h : ∀ x : Int, 0 ≤ x → x < ws.length → wd ws' x = wd ws x) : ws' = ws := by
  apply List.ext_getElem hl
  intro i h1 h2
  have := h i (by omega) (by omega)
  unfold wd at this
  simpa [List.getD_eq_getElem?_getD, List.getElem?_eq_getElem h1, List.getElem?_eq_getElem h2] using this

/-! ### pushed -/
/-- The words and the head behind blocks that are put ahead. -/
def pushW : List Int → Int → List Int → List Int × Int
  | ws, h, [] => (ws, h)
  | ws, h, x :: at_ => pushW (setW ws x h) (x + 1) at_
theorem pushW_length : ∀ (at_ ws : List Int) (h : Int), (pushW ws h at_).1.length = ws.length
  | [], _, _ => rfl
  | x :: at_, ws, h => by rw [pushW, pushW_length at_, setW_length]
theorem pushW_snoc : ∀ (at_ ws : List Int) (h x : Int), pushW ws h (at_ ++ [x]) = (setW (pushW ws h at_).1 x (pushW ws h at_).2, x + 1)
  | [], _, _, _ => rfl
  | y :: at_, ws, h, x => by simp only [List.cons_append, pushW]; exact pushW_snoc at_ _ _ x
theorem push_right {ws : List Int} {hd ln : Int} {l : List Int} (hr : RightC ws hd ln l) : ∀ (at_ : List Int), (∀ x ∈ at_, 0 ≤ x ∧ x < ws.length) → (at_.reverse ++ l).Nodup →
    RightC (pushW ws hd at_).1 (pushW ws hd at_).2 (ln + at_.length) (at_.reverse ++ l) := by
  intro at_
  induction at_ generalizing ws hd ln l with
  | nil => intro _ _; simpa [pushW] using hr
  | cons x at_ ih =>
    intro hb hn
    have hx := hb x (by simp)
    simp only [List.reverse_cons, List.append_assoc, List.singleton_append] at hn
    have hnx : (x :: l).Nodup := (List.nodup_append.1 hn).2.1
    have h1 : RightC (setW ws x hd) (x + 1) (ln + 1) (x :: l) := by
      refine ⟨⟨rfl, hx.1, by rw [setW_length]; exact hx.2, ?_⟩, hnx, by have := hr.len; simp; omega⟩
      rw [wd_setW_same hx.1 hx.2]
      refine isCh_same (setW_length _ _ _) hr.ch (fun y hy => wd_setW_other hx.1 (isCh_range hr.ch y hy).1 ?_)
      intro e
      subst e
      exact (List.nodup_cons.1 hnx).1 hy
    have := ih h1 (fun y hy => by rw [setW_length]; exact hb y (by simp [hy])) (by simpa using hn)
    simp only [pushW, List.reverse_cons, List.append_assoc, List.singleton_append, List.length_cons]
    rw [show ln + ((at_.length + 1 : Nat) : Int) = ln + 1 + at_.length by omega]
    exact this

/-! ### one block taken out -/
/-- The words in which the blocks l are linked, one behind the other, made from the last one on. -/
def relink (ws : List Int) : List Int → List Int × Int
  | [] => (ws, 0)
  | x :: l => (setW (relink ws l).1 x (relink ws l).2, x + 1)
theorem relink_length (ws : List Int) : ∀ l, (relink ws l).1.length = ws.length
  | [] => rfl
  | x :: l => by rw [relink, setW_length, relink_length ws l]
theorem relink_other (ws : List Int) : ∀ (l : List Int) (y : Int), 0 ≤ y → (∀ x ∈ l, 0 ≤ x) → y ∉ l → wd (relink ws l).1 y = wd ws y
  | [], _, _, _, _ => rfl
  | x :: l, y, h0, hb, hn => by
    rw [relink, wd_setW_other (hb x (by simp)) h0 (fun e => hn (by simp [e])), relink_other ws l y h0 (fun z hz => hb z (by simp [hz])) (fun h => hn (by simp [h]))]
/-- A chain that stands is linked already. -/
theorem relink_same {ws : List Int} : ∀ {l : List Int} {h : Int}, IsCh ws h l → relink ws l = (ws, h)
  | [], h, hc => by have : h = 0 := hc; rw [this]; rfl
  | x :: l, h, ⟨a, b, c, hs⟩ => by
    have hx : x.toNat < ws.length := by omega
    rw [relink, relink_same hs, setW_self hx, a]
/-- Linked anew behind blocks that stand ahead already. -/
theorem relink_seg {ws0 ws1 : List Int} {l : List Int} {k : Int} (hr : relink ws0 l = (ws1, k)) : ∀ {p : List Int} {hd : Int}, Seg ws1 hd p k → relink ws0 (p ++ l) = (ws1, hd)
  | [], hd, hs => by rw [List.nil_append, hr, show hd = k from hs]
  | x :: p, hd, ⟨a, b, c, hs⟩ => by
    have hx : x.toNat < ws1.length := by omega
    rw [List.cons_append, relink, relink_seg hr hs, setW_self hx, a]
theorem relink_ch (ws : List Int) : ∀ (l : List Int), l.Nodup → (∀ x ∈ l, 0 ≤ x ∧ x < ws.length) → IsCh (relink ws l).1 (relink ws l).2 l
  | [], _, _ => rfl
  | x :: l, hn, hb => by
    have hx := hb x (by simp)
    have hn' := List.nodup_cons.1 hn
    have h1 := relink_ch ws l hn'.2 (fun y hy => hb y (by simp [hy]))
    refine ⟨rfl, hx.1, by rw [relink, setW_length, relink_length]; exact hx.2, ?_⟩
    rw [relink, wd_setW_same hx.1 (by rw [relink_length]; exact hx.2)]
    exact isCh_same (setW_length _ _ _) h1 (fun y hy => wd_setW_other hx.1 (hb y (by simp [hy])).1 (fun e => hn'.1 (e ▸ hy)))

theorem Seg.same {ws ws' : List Int} (hl : ws'.length = ws.length) : ∀ {o : List Int} {h k : Int}, Seg ws h o k → (∀ x ∈ o, wd ws' x = wd ws x) → Seg ws' h o k
  | [], _, _, hc, _ => hc
  | y :: l, h, k, ⟨a, b, c, hs⟩, he => ⟨a, b, by omega, by rw [he y (by simp)]; exact Seg.same hl hs (fun x hx => he x (by simp [hx]))⟩
theorem isCh_parts {ws : List Int} : ∀ {p s : List Int} {h : Int}, IsCh ws h (p ++ s) → ∃ k, Seg ws h p k ∧ IsCh ws k s
  | [], s, h, hc => ⟨h, rfl, hc⟩
  | x :: p, s, h, ⟨a, b, c, hs⟩ => by
    obtain ⟨k, h1, h2⟩ := isCh_parts hs
    exact ⟨k, ⟨a, b, c, h1⟩, h2⟩

/-- The document's answer: all others linked anew. -/
def remW (ws l : List Int) (x : Int) : List Int × Int := relink (setW ws x 0) (l.filter fun y => y != x)
theorem filter_mid {p s : List Int} {x : Int} (hn : (p ++ x :: s).Nodup) : (p ++ x :: s).filter (fun y => y != x) = p ++ s := by
  have h := List.nodup_append.1 hn
  have hx := List.nodup_cons.1 h.2.1
  rw [List.filter_append, List.filter_cons]
  simp only [bne_self_eq_false, Bool.false_eq_true, if_false]
  rw [List.filter_eq_self.2 (fun y hy => by
      have := h.2.2 y hy x (by simp)
      simpa using this), List.filter_eq_self.2 (fun y hy => by
      have : y ≠ x := fun e => hx.1 (e ▸ hy)
      simpa using this)]
theorem rem_first {ws : List Int} {hd x : Int} {s : List Int} (hc : IsCh ws hd (x :: s)) (hn : (x :: s).Nodup) : remW ws (x :: s) x = (setW ws x 0, wd ws x) := by
  have hx := List.nodup_cons.1 hn
  obtain ⟨a, b, c, hs⟩ := hc
  unfold remW
  rw [show (x :: s).filter (fun y => y != x) = s from filter_mid (p := []) hn]
  exact relink_same (isCh_same (setW_length _ _ _) hs (fun y hy => wd_setW_other b (isCh_range hs y hy).1 (fun e => hx.1 (e ▸ hy))))
theorem rem_other {ws : List Int} {hd x y : Int} {p s : List Int} (hc : IsCh ws hd (p ++ y :: x :: s)) (hn : (p ++ y :: x :: s).Nodup) :
    remW ws (p ++ y :: x :: s) x = (setW (setW ws y (wd ws x)) x 0, hd) := by
  obtain ⟨k, h1, h2⟩ := isCh_parts hc
  obtain ⟨a, b, c, a', b', c', hs⟩ := h2
  have hnp := List.nodup_append.1 hn
  have hny := List.nodup_cons.1 hnp.2.1
  have hnx := List.nodup_cons.1 hny.2
  have hyx : y ≠ x := fun e => hny.1 (by simp [e])
  have e1 : p ++ y :: x :: s = (p ++ [y]) ++ x :: s := by simp
  have hcomm : setW (setW ws y (wd ws x)) x 0 = setW (setW ws x 0) y (wd ws x) := by
    unfold setW
    exact List.set_comm _ _ (by omega)
  unfold remW
  rw [e1, filter_mid (by rw [← e1]; exact hn), List.append_assoc, List.singleton_append]
  refine relink_seg (k := y + 1) (by
    rw [relink, relink_same (isCh_same (setW_length _ _ _) hs (fun z hz => wd_setW_other b' (isCh_range hs z hz).1 (fun e => hnx.1 (e ▸ hz)))), hcomm]) ?_
  rw [← a]
  refine h1.same (by rw [setW_length, setW_length]) (fun z hz => ?_)
  have hz0 := (h1.range z hz).1
  rw [wd_setW_other b' hz0 (fun e => hnp.2.2 z hz x (by simp) e.symm), wd_setW_other b hz0 (fun e => hnp.2.2 z hz y (by simp) e.symm)]
theorem rem_right {ws : List Int} {hd ln x : Int} {l : List Int} (hr : RightC ws hd ln l) (hx : x ∈ l) :
    RightC (remW ws l x).1 (remW ws l x).2 (ln - 1) (l.filter fun y => y != x) := by
  obtain ⟨p, s, rfl⟩ := List.append_of_mem hx
  rw [filter_mid hr.nd]
  have hb := isCh_range hr.ch
  have hnd : (p ++ s).Nodup := hr.nd.sublist (List.Sublist.append (List.Sublist.refl p) (List.sublist_cons_self x s))
  refine ⟨?_, hnd, by have := hr.len; simp at this ⊢; omega⟩
  unfold remW
  rw [filter_mid hr.nd]
  refine relink_ch _ _ hnd (fun y hy => ?_)
  rw [setW_length]
  refine hb y ?_
  simp at hy ⊢
  rcases hy with h | h
  · exact .inl h
  · exact .inr (.inr h)
end Go.Proofs.Ythkbhikiljlgoaa

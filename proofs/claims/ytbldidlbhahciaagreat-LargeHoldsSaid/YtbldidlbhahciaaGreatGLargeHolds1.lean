/- Runs in memory: what came in, what is one's own. The slow twin of layer 6 in plain Lean: the tightest run, how many pages. Pages of which something holds, in plain Lean: the slow twin of layer 6. Free runs in plain Lean: joined, cut, the tightest. Runs in plain Lean: rising, with a gap between each two; what pages they have says which they are. The index in plain Lean: the numbers of a run; what is answered. -/
import Derived.Test.YtbldidlbhahciaaGreatGLargeHolds0
import Derived.Maps.AppendAt
import Derived.Laws.AppendOwnNone
import Derived.OwnWalk
set_option linter.unusedVariables false
set_option linter.unusedSimpArgs false
namespace Go.Proofs.YtbldidlbhahciaaGreat

/-- The numbers of a run's pages. -/
def partN (ids : List Int) (r : Rn) : List Int := (ids.drop r.1.toNat).take r.2.toNat
theorem partN_get {ids : List Int} {s m t : Nat} (ht : t < m) (h : s + m ≤ ids.length) : (partN ids (s, m))[t]? = some (wd ids ((s + t : Nat) : Int)) := by
  unfold partN wd
  rw [List.getElem?_take, if_pos (by simpa using ht), List.getElem?_drop, List.getD_eq_getElem?_getD, show (((s + t : Nat) : Int)).toNat = s + t from Int.toNat_natCast _]
  have : s + t < ids.length := by omega
  simp [this]
theorem partN_length {ids : List Int} {s m : Nat} (h : s + m ≤ ids.length) : (partN ids ((s : Int), (m : Int))).length = m := by
  unfold partN; simp; omega
theorem mem_partN {ids : List Int} {r : Rn} (h : there ids.length r = true) {x : Int} : x ∈ partN ids r ↔ ∃ p : Int, inR r p = true ∧ wd ids p = x := by
  obtain ⟨s, m⟩ := r
  obtain ⟨t0, t1, t2, t3⟩ := there_iff.1 h
  dsimp only at t0 t1 t2 t3
  obtain ⟨s, rfl⟩ := Int.eq_ofNat_of_zero_le t0
  obtain ⟨m, rfl⟩ := Int.eq_ofNat_of_zero_le (show 0 ≤ m by omega)
  constructor
  · intro hx
    obtain ⟨t, ht, e⟩ := List.getElem_of_mem hx
    rw [partN_length (by omega)] at ht
    refine ⟨((s + t : Nat) : Int), inR_iff.2 (by dsimp only; omega), ?_⟩
    have := partN_get (ids := ids) (s := s) ht (by omega)
    rw [List.getElem?_eq_getElem (by rw [partN_length (by omega)]; exact ht)] at this
    have h2 := Option.some.inj this
    rw [← h2]; exact e
  · rintro ⟨p, hp, rfl⟩
    have hp2 := inR_iff.1 hp
    dsimp only at hp2
    obtain ⟨p, rfl⟩ := Int.eq_ofNat_of_zero_le (show 0 ≤ p by omega)
    obtain ⟨t, rfl⟩ : ∃ t, p = s + t := ⟨p - s, by omega⟩
    have := partN_get (ids := ids) (s := s) (t := t) (m := m) (by omega) (by omega)
    exact List.mem_of_getElem? this
theorem each_iff {ids : List Int} {rs : List Rn} (h : AllThere ids.length rs) : EachSet ids rs ↔ ∀ r ∈ rs, (0 : Int) ∉ partN ids r := by
  constructor
  · intro he r hr hm
    obtain ⟨p, hp, hw⟩ := (mem_partN (h r hr)).1 hm
    have h1 := there_iff.1 (h r hr)
    have h2 := inR_iff.1 hp
    exact he p (by omega) (by omega) (List.any_eq_true.2 ⟨r, hr, hp⟩) hw
  · intro he p h0 h1 ha hw
    obtain ⟨r, hr, hp⟩ := List.any_eq_true.1 ha
    exact he r hr ((mem_partN (h r hr)).2 ⟨p, hp, hw⟩)
theorem none_iff {ids : List Int} {rs : List Rn} (h : AllThere ids.length rs) : NoneSet ids rs ↔ ∀ r ∈ rs, (partN ids r).any (fun n => n != 0) = false := by
  constructor
  · intro he r hr
    rw [List.any_eq_false]
    intro x hx
    obtain ⟨p, hp, hw⟩ := (mem_partN (h r hr)).1 hx
    have h1 := there_iff.1 (h r hr)
    have h2 := inR_iff.1 hp
    have := he p (by omega) (by omega) (List.any_eq_true.2 ⟨r, hr, hp⟩)
    rw [← hw, this]; simp
  · intro he p h0 h1 ha
    obtain ⟨r, hr, hp⟩ := List.any_eq_true.1 ha
    have h2 := he r hr
    rw [List.any_eq_false] at h2
    have := h2 _ ((mem_partN (h r hr)).2 ⟨p, hp, rfl⟩)
    simpa using this
theorem putF_arg {ids : List Int} {id : Int} {rs : List Rn} (h : id < 1) : putF ids id rs false = (ids, 1) := by unfold putF; rw [if_pos ⟨rfl, h⟩]
theorem putF_out {ids : List Int} {id : Int} {rs : List Rn} {drop : Bool} (h : ¬ (drop = false ∧ id < 1)) (h1 : ¬ AllThere ids.length rs) : putF ids id rs drop = (ids, 2) := by unfold putF; rw [if_neg h, if_pos h1]
theorem drop_bad {ids : List Int} {id : Int} {rs : List Rn} (h : AllThere ids.length rs) (h1 : ¬ EachSet ids rs) : putF ids id rs true = (ids, 9) := by
  unfold putF; rw [if_neg (by simp), if_neg (by simpa using h), if_pos rfl, if_neg h1]
theorem drop_ok {ids : List Int} {id : Int} {rs : List Rn} (h : AllThere ids.length rs) (h1 : EachSet ids rs) : putF ids id rs true = (fillA ids 0 rs, 0) := by
  unfold putF; rw [if_neg (by simp), if_neg (by simpa using h), if_pos rfl, if_pos h1]
theorem set_bad {ids : List Int} {id : Int} {rs : List Rn} (h0 : 1 ≤ id) (h : AllThere ids.length rs) (h1 : ¬ (NoneSet ids rs ∧ rs.Pairwise Apart)) : putF ids id rs false = (ids, 9) := by
  unfold putF; rw [if_neg (by rintro ⟨_, h9⟩; omega), if_neg (by simpa using h), if_neg (by simp), if_neg h1]
theorem set_ok {ids : List Int} {id : Int} {rs : List Rn} (h0 : 1 ≤ id) (h : AllThere ids.length rs) (h1 : NoneSet ids rs) (h2 : rs.Pairwise Apart) : putF ids id rs false = (fillA ids id rs, 0) := by
  unfold putF; rw [if_neg (by rintro ⟨_, h9⟩; omega), if_neg (by simpa using h), if_neg (by simp), if_pos ⟨h1, h2⟩]
theorem putF_length (ids : List Int) (id : Int) (rs : List Rn) (drop : Bool) : (putF ids id rs drop).1.length = ids.length := by
  unfold putF
  split
  · rfl
  · split
    · rfl
    · split
      · split
        · exact fillA_length _ _ _
        · rfl
      · split
        · exact fillA_length _ _ _
        · rfl
end Go.Proofs.YtbldidlbhahciaaGreat

namespace Go.Proofs.YtbldidlbhahciaaGreat

/-- Rising runs below q, none of which touches another one. -/
structure Canon (q : Int) (L : List Rn) : Prop where
  ok : ∀ r ∈ L, 0 ≤ r.1 ∧ 1 ≤ r.2 ∧ r.1 + r.2 ≤ q
  gap : L.Pairwise (fun a b => a.1 + a.2 < b.1)
theorem Canon.nil (q : Int) : Canon q [] := ⟨fun r h => by simp at h, List.Pairwise.nil⟩
theorem Canon.tail {q : Int} {a : Rn} {L : List Rn} (h : Canon q (a :: L)) : Canon q L := ⟨fun r hr => h.ok r (by simp [hr]), (List.pairwise_cons.1 h.gap).2⟩
theorem Canon.mono {q q' : Int} {L : List Rn} (h : Canon q L) (hq : q ≤ q') : Canon q' L := ⟨fun r hr => by have := h.ok r hr; omega, h.gap⟩
theorem Canon.snoc {q q' : Int} {L : List Rn} {s n : Int} (h : Canon q L) (hl : ∀ r ∈ L, r.1 + r.2 < s) (h0 : 0 ≤ s) (h1 : 1 ≤ n) (h2 : s + n ≤ q') (hq : q ≤ q') : Canon q' (L ++ [(s, n)]) := by
  refine ⟨fun r hr => ?_, ?_⟩
  · rcases List.mem_append.1 hr with hr | hr
    · have := h.ok r hr; omega
    · simp at hr; subst hr; exact ⟨h0, h1, h2⟩
  · rw [List.pairwise_append]
    exact ⟨h.gap, by simp, fun a ha b hb => by simp at hb; subst hb; exact hl a ha⟩
theorem Canon.init {q : Int} {L : List Rn} {x : Rn} (h : Canon q (L ++ [x])) : Canon q L ∧ (∀ r ∈ L, r.1 + r.2 < x.1) ∧ 0 ≤ x.1 ∧ 1 ≤ x.2 ∧ x.1 + x.2 ≤ q := by
  have h1 := List.pairwise_append.1 h.gap
  have h2 := h.ok x (by simp)
  exact ⟨⟨fun r hr => h.ok r (by simp [hr]), h1.1⟩, fun r hr => h1.2.2 r hr x (by simp), h2⟩
/-- Is a page in one of them? -/
def inL (L : List Rn) (p : Int) : Bool := L.any (inR · p)
theorem inL_iff {L : List Rn} {p : Int} : inL L p = true ↔ ∃ r ∈ L, r.1 ≤ p ∧ p < r.1 + r.2 := by
  unfold inL
  rw [List.any_eq_true]
  constructor
  · rintro ⟨r, h1, h2⟩; exact ⟨r, h1, inR_iff.1 h2⟩
  · rintro ⟨r, h1, h2⟩; exact ⟨r, h1, inR_iff.2 h2⟩
theorem inL_cons {a : Rn} {L : List Rn} {p : Int} : inL (a :: L) p = true ↔ (a.1 ≤ p ∧ p < a.1 + a.2) ∨ inL L p = true := by
  unfold inL; rw [List.any_cons, Bool.or_eq_true, inR_iff]
theorem inL_append {L M : List Rn} {p : Int} : inL (L ++ M) p = true ↔ inL L p = true ∨ inL M p = true := by
  unfold inL; rw [List.any_append, Bool.or_eq_true]
theorem inL_one {s n p : Int} : inL [(s, n)] p = true ↔ s ≤ p ∧ p < s + n := by
  unfold inL; simp [inR_iff]
theorem Canon.above {q : Int} {a : Rn} {L : List Rn} (h : Canon q (a :: L)) {p : Int} (hp : inL L p = true) : a.1 + a.2 < p := by
  obtain ⟨r, hr, h1, h2⟩ := inL_iff.1 hp
  have := (List.pairwise_cons.1 h.gap).1 r hr
  omega
/-- Their pages say which they are. -/
theorem canon_unique {q : Int} : ∀ (L M : List Rn), Canon q L → Canon q M → (∀ p, inL L p = true ↔ inL M p = true) → L = M
  | [], [], _, _, _ => rfl
  | [], b :: M, _, hM, h => by
    have h1 := hM.ok b (by simp)
    have := (h b.1).2 (inL_cons.2 (.inl ⟨Int.le_refl _, by omega⟩))
    simp [inL] at this
  | a :: L, [], hL, _, h => by
    have h1 := hL.ok a (by simp)
    have := (h a.1).1 (inL_cons.2 (.inl ⟨Int.le_refl _, by omega⟩))
    simp [inL] at this
  | a :: L, b :: M, hL, hM, h => by
    obtain ⟨s, n⟩ := a
    obtain ⟨t, m⟩ := b
    have a1 := hL.ok (s, n) (by simp)
    have b1 := hM.ok (t, m) (by simp)
    dsimp only at a1 b1
    have est : s = t := by
      have h1 := (h s).1 (inL_cons.2 (.inl ⟨Int.le_refl _, by show s < s + n; omega⟩))
      have h2 := (h t).2 (inL_cons.2 (.inl ⟨Int.le_refl _, by show t < t + m; omega⟩))
      rcases inL_cons.1 h1 with h3 | h3
      · rcases inL_cons.1 h2 with h4 | h4
        · dsimp only at h3 h4; omega
        · have := hL.above h4; dsimp only at h3 this; omega
      · have h5 := hM.above h3
        rcases inL_cons.1 h2 with h4 | h4
        · dsimp only at h4 h5; omega
        · have := hL.above h4; dsimp only at h5 this; omega
    subst est
    have enm : n = m := by
      by_cases hlt : n < m
      · have h1 := (h (s + n)).2 (inL_cons.2 (.inl ⟨by show s ≤ s + n; omega, by show s + n < s + m; omega⟩))
        rcases inL_cons.1 h1 with h3 | h3
        · dsimp only at h3; omega
        · have := hL.above h3; dsimp only at this; omega
      · by_cases hgt : m < n
        · have h1 := (h (s + m)).1 (inL_cons.2 (.inl ⟨by show s ≤ s + m; omega, by show s + m < s + n; omega⟩))
          rcases inL_cons.1 h1 with h3 | h3
          · dsimp only at h3; omega
          · have := hM.above h3; dsimp only at this; omega
        · omega
    subst enm
    rw [canon_unique L M hL.tail hM.tail (fun p => ?_)]
    constructor
    · intro hp
      have h1 := hL.above hp
      rcases inL_cons.1 ((h p).1 (inL_cons.2 (.inr hp))) with h3 | h3
      · dsimp only at h1 h3; omega
      · exact h3
    · intro hp
      have h1 := hM.above hp
      rcases inL_cons.1 ((h p).2 (inL_cons.2 (.inr hp))) with h3 | h3
      · dsimp only at h1 h3; omega
      · exact h3

/-- The runs of a number are rising ones, and have just its pages. -/
theorem runsP_canon {ids : List Int} {id : Int} : ∀ q : Nat, Canon q (runsP ids id q) ∧ (∀ p : Int, inL (runsP ids id q) p = true ↔ 0 ≤ p ∧ p < q ∧ wd ids p = id) ∧ ((q = 0 ∨ wd ids ((q : Int) - 1) ≠ id) → ∀ r ∈ runsP ids id q, r.1 + r.2 < q)
  | 0 => ⟨Canon.nil _, fun p => ⟨fun h => by simp [runsP, inL] at h, fun h => by omega⟩, fun _ r hr => by simp [runsP] at hr⟩
  | q + 1 => by
    obtain ⟨h1, h2, h3⟩ := runsP_canon (ids := ids) (id := id) q
    have e1 : (((q + 1 : Nat) : Int) - 1) = q := by omega
    by_cases hw : wd ids q = id
    · by_cases h0 : q = 0 ∨ wd ids ((q : Int) - 1) ≠ id
      · rw [runs_start hw h0]
        refine ⟨h1.snoc (h3 h0) (by omega) (by omega) (by omega) (by omega), fun p => ?_, fun h => ?_⟩
        · rw [inL_append, h2, inL_one]
          constructor
          · rintro (⟨a, b, c⟩ | ⟨a, b⟩)
            · exact ⟨a, by omega, c⟩
            · obtain rfl : p = q := by omega
              exact ⟨by omega, by omega, hw⟩
          · rintro ⟨a, b, c⟩
            by_cases h9 : p < q
            · exact .inl ⟨a, h9, c⟩
            · exact .inr ⟨by omega, by omega⟩
        · rcases h with h | h
          · omega
          · rw [e1] at h; exact (h hw).elim
      · obtain ⟨q', rfl⟩ : ∃ q', q = q' + 1 := ⟨q - 1, by omega⟩
        have hw' : wd ids q' = id := by
          refine Classical.byContradiction fun hn => h0 (.inr ?_)
          rw [show (((q' + 1 : Nat) : Int) - 1) = q' by omega]; exact hn
        obtain ⟨L, s, n, e, e2, e3, e4⟩ := runs_last hw'
        rw [runs_grow hw hw' e]
        rw [e] at h1 h2
        obtain ⟨i1, i2, i3, i4, i5⟩ := h1.init
        refine ⟨i1.snoc (q' := ((q' + 1 + 1 : Nat) : Int)) i2 i3 (by dsimp only at i4; omega) (by omega) (by omega), fun p => ?_, fun h => ?_⟩
        · have h9 := h2 p
          rw [inL_append, inL_one] at h9 ⊢
          constructor
          · rintro (h | ⟨a, b⟩)
            · obtain ⟨a, b, c⟩ := h9.1 (.inl h)
              exact ⟨a, by omega, c⟩
            · by_cases h8 : p < s + n
              · obtain ⟨a, b, c⟩ := h9.1 (.inr ⟨a, h8⟩)
                exact ⟨a, by omega, c⟩
              · obtain rfl : p = ((q' + 1 : Nat) : Int) := by omega
                exact ⟨by omega, by omega, hw⟩
          · rintro ⟨a, b, c⟩
            by_cases h8 : p < ((q' + 1 : Nat) : Int)
            · rcases h9.2 ⟨a, h8, c⟩ with h | h
              · exact .inl h
              · exact .inr ⟨h.1, by omega⟩
            · exact .inr ⟨by omega, by omega⟩
        · rcases h with h | h
          · omega
          · rw [e1] at h; exact (h hw).elim
    · rw [runs_skip hw]
      refine ⟨h1.mono (by omega), fun p => ?_, fun _ r hr => ?_⟩
      · rw [h2]
        constructor
        · rintro ⟨a, b, c⟩; exact ⟨a, by omega, c⟩
        · rintro ⟨a, b, c⟩
          by_cases h9 : p = q
          · subst h9; exact (hw c).elim
          · exact ⟨a, by omega, c⟩
      · have := h1.ok r hr
        omega
theorem runsF_canon (ids : List Int) (id : Int) : Canon ids.length (runsF ids id) := (runsP_canon ids.length).1
theorem inL_runsF {ids : List Int} {id p : Int} : inL (runsF ids id) p = true ↔ 0 ≤ p ∧ p < ids.length ∧ wd ids p = id := (runsP_canon ids.length).2.1 p
theorem Canon.next {q : Int} {L : List Rn} (h : Canon q L) {i : Nat} (hi : i + 1 < L.length) : (L[i]'(by omega)).1 + (L[i]'(by omega)).2 < L[i + 1].1 := List.pairwise_iff_getElem.1 h.gap i (i + 1) (by omega) hi (by omega)
/-- Between two of them, ahead of the first, and behind the last, no page is in one. -/
theorem Canon.between {q : Int} {L : List Rn} (h : Canon q L) {i : Nat} (hi : i < L.length) {p : Int} (h1 : L[i].1 + L[i].2 ≤ p) (h2 : ∀ hj : i + 1 < L.length, p < L[i + 1].1) : inL L p = false := by
  rw [← Bool.not_eq_true, inL_iff]
  rintro ⟨r, hr, r1, r2⟩
  obtain ⟨j, hj, rfl⟩ := List.getElem_of_mem hr
  have hg := List.pairwise_iff_getElem.1 h.gap
  rcases Nat.lt_trichotomy j i with hlt | rfl | hlt
  · have := hg j i hj hi hlt
    have := h.ok _ (List.getElem_mem hi)
    omega
  · omega
  · have h3 := h2 (by omega)
    by_cases he : i + 1 = j
    · subst he; omega
    · have := hg (i + 1) j (by omega) hj (by omega)
      have := h.ok _ (List.getElem_mem (show i + 1 < L.length by omega))
      omega
theorem Canon.ahead {q : Int} {L : List Rn} (h : Canon q L) {p : Int} (h2 : ∀ hj : 0 < L.length, p < L[0].1) : inL L p = false := by
  rw [← Bool.not_eq_true, inL_iff]
  rintro ⟨r, hr, r1, r2⟩
  obtain ⟨j, hj, rfl⟩ := List.getElem_of_mem hr
  have h3 := h2 (by omega)
  by_cases he : j = 0
  · subst he; omega
  · have := List.pairwise_iff_getElem.1 h.gap 0 j (by omega) hj (by omega)
    have := h.ok _ (List.getElem_mem (show 0 < L.length by omega))
    omega
theorem runs_short5 {ids : List Int} {id : Int} : ∀ (q : Nat), (runsP ids id q).length ≤ q
  | 0 => by simp [runsP]
  | q + 1 => by
    have ih := runs_short5 (ids := ids) (id := id) q
    unfold runsP
    split
    · omega
    · split
      · rw [List.length_append, List.length_dropLast, List.length_singleton]
        rename_i h
        have : runsP ids id q ≠ [] := by
          intro h9
          obtain ⟨q', rfl⟩ : ∃ q', q = q' + 1 := ⟨q - 1, by omega⟩
          have e1 : (((q' + 1 : Nat) : Int) - 1) = q' := by omega
          rw [e1] at h
          obtain ⟨L, s, n, e, _⟩ := runs_last h.2
          rw [h9] at e
          simp at e
        have := List.length_pos_iff.2 this
        omega
      · rw [List.length_append, List.length_singleton]; omega
end Go.Proofs.YtbldidlbhahciaaGreat

namespace Go.Proofs.YtbldidlbhahciaaGreat

/-! ### joined -/
/-- Rising runs of which those that touch are one; none: two share a page. -/
def joinF : List Rn → List Rn → Option (List Rn)
  | out, [] => some out
  | out, x :: xs =>
    match out.getLast? with
    | none => joinF [x] xs
    | some y => if y.1 + y.2 > x.1 then none else if y.1 + y.2 = x.1 then joinF (out.dropLast ++ [(y.1, y.2 + x.2)]) xs else joinF (out ++ [x]) xs
theorem joinF_first (x : Rn) (xs : List Rn) : joinF [] (x :: xs) = joinF [x] xs := rfl
theorem joinF_clash {O : List Rn} {y x : Rn} {xs : List Rn} (h : y.1 + y.2 > x.1) : joinF (O ++ [y]) (x :: xs) = none := by
  rw [joinF, List.getLast?_concat]; exact if_pos h
theorem joinF_touch {O : List Rn} {y x : Rn} {xs : List Rn} (h : y.1 + y.2 = x.1) : joinF (O ++ [y]) (x :: xs) = joinF (O ++ [(y.1, y.2 + x.2)]) xs := by
  rw [joinF, List.getLast?_concat]
  show (if _ then _ else _) = _
  rw [if_neg (by omega), if_pos h, List.dropLast_concat]
theorem joinF_apart {O : List Rn} {y x : Rn} {xs : List Rn} (h : y.1 + y.2 < x.1) : joinF (O ++ [y]) (x :: xs) = joinF (O ++ [y] ++ [x]) xs := by
  rw [joinF, List.getLast?_concat]
  show (if _ then _ else _) = _
  rw [if_neg (by omega), if_neg (by omega)]
/-- All of them may be, below q. -/
def Okr (q : Int) (L : List Rn) : Prop := ∀ r ∈ L, 0 ≤ r.1 ∧ 1 ≤ r.2 ∧ r.1 + r.2 ≤ q
theorem gap_apart {L : List Rn} (h : L.Pairwise (fun a b => a.1 + a.2 < b.1)) : L.Pairwise Apart := h.imp (fun h => .inl (by omega))
theorem join_spec {q : Int} : ∀ (zs out : List Rn), Okr q (out ++ zs) → (out ++ zs).Pairwise (fun a b => a.1 ≤ b.1) → out.Pairwise (fun a b => a.1 + a.2 < b.1) →
    (∃ M, joinF out zs = some M ∧ (out ++ zs).Pairwise Apart ∧ Canon q M ∧ ∀ p, inL M p = true ↔ inL (out ++ zs) p = true) ∨ (joinF out zs = none ∧ ¬ (out ++ zs).Pairwise Apart)
  | [], out, hk, _, hg => .inl ⟨out, rfl, by rw [List.append_nil]; exact gap_apart hg, ⟨by rw [List.append_nil] at hk; exact hk, hg⟩, fun p => by rw [List.append_nil]⟩
  | x :: xs, out, hk, hr, hg => by
    rcases List.eq_nil_or_concat out with rfl | ⟨O, y, rfl⟩
    · rw [joinF_first]
      exact join_spec xs [x] (by simpa using hk) (by simpa using hr) (by simp)
    rw [List.concat_eq_append] at *
    have hyx : y.1 ≤ x.1 := (List.pairwise_append.1 hr).2.2 y (by simp) x (by simp)
    have hy := hk y (by simp)
    have hx := hk x (by simp)
    have hO := (List.pairwise_append.1 hg).2.2
    by_cases h1 : y.1 + y.2 > x.1
    · refine .inr ⟨joinF_clash h1, fun h => ?_⟩
      rcases (List.pairwise_append.1 h).2.2 y (by simp) x (by simp) with h2 | h2 <;> omega
    by_cases h2 : y.1 + y.2 = x.1
    · rw [joinF_touch h2]
      have hr' : (O ++ [(y.1, y.2 + x.2)] ++ xs).Pairwise (fun a b => a.1 ≤ b.1) := by
        rw [List.append_assoc] at hr ⊢
        have ha := List.pairwise_append.1 hr
        have hb := List.pairwise_cons.1 ha.2.1
        have hc := List.pairwise_cons.1 hb.2
        refine List.pairwise_append.2 ⟨ha.1, List.pairwise_cons.2 ⟨fun z hz => ?_, hc.2⟩, fun a ha' b hb' => ?_⟩
        · have := hc.1 z hz; dsimp only; omega
        · rcases List.mem_cons.1 (by simpa using hb') with rfl | hb'
          · exact ha.2.2 a ha' y (by simp)
          · exact ha.2.2 a ha' b (by simp [hb'])
      have hk' : Okr q (O ++ [(y.1, y.2 + x.2)] ++ xs) := by
        intro r hrm
        simp only [List.mem_append, List.mem_cons, List.not_mem_nil, or_false] at hrm
        rcases hrm with (hrm | rfl) | hrm
        · exact hk r (by simp [hrm])
        · dsimp only; omega
        · exact hk r (by simp [hrm])
      have hg' : (O ++ [(y.1, y.2 + x.2)]).Pairwise (fun a b => a.1 + a.2 < b.1) := by
        refine List.pairwise_append.2 ⟨(List.pairwise_append.1 hg).1, by simp, fun a ha b hb => ?_⟩
        simp at hb; subst hb
        exact hO a ha y (by simp)
      have hmem : ∀ p, inL (O ++ [(y.1, y.2 + x.2)] ++ xs) p = true ↔ inL (O ++ [y] ++ x :: xs) p = true := by
        intro p
        obtain ⟨y1, y2⟩ := y
        rw [inL_append, inL_append, inL_one, inL_append, inL_append, inL_one, inL_cons]
        dsimp only at h2 hy hx ⊢
        constructor
        · rintro ((h | h) | h)
          · exact .inl (.inl h)
          · by_cases h9 : p < x.1
            · exact .inl (.inr ⟨h.1, by omega⟩)
            · exact .inr (.inl ⟨by omega, by omega⟩)
          · exact .inr (.inr h)
        · rintro ((h | h) | (h | h))
          · exact .inl (.inl h)
          · exact .inl (.inr ⟨h.1, by omega⟩)
          · exact .inl (.inr ⟨by omega, by omega⟩)
          · exact .inr h
      have hap : (O ++ [(y.1, y.2 + x.2)] ++ xs).Pairwise Apart ↔ (O ++ [y] ++ x :: xs).Pairwise Apart := by
        have key : ∀ r : Rn, 1 ≤ r.2 → (Apart r (y.1, y.2 + x.2) ↔ Apart r y ∧ Apart r x) := by
          intro r hr1
          unfold Apart; dsimp only; omega
        have keyB : ∀ r : Rn, 1 ≤ r.2 → (Apart (y.1, y.2 + x.2) r ↔ Apart y r ∧ Apart x r) := by
          intro r hr1
          unfold Apart; dsimp only; omega
        have e1 : O ++ [(y.1, y.2 + x.2)] ++ xs = O ++ ((y.1, y.2 + x.2) :: xs) := by simp
        have e2 : O ++ [y] ++ x :: xs = O ++ (y :: x :: xs) := by simp
        rw [e1, e2, List.pairwise_append, List.pairwise_append, List.pairwise_cons, List.pairwise_cons, List.pairwise_cons]
        constructor
        · rintro ⟨a1, ⟨a2, a3⟩, a4⟩
          refine ⟨a1, ⟨fun z hz => ?_, fun z hz => ?_, a3⟩, fun r hr z hz => ?_⟩
          · rcases List.mem_cons.1 hz with rfl | hz
            · exact .inl (by omega)
            · exact ((keyB z (hk z (by simp [hz])).2.1).1 (a2 z hz)).1
          · exact ((keyB z (hk z (by simp [hz])).2.1).1 (a2 z hz)).2
          · have h9 := (key r (hk r (by simp [hr])).2.1).1 (a4 r hr _ (by simp))
            simp only [List.cons_append, List.nil_append, List.mem_cons] at hz
            rcases hz with rfl | rfl | hz
            · exact h9.1
            · exact h9.2
            · exact a4 r hr z (by simp [hz])
        · rintro ⟨a1, ⟨a2, a3, a5⟩, a4⟩
          refine ⟨a1, ⟨fun z hz => ?_, a5⟩, fun r hr z hz => ?_⟩
          · exact (keyB z (hk z (by simp [hz])).2.1).2 ⟨a2 z (by simp [hz]), a3 z hz⟩
          · simp only [List.cons_append, List.nil_append, List.mem_cons] at hz
            rcases hz with rfl | hz
            · exact (key r (hk r (by simp [hr])).2.1).2 ⟨a4 r hr y (by simp), a4 r hr x (by simp)⟩
            · exact a4 r hr z (by simp [hz])
      rcases join_spec xs (O ++ [(y.1, y.2 + x.2)]) hk' hr' hg' with ⟨M, h3, h4, h5, h6⟩ | ⟨h3, h4⟩
      · exact .inl ⟨M, h3, hap.1 h4, h5, fun p => (h6 p).trans (hmem p)⟩
      · exact .inr ⟨h3, fun h => h4 (hap.2 h)⟩
    · rw [joinF_apart (by omega)]
      have e : O ++ [y] ++ x :: xs = O ++ [y] ++ [x] ++ xs := by simp
      rw [e] at hk hr ⊢
      refine join_spec xs (O ++ [y] ++ [x]) hk hr ?_
      refine List.pairwise_append.2 ⟨hg, by simp, fun a ha b hb => ?_⟩
      simp at hb; subst hb
      rcases List.mem_append.1 ha with ha | ha
      · have := hO a ha y (by simp); omega
      · simp at ha; subst ha; omega

/-! ### what pages are free says which runs there are -/
/-- The runs of the pages of which something holds. -/
def listP (f : Int → Bool) : List Rn := runsF ((List.range 1024).map fun (p : Nat) => if f p then 1 else 0) 1
theorem listP_len (f : Int → Bool) : ((List.range 1024).map fun (p : Nat) => if f p then (1 : Int) else 0).length = 1024 := by simp
theorem listP_wd (f : Int → Bool) {p : Int} (h0 : 0 ≤ p) (h1 : p < 1024) : wd ((List.range 1024).map fun (p : Nat) => if f p then (1 : Int) else 0) p = if f p then 1 else 0 := by
  obtain ⟨q, rfl⟩ := Int.eq_ofNat_of_zero_le h0
  have hq : q < 1024 := by omega
  unfold wd
  rw [Int.toNat_natCast, List.getD_eq_getElem?_getD, List.getElem?_eq_getElem (by simpa using hq)]
  simp
theorem listP_canon (f : Int → Bool) : Canon 1024 (listP f) := by
  have := runsF_canon ((List.range 1024).map fun (p : Nat) => if f p then (1 : Int) else 0) 1
  rw [listP_len] at this
  exact this
theorem inL_listP {f : Int → Bool} {p : Int} : inL (listP f) p = true ↔ 0 ≤ p ∧ p < 1024 ∧ f p = true := by
  unfold listP
  rw [inL_runsF, listP_len]
  constructor
  · rintro ⟨a, b, c⟩
    rw [listP_wd f a (by omega)] at c
    refine ⟨a, by omega, ?_⟩
    by_cases h : f p = true
    · exact h
    · rw [if_neg h] at c; omega
  · rintro ⟨a, b, c⟩
    exact ⟨a, by omega, by rw [listP_wd f a b, if_pos c]⟩
theorem Canon.inL_range {q : Int} {L : List Rn} (h : Canon q L) {p : Int} (hp : inL L p = true) : 0 ≤ p ∧ p < q := by
  obtain ⟨r, hr, h1, h2⟩ := inL_iff.1 hp
  have := h.ok r hr
  omega
theorem canon_eq_listP {L : List Rn} {f : Int → Bool} (h : Canon 1024 L) (hf : ∀ p, 0 ≤ p → p < 1024 → (inL L p = true ↔ f p = true)) : L = listP f := by
  refine canon_unique L _ h (listP_canon f) (fun p => ?_)
  rw [inL_listP]
  constructor
  · intro hp
    have := h.inL_range hp
    exact ⟨this.1, this.2, (hf p this.1 this.2).1 hp⟩
  · rintro ⟨a, b, c⟩
    exact (hf p a b).2 c
theorem listP_self {L : List Rn} (h : Canon 1024 L) : listP (inL L) = L := (canon_eq_listP h (fun _ _ _ => Iff.rfl)).symm
theorem listP_congr {f g : Int → Bool} (h : ∀ p, 0 ≤ p → p < 1024 → (f p = true ↔ g p = true)) : listP f = listP g :=
  canon_unique _ _ (listP_canon f) (listP_canon g) (fun p => by
    rw [inL_listP, inL_listP]
    constructor
    · rintro ⟨a, b, c⟩; exact ⟨a, b, (h p a b).1 c⟩
    · rintro ⟨a, b, c⟩; exact ⟨a, b, (h p a b).2 c⟩)
/-- With more runs. -/
def addF (L l : List Rn) : List Rn := listP (fun p => inL L p || inL l p)
/-- Without a run. -/
def cutF (L : List Rn) (x : Rn) : List Rn := listP (fun p => inL L p && !inR x p)
theorem addF_canon (L l : List Rn) : Canon 1024 (addF L l) := listP_canon _
theorem cutF_canon (L : List Rn) (x : Rn) : Canon 1024 (cutF L x) := listP_canon _
/-- Joined: the runs of both. -/
theorem join_add {L l zs : List Rn} (hL : Canon 1024 L) (hl : AllThere 1024 l) (hp : zs.Perm (L ++ l)) (hs : ∀ i j (h : i < j) (hj : j < zs.length), (zs[i]'(by omega)).1 ≤ zs[j].1) :
    (joinF [] zs = some (addF L l) ∧ (L ++ l).Pairwise Apart) ∨ (joinF [] zs = none ∧ ¬ (L ++ l).Pairwise Apart) := by
  have hk : Okr 1024 ([] ++ zs) := by
    intro r hr
    rcases List.mem_append.1 (hp.mem_iff.1 (by simpa using hr)) with h | h
    · exact hL.ok r h
    · have := there_iff.1 (hl r h); omega
  have hr : ([] ++ zs).Pairwise (fun a b : Rn => a.1 ≤ b.1) := by
    rw [List.nil_append, List.pairwise_iff_getElem]
    intro i j hi hj h
    exact hs i j h hj
  rcases join_spec zs [] hk hr List.Pairwise.nil with ⟨M, h1, h2, h3, h4⟩ | ⟨h1, h2⟩
  · refine .inl ⟨?_, (apart_perm hp).1 (by simpa using h2)⟩
    rw [h1]
    refine congrArg some (canon_eq_listP h3 (fun p p0 p1 => ?_))
    rw [h4, List.nil_append, Bool.or_eq_true, ← inL_append]
    have hany : inL zs p = inL (L ++ l) p := by
      unfold inL
      rw [Bool.eq_iff_iff, List.any_eq_true, List.any_eq_true]
      constructor
      · rintro ⟨r, h5, h6⟩; exact ⟨r, hp.mem_iff.1 h5, h6⟩
      · rintro ⟨r, h5, h6⟩; exact ⟨r, hp.mem_iff.2 h5, h6⟩
    rw [hany]
  · exact .inr ⟨h1, fun h => h2 (by simpa using (apart_perm hp).2 h)⟩

/-! ### cut -/
/-- The place of the run that has all pages of another one. -/
def hasR (x y : Rn) : Bool := decide (y.1 ≤ x.1) && decide (x.1 + x.2 ≤ y.1 + y.2)
theorem hasR_iff {x y : Rn} : hasR x y = true ↔ y.1 ≤ x.1 ∧ x.1 + x.2 ≤ y.1 + y.2 := by simp [hasR]
/-- What is left of a run. -/
def restF (y x : Rn) : List Rn := (if x.1 - y.1 > 0 then [(y.1, x.1 - y.1)] else []) ++ (if y.1 + y.2 - x.1 - x.2 > 0 then [(x.1 + x.2, y.1 + y.2 - x.1 - x.2)] else [])
theorem inL_restF {y x : Rn} (h : hasR x y = true) (hx : 1 ≤ x.2) {p : Int} : inL (restF y x) p = true ↔ (y.1 ≤ p ∧ p < y.1 + y.2) ∧ ¬ (x.1 ≤ p ∧ p < x.1 + x.2) := by
  have h1 := hasR_iff.1 h
  unfold restF
  rw [inL_append]
  split
  · rw [inL_one]
    split
    · rw [inL_one]; omega
    · simp only [inL, List.any_nil, Bool.false_eq_true, or_false]; omega
  · split
    · rw [inL_one]; simp only [inL, List.any_nil, Bool.false_eq_true, false_or]; omega
    · simp only [inL, List.any_nil, Bool.false_eq_true, false_or, false_iff]; omega
/-- All pages of a run that may be are free just if one run has them. -/
theorem has_run {L : List Rn} (hL : Canon 1024 L) {x : Rn} (hx : 1 ≤ x.2) : (∃ y ∈ L, hasR x y = true) ↔ ∀ p, inR x p = true → inL L p = true := by
  constructor
  · rintro ⟨y, hy, h⟩ p hp
    have h1 := hasR_iff.1 h
    have h2 := inR_iff.1 hp
    exact inL_iff.2 ⟨y, hy, by omega, by omega⟩
  · intro h
    obtain ⟨y, hy, y1, y2⟩ := inL_iff.1 (h x.1 (inR_iff.2 (by omega)))
    refine ⟨y, hy, hasR_iff.2 ⟨y1, ?_⟩⟩
    refine Classical.byContradiction fun hn => ?_
    -- the page behind y
    have h3 := h (y.1 + y.2) (inR_iff.2 (by omega))
    obtain ⟨i, hi, rfl⟩ := List.getElem_of_mem hy
    have h4 := hL.between hi (p := L[i].1 + L[i].2) (Int.le_refl _) (fun hj => hL.next hj)
    rw [h3] at h4; cases h4
/-- The run that has x, replaced by what is left of it: without x. -/
theorem cut_at {A B : List Rn} {y x : Rn} (hL : Canon 1024 (A ++ y :: B)) (h : hasR x y = true) (hx : 1 ≤ x.2) : A ++ restF y x ++ B = cutF (A ++ y :: B) x := by
  have h1 := hasR_iff.1 h
  have hy := hL.ok y (by simp)
  have hp := List.pairwise_append.1 hL.gap
  have hB := List.pairwise_cons.1 hp.2.1
  have hrest : ∀ r ∈ restF y x, y.1 ≤ r.1 ∧ 1 ≤ r.2 ∧ r.1 + r.2 ≤ y.1 + y.2 := by
    intro r hr
    unfold restF at hr
    rcases List.mem_append.1 hr with hr | hr
    · split at hr
      · simp at hr; subst hr; dsimp only; omega
      · simp at hr
    · split at hr
      · simp at hr; subst hr; dsimp only; omega
      · simp at hr
  have hc : Canon 1024 (A ++ restF y x ++ B) := by
    refine ⟨fun r hr => ?_, ?_⟩
    · simp only [List.mem_append] at hr
      rcases hr with (hr | hr) | hr
      · exact hL.ok r (by simp [hr])
      · have := hrest r hr; omega
      · exact hL.ok r (by simp [hr])
    · rw [List.append_assoc]
      refine List.pairwise_append.2 ⟨hp.1, List.pairwise_append.2 ⟨?_, hB.2, fun a ha b hb => ?_⟩, fun a ha b hb => ?_⟩
      · unfold restF
        refine List.pairwise_append.2 ⟨by split <;> simp, by split <;> simp, fun a ha b hb => ?_⟩
        split at ha
        · split at hb
          · simp at ha hb; subst ha; subst hb; dsimp only; omega
          · simp at hb
        · simp at ha
      · have := hrest a ha
        have := hB.1 b hb
        omega
      · have := hp.2.2 a ha y (by simp)
        rcases List.mem_append.1 hb with hb | hb
        · have := hrest b hb; omega
        · exact hp.2.2 a ha b (by simp [hb])
  refine canon_eq_listP hc (fun p p0 p1 => ?_)
  rw [inL_append, inL_append, inL_restF h hx, Bool.and_eq_true, inL_append, inL_cons]
  have hx2 : (!inR x p) = true ↔ ¬ (x.1 ≤ p ∧ p < x.1 + x.2) := by rw [Bool.not_eq_true', ← Bool.not_eq_true, inR_iff]
  rw [hx2]
  have hA : inL A p = true → p < y.1 := fun hq => by
    obtain ⟨r, hr, r1, r2⟩ := inL_iff.1 hq
    have := hp.2.2 r hr y (by simp); omega
  have hBp : inL B p = true → y.1 + y.2 < p := fun hq => by
    obtain ⟨r, hr, r1, r2⟩ := inL_iff.1 hq
    have := hB.1 r hr; omega
  constructor
  · rintro ((hq | hq) | hq)
    · exact ⟨.inl hq, by have := hA hq; omega⟩
    · exact ⟨.inr (.inl hq.1), hq.2⟩
    · exact ⟨.inr (.inr hq), by have := hBp hq; omega⟩
  · rintro ⟨hq | hq | hq, hn⟩
    · exact .inl (.inl hq)
    · exact .inl (.inr ⟨hq, hn⟩)
    · exact .inr hq

/-! ### the tightest -/
/-- The tightest of some runs, the first of these ((0, 0): none). -/
def bestP (n : Int) : List Rn → Rn → Rn
  | [], b => b
  | x :: xs, b => bestP n xs (if n ≤ x.2 ∧ (b.2 = 0 ∨ x.2 < b.2) then x else b)
def bestF (L : List Rn) (n : Int) : Rn := if n < 1 then (0, 0) else bestP n L (0, 0)
theorem bestP_snoc (n : Int) : ∀ (l : List Rn) (x b : Rn), bestP n (l ++ [x]) b = (if n ≤ x.2 ∧ ((bestP n l b).2 = 0 ∨ x.2 < (bestP n l b).2) then x else bestP n l b)
  | [], _, _ => rfl
  | y :: l, x, b => by
    show bestP n (l ++ [x]) _ = _
    rw [bestP_snoc n l]; rfl
/-- What it is: one of them, long enough, none tighter, the first of these; or none is long enough. -/
theorem best_spec {n : Int} (hn : 1 ≤ n) : ∀ (k : Nat) (L : List Rn), k ≤ L.length → ((bestP n (L.take k) (0, 0)) = (0, 0) ∧ ∀ i (_ : i < k) (h : i < L.length), L[i].2 < n) ∨
    ∃ i, ∃ h : i < L.length, i < k ∧ bestP n (L.take k) (0, 0) = L[i] ∧ n ≤ L[i].2 ∧ (∀ j (_ : j < k) (hj : j < L.length), n ≤ L[j].2 → L[i].2 ≤ L[j].2) ∧ (∀ j (hji : j < i), n ≤ (L[j]'(by omega)).2 → L[i].2 < (L[j]'(by omega)).2)
  | 0, L, _ => .inl ⟨by simp [bestP], fun i h _ => by omega⟩
  | k + 1, L, hk => by
    have hlt : k < L.length := by omega
    rw [List.take_succ_eq_append_getElem hlt, bestP_snoc]
    rcases best_spec hn k L (by omega) with ⟨e, h⟩ | ⟨i, hi, hik, e, h1, h2, h3⟩
    · rw [e]
      by_cases hc : n ≤ L[k].2
      · right
        refine ⟨k, hlt, by omega, by rw [if_pos ⟨hc, .inl rfl⟩], hc, fun j hj hjl hjn => ?_, fun j hj hjn => ?_⟩
        · by_cases ej : j = k
          · subst ej; omega
          · have := h j (by omega) hjl; omega
        · have := h j hj (by omega); omega
      · left
        refine ⟨by rw [if_neg (fun h9 => hc h9.1)], fun i hi hil => ?_⟩
        by_cases ei : i = k
        · subst ei; omega
        · exact h i (by omega) hil
    · rw [e]
      right
      by_cases hc : n ≤ L[k].2 ∧ (L[i].2 = 0 ∨ L[k].2 < L[i].2)
      · rw [if_pos hc]
        have hki : L[k].2 < L[i].2 := by rcases hc.2 with h9 | h9 <;> omega
        refine ⟨k, hlt, by omega, rfl, hc.1, fun j hj hjl hjn => ?_, fun j hj hjn => ?_⟩
        · by_cases ej : j = k
          · subst ej; omega
          · have := h2 j (by omega) hjl hjn; omega
        · have := h2 j hj (by omega) hjn; omega
      · rw [if_neg hc]
        refine ⟨i, hi, by omega, rfl, h1, fun j hj hjl hjn => ?_, h3⟩
        by_cases ej : j = k
        · subst ej
          refine Classical.byContradiction fun h9 => hc ⟨hjn, .inr (by omega)⟩
        · exact h2 j (by omega) hjl hjn
end Go.Proofs.YtbldidlbhahciaaGreat

namespace Go.Proofs.YtbldidlbhahciaaGreat

/-- Pages of runs are so, or not. -/
def setB (f : Int → Bool) (l : List Rn) (b : Bool) : Int → Bool := fun p => if inL l p then b else f p
/-- None of them is so already, and none is in two of them. -/
def OkB (f : Int → Bool) (l : List Rn) (b : Bool) : Prop := (∀ p, inL l p = true → f p = !b) ∧ l.Pairwise Apart
open Classical in
/-- What the twin's Put answers. -/
noncomputable def putB (f : Int → Bool) (l : List Rn) (b : Bool) : (Int → Bool) × Int := if ¬ AllThere 1024 l then (f, 2) else if OkB f l b then (setB f l b, 0) else (f, 9)
theorem putB_out {f : Int → Bool} {l : List Rn} {b : Bool} (h : ¬ AllThere 1024 l) : putB f l b = (f, 2) := by unfold putB; rw [if_pos h]
theorem putB_ok {f : Int → Bool} {l : List Rn} {b : Bool} (h : AllThere 1024 l) (h1 : OkB f l b) : putB f l b = (setB f l b, 0) := by unfold putB; rw [if_neg (by simpa using h), if_pos h1]
theorem putB_bad {f : Int → Bool} {l : List Rn} {b : Bool} (h : AllThere 1024 l) (h1 : ¬ OkB f l b) : putB f l b = (f, 9) := by unfold putB; rw [if_neg (by simpa using h), if_neg h1]
theorem okB_nil (f : Int → Bool) (b : Bool) : OkB f [] b := ⟨fun p h => by simp [inL] at h, List.Pairwise.nil⟩
theorem setB_nil (f : Int → Bool) (b : Bool) : setB f [] b = f := by funext p; simp [setB, inL]
theorem inL_zero (L : List Rn) (s p : Int) : inL (L ++ [(s, 0)]) p = inL L p := by
  rw [Bool.eq_iff_iff, inL_append, inL_one]
  constructor
  · rintro (h | h); exact h; omega
  · exact fun h => .inl h
theorem setB_zero (f : Int → Bool) (L : List Rn) (s : Int) (b : Bool) : setB f (L ++ [(s, 0)]) b = setB f L b := by
  funext p; unfold setB; rw [inL_zero]
/-- One page more. -/
theorem setB_step (f : Int → Bool) (L : List Rn) (s : Int) (j : Nat) (b : Bool) : (fun p => if p = s + j then b else setB f (L ++ [(s, (j : Int))]) b p) = setB f (L ++ [(s, ((j + 1 : Nat) : Int))]) b := by
  funext p
  unfold setB
  have h1 : inL (L ++ [(s, ((j + 1 : Nat) : Int))]) p = true ↔ inL (L ++ [(s, (j : Int))]) p = true ∨ p = s + j := by
    rw [inL_append, inL_append, inL_one, inL_one]
    constructor
    · rintro (h | h)
      · exact .inl (.inl h)
      · by_cases e : p = s + j
        · exact .inr e
        · exact .inl (.inr ⟨h.1, by omega⟩)
    · rintro ((h | h) | h)
      · exact .inl h
      · exact .inr ⟨h.1, by omega⟩
      · exact .inr ⟨by omega, by omega⟩
  by_cases e : p = s + j
  · rw [if_pos e, if_pos (h1.2 (.inr e))]
  · rw [if_neg e]
    by_cases h2 : inL (L ++ [(s, (j : Int))]) p = true
    · rw [if_pos h2, if_pos (h1.2 (.inl h2))]
    · rw [if_neg h2, if_neg (fun h => by rcases h1.1 h with h | h; exact h2 h; exact e h)]
/-- It has gone well as far as a page. -/
def OkP (f : Int → Bool) (A : List Rn) (s : Int) (j : Nat) (b : Bool) : Prop := OkB f A b ∧ ∀ p, s ≤ p → p < s + j → setB f A b p = !b
theorem okP_start {f : Int → Bool} {A : List Rn} {b : Bool} (h : OkB f A b) (s : Int) : OkP f A s 0 b := ⟨h, fun p h1 h2 => by omega⟩
theorem setB_here (f : Int → Bool) (A : List Rn) (s : Int) (j : Nat) (b : Bool) : setB f (A ++ [(s, (j : Int))]) b (s + j) = setB f A b (s + j) := by
  have e : inL (A ++ [(s, (j : Int))]) (s + j) = inL A (s + j) := by
    rw [Bool.eq_iff_iff, inL_append, inL_one]
    constructor
    · rintro (h | h); exact h; omega
    · exact fun h => .inl h
  unfold setB; rw [e]
theorem okP_step {f : Int → Bool} {A : List Rn} {s : Int} {j : Nat} {b : Bool} (h : OkP f A s j b) (hp : setB f (A ++ [(s, (j : Int))]) b (s + j) = !b) : OkP f A s (j + 1) b := by
  rw [setB_here] at hp
  refine ⟨h.1, fun p h1 h2 => ?_⟩
  by_cases e : p = s + j
  · rw [e]; exact hp
  · exact h.2 p h1 (by omega)
theorem setB_not {f : Int → Bool} {A : List Rn} {b : Bool} {p : Int} (h : setB f A b p = !b) : inL A p = false ∧ f p = !b := by
  unfold setB at h
  by_cases c : inL A p = true
  · rw [if_pos c] at h; cases b <;> cases h
  · rw [if_neg c] at h; exact ⟨by simpa using c, h⟩
theorem okP_end {f : Int → Bool} {A : List Rn} {s : Int} {m : Nat} {b : Bool} (h : OkP f A s m b) (hA : ∀ r ∈ A, 1 ≤ r.2) (hm : 1 ≤ m) : OkB f (A ++ [(s, (m : Int))]) b := by
  refine ⟨fun p hp => ?_, List.pairwise_append.2 ⟨h.1.2, by simp, fun r hr x hx => ?_⟩⟩
  · rw [inL_append, inL_one] at hp
    rcases hp with hp | hp
    · exact h.1.1 p hp
    · exact (setB_not (h.2 p hp.1 hp.2)).2
  · simp only [List.mem_cons, List.not_mem_nil, or_false] at hx
    subst hx
    have hr1 := hA r hr
    have no : ∀ p, s ≤ p → p < s + m → ¬ (r.1 ≤ p ∧ p < r.1 + r.2) := fun p h1 h2 h3 => by
      have h4 := (setB_not (h.2 p h1 h2)).1
      rw [inL_iff.2 ⟨r, hr, h3⟩] at h4; cases h4
    refine Classical.byContradiction fun hn => ?_
    unfold Apart at hn
    dsimp only at hn
    by_cases hc : r.1 ≤ s
    · exact no s (by omega) (by omega) (by omega)
    · exact no r.1 (by omega) (by omega) (by omega)
theorem okB_sub {f : Int → Bool} {A B : List Rn} {b : Bool} (h : OkB f (A ++ B) b) : OkB f A b :=
  ⟨fun p hp => h.1 p (inL_append.2 (.inl hp)), (List.pairwise_append.1 h.2).1⟩
/-- At a page that is so already it goes badly. -/
theorem okB_not {f : Int → Bool} {L B : List Rn} {s m : Int} {j : Nat} {b : Bool} (hj : (j : Int) < m) (hp : setB f (L ++ [(s, (j : Int))]) b (s + j) ≠ !b) : ¬ OkB f (L ++ [(s, m)] ++ B) b := by
  intro h
  have hin : inL (L ++ [(s, m)] ++ B) (s + j) = true := inL_append.2 (.inl (inL_append.2 (.inr (inL_one.2 ⟨by omega, by omega⟩))))
  have hf := h.1 _ hin
  have hLin : inL (L ++ [(s, (j : Int))]) (s + j) = true := by
    refine Classical.byContradiction fun h9 => hp ?_
    unfold setB
    rw [if_neg h9]; exact hf
  rw [inL_append, inL_one] at hLin
  rcases hLin with h9 | h9
  · obtain ⟨r, hr, r1, r2⟩ := inL_iff.1 h9
    have hq := (List.pairwise_append.1 (List.pairwise_append.1 h.2).1).2.2 r hr (s, m) (by simp)
    unfold Apart at hq
    dsimp only at hq
    omega
  · omega
/-- What the runs of both have. -/
theorem addF_listP {L l : List Rn} : addF L l = listP (setB (inL L) l true) := by
  unfold addF
  refine listP_congr (fun p _ _ => ?_)
  unfold setB
  by_cases h : inL l p = true
  · rw [if_pos h, h, Bool.or_true]
  · rw [if_neg h]; rw [Bool.not_eq_true] at h; rw [h, Bool.or_false]
theorem cutF_listP {L : List Rn} {x : Rn} : cutF L x = listP (setB (inL L) [x] false) := by
  unfold cutF
  refine listP_congr (fun p _ _ => ?_)
  unfold setB
  have e : inL [x] p = inR x p := by simp [inL]
  rw [e]
  by_cases h : inR x p = true
  · rw [if_pos h, h]; simp
  · rw [if_neg h]; rw [Bool.not_eq_true] at h; rw [h]; simp
/-- Free runs and what the twin says are one. -/
def Twin (L : List Rn) (f : Int → Bool) : Prop := Canon 1024 L ∧ ∀ p, 0 ≤ p → p < 1024 → (inL L p = true ↔ f p = true)
theorem Twin.eq {L : List Rn} {f : Int → Bool} (h : Twin L f) : L = listP f := canon_eq_listP h.1 h.2
theorem Twin.nil : Twin [] (fun _ => false) := ⟨Canon.nil _, fun p _ _ => by simp [inL]⟩
theorem allThere_range {l : List Rn} (h : AllThere 1024 l) {p : Int} (hp : inL l p = true) : 0 ≤ p ∧ p < 1024 := by
  obtain ⟨r, hr, r1, r2⟩ := inL_iff.1 hp
  have := there_iff.1 (h r hr)
  omega
theorem Twin.listP (f : Int → Bool) : Twin (listP f) f := ⟨listP_canon f, fun p h0 h1 => by rw [inL_listP]; exact ⟨fun h => h.2.2, fun h => ⟨h0, h1, h⟩⟩⟩
/-- Two runs that may be share no page just if they are apart. -/
theorem pairwise_apart_append {L l : List Rn} (hL : Canon 1024 L) (hl : AllThere 1024 l) : (L ++ l).Pairwise Apart ↔ (∀ p, inL l p = true → inL L p = false) ∧ l.Pairwise Apart := by
  rw [List.pairwise_append]
  constructor
  · rintro ⟨_, h2, h3⟩
    refine ⟨fun p hp => ?_, h2⟩
    rw [← Bool.not_eq_true]
    intro h9
    obtain ⟨r, hr, r1, r2⟩ := inL_iff.1 hp
    obtain ⟨y, hy, y1, y2⟩ := inL_iff.1 h9
    have := h3 y hy r hr
    unfold Apart at this
    omega
  · rintro ⟨h1, h2⟩
    refine ⟨gap_apart hL.gap, h2, fun y hy r hr => ?_⟩
    have hy2 := hL.ok y hy
    have hr2 := there_iff.1 (hl r hr)
    refine Classical.byContradiction fun h9 => ?_
    unfold Apart at h9
    by_cases hc : y.1 ≤ r.1
    · have := h1 r.1 (inL_iff.2 ⟨r, hr, by omega, by omega⟩)
      rw [← Bool.not_eq_true] at this
      exact this (inL_iff.2 ⟨y, hy, by omega, by omega⟩)
    · have := h1 y.1 (inL_iff.2 ⟨r, hr, by omega, by omega⟩)
      rw [← Bool.not_eq_true] at this
      exact this (inL_iff.2 ⟨y, hy, by omega, by omega⟩)
theorem Twin.okB {L l : List Rn} {f : Int → Bool} (h : Twin L f) (hl : AllThere 1024 l) : OkB f l true ↔ (L ++ l).Pairwise Apart := by
  rw [pairwise_apart_append h.1 hl]
  unfold OkB
  constructor
  · rintro ⟨h1, h2⟩
    refine ⟨fun p hp => ?_, h2⟩
    have hr := allThere_range hl hp
    rw [← Bool.not_eq_true, h.2 p hr.1 hr.2, h1 p hp]; simp
  · rintro ⟨h1, h2⟩
    refine ⟨fun p hp => ?_, h2⟩
    have hr := allThere_range hl hp
    have h3 := h1 p hp
    rw [← Bool.not_eq_true, h.2 p hr.1 hr.2] at h3
    simpa using h3
theorem Twin.okC {L : List Rn} {x : Rn} {f : Int → Bool} (h : Twin L f) (hx : there 1024 x = true) : OkB f [x] false ↔ L.any (hasR x) = true := by
  have hx2 := there_iff.1 hx
  rw [List.any_eq_true, has_run h.1 hx2.2.1]
  unfold OkB
  have e : ∀ p, inL [x] p = inR x p := fun p => by simp [inL]
  constructor
  · rintro ⟨h1, _⟩ p hp
    have := inR_iff.1 hp
    rw [h.2 p (by omega) (by omega), h1 p (by rw [e]; exact hp)]; rfl
  · intro h1
    refine ⟨fun p hp => ?_, by simp⟩
    rw [e] at hp
    have := inR_iff.1 hp
    rw [(h.2 p (by omega) (by omega)).1 (h1 p hp)]; rfl
theorem Twin.set {L l : List Rn} {f : Int → Bool} {b : Bool} (h : Twin L f) : Twin (Go.Proofs.YtbldidlbhahciaaGreat.listP (setB (inL L) l b)) (setB f l b) := by
  refine ⟨listP_canon _, fun p h0 h1 => ?_⟩
  rw [inL_listP]
  unfold setB
  by_cases hp : inL l p = true
  · rw [if_pos hp, if_pos hp]
    exact ⟨fun h => h.2.2, fun h => ⟨h0, h1, h⟩⟩
  · rw [if_neg hp, if_neg hp, h.2 p h0 h1]
    exact ⟨fun h => h.2.2, fun h => ⟨h0, h1, h⟩⟩
end Go.Proofs.YtbldidlbhahciaaGreat

namespace Go.Proofs.YtbldidlbhahciaaGreat

theorem best_found {L : List Rn} {n : Int} {i : Nat} (hn : 1 ≤ n) (hi : i < L.length) (h1 : n ≤ L[i].2) (h2 : ∀ r ∈ L, ¬ (n ≤ r.2 ∧ r.2 < L[i].2)) (h3 : ∀ j (hj : j < i), (L[j]'(by omega)).2 ≠ L[i].2) : bestF L n = L[i] := by
  have hb : bestF L n = bestP n L (0, 0) := by unfold bestF; rw [if_neg (by omega)]
  rw [hb]
  rcases best_spec (n := n) (by omega) L.length L (Nat.le_refl _) with ⟨_, h⟩ | ⟨k, hk, _, e, g1, g2, g3⟩
  · have := h i hi hi; omega
  · rw [List.take_length] at e
    rw [e]
    have h4 := g2 i hi hi h1
    have h5 := h2 _ (List.getElem_mem hk)
    rcases Nat.lt_trichotomy k i with hlt | rfl | hlt
    · have := h3 k hlt; omega
    · rfl
    · have := g3 i hlt h1; omega
theorem best_none {L : List Rn} {n : Int} (h : n < 1 ∨ ∀ r ∈ L, r.2 < n) : bestF L n = (0, 0) := by
  by_cases hn : n < 1
  · unfold bestF; rw [if_pos hn]
  · have hb : bestF L n = bestP n L (0, 0) := by unfold bestF; rw [if_neg hn]
    rw [hb]
    rcases best_spec (n := n) (by omega) L.length L (Nat.le_refl _) with ⟨e, _⟩ | ⟨k, hk, _, _, g1, _, _⟩
    · rw [List.take_length] at e; exact e
    · rcases h with h | h
      · omega
      · have := h _ (List.getElem_mem hk); omega
/-- How many of the first pages. -/
def cntF (f : Int → Bool) : Nat → Int
  | 0 => 0
  | q + 1 => cntF f q + (if f (q : Int) then 1 else 0)
theorem cntF_bound (f : Int → Bool) : ∀ q : Nat, 0 ≤ cntF f q ∧ cntF f q ≤ q
  | 0 => by simp [cntF]
  | q + 1 => by
    have := cntF_bound f q
    unfold cntF
    split <;> omega
theorem sum_runs {ids : List Int} {f : Int → Bool} {N : Nat} (hw : ∀ p : Nat, p < N → (wd ids (p : Int) = 1 ↔ f (p : Int) = true)) : ∀ q : Nat, q ≤ N → ((runsP ids 1 q).map (·.2)).sum = cntF f q
  | 0, _ => by simp [runsP, cntF]
  | q + 1, hq => by
    have ih := sum_runs hw q (by omega)
    have hwq := hw q (by omega)
    by_cases h : wd ids (q : Int) = 1
    · unfold cntF
      rw [if_pos (hwq.1 h), ← ih]
      by_cases h0 : q = 0 ∨ wd ids ((q : Int) - 1) ≠ 1
      · rw [runs_start h h0]; simp
      · obtain ⟨q', rfl⟩ : ∃ q', q = q' + 1 := ⟨q - 1, by omega⟩
        have hw' : wd ids q' = 1 := by
          refine Classical.byContradiction fun hn => h0 (.inr ?_)
          rw [show (((q' + 1 : Nat) : Int) - 1) = q' by omega]; exact hn
        obtain ⟨L, s, n, e, _⟩ := runs_last hw'
        rw [runs_grow h hw' e, e]
        simp; omega
    · unfold cntF
      rw [runs_skip h, ih, if_neg (fun h9 => h (hwq.2 h9))]; omega
/-- Has, page by page. -/
theorem has_pages {f : Int → Bool} {x : Rn} (hx : there 1024 x = true) : (listP f).any (hasR x) = true ↔ ∀ p, x.1 ≤ p → p < x.1 + x.2 → f p = true := by
  have hx2 := there_iff.1 hx
  rw [List.any_eq_true, has_run (listP_canon f) hx2.2.1]
  constructor
  · intro h p h1 h2
    exact (inL_listP.1 (h p (inR_iff.2 ⟨h1, h2⟩))).2.2
  · intro h p hp
    have := inR_iff.1 hp
    exact inL_listP.2 ⟨by omega, by omega, h p this.1 this.2⟩
end Go.Proofs.YtbldidlbhahciaaGreat

namespace Go.Proofs.YtbldidlbhahciaaGreat
open Go.RowKit

def rnCells (x : Rn) : List Value := [.int .i64 x.1, .int .i64 x.2]
def rnV (x : Rn) : Value := .agg #[.int .i64 x.1, .int .i64 x.2]
theorem info_run : (Tryz.prog.info? 31).map (fun i => (i.zero, i.size, i.bytes)) = some (some (.agg #[.int .i64 0, .int .i64 0]), 2, 16) := by kernel_rfl
def cellsOf (zs : List Rn) : List Value := zs.flatMap rnCells
theorem cellsOf_snoc (zs : List Rn) (x : Rn) : cellsOf (zs ++ [x]) = cellsOf zs ++ [.int .i64 x.1, .int .i64 x.2] := by simp [cellsOf, rnCells]
theorem cellsOf_get : ∀ (zs : List Rn) (i : Nat) (h : i < zs.length), (cellsOf zs)[i * 2]? = some (.int .i64 zs[i].1) ∧ (cellsOf zs)[i * 2 + 1]? = some (.int .i64 zs[i].2)
  | [], i, h => by simp at h
  | z :: zs, 0, _ => by simp [cellsOf, rnCells]
  | z :: zs, i + 1, h => by
    have := cellsOf_get zs i (by simpa using h)
    have e : cellsOf (z :: zs) = [.int .i64 z.1, .int .i64 z.2] ++ cellsOf zs := by simp [cellsOf, rnCells]
    rw [e, show (i + 1) * 2 = i * 2 + 2 by omega]
    constructor
    · rw [List.getElem?_append_right (by simp)]; simpa using this.1
    · rw [show i * 2 + 2 + 1 = (i * 2 + 1) + 2 by omega, List.getElem?_append_right (by simp)]; simpa using this.2
theorem cellsOf_length (zs : List Rn) : (cellsOf zs).length = zs.length * 2 := by
  induction zs with
  | nil => rfl
  | cons z zs ih => have e : cellsOf (z :: zs) = [.int .i64 z.1, .int .i64 z.2] ++ cellsOf zs := by simp [cellsOf, rnCells]
                    rw [e]; simp [ih]; omega
theorem bel_app {w w1 w2 : World} {o : Obj} {e size n : Nat} {v : Value} {xs : List Value} (hown : w1.ownsRow w.heap.size e size v n xs) (hB : Bel w w1) (hg : (w1.alloc o).grownBy w2 v.ownBlock) : Bel w w2 := by
  have hB2 := hB.alloc o
  refine Below.grown hB2 hg hB2.size (fun k hk => ?_)
  rcases hown.2 with ⟨h1, _⟩ | ⟨g, cap, cur, h1, h2, _⟩
  · rw [h1] at hk; simp [Value.ownBlock] at hk
  · rw [h1] at hk; simp [Value.ownBlock] at hk; omega
/-- Runs that came in: a slice of them. -/
def RunsIn (w : World) (a : Option Addr) (rs : List Rn) : Prop := rs = [] ∨ ∃ b o, a = some ⟨b, o, none⟩ ∧ ∀ i (h : i < rs.length), w.cell? ⟨b, o + i * 2, none⟩ = some (.int .i64 rs[i].1) ∧ w.cell? ⟨b, o + i * 2 + 1, none⟩ = some (.int .i64 rs[i].2)
theorem RunsIn.bel {w w' : World} {a : Option Addr} {rs : List Rn} (h : RunsIn w a rs) (k : Bel w w') : RunsIn w' a rs := by
  rcases h with h | ⟨b, o, e, h⟩
  · exact .inl h
  · exact .inr ⟨b, o, e, fun i hi => ⟨k.cell (h i hi).1, k.cell (h i hi).2⟩⟩
theorem RunsIn.at {w : World} {a : Option Addr} {rs : List Rn} (h : RunsIn w a rs) (i : Nat) (hi : i < rs.length) : ∃ b o, a = some ⟨b, o, none⟩ ∧ w.cell? ⟨b, o + i * 2, none⟩ = some (.int .i64 rs[i].1) ∧ w.cell? ⟨b, o + i * 2 + 1, none⟩ = some (.int .i64 rs[i].2) := by
  rcases h with h | ⟨b, o, e, h⟩
  · subst h; simp at hi
  · exact ⟨b, o, e, h i hi⟩
theorem RunsIn.fr {S : Nat → Prop} {w w' : World} {a : Option Addr} {rs : List Rn} (h : RunsIn w a rs) (k : Fr S w w') (hn : ∀ p, a = some p → ¬ S p.block) : RunsIn w' a rs := by
  rcases h with h | ⟨b, o, e, h⟩
  · exact .inl h
  · exact .inr ⟨b, o, e, fun i hi => ⟨k.cell (h i hi).1 (show ¬ S b from hn ⟨b, o, none⟩ e), k.cell (h i hi).2 (show ¬ S b from hn ⟨b, o, none⟩ e)⟩⟩
theorem RunsIn.of_row {w : World} {a : Option Addr} {rs : List Rn} (h : RdV w a (cellsOf rs)) : RunsIn w a rs := by
  rcases h with h | ⟨b, o, e, h⟩
  · left
    have := cellsOf_length rs
    rw [h] at this
    exact List.eq_nil_of_length_eq_zero (by simp at this; omega)
  · refine .inr ⟨b, o, e, fun i hi => ?_⟩
    have hl := cellsOf_length rs
    have h2 := cellsOf_get rs i hi
    have h3 := h (i * 2) (by omega)
    have h4 := h (i * 2 + 1) (by omega)
    rw [List.getElem?_eq_getElem (by omega), Option.some.injEq, List.getElem?_eq_getElem (by omega), Option.some.injEq] at h2
    rw [h2.1] at h3
    rw [h2.2] at h4
    exact ⟨h3, h4⟩
/-- One cell of a row of one's own, written. -/
theorem own_set {w : World} {base e size n : Nat} {v : Value} {xs : List Value} (h : w.ownsRow base e size v n xs) {t : Nat} (ht : t < n * size) : ∃ g cap, v = .slice (some ⟨g, 0, none⟩) n cap ∧ base ≤ g ∧ n ≤ cap ∧ w.cell? ⟨g, t, none⟩ = xs[t]? ∧ w.frozen? ⟨g, t, none⟩ = false ∧
    ∀ y, (w.setCell ⟨g, t, none⟩ y).ownsRow base e size v n (xs.set t y) := by
  rcases h.2 with ⟨_, h1⟩ | ⟨g, cap, cur, rfl, h2, h3, h4, h5, h6, h7⟩
  · subst h1; simp at ht
  · refine ⟨g, cap, rfl, h2, h4, ?_, blk_frozen h3 t, fun y => ⟨by rw [List.length_set]; exact h.1, .inr ⟨g, cap, cur.setIfInBounds t y, rfl, h2, ?_, h4, h5, by simpa using h6, ?_⟩⟩⟩
    · rw [blk_cell h3, ← h7, List.getElem?_take, if_pos ht]; simp
    · have := blk_setCell h3 t y
      simpa using this
    · rw [Array.toList_setIfInBounds, List.take_set, h7]
/-- Runs in a row of one's own. -/
def NewRuns (w : World) (rs : List Rn) (e : Ending) (w' : World) : Prop := ∃ v, e = .returned v ∧ w'.ownsRow w.heap.size 31 2 v rs.length (cellsOf rs) ∧ Bel w w'
theorem cellsOf_last (L : List Rn) (s m m' : Int) : (cellsOf (L ++ [(s, m)])).set (L.length * 2 + 1) (.int .i64 m') = cellsOf (L ++ [(s, m')]) ∧ (cellsOf (L ++ [(s, m)]))[L.length * 2 + 1]? = some (.int .i64 m) := by
  rw [cellsOf_snoc, cellsOf_snoc]
  have hl := cellsOf_length L
  constructor
  · rw [List.set_append_right _ _ (by omega)]
    congr 1
    rw [show L.length * 2 + 1 - (cellsOf L).length = 1 by omega]; rfl
  · rw [List.getElem?_append_right (by omega), show L.length * 2 + 1 - (cellsOf L).length = 1 by omega]; rfl
theorem runsIn_new {w w' : World} {rs : List Rn} {e : Ending} (h : NewRuns w rs e w') : ∃ a c, e = .returned (.slice a rs.length c) ∧ RunsIn w' a rs ∧ Bel w w' := by
  obtain ⟨v, rfl, hown, hB⟩ := h
  obtain ⟨a, c, rfl, hr, _⟩ := own_slice hown
  exact ⟨a, c, rfl, RunsIn.of_row hr, hB⟩
/-- The cells of runs are read one by one. -/
theorem runsIn_cells {w : World} {b o : Nat} {rs : List Rn} (h : RunsIn w (some ⟨b, o, none⟩) rs) : ∀ j u, (cellsOf rs)[j]? = some u → w.cell? ((⟨b, o, none⟩ : Addr).add j) = some u := by
  intro j u hj
  have hl := cellsOf_length rs
  obtain ⟨hlt, _⟩ := List.getElem?_eq_some_iff.1 hj
  have hi : j / 2 < rs.length := by omega
  obtain ⟨_, _, e, p0, p1⟩ := h.at (j / 2) hi
  cases e
  obtain ⟨q0, q1⟩ := cellsOf_get rs (j / 2) hi
  rw [addr_add]
  rcases Nat.mod_two_eq_zero_or_one j with hm | hm
  · rw [show j / 2 * 2 = j by omega] at p0 q0
    rw [p0, ← hj, q0]
  · rw [show o + j / 2 * 2 + 1 = o + j by omega] at p1
    rw [show j / 2 * 2 + 1 = j by omega] at q1
    rw [p1, ← hj, q1]
theorem cellsOf_one (L : List Rn) : ∀ u ∈ cellsOf L, u.oneCell' = true := by
  intro u hu
  simp only [cellsOf, List.mem_flatMap, rnCells] at hu
  obtain ⟨x, _, hu⟩ := hu
  simp at hu
  rcases hu with rfl | rfl <;> rfl
theorem cellsOf_append (L l : List Rn) : cellsOf (L ++ l) = cellsOf L ++ cellsOf l := by simp [cellsOf]
/-- append of runs (as many as one likes) to runs that are one's own. -/
theorem wpList_append_runs {w : World} {ops : Array Oper} {rest : List Oper} {o : Oper} {a : Act} {Q : Exit → Act → World → Prop} (hgd : o.guard = none) (s x : Operand)
    (ho : o.op = .call { callee := .builtin .append, args := #[s, x], argTypes := #[64, 64] }) (base : Nat) (v : Value) (L : List Rn) (hs : a.eval s = v) (hown : w.ownsRow base 31 2 v L.length (cellsOf L))
    (ao : Option Addr) (c : Nat) (rs : List Rn) (hx : a.eval x = .slice ao rs.length c) (hr : RunsIn w ao rs) (hnone : ao = none → rs = [] ∧ c = 0) (hlen : L.length + rs.length ≤ 65536) (hbase : base ≤ w.heap.size)
    (h : ∀ v' w', w'.ownsRow base 31 2 v' (L ++ rs).length (cellsOf (L ++ rs)) → w.grownBy w' v.ownBlock → wpList Tryz.prog ops Q rest (a.put o.dst v') w') : wpList Tryz.prog ops Q (o :: rest) a w := by
  obtain ⟨i0, hi0, hz0, hz1, hz2⟩ := info_parts info_run
  cases ao with
  | none =>
    obtain ⟨rfl, rfl⟩ := hnone rfl
    refine wpList_append_own_none hgd s x 64 ho base 31 i0 2 Tryz.underlying64 hi0 v L.length (cellsOf L) hs hown hx ?_
    exact h v w (by simpa using hown) (World.grownBy.refl _ _)
  | some ad =>
    have hnews : ∀ j u, (cellsOf rs)[j]? = some u → w.cell? (ad.add j) = some u := by
      rcases hr with rfl | ⟨b, q, e, hr⟩
      · intro j u hj; simp [cellsOf] at hj
      · cases e
        exact runsIn_cells (.inr ⟨b, q, rfl, hr⟩)
    refine wpList_append_own w hgd s x 64 ho base 31 i0 (.agg #[.int .i64 0, .int .i64 0]) 2 16 Tryz.underlying64 hi0 hz0 hz1 hz2 rfl (by decide) v L.length (cellsOf L) hs hown ad rs.length c (cellsOf rs) hx (cellsOf_length rs) hnews (cellsOf_one rs) (by unfold maxLen; omega) (by omega) hbase ?_
    intro v' w' h1 h2 _
    exact h v' w' (by rw [List.length_append, cellsOf_append]; exact h1) h2
/-- A block that was just made is read, its number being known. -/
theorem RdV.newAt (w : World) (cs : Array Value) (T k : Nat) (hk : w.heap.size = k) : RdV (w.alloc (.cells cs T)) (some ⟨k, 0, none⟩) cs.toList := hk ▸ RdV.new w cs T
end Go.Proofs.YtbldidlbhahciaaGreat

/- Free runs in plain Lean: joined, cut, the tightest. -/
import Derived.Test.YthkbhikiljlgoaaPRuns
namespace Go.Proofs.Ythkbhikiljlgoaa

/-! ### joined -/
/-- Rising runs of which those that touch are one; none: two share a page. -/
def joinF : List Rn → List Rn → Option (List Rn)
  | out, [] => some out
  | out, x :: xs =>
    match out.getLast? with
    | none => joinF [x] xs
    | some y => if y.1 + y.2 > x.1 then none else if y.1 + y.2 = x.1 then joinF (out.dropLast ++ [(y.1, y.2 + x.2)]) xs else joinF (out ++ [x]) xs
theorem joinF_first (x : Rn) (xs : List Rn) : joinF [] (x :: xs) = joinF [x] xs := rfl
theorem joinF_clash {O : List Rn} {y x : Rn} {xs : List Rn} (h : y.1 + y.2 > x.1) : joinF (O ++ [y]) (x :: xs) = none := by
  rw [joinF, List.getLast?_concat]; exact if_pos h
theorem joinF_touch {O : List Rn} {y x : Rn} {xs : List Rn} (h : y.1 + y.2 = x.1) : joinF (O ++ [y]) (x :: xs) = joinF (O ++ [(y.1, y.2 + x.2)]) xs := by
  rw [joinF, List.getLast?_concat]
  show (if _ then _ else _) = _
  rw [if_neg (by omega), if_pos h, List.dropLast_concat]
theorem joinF_apart {O : List Rn} {y x : Rn} {xs : List Rn} (h : y.1 + y.2 < x.1) : joinF (O ++ [y]) (x :: xs) = joinF (O ++ [y] ++ [x]) xs := by
  rw [joinF, List.getLast?_concat]
  show (if _ then _ else _) = _
  rw [if_neg (by omega), if_neg (by omega)]
/-- All of them may be, below q. -/
def Okr (q : Int) (L : List Rn) : Prop := ∀ r ∈ L, 0 ≤ r.1 ∧ 1 ≤ r.2 ∧ r.1 + r.2 ≤ q
theorem gap_apart {L : List Rn} (h : L.Pairwise (fun a b => a.1 + a.2 < b.1)) : L.Pairwise Apart := h.imp (fun h => .inl (by omega))
theorem join_spec {q : Int} : ∀ (zs out : List Rn), Okr q (out ++ zs) → (out ++ zs).Pairwise (fun a b => a.1 ≤ b.1) → out.Pairwise (fun a b => a.1 + a.2 < b.1) →
    (∃ M, joinF out zs = some M ∧ (out ++ zs).Pairwise Apart ∧ Canon q M ∧ ∀ p, inL M p = true ↔ inL (out ++ zs) p = true) ∨ (joinF out zs = none ∧ ¬ (out ++ zs).Pairwise Apart)
  | [], out, hk, _, hg => .inl ⟨out, rfl, by rw [List.append_nil]; exact gap_apart hg, ⟨by rw [List.append_nil] at hk; exact hk, hg⟩, fun p => by rw [List.append_nil]⟩
  | x :: xs, out, hk, hr, hg => by
    rcases List.eq_nil_or_concat out with rfl | ⟨O, y, rfl⟩
    · rw [joinF_first]
      exact join_spec xs [x] (by simpa using hk) (by simpa using hr) (by simp)
    rw [List.concat_eq_append] at *
    have hyx : y.1 ≤ x.1 := (List.pairwise_append.1 hr).2.2 y (by simp) x (by simp)
    have hy := hk y (by simp)
    have hx := hk x (by simp)
    have hO := (List.pairwise_append.1 hg).2.2
    by_cases h1 : y.1 + y.2 > x.1
    · refine .inr ⟨joinF_clash h1, fun h => ?_⟩
      rcases (List.pairwise_append.1 h).2.2 y (by simp) x (by simp) with h2 | h2 <;> omega
    by_cases h2 : y.1 + y.2 = x.1
    · rw [joinF_touch h2]
      have hr' : (O ++ [(y.1, y.2 + x.2)] ++ xs).Pairwise (fun a b => a.1 ≤ b.1) := by
        rw [List.append_assoc] at hr ⊢
        have ha := List.pairwise_append.1 hr
        have hb := List.pairwise_cons.1 ha.2.1
        have hc := List.pairwise_cons.1 hb.2
        refine List.pairwise_append.2 ⟨ha.1, List.pairwise_cons.2 ⟨fun z hz => ?_, hc.2⟩, fun a ha' b hb' => ?_⟩
        · have := hc.1 z hz; dsimp only; omega
        · rcases List.mem_cons.1 (by simpa using hb') with rfl | hb'
          · exact ha.2.2 a ha' y (by simp)
          · exact ha.2.2 a ha' b (by simp [hb'])
      have hk' : Okr q (O ++ [(y.1, y.2 + x.2)] ++ xs) := by
        intro r hrm
        simp only [List.mem_append, List.mem_cons, List.not_mem_nil, or_false] at hrm
        rcases hrm with (hrm | rfl) | hrm
        · exact hk r (by simp [hrm])
        · dsimp only; omega
        · exact hk r (by simp [hrm])
      have hg' : (O ++ [(y.1, y.2 + x.2)]).Pairwise (fun a b => a.1 + a.2 < b.1) := by
        refine List.pairwise_append.2 ⟨(List.pairwise_append.1 hg).1, by simp, fun a ha b hb => ?_⟩
        simp at hb; subst hb
        exact hO a ha y (by simp)
      have hmem : ∀ p, inL (O ++ [(y.1, y.2 + x.2)] ++ xs) p = true ↔ inL (O ++ [y] ++ x :: xs) p = true := by
        intro p
        obtain ⟨y1, y2⟩ := y
        rw [inL_append, inL_append, inL_one, inL_append, inL_append, inL_one, inL_cons]
        dsimp only at h2 hy hx ⊢
        constructor
        · rintro ((h | h) | h)
          · exact .inl (.inl h)
          · by_cases h9 : p < x.1
            · exact .inl (.inr ⟨h.1, by omega⟩)
            · exact .inr (.inl ⟨by omega, by omega⟩)
          · exact .inr (.inr h)
        · rintro ((h | h) | (h | h))
          · exact .inl (.inl h)
          · exact .inl (.inr ⟨h.1, by omega⟩)
          · exact .inl (.inr ⟨by omega, by omega⟩)
          · exact .inr h
      have hap : (O ++ [(y.1, y.2 + x.2)] ++ xs).Pairwise Apart ↔ (O ++ [y] ++ x :: xs).Pairwise Apart := by
        have key : ∀ r : Rn, 1 ≤ r.2 → (Apart r (y.1, y.2 + x.2) ↔ Apart r y ∧ Apart r x) := by
          intro r hr1
          unfold Apart; dsimp only; omega
        have keyB : ∀ r : Rn, 1 ≤ r.2 → (Apart (y.1, y.2 + x.2) r ↔ Apart y r ∧ Apart x r) := by
          intro r hr1
          unfold Apart; dsimp only; omega
        have e1 : O ++ [(y.1, y.2 + x.2)] ++ xs = O ++ ((y.1, y.2 + x.2) :: xs) := by simp
        have e2 : O ++ [y] ++ x :: xs = O ++ (y :: x :: xs) := by simp
        rw [e1, e2, List.pairwise_append, List.pairwise_append, List.pairwise_cons, List.pairwise_cons, List.pairwise_cons]
        constructor
        · rintro ⟨a1, ⟨a2, a3⟩, a4⟩
          refine ⟨a1, ⟨fun z hz => ?_, fun z hz => ?_, a3⟩, fun r hr z hz => ?_⟩
          · rcases List.mem_cons.1 hz with rfl | hz
            · exact .inl (by omega)
            · exact ((keyB z (hk z (by simp [hz])).2.1).1 (a2 z hz)).1
          · exact ((keyB z (hk z (by simp [hz])).2.1).1 (a2 z hz)).2
          · have h9 := (key r (hk r (by simp [hr])).2.1).1 (a4 r hr _ (by simp))
            simp only [List.cons_append, List.nil_append, List.mem_cons] at hz
            rcases hz with rfl | rfl | hz
            · exact h9.1
            · exact h9.2
            · exact a4 r hr z (by simp [hz])
        · rintro ⟨a1, ⟨a2, a3, a5⟩, a4⟩
          refine ⟨a1, ⟨fun z hz => ?_, a5⟩, fun r hr z hz => ?_⟩
          · exact (keyB z (hk z (by simp [hz])).2.1).2 ⟨a2 z (by simp [hz]), a3 z hz⟩
          · simp only [List.cons_append, List.nil_append, List.mem_cons] at hz
            rcases hz with rfl | hz
            · exact (key r (hk r (by simp [hr])).2.1).2 ⟨a4 r hr y (by simp), a4 r hr x (by simp)⟩
            · exact a4 r hr z (by simp [hz])
      rcases join_spec xs (O ++ [(y.1, y.2 + x.2)]) hk' hr' hg' with ⟨M, h3, h4, h5, h6⟩ | ⟨h3, h4⟩
      · exact .inl ⟨M, h3, hap.1 h4, h5, fun p => (h6 p).trans (hmem p)⟩
      · exact .inr ⟨h3, fun h => h4 (hap.2 h)⟩
    · rw [joinF_apart (by omega)]
      have e : O ++ [y] ++ x :: xs = O ++ [y] ++ [x] ++ xs := by simp
      rw [e] at hk hr ⊢
      refine join_spec xs (O ++ [y] ++ [x]) hk hr ?_
      refine List.pairwise_append.2 ⟨hg, by simp, fun a ha b hb => ?_⟩
      simp at hb; subst hb
      rcases List.mem_append.1 ha with ha | ha
      · have := hO a ha y (by simp); omega
      · simp at ha; subst ha; omega

/-! ### what pages are free says which runs there are -/
/-- The runs of the pages of which something holds. -/
def listP (f : Int → Bool) : List Rn := runsF ((List.range 1024).map fun (p : Nat) => if f p then 1 else 0) 1
theorem listP_len (f : Int → Bool) : ((List.range 1024).map fun (p : Nat) => if f p then (1 : Int) else 0).length = 1024 := by simp
theorem listP_wd (f : Int → Bool) {p : Int} (h0 : 0 ≤ p) (h1 : p < 1024) : wd ((List.range 1024).map fun (p : Nat) => if f p then (1 : Int) else 0) p = if f p then 1 else 0 := by
  obtain ⟨q, rfl⟩ := Int.eq_ofNat_of_zero_le h0
  have hq : q < 1024 := by omega
  unfold wd
  rw [Int.toNat_natCast, List.getD_eq_getElem?_getD, List.getElem?_eq_getElem (by simpa using hq)]
  simp
theorem listP_canon (f : Int → Bool) : Canon 1024 (listP f) := by
  have := runsF_canon ((List.range 1024).map fun (p : Nat) => if f p then (1 : Int) else 0) 1
  rw [listP_len] at this
  exact this
theorem inL_listP {f : Int → Bool} {p : Int} : inL (listP f) p = true ↔ 0 ≤ p ∧ p < 1024 ∧ f p = true := by
  unfold listP
  rw [inL_runsF, listP_len]
  constructor
  · rintro ⟨a, b, c⟩
    rw [listP_wd f a (by omega)] at c
    refine ⟨a, by omega, ?_⟩
    by_cases h : f p = true
    · exact h
    · rw [if_neg h] at c; omega
  · rintro ⟨a, b, c⟩
    exact ⟨a, by omega, by rw [listP_wd f a b, if_pos c]⟩
theorem Canon.inL_range {q : Int} {L : List Rn} (h : Canon q L) {p : Int} (hp : inL L p = true) : 0 ≤ p ∧ p < q := by
  obtain ⟨r, hr, h1, h2⟩ := inL_iff.1 hp
  have := h.ok r hr
  omega
theorem canon_eq_listP {L : List Rn} {f : Int → Bool} (h : Canon 1024 L) (hf : ∀ p, 0 ≤ p → p < 1024 → (inL L p = true ↔ f p = true)) : L = listP f := by
  refine canon_unique L _ h (listP_canon f) (fun p => ?_)
  rw [inL_listP]
  constructor
  · intro hp
    have := h.inL_range hp
    exact ⟨this.1, this.2, (hf p this.1 this.2).1 hp⟩
  · rintro ⟨a, b, c⟩
    exact (hf p a b).2 c
theorem listP_self {L : List Rn} (h : Canon 1024 L) : listP (inL L) = L := (canon_eq_listP h (fun _ _ _ => Iff.rfl)).symm
theorem listP_congr {f g : Int → Bool} (h : ∀ p, 0 ≤ p → p < 1024 → (f p = true ↔ g p = true)) : listP f = listP g :=
  canon_unique _ _ (listP_canon f) (listP_canon g) (fun p => by
    rw [inL_listP, inL_listP]
    constructor
    · rintro ⟨a, b, c⟩; exact ⟨a, b, (h p a b).1 c⟩
    · rintro ⟨a, b, c⟩; exact ⟨a, b, (h p a b).2 c⟩)
/-- With more runs. -/
def addF (L l : List Rn) : List Rn := listP (fun p => inL L p || inL l p)
/-- Without a run. -/
def cutF (L : List Rn) (x : Rn) : List Rn := listP (fun p => inL L p && !inR x p)
theorem addF_canon (L l : List Rn) : Canon 1024 (addF L l) := listP_canon _
theorem cutF_canon (L : List Rn) (x : Rn) : Canon 1024 (cutF L x) := listP_canon _
/-- Joined: the runs of both. -/
theorem join_add {L l zs : List Rn} (hL : Canon 1024 L) (hl : AllThere 1024 l) (hp : zs.Perm (L ++ l)) (hs : ∀ i j (h : i < j) (hj : j < zs.length), (zs[i]'(by omega)).1 ≤ zs[j].1) :
    (joinF [] zs = some (addF L l) ∧ (L ++ l).Pairwise Apart) ∨ (joinF [] zs = none ∧ ¬ (L ++ l).Pairwise Apart) := by
  have hk : Okr 1024 ([] ++ zs) := by
    intro r hr
    rcases List.mem_append.1 (hp.mem_iff.1 (by simpa using hr)) with h | h
    · exact hL.ok r h
    · have := there_iff.1 (hl r h); omega
  have hr : ([] ++ zs).Pairwise (fun a b : Rn => a.1 ≤ b.1) := by
    rw [List.nil_append, List.pairwise_iff_getElem]
    intro i j hi hj h
    exact hs i j h hj
  rcases join_spec zs [] hk hr List.Pairwise.nil with ⟨M, h1, h2, h3, h4⟩ | ⟨h1, h2⟩
  · refine .inl ⟨?_, (apart_perm hp).1 (by simpa using h2)⟩
    rw [h1]
    refine congrArg some (canon_eq_listP h3 (fun p p0 p1 => ?_))
    rw [h4, List.nil_append, Bool.or_eq_true, ← inL_append]
    have hany : inL zs p = inL (L ++ l) p := by
      unfold inL
      rw [Bool.eq_iff_iff, List.any_eq_true, List.any_eq_true]
      constructor
      · rintro ⟨r, h5, h6⟩; exact ⟨r, hp.mem_iff.1 h5, h6⟩
      · rintro ⟨r, h5, h6⟩; exact ⟨r, hp.mem_iff.2 h5, h6⟩
    rw [hany]
  · exact .inr ⟨h1, fun h => h2 (by simpa using (apart_perm hp).2 h)⟩

/-! ### cut -/
/-- The place of the run that has all pages of another one. -/
def hasR (x y : Rn) : Bool := decide (y.1 ≤ x.1) && decide (x.1 + x.2 ≤ y.1 + y.2)
theorem hasR_iff {x y : Rn} : hasR x y = true ↔ y.1 ≤ x.1 ∧ x.1 + x.2 ≤ y.1 + y.2 := by simp [hasR]
/-- What is left of a run. -/
def restF (y x : Rn) : List Rn := (if x.1 - y.1 > 0 then [(y.1, x.1 - y.1)] else []) ++ (if y.1 + y.2 - x.1 - x.2 > 0 then [(x.1 + x.2, y.1 + y.2 - x.1 - x.2)] else [])
theorem inL_restF {y x : Rn} (h : hasR x y = true) (hx : 1 ≤ x.2) {p : Int} : inL (restF y x) p = true ↔ (y.1 ≤ p ∧ p < y.1 + y.2) ∧ ¬ (x.1 ≤ p ∧ p < x.1 + x.2) := by
  have h1 := hasR_iff.1 h
  unfold restF
  rw [inL_append]
  split
  · rw [inL_one]
    split
    · rw [inL_one]; omega
    · simp only [inL, List.any_nil, Bool.false_eq_true, or_false]; omega
  · split
    · rw [inL_one]; simp only [inL, List.any_nil, Bool.false_eq_true, false_or]; omega
    · simp only [inL, List.any_nil, Bool.false_eq_true, false_or, false_iff]; omega
/-- All pages of a run that may be are free just if one run has them. -/
theorem has_run {L : List Rn} (hL : Canon 1024 L) {x : Rn} (hx : 1 ≤ x.2) : (∃ y ∈ L, hasR x y = true) ↔ ∀ p, inR x p = true → inL L p = true := by
  constructor
  · rintro ⟨y, hy, h⟩ p hp
    have h1 := hasR_iff.1 h
    have h2 := inR_iff.1 hp
    exact inL_iff.2 ⟨y, hy, by omega, by omega⟩
  · intro h
    obtain ⟨y, hy, y1, y2⟩ := inL_iff.1 (h x.1 (inR_iff.2 (by omega)))
    refine ⟨y, hy, hasR_iff.2 ⟨y1, ?_⟩⟩
    refine Classical.byContradiction fun hn => ?_
    -- the page behind y
    have h3 := h (y.1 + y.2) (inR_iff.2 (by omega))
    obtain ⟨i, hi, rfl⟩ := List.getElem_of_mem hy
    have h4 := hL.between hi (p := L[i].1 + L[i].2) (Int.le_refl _) (fun hj => hL.next hj)
    rw [h3] at h4; cases h4
/-- The run that has x, replaced by what is left of it: without x. -/
theorem cut_at {A B : List Rn} {y x : Rn} (hL : Canon 1024 (A ++ y :: B)) (h : hasR x y = true) (hx : 1 ≤ x.2) : A ++ restF y x ++ B = cutF (A ++ y :: B) x := by
  have h1 := hasR_iff.1 h
  have hy := hL.ok y (by simp)
  have hp := List.pairwise_append.1 hL.gap
  have hB := List.pairwise_cons.1 hp.2.1
  have hrest : ∀ r ∈ restF y x, y.1 ≤ r.1 ∧ 1 ≤ r.2 ∧ r.1 + r.2 ≤ y.1 + y.2 := by
    intro r hr
    unfold restF at hr
    rcases List.mem_append.1 hr with hr | hr
    · split at hr
      · simp at hr; subst hr; dsimp only; omega
      · simp at hr
    · split at hr
      · simp at hr; subst hr; dsimp only; omega
      · simp at hr
  have hc : Canon 1024 (A ++ restF y x ++ B) := by
    refine ⟨fun r hr => ?_, ?_⟩
    · simp only [List.mem_append] at hr
      rcases hr with (hr | hr) | hr
      · exact hL.ok r (by simp [hr])
      · have := hrest r hr; omega
      · exact hL.ok r (by simp [hr])
    · rw [List.append_assoc]
      refine List.pairwise_append.2 ⟨hp.1, List.pairwise_append.2 ⟨?_, hB.2, fun a ha b hb => ?_⟩, fun a ha b hb => ?_⟩
      · unfold restF
        refine List.pairwise_append.2 ⟨by split <;> simp, by split <;> simp, fun a ha b hb => ?_⟩
        split at ha
        · split at hb
          · simp at ha hb; subst ha; subst hb; dsimp only; omega
          · simp at hb
        · simp at ha
      · have := hrest a ha
        have := hB.1 b hb
        omega
      · have := hp.2.2 a ha y (by simp)
        rcases List.mem_append.1 hb with hb | hb
        · have := hrest b hb; omega
        · exact hp.2.2 a ha b (by simp [hb])
  refine canon_eq_listP hc (fun p p0 p1 => ?_)
  rw [inL_append, inL_append, inL_restF h hx, Bool.and_eq_true, inL_append, inL_cons]
  have hx2 : (!inR x p) = true ↔ ¬ (x.1 ≤ p ∧ p < x.1 + x.2) := by rw [Bool.not_eq_true', ← Bool.not_eq_true, inR_iff]
  rw [hx2]
  have hA : inL A p = true → p < y.1 := fun hq => by
    obtain ⟨r, hr, r1, r2⟩ := inL_iff.1 hq
    have := hp.2.2 r hr y (by simp); omega
  have hBp : inL B p = true → y.1 + y.2 < p := fun hq => by
    obtain ⟨r, hr, r1, r2⟩ := inL_iff.1 hq
    have := hB.1 r hr; omega
  constructor
  · rintro ((hq | hq) | hq)
    · exact ⟨.inl hq, by have := hA hq; omega⟩
    · exact ⟨.inr (.inl hq.1), hq.2⟩
    · exact ⟨.inr (.inr hq), by have := hBp hq; omega⟩
  · rintro ⟨hq | hq | hq, hn⟩
    · exact .inl (.inl hq)
    · exact .inl (.inr ⟨hq, hn⟩)
    · exact .inr hq

/-! ### the tightest -/
/-- The tightest of some runs, the first of these ((0, 0): none). -/
def bestP (n : Int) : List Rn → Rn → Rn
  | [], b => b
  | x :: xs, b => bestP n xs (if n ≤ x.2 ∧ (b.2 = 0 ∨ x.2 < b.2) then x else b)
def bestF (L : List Rn) (n : Int) : Rn := if n < 1 then (0, 0) else bestP n L (0, 0)
theorem bestP_snoc (n : Int) : ∀ (l : List Rn) (x b : Rn), bestP n (l ++ [x]) b = (if n ≤ x.2 ∧ ((bestP n l b).2 = 0 ∨ x.2 < (bestP n l b).2) then x else bestP n l b)
  | [], _, _ => rfl
  | y :: l, x, b => by
    show bestP n (l ++ [x]) _ = _
    rw [bestP_snoc n l]; rfl
/-- What it is: one of them, long enough, none tighter, the first of these; or none is long enough. -/
theorem best_spec {n : Int} (hn : 1 ≤ n) : ∀ (k : Nat) (L : List Rn), k ≤ L.length → ((bestP n (L.take k) (0, 0)) = (0, 0) ∧ ∀ i (_ : i < k) (h : i < L.length), L[i].2 < n) ∨
    ∃ i, ∃ h : i < L.length, i < k ∧ bestP n (L.take k) (0, 0) = L[i] ∧ n ≤ L[i].2 ∧ (∀ j (_ : j < k) (hj : j < L.length), n ≤ L[j].2 → L[i].2 ≤ L[j].2) ∧ (∀ j (hji : j < i), n ≤ (L[j]'(by omega)).2 → L[i].2 < (L[j]'(by omega)).2)
  | 0, L, _ => .inl ⟨by simp [bestP], fun i h _ => by omega⟩
  | k + 1, L, hk => by
    have hlt : k < L.length := by omega
    rw [List.take_succ_eq_append_getElem hlt, bestP_snoc]
    rcases best_spec hn k L (by omega) with ⟨e, h⟩ | ⟨i, hi, hik, e, h1, h2, h3⟩
    · rw [e]
      by_cases hc : n ≤ L[k].2
      · right
        refine ⟨k, hlt, by omega, by rw [if_pos ⟨hc, .inl rfl⟩], hc, fun j hj hjl hjn => ?_, fun j hj hjn => ?_⟩
        · by_cases ej : j = k
          · subst ej; omega
          · have := h j (by omega) hjl; omega
        · have := h j hj (by omega); omega
      · left
        refine ⟨by rw [if_neg (fun h9 => hc h9.1)], fun i hi hil => ?_⟩
        by_cases ei : i = k
        · subst ei; omega
        · exact h i (by omega) hil
    · rw [e]
      right
      by_cases hc : n ≤ L[k].2 ∧ (L[i].2 = 0 ∨ L[k].2 < L[i].2)
      · rw [if_pos hc]
        have hki : L[k].2 < L[i].2 := by rcases hc.2 with h9 | h9 <;> omega
        refine ⟨k, hlt, by omega, rfl, hc.1, fun j hj hjl hjn => ?_, fun j hj hjn => ?_⟩
        · by_cases ej : j = k
          · subst ej; omega
          · have := h2 j (by omega) hjl hjn; omega
        · have := h2 j hj (by omega) hjn; omega
      · rw [if_neg hc]
        refine ⟨i, hi, by omega, rfl, h1, fun j hj hjl hjn => ?_, h3⟩
        by_cases ej : j = k
        · subst ej
          refine Classical.byContradiction fun h9 => hc ⟨hjn, .inr (by omega)⟩
        · exact h2 j (by omega) hjl hjn
end Go.Proofs.Ythkbhikiljlgoaa

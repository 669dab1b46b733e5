/- A heap in plain Lean: its pages, its spans. -/
import Derived.Test.YthkbhikiljlgoaaPTwin
import Derived.Test.YthkbhikiljlgoaaSpan
import Derived.Test.YthkbhikiljlgoaaPIndex2
namespace Go.Proofs.Ythkbhikiljlgoaa

/-- Free runs, page numbers, spans agree. -/
structure HInv (ids : List Int) (L : List Rn) (S : List Sp) (last : Nat) : Prop where
  canon : Canon 1024 L
  lo : 4 ≤ ids.length
  hi : ids.length ≤ 1024
  nd : (S.map (·.1)).Nodup
  free : ∀ p, inL L p = true ↔ 0 ≤ p ∧ p < ids.length ∧ wd ids p = 0
  span : ∀ s ∈ S, 1 ≤ s.1 ∧ s.1 ≤ last ∧ there ids.length s.2.1 = true ∧ ∀ p, inR s.2.1 p = true → wd ids p = s.1
  all : ∀ p : Int, 0 ≤ p → p < ids.length → wd ids p ≠ 0 → ∃ s ∈ S, inR s.2.1 p = true
theorem HInv.start {n : Nat} (h1 : 4 ≤ n) (h2 : n ≤ 1024) : HInv (List.replicate n 0) [(0, (n : Int))] [] 0 := by
  have hw : ∀ p : Int, wd (List.replicate n 0) p = 0 := fun p => by
    unfold wd
    rw [List.getD_eq_getElem?_getD, List.getElem?_replicate]
    split <;> rfl
  refine ⟨⟨by intro r hr; simp at hr; subst hr; exact ⟨by simp, by simp; omega, by simp; omega⟩, by simp⟩, by simpa using h1, by simpa using h2, by simp, fun p => ?_, fun s hs => by simp at hs, fun p _ _ h => absurd (hw p) h⟩
  rw [inL_one, hw, List.length_replicate]
  omega
theorem inR_fst {r : Rn} (h : 1 ≤ r.2) : inR r r.1 = true := inR_iff.2 ⟨by omega, by omega⟩
/-- Two spans share no page. -/
theorem HInv.apart {ids : List Int} {L : List Rn} {S : List Sp} {last : Nat} (h : HInv ids L S last) {s t : Sp} (hs : s ∈ S) (ht : t ∈ S) (hne : s.1 ≠ t.1) : Apart s.2.1 t.2.1 := by
  obtain ⟨s0, s1, s2, s3⟩ := h.span s hs
  obtain ⟨t0, t1, t2, t3⟩ := h.span t ht
  rw [apart_pages (there_iff.1 s2).2.1 (there_iff.1 t2).2.1]
  rintro p ⟨p1, p2⟩
  exact hne ((s3 p p1).symm.trans (t3 p p2))
theorem HInv.eq {ids : List Int} {L : List Rn} {S : List Sp} {last : Nat} (h : HInv ids L S last) {s t : Sp} (hs : s ∈ S) (ht : t ∈ S) (he : s.1 = t.1) : s = t := by
  have h1 := getS_of_mem h.nd hs
  have h2 := getS_of_mem h.nd ht
  rw [he] at h1
  rw [h1] at h2
  exact Option.some.inj h2
theorem there_le {n m : Nat} {r : Rn} (h : there n r = true) (hm : n ≤ m) : there m r = true := by
  rw [there_iff] at *
  omega

/-! ### Make -/
/-- Another span of the tightest run. -/
structure Made (ids : List Int) (L : List Rn) (S : List Sp) (last : Nat) (n ord : Int) (t : Int) (L' : List Rn) (ids' : List Int) : Prop where
  take : takeR L n = (L', (t, n), true)
  set : putF ids ((last : Int) + 1) [(t, n)] false = (ids', 0)
  fresh : getS S ((last : Int) + 1) = none
  inv : HInv ids' L' (S ++ [((last : Int) + 1, (t, n), ord)]) (last + 1)
  len : ids'.length = ids.length
  t0 : 0 ≤ t
  t1 : t ≤ 1024
  n1 : n ≤ 1024
  ids' : ids' = fillA ids ((last : Int) + 1) [(t, n)]
  back : addR L' [(t, n)] = (L, 0)
theorem HInv.make {ids : List Int} {L : List Rn} {S : List Sp} {last : Nat} (h : HInv ids L S last) (n ord : Int) :
    (takeR L n = (L, (0, 0), false) ∧ bestF L n = (0, 0)) ∨ ∃ t L' ids', Made ids L S last n ord t L' ids' ∧ 1 ≤ n ∧ (bestF L n).1 = t ∧ 0 < (bestF L n).2 := by
  rcases best_or L n h.canon with ⟨hb, _⟩ | ⟨hn1, hmem, hle, hpos, hth, hany⟩
  · exact .inl ⟨by unfold takeR; rw [hb, if_neg (by decide)], hb⟩
  · obtain ⟨t, ht⟩ : ∃ t, (bestF L n).1 = t := ⟨_, rfl⟩
    rw [ht] at hth hany
    have hsub : ∀ p, inR (t, n) p = true → inL L p = true := (has_run h.canon (by exact hn1)).1 (List.any_eq_true.1 hany)
    obtain ⟨t0, t1, t2, t3⟩ := there_iff.1 hth
    dsimp only at t0 t1 t2 t3
    have hth2 : there ids.length (t, n) = true := by
      have h1 := (h.free (t + n - 1)).1 (hsub _ (inR_iff.2 ⟨by show t ≤ _; omega, by show _ < t + n; omega⟩))
      rw [there_iff]
      dsimp only
      omega
    have hall : AllThere ids.length [(t, n)] := by intro r hr; simp at hr; subst hr; exact hth2
    have hno : NoneSet ids [(t, n)] := fun p h0 h1 hp => by
      have hp2 : inR (t, n) p = true := by simpa using hp
      exact ((h.free p).1 (hsub p hp2)).2.2
    have hw : ∀ p : Int, 0 ≤ p → p < ids.length → wd (fillA ids ((last : Int) + 1) [(t, n)]) p = if inR (t, n) p = true then (last : Int) + 1 else wd ids p := fun p h0 h1 => by
      rw [wd_fillA h0 h1]; simp
    refine .inr ⟨t, cutF L (t, n), fillA ids ((last : Int) + 1) [(t, n)], ⟨?_, set_ok (by omega) hall hno (by simp), ?_, ?_, fillA_length _ _ _, t0, by omega, by omega, rfl, cut_back h.canon hth hany⟩, hn1, ht, hpos⟩
    · unfold takeR; rw [if_pos hpos, ht]
    · rw [getS_none]
      intro s hs
      have := (h.span s hs).2.1
      omega
    · refine ⟨cutF_canon _ _, by rw [fillA_length]; exact h.lo, by rw [fillA_length]; exact h.hi, ?_, fun p => ?_, fun s hs => ?_, fun p h0 h1 hne => ?_⟩
      · rw [List.map_append, List.nodup_append]
        refine ⟨h.nd, by simp, fun a ha b hb => ?_⟩
        simp at hb
        obtain ⟨s, hs, rfl⟩ := List.mem_map.1 ha
        have := (h.span s hs).2.1
        omega
      · rw [inL_cutF, h.free p, fillA_length]
        have := h.hi
        constructor
        · rintro ⟨p0, p1, ⟨_, p2, p3⟩, p4⟩
          refine ⟨p0, p2, ?_⟩
          rw [hw p p0 p2, if_neg (by rw [p4]; simp), p3]
        · rintro ⟨p0, p1, p2⟩
          rw [hw p p0 p1] at p2
          by_cases hc : inR (t, n) p = true
          · rw [if_pos hc] at p2; omega
          · rw [if_neg hc] at p2
            exact ⟨p0, by omega, ⟨p0, p1, p2⟩, by simpa using hc⟩
      · rw [fillA_length]
        rcases List.mem_append.1 hs with hs | hs
        · obtain ⟨s0, s1, s2, s3⟩ := h.span s hs
          refine ⟨s0, by omega, s2, fun p hp => ?_⟩
          have hr := inR_iff.1 hp
          have hs2 := there_iff.1 s2
          rw [hw p (by omega) (by omega), if_neg]
          · exact s3 p hp
          · intro hc
            have h9 := ((h.free p).1 (hsub p hc)).2.2
            rw [s3 p hp] at h9; omega
        · simp at hs
          subst hs
          refine ⟨by show (1 : Int) ≤ (last : Int) + 1; omega, by show (last : Int) + 1 ≤ ((last + 1 : Nat) : Int); omega, hth2, fun p hp => ?_⟩
          have hr := inR_iff.1 hp
          have hs2 := there_iff.1 hth2
          dsimp only at hr hs2
          rw [hw p (by omega) (by omega), if_pos hp]
      · rw [fillA_length] at h1
        rw [hw p h0 h1] at hne
        by_cases hc : inR (t, n) p = true
        · exact ⟨((last : Int) + 1, (t, n), ord), List.mem_append.2 (.inr (by simp)), hc⟩
        · rw [if_neg hc] at hne
          obtain ⟨s, hs, hp⟩ := h.all p h0 h1 hne
          exact ⟨s, List.mem_append.2 (.inl hs), hp⟩

/-! ### Free -/
/-- The numbers' runs. -/
def runsOf (S : List Sp) (l : List Int) : List Rn := l.map fun k => ((getS S k).getD sp0).2.1
theorem runsOf_snoc (S : List Sp) (l : List Int) (k : Int) (s : Sp) (h : getS S k = some s) : runsOf S (l ++ [k]) = runsOf S l ++ [s.2.1] := by simp [runsOf, h]
/-- What Free leaves. -/
structure Freed (ids : List Int) (L : List Rn) (S : List Sp) (last : Nat) (l : List Int) (L' : List Rn) (ids' : List Int) : Prop where
  drop : putF ids 0 (runsOf S l) true = (ids', 0)
  add : addR L (runsOf S l) = (L', 0)
  inv : HInv ids' L' (S.filter fun s => !decide (s.1 ∈ l)) last
  len : ids'.length = ids.length
  ok : ∀ r ∈ runsOf S l, 0 ≤ r.1 ∧ 1 ≤ r.2 ∧ r.1 + r.2 ≤ 1024
theorem runsOf_get {S : List Sp} {l : List Int} (h : ∀ k ∈ l, (getS S k).isSome = true) {r : Rn} : r ∈ runsOf S l ↔ ∃ s ∈ S, s.1 ∈ l ∧ getS S s.1 = some s ∧ s.2.1 = r := by
  unfold runsOf
  rw [List.mem_map]
  constructor
  · rintro ⟨k, hk, rfl⟩
    obtain ⟨s, hs⟩ := Option.isSome_iff_exists.1 (h k hk)
    obtain ⟨h1, h2⟩ := getS_mem hs
    refine ⟨s, h1, by rw [h2]; exact hk, by rw [h2]; exact hs, by rw [hs]; rfl⟩
  · rintro ⟨s, hs, hk, hg, rfl⟩
    exact ⟨s.1, hk, by rw [hg]; rfl⟩
theorem HInv.freed {ids : List Int} {L : List Rn} {S : List Sp} {last : Nat} (h : HInv ids L S last) {l : List Int} (hl : ∀ k ∈ l, (getS S k).isSome = true) (hn : l.Nodup) : ∃ L' ids', Freed ids L S last l L' ids' := by
  have hmem : ∀ {r : Rn}, r ∈ runsOf S l ↔ ∃ s ∈ S, s.1 ∈ l ∧ getS S s.1 = some s ∧ s.2.1 = r := fun {r} => runsOf_get hl
  have hall : AllThere ids.length (runsOf S l) := fun r hr => by
    obtain ⟨s, hs, _, _, rfl⟩ := hmem.1 hr
    exact (h.span s hs).2.2.1
  have hin : ∀ p, inL (runsOf S l) p = true ↔ 0 ≤ p ∧ p < ids.length ∧ wd ids p ≠ 0 ∧ wd ids p ∈ l := fun p => by
    rw [inL_iff]
    constructor
    · rintro ⟨r, hr, r1⟩
      obtain ⟨s, hs, hk, _, rfl⟩ := hmem.1 hr
      obtain ⟨s0, s1, s2, s3⟩ := h.span s hs
      have hs2 := there_iff.1 s2
      have hw := s3 p (inR_iff.2 r1)
      exact ⟨by omega, by omega, by omega, by rw [hw]; exact hk⟩
    · rintro ⟨p0, p1, p2, p3⟩
      obtain ⟨s, hs, hp⟩ := h.all p p0 p1 p2
      have hw := (h.span s hs).2.2.2 p hp
      exact ⟨s.2.1, hmem.2 ⟨s, hs, by rw [← hw]; exact p3, getS_of_mem h.nd hs, rfl⟩, inR_iff.1 hp⟩
  have hany : ∀ p, (runsOf S l).any (inR · p) = inL (runsOf S l) p := fun _ => rfl
  have heach : EachSet ids (runsOf S l) := fun p h0 h1 hp => by
    rw [hany] at hp
    exact ((hin p).1 hp).2.2.1
  have hap : (runsOf S l).Pairwise Apart := by
    unfold runsOf
    rw [List.pairwise_map]
    refine List.Pairwise.imp_of_mem ?_ hn
    intro a b ha hb hne
    obtain ⟨s, hs⟩ := Option.isSome_iff_exists.1 (hl a ha)
    obtain ⟨t, ht⟩ := Option.isSome_iff_exists.1 (hl b hb)
    rw [hs, ht]
    obtain ⟨s1, s2⟩ := getS_mem hs
    obtain ⟨t1, t2⟩ := getS_mem ht
    exact h.apart (s := s) (t := t) s1 t1 (by rw [s2, t2]; exact hne)
  have hall2 : AllThere 1024 (runsOf S l) := fun r hr => there_le (hall r hr) h.hi
  have hw : ∀ p : Int, 0 ≤ p → p < ids.length → wd (fillA ids 0 (runsOf S l)) p = if inL (runsOf S l) p = true then 0 else wd ids p := fun p h0 h1 => by
    rw [wd_fillA h0 h1, hany]
  have hpw : (L ++ runsOf S l).Pairwise Apart := (pairwise_apart_append h.canon hall2).2 ⟨fun p hp => by
    rw [← Bool.not_eq_true, h.free p]
    rintro ⟨_, _, h9⟩
    exact ((hin p).1 hp).2.2.1 h9, hap⟩
  refine ⟨(addR L (runsOf S l)).1, _, drop_ok hall heach, ?_, ?_, fillA_length _ _ _, fun r hr => by have := there_iff.1 (hall2 r hr); omega⟩
  · by_cases h0 : runsOf S l = []
    · rw [h0, addR_none]
    · rw [addR_ok hall2 h0 hpw]
  · have hLL : Canon 1024 (addR L (runsOf S l)).1 ∧ ∀ p, inL (addR L (runsOf S l)).1 p = true ↔ inL L p = true ∨ inL (runsOf S l) p = true := by
      by_cases h0 : runsOf S l = []
      · rw [h0, addR_none]
        exact ⟨h.canon, fun p => by simp [inL]⟩
      · rw [addR_ok hall2 h0 hpw]
        dsimp only
        refine ⟨addF_canon _ _, fun p => ?_⟩
        unfold addF
        rw [inL_listP, Bool.or_eq_true]
        constructor
        · exact fun h9 => h9.2.2
        · intro h9
          refine ⟨?_, ?_, h9⟩
          · rcases h9 with h9 | h9
            · exact ((h.free p).1 h9).1
            · exact (allThere_range hall2 h9).1
          · have := h.hi
            rcases h9 with h9 | h9
            · have := ((h.free p).1 h9).2.1; omega
            · exact (allThere_range hall2 h9).2
    refine ⟨hLL.1, by rw [fillA_length]; exact h.lo, by rw [fillA_length]; exact h.hi, ?_, fun p => ?_, fun s hs => ?_, fun p h0 h1 hne => ?_⟩
    · exact (h.nd.sublist (List.Sublist.map _ List.filter_sublist))
    · rw [hLL.2, h.free, fillA_length]
      constructor
      · rintro (⟨p0, p1, p2⟩ | h9)
        · refine ⟨p0, p1, ?_⟩
          rw [hw p p0 p1]
          split
          · rfl
          · exact p2
        · have h8 := (hin p).1 h9
          exact ⟨h8.1, h8.2.1, by rw [hw p h8.1 h8.2.1, if_pos h9]⟩
      · rintro ⟨p0, p1, p2⟩
        rw [hw p p0 p1] at p2
        by_cases hc : inL (runsOf S l) p = true
        · exact .inr hc
        · rw [if_neg hc] at p2; exact .inl ⟨p0, p1, p2⟩
    · rw [fillA_length]
      obtain ⟨hs1, hs2⟩ := List.mem_filter.1 hs
      obtain ⟨s0, s1, s2, s3⟩ := h.span s hs1
      refine ⟨s0, s1, s2, fun p hp => ?_⟩
      have hr := inR_iff.1 hp
      have ht := there_iff.1 s2
      rw [hw p (by omega) (by omega), if_neg]
      · exact s3 p hp
      · rw [hin p, s3 p hp]
        rintro ⟨_, _, _, h9⟩
        simp [h9] at hs2
    · rw [fillA_length] at h1
      rw [hw p h0 h1] at hne
      by_cases hc : inL (runsOf S l) p = true
      · rw [if_pos hc] at hne; exact absurd rfl hne
      · rw [if_neg hc] at hne
        obtain ⟨s, hs, hp⟩ := h.all p h0 h1 hne
        refine ⟨s, List.mem_filter.2 ⟨hs, ?_⟩, hp⟩
        have hws := (h.span s hs).2.2.2 p hp
        simp only [Bool.not_eq_true', decide_eq_false_iff_not]
        intro h9
        exact hc ((hin p).2 ⟨h0, h1, hne, by rw [hws]; exact h9⟩)
end Go.Proofs.Ythkbhikiljlgoaa

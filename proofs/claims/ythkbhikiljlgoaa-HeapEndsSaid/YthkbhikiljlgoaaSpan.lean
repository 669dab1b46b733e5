/- Spans that are kept in a map of one's own, by their numbers. -/
import Derived.Test.YthkbhikiljlgoaaMap
import Derived.Maps.RangeWalk
import Derived.Lib.SlMapFilter
namespace Go.Proofs.Ythkbhikiljlgoaa
open Go.RowKit Go.Maps Go.WideShapes

/-- A span: its number, its run, its order. -/
abbrev Sp := Int × (Int × Int) × Int
def spCells (s : Sp) : List Value := [.int .i64 s.1, .int .i64 s.2.1.1, .int .i64 s.2.1.2, .int .i64 s.2.2]
def spV (s : Sp) : Value := .agg #[.int .i64 s.1, .int .i64 s.2.1.1, .int .i64 s.2.1.2, .int .i64 s.2.2]
def sp0 : Sp := (0, (0, 0), 0)
def spanR (v : Value) : Option (DataW Sp × List MemPlace) :=
  match v with
  | .agg cs => match cs.toList with
    | [.int .i64 a, .int .i64 b, .int .i64 c, .int .i64 d] => some (.held (a, (b, c), d), [])
    | _ => none
  | _ => none
theorem spanR_mk (s : Sp) : spanR (spV s) = some (.held s, []) := rfl
theorem spanR_inv {v : Value} {z : DataW Sp × List MemPlace} (h : spanR v = some z) : ∃ s, v = spV s ∧ z = (.held s, []) := by
  unfold spanR at h
  split at h
  · rename_i cs
    split at h
    · rename_i a b c d he
      simp only [Option.some.injEq] at h
      refine ⟨(a, (b, c), d), ?_, h.symm⟩
      have : cs = #[.int .i64 a, .int .i64 b, .int .i64 c, .int .i64 d] := Array.toList_inj.1 (by simpa using he)
      rw [this]; rfl
    · cases h
  · cases h
theorem zero_span (w : World) : (zeroValue 35).run Try.prog w = .ok (spV sp0) w := by kernel_rfl

/-- What stands at a number. -/
def look (S : List Sp) (k : Int) : DataW Sp := match S.find? (fun s => s.1 == k) with | some s => .held s | none => .nil
def getS (S : List Sp) (k : Int) : Option Sp := S.find? (fun s => s.1 == k)
theorem look_some {S : List Sp} {k : Int} {s : Sp} (h : getS S k = some s) : look S k = .held s := by
  unfold getS at h
  unfold look; rw [h]
theorem look_none {S : List Sp} {k : Int} (h : getS S k = none) : look S k = .nil := by
  unfold getS at h
  unfold look; rw [h]
theorem look_or (S : List Sp) (k : Int) : (getS S k = none ∧ look S k = .nil) ∨ ∃ s, getS S k = some s ∧ look S k = .held s := by
  cases h : getS S k with
  | none => exact .inl ⟨rfl, look_none h⟩
  | some s => exact .inr ⟨s, rfl, look_some h⟩
theorem getS_mem {S : List Sp} {k : Int} {s : Sp} (h : getS S k = some s) : s ∈ S ∧ s.1 = k := by
  unfold getS at h
  exact ⟨List.mem_of_find?_eq_some h, by simpa using List.find?_some h⟩
theorem getS_none {S : List Sp} {k : Int} : getS S k = none ↔ ∀ s ∈ S, s.1 ≠ k := by
  unfold getS
  rw [List.find?_eq_none]
  simp
theorem getS_of_mem {S : List Sp} (hd : (S.map (·.1)).Nodup) {s : Sp} (h : s ∈ S) : getS S s.1 = some s := by
  induction S with
  | nil => simp at h
  | cons a S ih =>
    simp only [List.map_cons, List.nodup_cons] at hd
    unfold getS
    rcases List.mem_cons.1 h with rfl | h
    · simp
    · rw [List.find?_cons_of_neg]
      · exact ih hd.2 h
      · simp only [beq_iff_eq]
        intro e
        exact hd.1 (by rw [e]; exact List.mem_map_of_mem h)
theorem getS_filter {S : List Sp} {p : Int → Bool} {k : Int} : getS (S.filter (fun s => !p s.1)) k = if p k then none else getS S k := by
  unfold getS
  induction S with
  | nil => simp
  | cons a S ih =>
    by_cases hp : p a.1 = true
    · rw [List.filter_cons_of_neg (by simp [hp]), ih]
      by_cases hk : a.1 = k
      · rw [← hk, if_pos hp, if_pos hp]
      · rw [List.find?_cons_of_neg (by simpa using hk)]
    · rw [List.filter_cons_of_pos (by simpa using hp)]
      by_cases hk : a.1 = k
      · rw [← hk, if_neg hp]; simp
      · rw [List.find?_cons_of_neg (by simpa using hk), List.find?_cons_of_neg (by simpa using hk)]
        exact ih
theorem getS_snoc {S : List Sp} {s : Sp} (hn : getS S s.1 = none) (k : Int) : getS (S ++ [s]) k = if k = s.1 then some s else getS S k := by
  unfold getS at *
  rw [List.find?_append]
  by_cases hk : k = s.1
  · subst hk; rw [if_pos rfl, hn]; simp
  · rw [if_neg hk]
    cases h : S.find? (fun x => x.1 == k) with
    | some y => rfl
    | none =>
      have : (s.1 == k) = false := by simpa using Ne.symm hk
      simp [this]

/-- Block b is a map of just those spans. -/
structure SpansAt (w : World) (b n : Nat) (S : List Sp) : Prop where
  nd : (S.map (·.1)).Nodup
  map : ∃ D : DataW Sp, w.ownsMap Try.prog 3 spanR b n D ∧ ∀ k : Int, D.atKey (.int .i64 k) .nil = look S k
theorem SpansAt.made (w : World) : SpansAt (w.alloc (.map #[] 0)) w.heap.size 0 [] :=
  ⟨by simp, _, World.ownsMap_made w _ _ _, fun k => by simp [DataW.atKey, look]⟩
theorem SpansAt.lt {w : World} {b n : Nat} {S : List Sp} (h : SpansAt w b n S) : b < w.heap.size := by
  obtain ⟨D, hD, _⟩ := h.map
  exact hD.lt
theorem ownsMap_fr {H : Type} {Q : Nat → Prop} {w w' : World} {P : Program} {k : TypeId} {R : Value → Option (DataW H × List MemPlace)} {b n : Nat} {D : DataW H} (h : w.ownsMap P k R b n D) (kf : Fr Q w w') (hb : ¬ Q b) : w'.ownsMap P k R b n D := by
  obtain ⟨es, clock, h1, h2, h3, h4⟩ := h
  exact ⟨es, clock, kf.heap h1 hb, h2, h3, h4⟩
theorem SpansAt.fr {Q : Nat → Prop} {w w' : World} {b n : Nat} {S : List Sp} (h : SpansAt w b n S) (k : Fr Q w w') (hb : ¬ Q b) : SpansAt w' b n S := by
  obtain ⟨D, hD, hk⟩ := h.map
  exact ⟨h.nd, D, ownsMap_fr hD k hb, hk⟩
theorem SpansAt.bel {w w' : World} {b n : Nat} {S : List Sp} (h : SpansAt w b n S) (k : Bel w w') : SpansAt w' b n S := h.fr (Fr.of_bel (S := fun _ => False) k) (fun h => h)
theorem SpansAt.map? {w : World} {b n : Nat} {S : List Sp} (h : SpansAt w b n S) : ∃ es clock, w.heap[b]? = some (.map es clock) := by
  obtain ⟨D, ⟨es, clock, h1, _⟩, _⟩ := h.map
  exact ⟨es, clock, h1⟩
/-- 's, ok := m[k]'. -/
theorem SpansAt.get {w : World} {b n : Nat} {S : List Sp} (h : SpansAt w b n S) (k : Int) (hk : (Lit.int .i64 k).wf = true) :
    (Instr.lookup 53 (.map (some b)) (.int .i64 k) true).run Try.prog w = .ok (.tuple #[spV ((getS S k).getD sp0), .bool (getS S k).isSome]) w := by
  obtain ⟨D, ⟨es, clock, hb, F, _, rfl⟩, hat⟩ := h.map
  have hkk := hat k
  rcases Maps.fit_look true keyed_int Try.underlying53 (zero_span w) hb F (keyOf_int_mk Try.underlying3 hk) with ⟨hrun, _, h2⟩ | ⟨e0, y, _, _, hrun, hR, h2, _⟩
  · rw [h2 .nil] at hkk
    rcases look_or S k with ⟨h3, _⟩ | ⟨s, _, h4⟩
    · rw [hrun, h3]; rfl
    · rw [h4] at hkk; cases hkk
  · obtain ⟨s, h3, rfl⟩ := spanR_inv hR
    rw [h2 .nil] at hkk
    rcases look_or S k with ⟨_, h4⟩ | ⟨s', h3', h4⟩
    · rw [h4] at hkk; cases hkk
    · rw [h4] at hkk
      cases hkk
      rw [hrun, h3', h3]; rfl
/-- Another span. -/
theorem SpansAt.put {w : World} {b n : Nat} {S : List Sp} (h : SpansAt w b n S) (s : Sp) (hk : (Lit.int .i64 s.1).wf = true) (hl : n < maxLen) (hn : getS S s.1 = none) :
    ∃ w', (Instr.mapUpdate 53 (.map (some b)) (.int .i64 s.1) (spV s)).run Try.prog w = .ok () w' ∧ SpansAt w' b (n + 1) (S ++ [s]) ∧ w.grownBy w' (some b) := by
  obtain ⟨D, hD, hat⟩ := h.map
  obtain ⟨es, rfl, _⟩ := hD.entries keyed_int
  obtain ⟨w', hrun, hD', hg⟩ := hD.update keyed_int Try.underlying53 hl (keyOf_int_mk Try.underlying3 hk) (spanR_mk s)
  refine ⟨w', hrun, ⟨?_, _, hD', fun j => ?_⟩, hg⟩
  · rw [List.map_append, List.nodup_append]
    refine ⟨h.nd, by simp, fun a ha c hc => ?_⟩
    simp at hc
    subst hc
    obtain ⟨t, ht, rfl⟩ := List.mem_map.1 ha
    exact getS_none.1 hn t ht
  · have hs := getS_snoc hn j
    by_cases e : j = s.1
    · subst e
      rw [if_pos rfl] at hs
      rw [atKey_put_same (k := .int .i64 s.1) ⟨es, rfl⟩ trivial, look_some hs]
    · rw [if_neg e] at hs
      rw [atKey_put_other (by simpa using e), hat j]
      rcases look_or S j with ⟨h1, h2⟩ | ⟨t, h1, h2⟩
      · rw [h2, look_none (hs.trans h1)]
      · rw [h2, look_some (hs.trans h1)]
/-- Some struck out. -/
theorem look_filter {S : List Sp} {D : DataW Sp} {es : List (Lit × DataW Sp)} (hD : D = .map es) (hat : ∀ k : Int, D.atKey (.int .i64 k) .nil = look S k) (p : Int → Bool) (pd : Lit → DataW Sp → Bool) (hpd : ∀ k d, pd (.int .i64 k) d = p k) :
    ∀ k : Int, (Lib.deleteFuncD pd D).atKey (.int .i64 k) .nil = look (S.filter (fun s => !p s.1)) k := by
  intro k
  subst hD
  have hk := hat k
  have hf := getS_filter (S := S) (p := p) (k := k)
  simp only [Lib.deleteFuncD, DataW.atKey] at hk ⊢
  by_cases hp : p k = true
  · rw [if_pos hp] at hf
    rw [look_none hf]
    have : (es.filter fun q => !pd q.1 q.2).find? (fun q => q.1.sameKey (.int .i64 k)) = none := by
      rw [List.find?_eq_none]
      intro q hq hs
      have e1 := WideAt.sameKey_eq hs
      have := (List.mem_filter.1 hq).2
      rw [e1, hpd, hp] at this
      cases this
    rw [this]
  · rw [if_neg hp] at hf
    rw [find_filter_keep (fun q hs => by
      have e1 := WideAt.sameKey_eq hs
      rw [e1, hpd]; simpa using hp)]
    rw [hk]
    rcases look_or S k with ⟨h1, h2⟩ | ⟨t, h1, h2⟩
    · rw [h2, look_none (hf.trans h1)]
    · rw [h2, look_some (hf.trans h1)]
end Go.Proofs.Ythkbhikiljlgoaa

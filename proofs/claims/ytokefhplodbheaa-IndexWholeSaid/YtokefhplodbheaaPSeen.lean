/- How often each page was met: in plain Lean. -/
import Derived.Test.YtokefhplodbheaaPRuns
namespace Go.Proofs.Ytokefhplodbheaa

/-- Pages of the numbers below id, and those of id below B, were met once. -/
def seenF (ids : List Int) (id B : Int) : List Int := ids.mapIdx fun p v => if v < id ∨ (v = id ∧ (p : Int) < B) then 1 else 0
theorem seenF_length (ids : List Int) (id B : Int) : (seenF ids id B).length = ids.length := by simp [seenF]
theorem wd_seenF {ids : List Int} {id B p : Int} (h0 : 0 ≤ p) (h1 : p < ids.length) : wd (seenF ids id B) p = if wd ids p < id ∨ (wd ids p = id ∧ p < B) then 1 else 0 := by
  obtain ⟨q, rfl⟩ := Int.eq_ofNat_of_zero_le h0
  have hq : q < ids.length := by omega
  unfold wd seenF
  rw [List.getD_eq_getElem?_getD, List.getElem?_eq_getElem (by simpa using hq), List.getD_eq_getElem?_getD]
  simp [hq]
theorem seen_gap {ids : List Int} {id B B' : Int} (h : ∀ p : Int, 0 ≤ p → p < ids.length → B ≤ p → p < B' → wd ids p ≠ id) (hB : B ≤ B') : seenF ids id B' = seenF ids id B := by
  refine words_ext (by rw [seenF_length, seenF_length]) (fun p p0 p1 => ?_)
  rw [seenF_length] at p1
  rw [wd_seenF p0 p1, wd_seenF p0 p1]
  by_cases h1 : wd ids p = id
  · by_cases h2 : p < B
    · rw [if_pos (.inr ⟨h1, by omega⟩), if_pos (.inr ⟨h1, h2⟩)]
    · by_cases h3 : p < B'
      · exact (h p p0 p1 (by omega) h3 h1).elim
      · rw [if_neg (by omega), if_neg (by omega)]
  · by_cases h2 : wd ids p < id
    · rw [if_pos (.inl h2), if_pos (.inl h2)]
    · rw [if_neg (by omega), if_neg (by omega)]
theorem seen_step {ids : List Int} {id p : Int} (p0 : 0 ≤ p) (p1 : p < ids.length) (h : wd ids p = id) : setW (seenF ids id p) p 1 = seenF ids id (p + 1) := by
  refine words_ext (by rw [setW_length, seenF_length, seenF_length]) (fun x x0 x1 => ?_)
  rw [seenF_length] at x1
  rw [wd_seenF x0 x1]
  by_cases hx : p = x
  · subst hx
    rw [wd_setW_same p0 (by rw [seenF_length]; exact p1), if_pos (.inr ⟨h, by omega⟩)]
  · rw [wd_setW_other p0 x0 hx, wd_seenF x0 x1]
    by_cases h2 : wd ids x < id ∨ (wd ids x = id ∧ x < p)
    · rw [if_pos h2, if_pos (by omega)]
    · rw [if_neg h2, if_neg (by omega)]
theorem seen_at {ids : List Int} {id p : Int} (p0 : 0 ≤ p) (p1 : p < ids.length) (h : wd ids p = id) : wd (seenF ids id p) p = 0 := by
  rw [wd_seenF p0 p1, if_neg (by omega)]
theorem seen_next (ids : List Int) (id : Int) : seenF ids id ids.length = seenF ids (id + 1) 0 := by
  refine words_ext (by rw [seenF_length, seenF_length]) (fun x x0 x1 => ?_)
  rw [seenF_length] at x1
  rw [wd_seenF x0 x1, wd_seenF x0 x1]
  by_cases h2 : wd ids x < id ∨ (wd ids x = id ∧ x < ids.length)
  · rw [if_pos h2, if_pos (by omega)]
  · rw [if_neg h2, if_neg (by omega)]
theorem wd_mem {ids : List Int} {p : Int} (p0 : 0 ≤ p) (p1 : p < ids.length) : wd ids p ∈ ids := by
  obtain ⟨q, rfl⟩ := Int.eq_ofNat_of_zero_le p0
  have hq : q < ids.length := by omega
  have : wd ids (q : Int) = ids[q] := by unfold wd; rw [Int.toNat_natCast]; simp [List.getD_eq_getElem?_getD, hq]
  rw [this]; exact List.getElem_mem _
theorem wd_replicate {n : Nat} {v p : Int} (p0 : 0 ≤ p) (p1 : p < n) : wd (List.replicate n v) p = v := by
  obtain ⟨q, rfl⟩ := Int.eq_ofNat_of_zero_le p0
  unfold wd
  rw [Int.toNat_natCast, List.getD_eq_getElem?_getD, List.getElem?_replicate, if_pos (by omega)]; rfl
theorem seen_first {ids : List Int} (h : ∀ v ∈ ids, 0 ≤ v) : List.replicate ids.length 0 = seenF ids 0 0 := by
  refine words_ext (by rw [List.length_replicate, seenF_length]) (fun x x0 x1 => ?_)
  rw [seenF_length] at x1
  have := h _ (wd_mem x0 x1)
  rw [wd_seenF x0 x1, if_neg (by omega), wd_replicate x0 x1]
theorem seen_last {ids : List Int} (h : ∀ v ∈ ids, v ≤ 9) {p : Int} (p0 : 0 ≤ p) (p1 : p < ids.length) : wd (seenF ids 10 0) p = 1 := by
  have := h _ (wd_mem p0 p1)
  rw [wd_seenF p0 p1, if_pos (by omega)]
/-- The numbers stay from 0 to 9. -/
theorem fillA_range {ids : List Int} {id : Int} {rs : List Rn} (h : ∀ v ∈ ids, 0 ≤ v ∧ v ≤ 9) (hid : 0 ≤ id ∧ id ≤ 9) : ∀ v ∈ fillA ids id rs, 0 ≤ v ∧ v ≤ 9 := by
  intro v hv
  unfold fillA at hv
  obtain ⟨p, hp, rfl⟩ := List.getElem_of_mem hv
  rw [List.getElem_mapIdx]
  split
  · exact hid
  · exact h _ (List.getElem_mem _)
theorem drop_range {ids : List Int} {id : Int} {rs : List Rn} (h : ∀ v ∈ ids, 0 ≤ v ∧ v ≤ 9) : ∀ v ∈ (putF ids id rs true).1, 0 ≤ v ∧ v ≤ 9 := by
  unfold putF
  rw [if_neg (by simp)]
  split
  · exact h
  · rw [if_pos rfl]
    split
    · exact fillA_range h ⟨by omega, by omega⟩
    · exact h
theorem set_range {ids : List Int} {id : Int} {rs : List Rn} (h : ∀ v ∈ ids, 0 ≤ v ∧ v ≤ 9) (hid : id ≤ 9) : ∀ v ∈ (putF ids id rs false).1, 0 ≤ v ∧ v ≤ 9 := by
  unfold putF
  split
  · exact h
  · rename_i h1
    split
    · exact h
    · rw [if_neg (by simp)]
      split
      · exact fillA_range h ⟨by simp at h1; omega, hid⟩
      · exact h
/-- Where a number's runs begin (behind the last: the end). -/
def startAt (L : List Rn) (n : Nat) (i : Nat) : Int := if h : i < L.length then L[i].1 else n
theorem seen_start {ids : List Int} {id : Int} : seenF ids id (startAt (runsF ids id) ids.length 0) = seenF ids id 0 := by
  refine seen_gap (fun p p0 p1 _ hp he => ?_) ?_
  · have h1 := inL_runsF.2 ⟨p0, p1, he⟩
    have h2 := (runsF_canon ids id).ahead (p := p) (fun hj => by unfold startAt at hp; rw [dif_pos hj] at hp; exact hp)
    rw [h1] at h2; cases h2
  · unfold startAt
    split
    · rename_i h
      have := (runsF_canon ids id).ok _ (List.getElem_mem h)
      omega
    · omega
theorem seen_behind {ids : List Int} {id : Int} {i : Nat} (hi : i < (runsF ids id).length) : seenF ids id (startAt (runsF ids id) ids.length (i + 1)) = seenF ids id ((runsF ids id)[i].1 + (runsF ids id)[i].2) := by
  have hc := runsF_canon ids id
  refine seen_gap (fun p p0 p1 h1 hp he => ?_) ?_
  · have h2 := inL_runsF.2 ⟨p0, p1, he⟩
    have h3 := hc.between hi (p := p) h1 (fun hj => by unfold startAt at hp; rw [dif_pos hj] at hp; exact hp)
    rw [h2] at h3; cases h3
  · unfold startAt
    split
    · rename_i h
      have := hc.next h
      omega
    · have := (hc.ok _ (List.getElem_mem hi)).2.2
      exact this
theorem run_word {ids : List Int} {id : Int} {i : Nat} (hi : i < (runsF ids id).length) {p : Int} (h1 : (runsF ids id)[i].1 ≤ p) (h2 : p < (runsF ids id)[i].1 + (runsF ids id)[i].2) : 0 ≤ p ∧ p < ids.length ∧ wd ids p = id :=
  inL_runsF.1 (inL_iff.2 ⟨_, List.getElem_mem hi, h1, h2⟩)
end Go.Proofs.Ytokefhplodbheaa

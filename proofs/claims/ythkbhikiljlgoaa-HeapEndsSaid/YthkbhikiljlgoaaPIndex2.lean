/- The index in plain Lean: the numbers of a run; what is answered. -/
import Derived.Test.YthkbhikiljlgoaaPIndex
namespace Go.Proofs.Ythkbhikiljlgoaa

/-- The numbers of a run's pages. -/
def partN (ids : List Int) (r : Rn) : List Int := (ids.drop r.1.toNat).take r.2.toNat
theorem partN_get {ids : List Int} {s m t : Nat} (ht : t < m) (h : s + m ≤ ids.length) : (partN ids (s, m))[t]? = some (wd ids ((s + t : Nat) : Int)) := by
  unfold partN wd
  rw [List.getElem?_take, if_pos (by simpa using ht), List.getElem?_drop, List.getD_eq_getElem?_getD, show (((s + t : Nat) : Int)).toNat = s + t from Int.toNat_natCast _]
  have : s + t < ids.length := by omega
  simp [this]
theorem partN_length {ids : List Int} {s m : Nat} (h : s + m ≤ ids.length) : (partN ids ((s : Int), (m : Int))).length = m := by
  unfold partN; simp; omega
theorem mem_partN {ids : List Int} {r : Rn} (h : there ids.length r = true) {x : Int} : x ∈ partN ids r ↔ ∃ p : Int, inR r p = true ∧ wd ids p = x := by
  obtain ⟨s, m⟩ := r
  obtain ⟨t0, t1, t2, t3⟩ := there_iff.1 h
  dsimp only at t0 t1 t2 t3
  obtain ⟨s, rfl⟩ := Int.eq_ofNat_of_zero_le t0
  obtain ⟨m, rfl⟩ := Int.eq_ofNat_of_zero_le (show 0 ≤ m by omega)
  constructor
  · intro hx
    obtain ⟨t, ht, e⟩ := List.getElem_of_mem hx
    rw [partN_length (by omega)] at ht
    refine ⟨((s + t : Nat) : Int), inR_iff.2 (by dsimp only; omega), ?_⟩
    have := partN_get (ids := ids) (s := s) ht (by omega)
    rw [List.getElem?_eq_getElem (by rw [partN_length (by omega)]; exact ht)] at this
    have h2 := Option.some.inj this
    rw [← h2]; exact e
  · rintro ⟨p, hp, rfl⟩
    have hp2 := inR_iff.1 hp
    dsimp only at hp2
    obtain ⟨p, rfl⟩ := Int.eq_ofNat_of_zero_le (show 0 ≤ p by omega)
    obtain ⟨t, rfl⟩ : ∃ t, p = s + t := ⟨p - s, by omega⟩
    have := partN_get (ids := ids) (s := s) (t := t) (m := m) (by omega) (by omega)
    exact List.mem_of_getElem? this
theorem each_iff {ids : List Int} {rs : List Rn} (h : AllThere ids.length rs) : EachSet ids rs ↔ ∀ r ∈ rs, (0 : Int) ∉ partN ids r := by
  constructor
  · intro he r hr hm
    obtain ⟨p, hp, hw⟩ := (mem_partN (h r hr)).1 hm
    have h1 := there_iff.1 (h r hr)
    have h2 := inR_iff.1 hp
    exact he p (by omega) (by omega) (List.any_eq_true.2 ⟨r, hr, hp⟩) hw
  · intro he p h0 h1 ha hw
    obtain ⟨r, hr, hp⟩ := List.any_eq_true.1 ha
    exact he r hr ((mem_partN (h r hr)).2 ⟨p, hp, hw⟩)
theorem none_iff {ids : List Int} {rs : List Rn} (h : AllThere ids.length rs) : NoneSet ids rs ↔ ∀ r ∈ rs, (partN ids r).any (fun n => n != 0) = false := by
  constructor
  · intro he r hr
    rw [List.any_eq_false]
    intro x hx
    obtain ⟨p, hp, hw⟩ := (mem_partN (h r hr)).1 hx
    have h1 := there_iff.1 (h r hr)
    have h2 := inR_iff.1 hp
    have := he p (by omega) (by omega) (List.any_eq_true.2 ⟨r, hr, hp⟩)
    rw [← hw, this]; simp
  · intro he p h0 h1 ha
    obtain ⟨r, hr, hp⟩ := List.any_eq_true.1 ha
    have h2 := he r hr
    rw [List.any_eq_false] at h2
    have := h2 _ ((mem_partN (h r hr)).2 ⟨p, hp, rfl⟩)
    simpa using this
theorem putF_arg {ids : List Int} {id : Int} {rs : List Rn} (h : id < 1) : putF ids id rs false = (ids, 1) := by unfold putF; rw [if_pos ⟨rfl, h⟩]
theorem putF_out {ids : List Int} {id : Int} {rs : List Rn} {drop : Bool} (h : ¬ (drop = false ∧ id < 1)) (h1 : ¬ AllThere ids.length rs) : putF ids id rs drop = (ids, 2) := by unfold putF; rw [if_neg h, if_pos h1]
theorem drop_bad {ids : List Int} {id : Int} {rs : List Rn} (h : AllThere ids.length rs) (h1 : ¬ EachSet ids rs) : putF ids id rs true = (ids, 9) := by
  unfold putF; rw [if_neg (by simp), if_neg (by simpa using h), if_pos rfl, if_neg h1]
theorem drop_ok {ids : List Int} {id : Int} {rs : List Rn} (h : AllThere ids.length rs) (h1 : EachSet ids rs) : putF ids id rs true = (fillA ids 0 rs, 0) := by
  unfold putF; rw [if_neg (by simp), if_neg (by simpa using h), if_pos rfl, if_pos h1]
theorem set_bad {ids : List Int} {id : Int} {rs : List Rn} (h0 : 1 ≤ id) (h : AllThere ids.length rs) (h1 : ¬ (NoneSet ids rs ∧ rs.Pairwise Apart)) : putF ids id rs false = (ids, 9) := by
  unfold putF; rw [if_neg (by rintro ⟨_, h9⟩; omega), if_neg (by simpa using h), if_neg (by simp), if_neg h1]
theorem set_ok {ids : List Int} {id : Int} {rs : List Rn} (h0 : 1 ≤ id) (h : AllThere ids.length rs) (h1 : NoneSet ids rs) (h2 : rs.Pairwise Apart) : putF ids id rs false = (fillA ids id rs, 0) := by
  unfold putF; rw [if_neg (by rintro ⟨_, h9⟩; omega), if_neg (by simpa using h), if_neg (by simp), if_pos ⟨h1, h2⟩]
theorem putF_length (ids : List Int) (id : Int) (rs : List Rn) (drop : Bool) : (putF ids id rs drop).1.length = ids.length := by
  unfold putF
  split
  · rfl
  · split
    · rfl
    · split
      · split
        · exact fillA_length _ _ _
        · rfl
      · split
        · exact fillA_length _ _ _
        · rfl
end Go.Proofs.Ythkbhikiljlgoaa

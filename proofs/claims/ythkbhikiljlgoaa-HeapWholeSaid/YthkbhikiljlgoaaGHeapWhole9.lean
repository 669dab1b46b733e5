/- The statement HeapWhole: whatever comes in, the law returns true, and each argument reads as it did. No condition. Layer 7: the pages of the free runs and of the spans are all pages, each once. How often each page is in runs: in plain Lean. How often each page was met: in plain Lean. -/
import Derived.Test.YthkbhikiljlgoaaGHeapWhole1
import Derived.Test.YthkbhikiljlgoaaGHeapWhole4
import Derived.Test.YthkbhikiljlgoaaGHeapWhole8
import Derived.Test.YthkbhikiljlgoaaGHeapWhole0
import Derived.Deep.AppendLies
set_option linter.unusedVariables false
set_option linter.unusedSimpArgs false
namespace Go.Proofs.Ythkbhikiljlgoaa

/-- Pages of the numbers below id, and those of id below B, were met once. -/
def seenF (ids : List Int) (id B : Int) : List Int := ids.mapIdx fun p v => if v < id ∨ (v = id ∧ (p : Int) < B) then 1 else 0
theorem seenF_length (ids : List Int) (id B : Int) : (seenF ids id B).length = ids.length := by simp [seenF]
theorem wd_seenF {ids : List Int} {id B p : Int} (h0 : 0 ≤ p) (h1 : p < ids.length) : wd (seenF ids id B) p = if wd ids p < id ∨ (wd ids p = id ∧ p < B) then 1 else 0 := by
  obtain ⟨q, rfl⟩ := Int.eq_ofNat_of_zero_le h0
  have hq : q < ids.length := by omega
  unfold wd seenF
  rw [List.getD_eq_getElem?_getD, List.getElem?_eq_getElem (by simpa using hq), List.getD_eq_getElem?_getD]
  simp [hq]
theorem seen_gap {ids : List Int} {id B B' : Int} (h : ∀ p : Int, 0 ≤ p → p < ids.length → B ≤ p → p < B' → wd ids p ≠ id) (hB : B ≤ B') : seenF ids id B' = seenF ids id B := by
  refine words_ext (by rw [seenF_length, seenF_length]) (fun p p0 p1 => ?_)
  rw [seenF_length] at p1
  rw [wd_seenF p0 p1, wd_seenF p0 p1]
  by_cases h1 : wd ids p = id
  · by_cases h2 : p < B
    · rw [if_pos (.inr ⟨h1, by omega⟩), if_pos (.inr ⟨h1, h2⟩)]
    · by_cases h3 : p < B'
      · exact (h p p0 p1 (by omega) h3 h1).elim
      · rw [if_neg (by omega), if_neg (by omega)]
  · by_cases h2 : wd ids p < id
    · rw [if_pos (.inl h2), if_pos (.inl h2)]
    · rw [if_neg (by omega), if_neg (by omega)]
theorem seen_step {ids : List Int} {id p : Int} (p0 : 0 ≤ p) (p1 : p < ids.length) (h : wd ids p = id) : setW (seenF ids id p) p 1 = seenF ids id (p + 1) := by
  refine words_ext (by rw [setW_length, seenF_length, seenF_length]) (fun x x0 x1 => ?_)
  rw [seenF_length] at x1
  rw [wd_seenF x0 x1]
  by_cases hx : p = x
  · subst hx
    rw [wd_setW_same p0 (by rw [seenF_length]; exact p1), if_pos (.inr ⟨h, by omega⟩)]
  · rw [wd_setW_other p0 x0 hx, wd_seenF x0 x1]
    by_cases h2 : wd ids x < id ∨ (wd ids x = id ∧ x < p)
    · rw [if_pos h2, if_pos (by omega)]
    · rw [if_neg h2, if_neg (by omega)]
theorem seen_at {ids : List Int} {id p : Int} (p0 : 0 ≤ p) (p1 : p < ids.length) (h : wd ids p = id) : wd (seenF ids id p) p = 0 := by
  rw [wd_seenF p0 p1, if_neg (by omega)]
theorem seen_next (ids : List Int) (id : Int) : seenF ids id ids.length = seenF ids (id + 1) 0 := by
  refine words_ext (by rw [seenF_length, seenF_length]) (fun x x0 x1 => ?_)
  rw [seenF_length] at x1
  rw [wd_seenF x0 x1, wd_seenF x0 x1]
  by_cases h2 : wd ids x < id ∨ (wd ids x = id ∧ x < ids.length)
  · rw [if_pos h2, if_pos (by omega)]
  · rw [if_neg h2, if_neg (by omega)]
theorem wd_mem {ids : List Int} {p : Int} (p0 : 0 ≤ p) (p1 : p < ids.length) : wd ids p ∈ ids := by
  obtain ⟨q, rfl⟩ := Int.eq_ofNat_of_zero_le p0
  have hq : q < ids.length := by omega
  have : wd ids (q : Int) = ids[q] := by unfold wd; rw [Int.toNat_natCast]; simp [List.getD_eq_getElem?_getD, hq]
  rw [this]; exact List.getElem_mem _
theorem wd_replicate {n : Nat} {v p : Int} (p0 : 0 ≤ p) (p1 : p < n) : wd (List.replicate n v) p = v := by
  obtain ⟨q, rfl⟩ := Int.eq_ofNat_of_zero_le p0
  unfold wd
  rw [Int.toNat_natCast, List.getD_eq_getElem?_getD, List.getElem?_replicate, if_pos (by omega)]; rfl
theorem seen_first {ids : List Int} (h : ∀ v ∈ ids, 0 ≤ v) : List.replicate ids.length 0 = seenF ids 0 0 := by
  refine words_ext (by rw [List.length_replicate, seenF_length]) (fun x x0 x1 => ?_)
  rw [seenF_length] at x1
  have := h _ (wd_mem x0 x1)
  rw [wd_seenF x0 x1, if_neg (by omega), wd_replicate x0 x1]
theorem seen_last {ids : List Int} (h : ∀ v ∈ ids, v ≤ 9) {p : Int} (p0 : 0 ≤ p) (p1 : p < ids.length) : wd (seenF ids 10 0) p = 1 := by
  have := h _ (wd_mem p0 p1)
  rw [wd_seenF p0 p1, if_pos (by omega)]
/-- The numbers stay from 0 to 9. -/
theorem fillA_range {ids : List Int} {id : Int} {rs : List Rn} (h : ∀ v ∈ ids, 0 ≤ v ∧ v ≤ 9) (hid : 0 ≤ id ∧ id ≤ 9) : ∀ v ∈ fillA ids id rs, 0 ≤ v ∧ v ≤ 9 := by
  intro v hv
  unfold fillA at hv
  obtain ⟨p, hp, rfl⟩ := List.getElem_of_mem hv
  rw [List.getElem_mapIdx]
  split
  · exact hid
  · exact h _ (List.getElem_mem _)
theorem drop_range {ids : List Int} {id : Int} {rs : List Rn} (h : ∀ v ∈ ids, 0 ≤ v ∧ v ≤ 9) : ∀ v ∈ (putF ids id rs true).1, 0 ≤ v ∧ v ≤ 9 := by
  unfold putF
  rw [if_neg (by simp)]
  split
  · exact h
  · rw [if_pos rfl]
    split
    · exact fillA_range h ⟨by omega, by omega⟩
    · exact h
theorem set_range {ids : List Int} {id : Int} {rs : List Rn} (h : ∀ v ∈ ids, 0 ≤ v ∧ v ≤ 9) (hid : id ≤ 9) : ∀ v ∈ (putF ids id rs false).1, 0 ≤ v ∧ v ≤ 9 := by
  unfold putF
  split
  · exact h
  · rename_i h1
    split
    · exact h
    · rw [if_neg (by simp)]
      split
      · exact fillA_range h ⟨by simp at h1; omega, hid⟩
      · exact h
/-- Where a number's runs begin (behind the last: the end). -/
def startAt (L : List Rn) (n : Nat) (i : Nat) : Int := if h : i < L.length then L[i].1 else n
theorem seen_start {ids : List Int} {id : Int} : seenF ids id (startAt (runsF ids id) ids.length 0) = seenF ids id 0 := by
  refine seen_gap (fun p p0 p1 _ hp he => ?_) ?_
  · have h1 := inL_runsF.2 ⟨p0, p1, he⟩
    have h2 := (runsF_canon ids id).ahead (p := p) (fun hj => by unfold startAt at hp; rw [dif_pos hj] at hp; exact hp)
    rw [h1] at h2; cases h2
  · unfold startAt
    split
    · rename_i h
      have := (runsF_canon ids id).ok _ (List.getElem_mem h)
      omega
    · omega
theorem seen_behind {ids : List Int} {id : Int} {i : Nat} (hi : i < (runsF ids id).length) : seenF ids id (startAt (runsF ids id) ids.length (i + 1)) = seenF ids id ((runsF ids id)[i].1 + (runsF ids id)[i].2) := by
  have hc := runsF_canon ids id
  refine seen_gap (fun p p0 p1 h1 hp he => ?_) ?_
  · have h2 := inL_runsF.2 ⟨p0, p1, he⟩
    have h3 := hc.between hi (p := p) h1 (fun hj => by unfold startAt at hp; rw [dif_pos hj] at hp; exact hp)
    rw [h2] at h3; cases h3
  · unfold startAt
    split
    · rename_i h
      have := hc.next h
      omega
    · have := (hc.ok _ (List.getElem_mem hi)).2.2
      exact this
theorem run_word {ids : List Int} {id : Int} {i : Nat} (hi : i < (runsF ids id).length) {p : Int} (h1 : (runsF ids id)[i].1 ≤ p) (h2 : p < (runsF ids id)[i].1 + (runsF ids id)[i].2) : 0 ≤ p ∧ p < ids.length ∧ wd ids p = id :=
  inL_runsF.1 (inL_iff.2 ⟨_, List.getElem_mem hi, h1, h2⟩)
end Go.Proofs.Ythkbhikiljlgoaa

namespace Go.Proofs.Ythkbhikiljlgoaa

/-- In how many runs a page is. -/
def cntR (R : List Rn) (p : Int) : Int := (R.countP fun r => inR r p : Nat)
/-- In how many runs each page is. -/
def metR (n : Nat) (R : List Rn) : List Int := (List.range n).map fun (p : Nat) => cntR R (p : Int)
theorem metR_length (n : Nat) (R : List Rn) : (metR n R).length = n := by simp [metR]
theorem wd_metR {n : Nat} {R : List Rn} {p : Int} (h0 : 0 ≤ p) (h1 : p < n) : wd (metR n R) p = cntR R p := by
  obtain ⟨q, rfl⟩ := Int.eq_ofNat_of_zero_le h0
  have hq : q < n := by omega
  unfold wd metR
  rw [List.getD_eq_getElem?_getD]
  simp [hq]
theorem cntR_nil (p : Int) : cntR [] p = 0 := by simp [cntR]
theorem cntR_append (R R' : List Rn) (p : Int) : cntR (R ++ R') p = cntR R p + cntR R' p := by simp [cntR]
theorem cntR_one (r : Rn) (p : Int) : cntR [r] p = if inR r p then 1 else 0 := by
  unfold cntR; rw [List.countP_cons]; split <;> simp
theorem cntR_le (R : List Rn) (p : Int) : 0 ≤ cntR R p ∧ cntR R p ≤ R.length := by
  unfold cntR; have := List.countP_le_length (p := fun r => inR r p) (l := R); omega
theorem metR_nil (n : Nat) : metR n [] = List.replicate n 0 := by
  refine words_ext (by simp [metR]) (fun x x0 x1 => ?_)
  rw [List.length_replicate] at x1
  rw [wd_metR x0 x1, cntR_nil, wd_replicate x0 x1]
theorem metR_zero (n : Nat) (R : List Rn) (s : Int) : metR n (R ++ [(s, 0)]) = metR n R := by
  refine words_ext (by simp [metR_length]) (fun x x0 x1 => ?_)
  rw [metR_length] at x1
  rw [wd_metR x0 x1, wd_metR x0 x1, cntR_append, cntR_one, if_neg (by rw [inR_iff]; dsimp only; omega)]
  omega
theorem metR_step {n : Nat} {R : List Rn} {s j : Int} (h0 : 0 ≤ s) (hj : 0 ≤ j) (h1 : s + j < n) :
    setW (metR n (R ++ [(s, j)])) (s + j) (wd (metR n (R ++ [(s, j)])) (s + j) + 1) = metR n (R ++ [(s, j + 1)]) := by
  refine words_ext (by rw [setW_length, metR_length, metR_length]) (fun x x0 x1 => ?_)
  rw [metR_length] at x1
  rw [wd_metR x0 x1, cntR_append, cntR_one]
  by_cases hx : s + j = x
  · subst hx
    rw [wd_setW_same x0 (by rw [metR_length]; exact h1), wd_metR x0 x1, cntR_append, cntR_one, if_neg (by rw [inR_iff]; dsimp only; omega), if_pos (by rw [inR_iff]; dsimp only; omega)]
    omega
  · rw [wd_setW_other (by omega) x0 hx, wd_metR x0 x1, cntR_append, cntR_one]
    by_cases h2 : s ≤ x ∧ x < s + j
    · rw [if_pos (by rw [inR_iff]; dsimp only; omega), if_pos (by rw [inR_iff]; dsimp only; omega)]
    · rw [if_neg (by rw [inR_iff]; dsimp only; omega), if_neg (by rw [inR_iff]; dsimp only; omega)]
theorem cntR_none {R : List Rn} {p : Int} (h : ∀ r ∈ R, inR r p = false) : cntR R p = 0 := by
  unfold cntR
  have : R.countP (fun r => inR r p) = 0 := List.countP_eq_zero.2 (fun r hr => by simp [h r hr])
  rw [this]; rfl
/-- Of runs that share no page, a page that is in one is in it alone. -/
theorem cntR_apart {R : List Rn} {p : Int} (h : R.Pairwise (fun a b => ¬ (inR a p = true ∧ inR b p = true))) (hp : ∃ r ∈ R, inR r p = true) : cntR R p = 1 := by
  induction R with
  | nil => simp at hp
  | cons a R ih =>
    obtain ⟨h1, h2⟩ := List.pairwise_cons.1 h
    have e : cntR (a :: R) p = cntR [a] p + cntR R p := cntR_append [a] R p
    rw [e, cntR_one]
    by_cases ha : inR a p = true
    · rw [if_pos ha, cntR_none (fun r hr => by cases hb : inR r p with | false => rfl | true => exact absurd ⟨ha, hb⟩ (h1 r hr))]; rfl
    · obtain ⟨r, hr, hrp⟩ := hp
      rcases List.mem_cons.1 hr with rfl | hr
      · exact absurd hrp ha
      · rw [if_neg ha, ih h2 ⟨r, hr, hrp⟩]; rfl
theorem HInv.cnt {ids : List Int} {L : List Rn} {S zs : List Sp} {last : Nat} (h : HInv ids L S last) (hz : zs.Perm S) {p : Int} (h0 : 0 ≤ p) (h1 : p < ids.length) : cntR (L ++ zs.map (·.2.1)) p = 1 := by
  have hzs : ∀ s ∈ zs, s ∈ S := fun s hs => hz.mem_iff.1 hs
  have hnd : (zs.map (·.1)).Nodup := (hz.map (·.1)).nodup_iff.2 h.nd
  rw [cntR_append]
  by_cases hw : wd ids p = 0
  · have hL : inL L p = true := (h.free p).2 ⟨h0, h1, hw⟩
    rw [cntR_apart (R := L) (h.canon.gap.imp_of_mem (fun {a b} ha hb hab => by
        rintro ⟨x, y⟩
        rw [inR_iff] at x y
        omega)) (by obtain ⟨r, hr, hx⟩ := inL_iff.1 hL; exact ⟨r, hr, inR_iff.2 hx⟩)]
    rw [cntR_none (fun r hr => by
      obtain ⟨s, hs, rfl⟩ := List.mem_map.1 hr
      have h2 := h.span s (hzs s hs)
      cases hb : inR s.2.1 p with
      | false => rfl
      | true => have := h2.2.2.2 p hb; omega)]; rfl
  · have hL : inL L p = false := by
      cases hb : inL L p with
      | false => rfl
      | true => exact absurd ((h.free p).1 hb).2.2 hw
    have e1 : cntR L p = 0 := cntR_none (fun r hr => by
      cases hb : inR r p with
      | false => rfl
      | true => rw [inL_iff.2 ⟨r, hr, inR_iff.1 hb⟩] at hL; cases hL)
    obtain ⟨s, hs, hsp⟩ := h.all p h0 h1 hw
    rw [e1, cntR_apart (R := zs.map (·.2.1)) ?_ ⟨_, List.mem_map.2 ⟨s, hz.mem_iff.2 hs, rfl⟩, hsp⟩]
    · rfl
    · rw [List.pairwise_map]
      have := List.pairwise_map.1 hnd
      refine this.imp_of_mem (fun {a b} ha hb hab => ?_)
      rintro ⟨x, y⟩
      exact hab (((h.span a (hzs a ha)).2.2.2 p x).symm.trans ((h.span b (hzs b hb)).2.2.2 p y))
theorem HInv.runs_ok {ids : List Int} {L : List Rn} {S zs : List Sp} {last : Nat} (h : HInv ids L S last) (hz : zs.Perm S) : ∀ r ∈ L ++ zs.map (·.2.1), 0 ≤ r.1 ∧ 1 ≤ r.2 ∧ r.1 + r.2 ≤ ids.length := by
  intro r hr
  rcases List.mem_append.1 hr with hr | hr
  · have h1 := h.canon.ok r hr
    have h2 := (h.free (r.1 + r.2 - 1)).1 (inL_iff.2 ⟨r, hr, by omega, by omega⟩)
    omega
  · obtain ⟨s, hs, rfl⟩ := List.mem_map.1 hr
    have h2 := there_iff.1 (h.span s (hz.mem_iff.1 hs)).2.2.1
    omega
end Go.Proofs.Ythkbhikiljlgoaa

namespace Go.Proofs.Ythkbhikiljlgoaa
open Go.ChangeShapes Go.WideShapes Go.ChangeAt Go.RowKit Go.Deep

theorem out7_get {ids' : List Int} {t : Nat} (h : t < ids'.length) : (ints ids')[t]? = some (.int .i64 (wd ids' (t : Int))) := by
  unfold ints wd
  rw [List.getElem?_map, List.getElem?_eq_getElem h, Int.toNat_natCast, List.getD_eq_getElem?_getD, List.getElem?_eq_getElem h]
  rfl
theorem out7_set {ids' : List Int} {t : Nat} {v : Int} : (ints ids').set t (.int .i64 v) = ints (setW ids' (t : Int) v) := by
  unfold ints setW; simp [List.map_set]

set_option maxHeartbeats 4000000 in
set_option maxRecDepth 20000 in
/-- A block of numbers. -/
def Blk7 (w : World) (g : Nat) (xs : List Int) : Prop := w.heap[g]? = some (.cells (ints xs).toArray 3 (0, 0))
theorem Blk7.bel {w w' : World} {g : Nat} {xs : List Int} (h : Blk7 w g xs) (k : Bel w w') : Blk7 w' g xs := (k.block g (heap_lt h)).trans h
theorem Blk7.cell {w : World} {g : Nat} {xs : List Int} (h : Blk7 w g xs) {t : Nat} (ht : t < xs.length) : w.cell? ⟨g, t, none⟩ = some (.int .i64 (wd xs (t : Int))) := by
  rw [blk_cell h, List.getElem?_toArray]; exact out7_get ht
theorem Blk7.set {w : World} {g : Nat} {xs : List Int} (h : Blk7 w g xs) (t : Nat) (v : Int) : Blk7 (w.setCell ⟨g, t, none⟩ (.int .i64 v)) g (setW xs t v) := by
  have := blk_setCell h t (.int .i64 v)
  rw [List.setIfInBounds_toArray, out7_set] at this
  exact this
/-- The spans' runs. -/
def rnsOf (zs : List Sp) : List Rn := zs.map (·.2.1)
theorem rnsOf_length (zs : List Sp) : (rnsOf zs).length = zs.length := by simp [rnsOf]
theorem SpansIn.fr {S : Nat → Prop} {w w' : World} {a : Option Addr} {zs : List Sp} (h : SpansIn w a zs) (k : Fr S w w') (hn : ∀ p, a = some p → ¬ S p.block) : SpansIn w' a zs := by
  rcases h with h | ⟨b, o, e, h⟩
  · exact .inl h
  · exact .inr ⟨b, o, e, fun i hi j v hv => k.cell (h i hi j v hv) (show ¬ S b from hn ⟨b, o, none⟩ e)⟩
theorem Blk7.fr {S : Nat → Prop} {w w' : World} {g : Nat} {xs : List Int} (h : Blk7 w g xs) (k : Fr S w w') (hn : ¬ S g) : Blk7 w' g xs := k.heap h hn
theorem bel_row {w wi w' : World} {row : Option Nat} (h : Bel w wi) (hg : wi.grownBy w' row) (hr : ∀ k, row = some k → w.heap.size ≤ k) : Bel w w' :=
  Fr.bel ((Fr.of_bel (S := fun k => row = some k) h).trans' (fr_row hg)) hr
/-- Runs and the spans' runs, so far. -/
structure WholeWay (w wi : World) (W0 G P : Nat) (L : List Rn) (zs : List Sp) (d : Option Addr) (uv : Value) (i : Nat) : Prop where
  own : wi.ownsRow W0 33 2 uv (L ++ (rnsOf zs).take i).length (cellsOf (L ++ (rnsOf zs).take i))
  sp : SpansIn wi d zs
  apart : ∀ p, d = some p → uv.ownBlock ≠ some p.block ∧ p.block < G
  seen : Blk7 wi G (metR P [])
  ne : uv.ownBlock ≠ some G
  bel : Bel w wi
theorem rnsOf_take {zs : List Sp} {i : Nat} (h : i < zs.length) : (rnsOf zs).take (i + 1) = (rnsOf zs).take i ++ [zs[i].2.1] := by
  rw [List.take_succ_eq_append_getElem (by simpa [rnsOf] using h)]; simp [rnsOf]

set_option maxHeartbeats 4000000 in
set_option maxRecDepth 20000 in
theorem heapWhole_walk (pages : Int) (sa : Option Addr) (xs : List Act07) (m0 c0 : Nat) (w : World) (hp : I64 pages) (hA : Acts07 w sa m0 xs) :
    Calls Try.prog 3 #[.int .i64 pages, .slice sa m0 c0] w fun e w' => e = .returned (.bool true) ∧ Bel w w' := by
  obtain ⟨rfl, hl, hrd, hok⟩ := hA
  have hl2 : xs.length ≤ 9223372036854775807 := by unfold maxLen at hl; omega
  by_cases hpg : pages < 4 ∨ 1024 < pages
  · have HNB := Lib.hid (heap_New_bad pages w hp hpg)
    clear hrd hok hpg
    by_cases c1 : 100 < (xs.length : Int)
    all_goals
      go_enter Try.func3, Try.ntmps3
      go_wp2_with fail
      refine HNB.out.mono ?_; rintro e w1 ⟨rfl, rfl⟩
      go_wp2_with fail
      refine (awake07 _).mono ?_; rintro e w' ⟨rfl, hB⟩
      go_wp2
      go_ret
      exact ⟨rfl, hB⟩
  obtain ⟨P, rfl⟩ := Int.eq_ofNat_of_zero_le (show 0 ≤ pages by omega)
  have HNEW := Lib.hid (heap_New P w (by omega) (by omega))
  have HRD := Lib.hid hrd
  have HOK := Lib.hid hok
  clear hrd hok hpg
  by_cases c1 : 100 < (xs.length : Int)
  · go_enter Try.func3, Try.ntmps3
    go_wp2_with fail
    refine HNEW.out.mono ?_; rintro e w1 hN
    obtain ⟨h, bi, rfl, hL⟩ := liveH_new hN
    have HB := Lib.hid hL.bel
    clear hN hL
    go_wp2_with fail
    refine (awake07 _).mono ?_; rintro e w' ⟨rfl, hB⟩
    go_wp2
    go_ret
    exact ⟨rfl, HB.out.trans hB⟩
  have c2 : xs.length ≤ 100 := by omega
  go_enter Try.func3, Try.ntmps3
  go_wp2_with fail
  refine HNEW.out.mono ?_; rintro e w1 hN
  obtain ⟨h, bi, rfl, hL⟩ := liveH_new hN
  have HL0 := Lib.hid hL
  clear hN hL HNEW
  go_wp2_with fail
  go_loopw [7] (fun k wr => ∃ i : Nat, i ≤ xs.length ∧ k = .int .i64 i ∧ Hid (∃ L ids S last, LiveH w (fun _ => False) wr h bi L ids S last ∧ last ≤ i ∧ ids.length = P)) (fun k wr => xs.length - (intOf k).toNat)
  case atStart => exact ⟨0, Nat.zero_le _, rfl, Lib.hid ⟨_, _, _, _, HL0.out, Nat.le_refl _, by simp⟩⟩
  case round =>
    clear HL0
    obtain ⟨i, hi, rfl, HX⟩ := hrel
    obtain ⟨L, ids, S, last, hL, hlast, hids⟩ := HX.out
    have HL := Lib.hid hL
    clear HX hL
    by_cases hlt : i < xs.length
    · obtain ⟨b, o, rfl, hra⟩ := (HRD.out.bel HL.out.bel).at i hlt
      obtain ⟨b', o', e', hra0⟩ := HRD.out.at i hlt
      cases e'
      have hx := HOK.out xs[i] (List.getElem_mem _)
      generalize xs[i] = x at hra hra0 hx
      have q0 : wr.cell? ⟨b, o + i * 4, none⟩ = some (.bool x.free) := hra 0 _ rfl
      have q1 : wr.cell? ⟨b, o + i * 4 + 1, none⟩ = some (.slice x.ia x.ids.length x.ic) := hra 1 _ rfl
      have q2 : wr.cell? ⟨b, o + i * 4 + 2, none⟩ = some (.int .i64 x.pages) := hra 2 _ rfl
      have q3 : wr.cell? ⟨b, o + i * 4 + 3, none⟩ = some (.int .i64 x.order) := hra 3 _ rfl
      have hxl : x.ids.length ≤ 9223372036854775807 := by have := hx.len; unfold maxLen at this; omega
      have HX := Lib.hid hx
      have d0 : (i : Int) < xs.length := by omega
      have HKC : Hid (∀ V, Bel w V → V.cell? ⟨b, o + i * 4 + 2, none⟩ = some (.int .i64 x.pages) ∧ V.cell? ⟨b, o + i * 4 + 3, none⟩ = some (.int .i64 x.order)) := Lib.hid (fun V hV => ⟨hV.cell (hra0 2 _ rfl), hV.cell (hra0 3 _ rfl)⟩)
      clear hra hra0 hx
      by_cases c4 : 10 < (x.ids.length : Int)
      · go_wp2_with fail
        refine (awake07 _).mono ?_; rintro e w' ⟨rfl, hB⟩
        go_wp2
        go_ret
        exact ⟨rfl, HL.out.bel.trans hB⟩
      obtain ⟨fr, hfr⟩ : ∃ fr, x.free = fr := ⟨_, rfl⟩
      rw [hfr] at q0
      clear hfr
      cases fr
      · obtain ⟨s, en, L', ids', S', last', hR, hC⟩ := liveH_Make HL.out x.pages x.order HX.out.pages HX.out.order (by omega)
        have HR := Lib.hid (And.intro hR.last (hR.len.trans hids))
        have HC : Hid (∀ V, Bel wr V → Calls Try.prog 9 #[.pointer (some ⟨h, 0, none⟩), .int .i64 x.pages, .int .i64 x.order] V fun e V' => e = .returned (.tuple #[spV s, .int .i64 en]) ∧ LivePostH w (fun _ => False) wr h bi L' ids' S' last' V' ∧ V'.cell? ⟨b, o + i * 4 + 2, none⟩ = some (.int .i64 x.pages) ∧ V'.cell? ⟨b, o + i * 4 + 3, none⟩ = some (.int .i64 x.order)) := Lib.hid (fun V hV => (hC V hV).mono fun e V' ⟨h1, h2⟩ => ⟨h1, h2, HKC.out V' h2.1.bel⟩)
        clear hC hR
        simp only [spV] at HC
        go_wp2_with fail
        go_region_held3 (fun w' => w'.cell? ⟨b, o + i * 4 + 2, none⟩ = some (.int .i64 x.pages) ∧ w'.cell? ⟨b, o + i * 4 + 3, none⟩ = some (.int .i64 x.order))
          (first | exact hS7 | go_keep)
          (first | (go_at_call 9; (with_reducible refine (HC.out _ ?b1).mono ?_); (case b1 => repeat (first | exact Bel.refl _ | apply Bel.drew | apply Bel.alloc)); rintro e w7 ⟨rfl, hL7, hS7⟩))
        have HL7 := Lib.hid hL7.1
        go_wp2
        go_roundw
        case rel => exact ⟨i + 1, by omega, by go_num, Lib.hid ⟨_, _, _, _, HL7.out, by have := HR.out.1; omega, HR.out.2⟩⟩
        case measure => simp [intOf]; omega
      · have HF := Lib.hid (liveH_Free HL.out x.ids (by omega) HX.out.ok wr x.ia x.ic (Bel.refl _) (HX.out.rd.bel HL.out.bel))
        go_wp2_with fail
        refine HF.out.mono ?_
        rintro e w7 ⟨en, L', ids', S', hFR, rfl, hL7⟩
        have hids7 := hFR.len.trans hids
        have HL7 := Lib.hid hL7.1
        clear hL7 hFR
        go_wp2
        go_roundw
        case rel => exact ⟨i + 1, by omega, by go_num, Lib.hid ⟨_, _, _, _, HL7.out, by omega, hids7⟩⟩
        case measure => simp [intOf]; omega
    · obtain rfl : i = xs.length := by omega
      have HINV := Lib.hid HL.out.inv
      have HLEN : Hid (L.length ≤ 2048) := Lib.hid (by have h9 := HINV.out.canon; have := h9.len (q := 1024); omega)
      go_wp2_with fail
      refine (liveH_Runs HL.out _ (Bel.refl _)).mono ?_
      rintro e w2 ⟨v, rfl, hown, hB2⟩
      have HL2 := Lib.hid (HL.out.then_bel hB2)
      have hR2 : w2.ownsRow wr.heap.size 33 2 v L.length (cellsOf L) := hown
      obtain ⟨W0, hW0⟩ : ∃ W0, wr.heap.size = W0 := ⟨_, rfl⟩
      rw [hW0] at hR2
      have hsz2 : W0 ≤ w2.heap.size := by rw [← hW0]; exact hB2.size
      have HR2 := Lib.hid hR2
      clear hown hB2 hR2
      go_wp2_with fail
      refine (liveH_Spans HL2.out _ (Bel.refl _)).mono ?_
      rintro e w3 ⟨d, cd, zs, rfl, hz, hrz, hBz, hpz⟩
      have HL3 := Lib.hid (HL2.out.then_bel hBz)
      have HR3 := Lib.hid (own_bel HR2.out hBz)
      have HZ := Lib.hid (And.intro hz (SpansIn.of_row hrz))
      have hzl : zs.length ≤ 100 := by have := HINV.out.count; have := hz.1.length_eq; omega
      have hsz3 : W0 ≤ w3.heap.size := Nat.le_trans hsz2 hBz.size
      have HD : Hid (∀ p, d = some p → v.ownBlock ≠ some p.block ∧ p.block < w3.heap.size) := Lib.hid (fun p hp => ⟨fun hq => by have := (HR2.out.lt _ hq).2; have := (hpz p hp).1; omega, (hpz p hp).2⟩)
      have HW0 : Hid (w.heap.size ≤ W0) := Lib.hid (by rw [← hW0]; exact HL.out.bel.size)
      have hP : P ≤ 1024 := by have := HINV.out.hi; omega
      have hm := run_make_int P w3 (by omega)
      have HS0 : Hid (Blk7 (w3.alloc (.cells (ints (List.replicate P 0)).toArray 3)) w3.heap.size (metR P [])) := Lib.hid (by rw [metR_nil]; exact blk_alloc _ _)
      obtain ⟨cs, hcs⟩ : ∃ cs, (ints (List.replicate P 0)).toArray = cs := ⟨_, rfl⟩
      rw [hcs] at hm HS0
      have hsz := liveH_Size HL3.out _ (Bel.refl _)
      rw [hids] at hsz
      have HSZ := Lib.hid hsz
      have HROK : Hid (∀ r ∈ L ++ rnsOf zs, 0 ≤ r.1 ∧ 1 ≤ r.2 ∧ r.1 + r.2 ≤ P) := Lib.hid (by have := HINV.out.runs_ok HZ.out.1.1; rw [hids] at this; exact this)
      have HCNT : Hid (∀ p : Int, 0 ≤ p → p < P → cntR (L ++ rnsOf zs) p = 1) := Lib.hid (fun p h0 h1 => HINV.out.cnt HZ.out.1.1 h0 (by rw [hids]; exact h1))
      have HRL : Hid ((L ++ rnsOf zs).length ≤ 4096) := Lib.hid (by rw [List.length_append, rnsOf_length]; have := HLEN.out; omega)
      clear hsz hcs hz hrz hBz HL2 HR2 hpz
      go_wp2_with fail
      refine HSZ.out.mono ?_
      rintro e w9 ⟨rfl, rfl⟩
      go_wp2_with fail
      clear hm HSZ
      have HWAY : Hid (WholeWay w (w3.alloc (.cells cs 3)) W0 w3.heap.size P L zs d v 0) := Lib.hid
        ⟨by simpa using own_bel HR3.out ((Bel.refl _).alloc _), HZ.out.2.bel ((Bel.refl _).alloc _), HD.out, HS0.out, fun hq => by have := (HR3.out.lt _ hq).2; omega, HL3.out.bel.alloc _⟩
      have hG : w3.heap.size < (w3.alloc (.cells cs 3)).heap.size := by simp
      generalize w3.heap.size = G at HWAY hG hsz3 ⊢
      generalize w3.alloc (.cells cs 3) = w4 at HWAY hG ⊢
      clear HS0 HD HR3 HL3 HL
      go_loopw [8, 11] (fun u k wi => ∃ i : Nat, i ≤ zs.length ∧ k = .int .i64 i ∧ ∃ uv, uv = u ∧ Hid (WholeWay w wi W0 G P L zs d uv i)) (fun u k wi => zs.length - (intOf k).toNat)
      case atStart => exact ⟨0, Nat.zero_le _, rfl, _, rfl, HWAY⟩
      case round =>
        clear HWAY
        obtain ⟨i, hi2, rfl, uv, rfl, HX⟩ := hrel
        by_cases hlt2 : i < zs.length
        · obtain ⟨b, o, rfl, p0, p1, p2, p3⟩ := HX.out.sp.at i hlt2
          have HTK := Lib.hid (rnsOf_take hlt2)
          obtain ⟨x, hx⟩ : ∃ x, zs[i] = x := ⟨_, rfl⟩
          have HTK := HTK
          rw [hx] at p0 p1 p2 p3
          have HXE := Lib.hid hx
          obtain ⟨s1, ⟨s2, s3⟩, s4⟩ := x
          dsimp only at p0 p1 p2 p3
          clear hx
          obtain ⟨i0, hi0, hz0, hz1, hz2⟩ := info_parts info_run
          obtain ⟨nn, hnn⟩ : ∃ nn, (L ++ (rnsOf zs).take i).length = nn := ⟨_, rfl⟩
          have HOWN : Hid (wr.ownsRow W0 33 2 uv nn (cellsOf (L ++ (rnsOf zs).take i))) := Lib.hid (hnn ▸ HX.out.own)
          have HNN := Lib.hid hnn
          have hll : nn ≤ 4096 := by
           rw [← hnn]
           rw [List.length_append, List.length_take]; have := HLEN.out; omega
          clear hnn
          have hW0i : W0 ≤ wr.heap.size := by have := heap_lt HX.out.seen; omega
          go_wp2_with (at_builtin; refine wpList_append_lies _ rfl _ _ 38 rfl W0 33 i0 (.agg #[.int .i64 0, .int .i64 0]) 2 16 Try.underlying38 hi0 hz0 hz1 hz2 rfl (by decide) _ _ (cellsOf (L ++ (rnsOf zs).take i)) rfl (HOWN.out.alloc _) ⟨wr.heap.size, 0, none⟩ 1 1 [.int .i64 s2, .int .i64 s3] rfl ?d1 ?d2 ?d3 (by decide) ?d4 ?d5 ?d6 _ rfl ?_)
          case d1 => rfl
          case d2 => exact World.news_of_block (blk_alloc _ _)
          case d3 => simp [Value.oneCell']
          case d4 => unfold maxLen; omega
          case d5 => omega
          case d6 => first | omega | (simp; omega)
          intro g cap w5 hown5 hgrow hlies hg5
          have hf5 := fr_row hgrow
          have hsz5 : (wr.alloc (.cells #[.int .i64 s2, .int .i64 s3] 33)).heap.size = wr.heap.size + 1 := by simp
          have HN : Hid (WholeWay w w5 W0 G P L zs (some ⟨b, o, none⟩) (.slice (some ⟨g, 0, none⟩) (nn + 1) cap) (i + 1)) := Lib.hid (by
            have hGl := heap_lt HX.out.seen
            have et : (rnsOf zs).take (i + 1) = (rnsOf zs).take i ++ [(s2, s3)] := by rw [HTK.out, HXE.out]
            have ec : cellsOf (L ++ (rnsOf zs).take (i + 1)) = cellsOf (L ++ (rnsOf zs).take i) ++ [.int .i64 s2, .int .i64 s3] := by rw [et, ← List.append_assoc, cellsOf_append]; rfl
            have el : (L ++ (rnsOf zs).take (i + 1)).length = nn + 1 := by rw [← HNN.out, et]; simp; omega
            refine ⟨by rw [ec, el]; exact hown5, (HX.out.sp.bel ((Bel.refl _).alloc _)).fr hf5 (fun p hp => (HX.out.apart p hp).1), fun p hp => ⟨?_, (HX.out.apart p hp).2⟩, (HX.out.seen.bel ((Bel.refl _).alloc _)).fr hf5 HX.out.ne, ?_, bel_row (HX.out.bel.alloc _) hgrow (fun k hk => Nat.le_trans HW0.out (HX.out.own.lt k hk).1)⟩
            · rcases hlies with h9 | h9
              · intro h8; simp [Value.ownBlock] at h8; rw [h8] at h9; exact (HX.out.apart p hp).1 h9
              · intro h8; simp [Value.ownBlock] at h8; have := (HX.out.apart p hp).2; omega
            · rcases hlies with h9 | h9
              · intro h8; simp [Value.ownBlock] at h8; rw [h8] at h9; exact HX.out.ne h9
              · intro h8; simp [Value.ownBlock] at h8; omega)
          clear hown5 hgrow hlies hf5 HX HOWN p0 p1 p2 p3
          go_wp2
          go_roundw
          case rel => exact ⟨i + 1, by omega, by go_num, _, rfl, HN⟩
          case measure => simp [intOf]; omega
        · obtain rfl : i = zs.length := by omega
          have htl : (rnsOf zs).take zs.length = rnsOf zs := by rw [← rnsOf_length zs, List.take_length]
          obtain ⟨R, hR⟩ : ∃ R, L ++ rnsOf zs = R := ⟨_, rfl⟩
          have hown := HX.out.own
          rw [htl, hR] at hown
          have HROK := Lib.hid (hR ▸ HROK.out)
          have HCNT := Lib.hid (hR ▸ HCNT.out)
          have hrl : R.length ≤ 4096 := hR ▸ HRL.out
          have hne := HX.out.ne
          obtain ⟨ra, rc, rfl, hrr, _, _⟩ := own_slice2 hown
          have HNE : Hid (∀ p, ra = some p → p.block ≠ G) := Lib.hid (fun p hp => by
            subst hp
            intro hq
            apply hne
            simp [Value.ownBlock, hq])
          have HV : Hid (Blk7 wr G (metR P (R.take 0)) ∧ RunsIn wr ra R ∧ Bel w wr) := Lib.hid ⟨by simpa using HX.out.seen, RunsIn.of_row hrr, HX.out.bel⟩
          clear hown hrr HX hR HRL htl hne HINV HZ HLEN
          go_wp2_with fail
          go_loopw [12] (fun k wi => ∃ i : Nat, i ≤ R.length ∧ k = .int .i64 i ∧ Hid (Blk7 wi G (metR P (R.take i)) ∧ RunsIn wi ra R ∧ Bel w wi)) (fun k wi => R.length - (intOf k).toNat)
          case atStart => exact ⟨0, Nat.zero_le _, rfl, HV⟩
          case round =>
            clear HV
            obtain ⟨i, hi4, rfl, HX⟩ := hrel
            obtain ⟨wi, rfl⟩ : ∃ wi, wi = wr := ⟨_, rfl⟩
            by_cases hlt4 : i < R.length
            · obtain ⟨b, o, rfl, p0, p1⟩ := HX.out.2.1.at i hlt4
              have hk := HROK.out _ (List.getElem_mem hlt4)
              have htk : R.take (i + 1) = R.take i ++ [R[i]] := List.take_succ_eq_append_getElem hlt4
              obtain ⟨r, hr0⟩ : ∃ r, R[i] = r := ⟨_, rfl⟩
              rw [hr0] at p0 p1 hk htk
              have HTK := Lib.hid htk
              have HR0 := Lib.hid hr0
              obtain ⟨s, m⟩ := r
              dsimp only at p0 p1 hk
              obtain ⟨k0, k1, k2⟩ := hk
              obtain ⟨s, rfl⟩ := Int.eq_ofNat_of_zero_le k0
              obtain ⟨m, rfl⟩ := Int.eq_ofNat_of_zero_le (show 0 ≤ m by omega)
              have z1 : IntKind.i64.wrap ((s : Int) + m) = (s : Int) + m := IntWalk.i64_in _ (by omega)
              have d1 : decide ((m : Int) < 1) = false := decide_eq_false (by omega)
              have d2 : decide ((s : Int) < 0) = false := decide_eq_false (by omega)
              have d3 : decide ((P : Int) < (s : Int) + m) = false := decide_eq_false (by omega)
              have hl : (metR P (R.take i)).length = P := metR_length _ _
              clear htk hr0 hl
              go_wp2_with fail
              go_quiet (fail)
              have HV9 : Hid (Blk7 (wi.drewN nq) G (metR P (R.take i)) ∧ RunsIn (wi.drewN nq) (some ⟨b, o, none⟩) R ∧ Bel w (wi.drewN nq)) := Lib.hid ⟨HX.out.1.bel (Bel.drewN (Bel.refl _) nq), RunsIn.bel HX.out.2.1 (Bel.drewN (Bel.refl _) nq), HX.out.2.2.drewN nq⟩
              have p0 := Bel.cell (Bel.drewN (Bel.refl _) nq) p0
              have p1 := Bel.cell (Bel.drewN (Bel.refl _) nq) p1
              generalize wi.drewN nq = W9 at HV9 p0 p1 ⊢
              clear HX
              go_wp2_with fail
              go_loopw [13] (fun k wi => ∃ j : Nat, j ≤ m ∧ k = .int .i64 ((s : Int) + j) ∧ Hid (Blk7 wi G (metR P (R.take i ++ [((s : Int), (j : Int))])) ∧ RunsIn wi (some ⟨b, o, none⟩) R ∧ Bel w wi)) (fun k wi => s + m - (intOf k).toNat)
              case atStart => exact ⟨0, Nat.zero_le _, by simp, Lib.hid ⟨by rw [Int.natCast_zero, metR_zero]; exact HV9.out.1, HV9.out.2.1, HV9.out.2.2⟩⟩
              case round =>
                clear HV9
                obtain ⟨j, hj, rfl, HJ⟩ := hrel
                obtain ⟨wi, rfl⟩ : ∃ wi, wi = wr := ⟨_, rfl⟩
                obtain ⟨_, _, e9, q0, q1⟩ := HJ.out.2.1.at i hlt4
                cases e9
                rw [HR0.out] at q0 q1
                dsimp only at q0 q1
                have z1 : IntKind.i64.wrap ((s : Int) + m) = (s : Int) + m := IntWalk.i64_in _ (by omega)
                have z2 : (0 : Int) ≤ (s : Int) + j := by omega
                have z3 : (s : Int) + j ≤ P := by omega
                by_cases hlt5 : j < m
                · have z4 : (s : Int) + j < P := by omega
                  have z5 : ((s : Int) + j).toNat = s + j := by omega
                  have z6 : (s : Int) + j < (s : Int) + m := by omega
                  have hml : (metR P (R.take i ++ [((s : Int), (j : Int))])).length = P := metR_length _ _
                  have hB5 : Blk7 wi.drew G (metR P (R.take i ++ [((s : Int), (j : Int))])) := HJ.out.1.bel (Bel.refl _).drew
                  have hcell := hB5.cell (t := s + j) (by rw [hml]; omega)
                  have hfz := blk_frozen hB5 (s + j)
                  have ec : ((s + j : Nat) : Int) = (s : Int) + j := by omega
                  obtain ⟨c, hc⟩ : ∃ c, wd (metR P (R.take i ++ [((s : Int), (j : Int))])) ((s : Int) + j) = c := ⟨_, rfl⟩
                  have hcb : 0 ≤ c ∧ c ≤ 5000 := by
                    rw [← hc, wd_metR z2 z4]
                    have := cntR_le (R.take i ++ [((s : Int), (j : Int))]) ((s : Int) + j)
                    rw [List.length_append, List.length_take] at this
                    simp at this
                    omega
                  have hset := hB5.set (s + j) (c + 1)
                  have hst := metR_step (n := P) (R := R.take i) (s := (s : Int)) (j := (j : Int)) (by omega) (by omega) z4
                  rw [hc] at hst
                  rw [ec, hc] at hcell
                  rw [ec, hst] at hset
                  have HSET := Lib.hid hset
                  have HB9 : Hid (Bel w (wi.drew.setCell ⟨G, s + j, none⟩ (.int .i64 (c + 1)))) := Lib.hid (Below.setCell HJ.out.2.2.drew (Nat.le_trans HW0.out hsz3) _)
                  have HR9 : Hid (RunsIn (wi.drew.setCell ⟨G, s + j, none⟩ (.int .i64 (c + 1))) (some ⟨b, o, none⟩) R) := Lib.hid ((HJ.out.2.1.bel (Bel.refl _).drew).fr (Fr.setCell (S := fun k => k = G) (Fr.refl _ _) (.inl rfl) _) (fun p hp => HNE.out p hp))
                  have z7 : IntKind.i64.wrap (c + 1) = c + 1 := IntWalk.i64_in _ (by omega)
                  clear hB5 hset hml ec hst hc
                  go_wp2_with fail
                  go_region
                  go_wp2
                  go_roundw
                  case rel => exact ⟨j + 1, by omega, by go_num, Lib.hid ⟨by rw [show ((j + 1 : Nat) : Int) = (j : Int) + 1 by omega]; exact HSET.out, HR9.out, HB9.out⟩⟩
                  case measure => simp [intOf]; omega
                · obtain rfl : j = m := by omega
                  have z6 : ¬ (s : Int) + j < (s : Int) + j := by omega
                  go_wp2_with fail
                  go_region
                  go_wp2
                  go_roundw
                  case rel => exact ⟨i + 1, by omega, by go_num, Lib.hid ⟨by rw [HTK.out]; exact HJ.out.1.bel (Bel.refl _).drew, RunsIn.bel HJ.out.2.1 (Bel.refl _).drew, HJ.out.2.2.drew⟩⟩
                  case measure => simp [intOf]; omega
            · obtain rfl : i = R.length := by omega
              have hml : (metR P R).length = P := metR_length _ _
              have HV : Hid (Blk7 wi G (metR P R) ∧ Bel w wi) := Lib.hid ⟨by have := HX.out.1; rwa [List.take_length] at this, HX.out.2.2⟩
              clear HX
              go_wp2_with fail
              go_loopw [14] (fun k wv => ∃ q : Nat, q ≤ P ∧ k = .int .i64 q ∧ wv = wi) (fun k wv => P - (intOf k).toNat)
              case atStart => exact ⟨0, Nat.zero_le _, rfl, rfl⟩
              case round =>
                obtain ⟨q, hq, rfl, rfl⟩ := hrel
                by_cases hlt5 : q < P
                · have hcell := HV.out.1.cell (t := q) (by rw [hml]; omega)
                  have hla := HCNT.out (q : Int) (by omega) (by omega)
                  rw [wd_metR (by omega) (by omega), hla] at hcell
                  clear hla
                  go_wp2
                  go_roundw
                  case rel => exact ⟨q + 1, by omega, by go_num, by first | rfl | trivial⟩
                  case measure => simp [intOf]; omega
                · obtain rfl : q = P := by omega
                  go_wp2_with fail
                  refine (awake07 _).mono ?_; rintro e w' ⟨rfl, hB9⟩
                  go_wp2
                  go_ret
                  exact ⟨rfl, HV.out.2.trans hB9⟩
end Go.Proofs.Ythkbhikiljlgoaa

namespace Go.Proofs.Ythkbhikiljlgoaa.heapWhole
open Go.ChangeShapes Go.WideShapes Go.ChangeAt Go.RowKit
set_option linter.unusedVariables false

set_option maxRecDepth 100000 in
theorem lifted (os : Os) (started : os.Started) (H : Type) (enc : TypeId × Value → H) :
    ReturnsInHanded {} Try.checked os 3 .any (Rows.heapWholeSpec.pre6 enc Try.prog Try.f3 Rows.heapWholeRow.domain false) (Rows.heapWholeSpec.post enc Try.prog Try.f3 false true false false) := by
  refine returnsInHanded_of_change (C := Try.checked) lk_own started (by kernel_rfl) Try.func3
    (ChangeSpec.witness6 (enc := enc) (C := Try.checked) false ⟨#[], #[.int .i64 0, .slice none 0 0], []⟩ 8 (by kernel_rfl) (by kernel_rfl) (by kernel_rfl) (by kernel_rfl)) ?_
  intro W base args ds gs before hval0 hW hcnd _
  have hval : ∀ (j : Nat) t v, Try.f3.params[j]? = some t → args[j]? = some v → Value.okWide Try.prog W .any base t v := hval0
  have hW' := hW
  obtain ⟨p, q, hA0, hV, rfl, hfz, hnd⟩ := hW
  have hA : DataW.TrodAll enc Try.prog W 0 (fun _ => true) true Try.f3.params.toList args.toList ds p := hA0
  rw [Try.params3] at hA hval
  obtain ⟨v0, vs0, d0, ds0, p0, q0, hargs, rfl, rfl, h0, r_0⟩ := trodAll_cons hA
  obtain ⟨v1, vs1, d1, ds1, p1, q1, rfl, rfl, rfl, h1, r_1⟩ := trodAll_cons r_0
  obtain ⟨rfl, rfl, rfl⟩ := trodAll_nil r_1
  obtain rfl : args = #[v0, v1] := by cases args; simp_all
  obtain ⟨rfl, rfl⟩ := trodVars_none hV
  obtain ⟨a0, rfl, rfl, rfl, w0⟩ := open_int Try.underlying3 (hval 0 3 v0 rfl rfl) h0
  obtain ⟨s1, l1, c1, rfl⟩ := okWide_slice Try.underlying22 (hval 1 22 v1 rfl rfl)
  have k1 := h1
  have lt1 : ∀ x ∈ p1, x.block < W.heap.size := by obtain ⟨m, hm⟩ := k1; exact DataW.trod_lt m _ _ _ hm
  obtain ⟨x1, r1⟩ := arg_acts07 h1
  clear hA0 hval0
  refine (heapWhole_walk a0 s1 x1 l1 c1 W (i64_of_wf w0) r1).mono fun e W' ⟨he, bel⟩ => ?_
  subst he
  exact ⟨_, rfl, _, _, _, [], _, [], hW', trodAll_mk1 (shut_bool Try.underlying4 _), (trodAll_cons_mk (shut_int Try.underlying3 w0) (trodAll_cons_mk (Below.trod lk_laid (by kernel_rfl) (of_decide_eq_true (by kernel_rfl)) k1 bel lt1) trodAll_mk0)), rfl, Below.frame bel _, fun h => by cases h⟩

theorem over : Rows.heapWholeRow.holds Try.pinned (OpenSpec.ofChange Rows.heapWholeSpec) :=
  OpenClaim.holds_of_wide 3 Try.f3 rfl rfl rfl rfl rfl rfl rfl ⟨rfl, rfl, rfl, rfl, rfl⟩ rfl rfl rfl rfl rfl (by kernel_rfl) Try.func3 (by kernel_rfl)
    (of_decide_eq_true (by kernel_rfl)) (by unfold Func.isWrapper; first | (rw [if_pos (by decide +kernel)]; kernel_rfl) | (rw [if_neg (by decide +kernel)]; exact ⟨rfl, rfl⟩))
    (fun os started H enc _ => lifted os started H enc)

theorem proved : Rows.HeapWholeSaid := over
#print axioms proved
end Go.Proofs.Ythkbhikiljlgoaa.heapWhole

/- Package runs: Add, New. -/
import Derived.Test.YthkbhikiljlgoaaWRuns5
namespace Go.Proofs.Ythkbhikiljlgoaa
open Go.RowKit

open Classical in
/-- What Add answers: the runs, the error. -/
noncomputable def addR (L l : List Rn) : List Rn × Int :=
  if ¬ AllThere 1024 l then (L, 2) else if l = [] then (L, 0) else if (L ++ l).Pairwise Apart then (addF L l, 0) else (L, 9)
theorem addR_out {L l : List Rn} (h : ¬ AllThere 1024 l) : addR L l = (L, 2) := by unfold addR; rw [if_pos h]
theorem addR_none {L : List Rn} : addR L [] = (L, 0) := by unfold addR; rw [if_neg (by intro h; exact h (fun r hr => by simp at hr)), if_pos rfl]
theorem addR_ok {L l : List Rn} (h : AllThere 1024 l) (h0 : l ≠ []) (h1 : (L ++ l).Pairwise Apart) : addR L l = (addF L l, 0) := by unfold addR; rw [if_neg (by simpa using h), if_neg h0, if_pos h1]
theorem addR_bad {L l : List Rn} (h : AllThere 1024 l) (h0 : l ≠ []) (h1 : ¬ (L ++ l).Pairwise Apart) : addR L l = (L, 9) := by unfold addR; rw [if_neg (by simpa using h), if_neg h0, if_neg h1]
/-- What an act on free runs leaves. -/
def RPost (w : World) (b : Nat) (v : Value) (L' : List Rn) (w' : World) : Prop := ∃ v', FreeAt w' b v' L' ∧ (∀ k, v'.ownBlock = some k → v.ownBlock = some k ∨ w.heap.size ≤ k) ∧ Fr (footR b v) w w'
theorem RPost.same {w w' : World} {b : Nat} {v : Value} {L : List Rn} (h : FreeAt w b v L) (k : Bel w w') : RPost w b v L w' := ⟨v, h.bel k, fun _ h => .inl h, Fr.of_bel k⟩

open Classical in
set_option maxHeartbeats 1000000 in
set_option maxRecDepth 20000 in
theorem runs_Add (b : Nat) (v : Value) (L : List Rn) (a : Option Addr) (l : List Rn) (n c : Nat) (w : World) (h : FreeAt w b v L) (hn : n = l.length) (hl : l.length ≤ 1024) (hr : RunsIn w a l) (hok : ∀ x ∈ l, I64 x.1 ∧ I64 x.2) :
    Calls Try.prog 21 #[.pointer (some ⟨b, 0, none⟩), .slice a n c] w fun e w' => e = .returned (.int .i64 (addR L l).2) ∧ RPost w b v (addR L l).1 w' := by
  subst hn
  have HM := Lib.hid (runs_may a l l.length c w rfl (by omega) hr hok)
  have HF := Lib.hid h
  have HR := Lib.hid hr
  have hLl : L.length ≤ 1024 := h.canon.len (q := 1024)
  clear h hr hok
  by_cases c1 : AllThere 1024 l
  · rw [decide_eq_true c1] at HM
    by_cases c2 : l = []
    · subst c2
      rw [addR_none]
      go_enter Try.func21, Try.ntmps21
      go_wp2_with fail
      refine HM.out.mono ?_
      rintro e w1 ⟨rfl, hB⟩
      have HB := Lib.hid hB
      clear hB
      go_wp2
      go_ret
      exact ⟨rfl, RPost.same HF.out HB.out⟩
    · have hpos : 0 < l.length := List.length_pos_iff.2 c2
      obtain ⟨ga, oa, rfl, _, _⟩ := HR.out.at 0 hpos
      obtain ⟨aL, cL, rfl, hrL⟩ := HF.out.runs
      have hnL : aL = none → L = [] ∧ cL = 0 := by
        intro e
        subst e
        rcases HF.out.own.2 with ⟨h1, h2⟩ | ⟨g, cap, cur, h1, _⟩
        · simp at h1; exact ⟨h1.1, h1.2⟩
        · simp at h1
      have HNL := Lib.hid hnL
      have HRL := Lib.hid hrL
      have c3 : (l.length == 0) = false := by simp; omega
      have c4 : ((l.length : Int) == 0) = false := by simp; omega
      clear hnL hrL
      go_enter Try.func21, Try.ntmps21
      go_wp2_with fail
      refine HM.out.mono ?_
      rintro e w1 ⟨rfl, hB⟩
      have hc1 := (HF.out.bel hB).hd
      have hc : w1.cell? ⟨b, 0, none⟩ = some (.slice aL L.length cL) := by rw [blk_cell hc1]; rfl
      have HB := Lib.hid hB
      have hbl := heap_lt hc1
      clear hB hc1
      have g2 := blk_alloc w1 (.cells #[.slice aL L.length cL, .slice (some ⟨ga, oa, none⟩) l.length c] 38)
      have HCC := Lib.hid (concat_runs w1.heap.size aL (some ⟨ga, oa, none⟩) L l cL c (w1.alloc (.cells #[.slice aL L.length cL, .slice (some ⟨ga, oa, none⟩) l.length c] 38)) ⟨blk_cell g2 0, blk_cell g2 1, HRL.out.bel (HB.out.alloc _), HR.out.bel (HB.out.alloc _), HNL.out, by rintro ⟨⟩⟩ hLl hl)
      clear g2
      go_wp2_with fail
      refine HCC.out.mono ?_
      rintro e w2 ⟨v2, rfl, hown2, hB2⟩
      have hLl0 : 0 < (L ++ l).length := by rw [List.length_append]; omega
      obtain ⟨g, cap, rfl, hgb, hglt⟩ : ∃ g cap, v2 = .slice (some ⟨g, 0, none⟩) (L ++ l).length cap ∧ (w1.alloc (.cells #[.slice aL L.length cL, .slice (some ⟨ga, oa, none⟩) l.length c] 38)).heap.size ≤ g ∧ g < w2.heap.size := by
        rcases hown2.2 with ⟨h1, h2⟩ | ⟨g, cap, cur, h1, h2, h3, _⟩
        · exact absurd h2 (by omega)
        · exact ⟨g, cap, h1, h2, heap_lt h3⟩
      rw [World.size_alloc] at hgb
      have hj := runs_joined g cap L l w2 HF.out.canon c1 hl c2 _ hown2
      rw [List.length_append] at hj
      have HJ := Lib.hid hj
      clear hj
      have HB2 := Lib.hid ((HB.out.alloc (.cells #[.slice aL L.length cL, .slice (some ⟨ga, oa, none⟩) l.length c] 38)).trans hB2)
      have hs2 := HB.out.size
      have hbw := heap_lt HF.out.hd
      have hs3 := HB2.out.size
      clear hown2 hB2 HCC hc
      go_wp2_with fail
      refine HJ.out.mono ?_
      rintro e w3 ⟨⟨hap, v3, rfl, hown3⟩ | ⟨hno, rfl⟩, hF3⟩
      · obtain ⟨a3, c3', rfl, _⟩ := own_slice hown3
        have hB3 : Bel w w3 := Fr.bel ((Fr.of_bel (S := fun k => k = g) HB2.out).trans' hF3) (fun k e => by omega)
        have hg3 := (HF.out.bel hB3).hd
        have hc3 : w3.cell? ⟨b, 0, none⟩ = some (.slice aL L.length cL) := by rw [blk_cell hg3]; rfl
        have hf3 := blk_frozen hg3 0
        have hv3 : ∀ k, (Value.slice a3 (addF L l).length c3').ownBlock = some k → w2.heap.size ≤ k := fun k hk => by
          rcases hown3.2 with ⟨h1, _⟩ | ⟨g', cap', cur, h1, h2, _⟩
          · rw [h1] at hk; simp [Value.ownBlock] at hk
          · rw [h1] at hk; simp [Value.ownBlock] at hk; omega
        have HEND : Hid (RPost w b (.slice aL L.length cL) (addF L l) (w3.setCell ⟨b, 0, none⟩ (.slice a3 (addF L l).length c3'))) := Lib.hid ⟨.slice a3 (addF L l).length c3', ⟨by
            have := blk_setCell hg3 0 (.slice a3 (addF L l).length c3')
            simpa using this, own_base (own_fr hown3 (Fr.setCell (S := fun k => k = b) (Fr.refl _ _) (.inl rfl) _) (fun k _ hk => by have := hv3 k hk; omega)) (Nat.zero_le _), addF_canon _ _⟩, fun k hk => .inr (by have := hv3 k hk; omega), (Fr.of_bel hB3).setCell (.inl (.inl rfl)) _⟩
        have hA := addR_ok (L := L) c1 c2 hap
        have HA := Lib.hid hA
        clear hown3 hF3 hB3 hg3 hv3 hap hA
        go_wp2
        go_ret
        exact ⟨by rw [HA.out]; rfl, by rw [HA.out]; exact HEND.out⟩
      · have hB3 : Bel w w3 := Fr.bel ((Fr.of_bel (S := fun k => k = g) HB2.out).trans' hF3) (fun k e => by omega)
        have HA := Lib.hid (addR_bad c1 c2 hno)
        have HB3 := Lib.hid hB3
        clear hF3 hB3 hno
        go_wp2
        go_ret
        exact ⟨by rw [HA.out]; rfl, by rw [HA.out]; exact RPost.same HF.out HB3.out⟩
  · rw [addR_out c1]
    rw [decide_eq_false c1] at HM
    go_enter Try.func21, Try.ntmps21
    go_wp2_with fail
    refine HM.out.mono ?_
    rintro e w1 ⟨rfl, hB⟩
    have HB := Lib.hid hB
    clear hB
    go_wp2
    go_ret
    exact ⟨rfl, RPost.same HF.out HB.out⟩
open Classical in
/-- What Add answers at nil. -/
noncomputable def nilR (l : List Rn) : Int := if ¬ AllThere 1024 l then 2 else if l = [] then 0 else 9
open Classical in
set_option maxRecDepth 20000 in
theorem runs_Add_nil (a : Option Addr) (l : List Rn) (n c : Nat) (w : World) (hn : n = l.length) (hl : l.length ≤ 1024) (hr : RunsIn w a l) (hok : ∀ x ∈ l, I64 x.1 ∧ I64 x.2) :
    Calls Try.prog 21 #[.pointer none, .slice a n c] w fun e w' => e = .returned (.int .i64 (nilR l)) ∧ Bel w w' := by
  subst hn
  have HM := Lib.hid (runs_may a l l.length c w rfl (by omega) hr hok)
  clear hr hok
  by_cases c1 : AllThere 1024 l
  · rw [decide_eq_true c1] at HM
    by_cases c2 : l = []
    · subst c2
      have HE : Hid (nilR [] = 0) := Lib.hid (by unfold nilR; rw [if_neg (by simpa using c1), if_pos rfl])
      go_enter Try.func21, Try.ntmps21
      go_wp2_with fail
      refine HM.out.mono ?_
      rintro e w1 ⟨rfl, hB⟩
      have HB := Lib.hid hB
      clear hB
      go_wp2
      go_ret
      exact ⟨by rw [HE.out]; rfl, HB.out⟩
    · have hpos : 0 < l.length := List.length_pos_iff.2 c2
      have c4 : ((l.length : Int) == 0) = false := by simp; omega
      have HE : Hid (nilR l = 9) := Lib.hid (by unfold nilR; rw [if_neg (by simpa using c1), if_neg c2])
      clear c1 c2
      go_enter Try.func21, Try.ntmps21
      go_wp2_with fail
      refine HM.out.mono ?_
      rintro e w1 ⟨rfl, hB⟩
      have HB := Lib.hid hB
      clear hB
      go_wp2
      go_ret
      exact ⟨by rw [HE.out]; rfl, HB.out⟩
  · rw [decide_eq_false c1] at HM
    have HE : Hid (nilR l = 2) := Lib.hid (by unfold nilR; rw [if_pos c1])
    clear c1
    go_enter Try.func21, Try.ntmps21
    go_wp2_with fail
    refine HM.out.mono ?_
    rintro e w1 ⟨rfl, hB⟩
    have HB := Lib.hid hB
    clear hB
    go_wp2
    go_ret
    exact ⟨by rw [HE.out]; rfl, HB.out⟩
/-- What New answers. -/
def NewR (w : World) (l : List Rn) (e : Ending) (w' : World) : Prop :=
  ∃ p, e = .returned (.tuple #[p, .int .i64 (addR [] l).2]) ∧ Bel w w' ∧
    (((addR [] l).2 ≠ 0 ∧ p = .pointer none) ∨ ((addR [] l).2 = 0 ∧ ∃ v, p = .pointer (some ⟨w.heap.size, 0, none⟩) ∧ FreeAt w' w.heap.size v (addR [] l).1 ∧ ∀ k, v.ownBlock = some k → w.heap.size ≤ k))
set_option maxRecDepth 20000 in
theorem runs_New (a : Option Addr) (l : List Rn) (n c : Nat) (w : World) (hn : n = l.length) (hl : l.length ≤ 1024) (hr : RunsIn w a l) (hok : ∀ x ∈ l, I64 x.1 ∧ I64 x.2) :
    Calls Try.prog 15 #[.slice a n c] w (NewR w l) := by
  subst hn
  have hF : FreeAt (w.alloc (.cells #[.slice none 0 0] 72)) w.heap.size (.slice none 0 0) [] := ⟨blk_alloc _ _, World.ownsRow_nil _ _ _ _, Canon.nil _⟩
  have HA := Lib.hid (runs_Add w.heap.size (.slice none 0 0) [] a l l.length c _ hF rfl hl (hr.bel ((Bel.refl _).alloc _)) hok)
  clear hr hok hF
  obtain ⟨r, hR⟩ : ∃ r, addR [] l = r := ⟨_, rfl⟩
  have HR := Lib.hid hR
  rw [hR] at HA
  obtain ⟨M, k⟩ := r
  clear hR
  dsimp only at HA
  go_enter Try.func15, Try.ntmps15
  go_wp2_with fail
  refine HA.out.mono ?_
  rintro e w1 ⟨rfl, v, hF, hv, hFr⟩
  have hB : Bel w w1 := Fr.bel ((Fr.of_bel (S := footR w.heap.size (.slice none 0 0)) ((Bel.refl w).alloc _)).trans' hFr) (fun k hk => by
    rcases hk with rfl | hk
    · exact Nat.le_refl _
    · simp [Value.ownBlock] at hk)
  have HB := Lib.hid hB
  have HF := Lib.hid hF
  have HV : Hid (∀ k, v.ownBlock = some k → w.heap.size ≤ k) := Lib.hid (fun k hk => by
    rcases hv k hk with h | h
    · simp [Value.ownBlock] at h
    · rw [World.size_alloc] at h; omega)
  clear hB hF hv hFr
  by_cases c1 : k = 0
  · subst c1
    go_wp2
    go_ret2
    exact ⟨_, by rw [HR.out]; rfl, HB.out, .inr ⟨by rw [HR.out], v, rfl, by rw [HR.out]; exact HF.out, HV.out⟩⟩
  · have c2 : (k != 0) = true := by simpa using c1
    go_wp2
    go_ret2
    exact ⟨_, by rw [HR.out]; rfl, HB.out, .inl ⟨by rw [HR.out]; exact c1, rfl⟩⟩
end Go.Proofs.Ythkbhikiljlgoaa

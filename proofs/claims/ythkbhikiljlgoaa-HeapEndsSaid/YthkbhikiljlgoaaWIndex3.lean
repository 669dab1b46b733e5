/- Package index: the parts of runs. -/
import Derived.Test.YthkbhikiljlgoaaWIndex2
namespace Go.Proofs.Ythkbhikiljlgoaa
open Go.RowKit

theorem info_ints : (Try.prog.info? 28).map (fun i => (i.zero, i.size, i.bytes)) = some (some (.slice none 0 0), 1, 24) := by kernel_rfl
/-- A run's part: a slice of the numbers. -/
def partV (bi N : Nat) (r : Rn) : Value := .slice (some ⟨bi, r.1.toNat, none⟩) r.2.toNat (N - r.1.toNat)
/-- The parts of runs, in a row of one's own. -/
def Parts (w : World) (bi N : Nat) (rs : List Rn) (v : Value) (w' : World) : Prop := w'.ownsRow w.heap.size 28 1 v rs.length (rs.map (partV bi N)) ∧ Bel w w'

/-- What the parts of runs come to: all of them, or it is thrown. -/
def AllGot (w : World) (p : Value) (ids : List Int) (rs : List Rn) (e : Ending) (w' : World) : Prop :=
  (AllThere ids.length rs ∧ ∃ v bi, e = .returned v ∧ Parts w bi ids.length rs v w' ∧ ((p = .pointer none ∧ ids = []) ∨ ∃ bx, p = .pointer (some ⟨bx, 0, none⟩) ∧ IndexAt w bx bi ids)) ∨
  (¬ AllThere ids.length rs ∧ e = .panicked [{ v := wrongV 2, recovered := false }] ∧ Bel w w')
set_option maxHeartbeats 1000000 in
set_option maxRecDepth 20000 in
theorem index_all (p : Value) (ids : List Int) (a : Option Addr) (rs : List Rn) (n c : Nat) (w : World) (hP : IndexP w p ids) (hn : n = rs.length) (hl : rs.length ≤ 65536) (hr : RunsIn w a rs) (hi64 : ∀ r ∈ rs, I64 r.1 ∧ I64 r.2) :
    Calls Try.prog 31 #[p, .slice a n c] w (AllGot w p ids rs) := by
  subst hn
  obtain ⟨bi, hbi⟩ : ∃ bi, (p = .pointer none ∧ ids = []) ∨ ∃ bx, p = .pointer (some ⟨bx, 0, none⟩) ∧ IndexAt w bx bi ids := by
    rcases hP with h | ⟨bx, bi, e, h⟩
    · exact ⟨0, .inl h⟩
    · exact ⟨bi, .inr ⟨bx, e, h⟩⟩
  obtain ⟨i0, hi0, hz, hs, hby⟩ := info_parts info_ints
  have HR := Lib.hid hr
  have HBI := Lib.hid hbi
  have HI := Lib.hid hi64
  have HP := Lib.hid hP
  clear hr hbi hi64 hP
  go_enter Try.func31, Try.ntmps31
  go_wp2_with fail
  go_loopw [5, 10] (fun v k wr => ∃ i : Nat, i ≤ rs.length ∧ k = .int .i64 i ∧ Parts w bi ids.length (rs.take i) v wr ∧ Hid (∀ j (h : j < i) (h' : j < rs.length), there ids.length rs[j] = true)) (fun v k wr => rs.length - (intOf k).toNat)
  case atStart => exact ⟨0, Nat.zero_le _, rfl, ⟨World.ownsRow_nil _ _ _ _, Bel.refl _⟩, Lib.hid (fun j h => by omega)⟩
  case round =>
    obtain ⟨i, hi, rfl, ⟨hown, hB⟩, H0⟩ := hrel
    have hB9 := hB.size
    obtain ⟨av, cv, rfl, _⟩ := own_slice hown
    have hti : (rs.take i).length = i := by simp; omega
    rw [hti] at hown ⊢
    by_cases hlt : i < rs.length
    · obtain ⟨b, o, rfl, q0, q1⟩ := (HR.out.bel hB).at i hlt
      have hri := HI.out rs[i] (List.getElem_mem _)
      have HB := Lib.hid hB
      have HOW := Lib.hid hown
      by_cases hth : there ids.length rs[i] = true
      · have hst : (rs.take (i + 1)).map (partV bi ids.length) = (rs.take i).map (partV bi ids.length) ++ [partV bi ids.length rs[i]] := by rw [List.take_succ_eq_append_getElem hlt, List.map_append]; rfl
        have hH1 : Hid (∀ j (h : j < i + 1) (h' : j < rs.length), there ids.length rs[j] = true) := Lib.hid (fun j h h' => by
          rcases Nat.lt_or_ge j i with h9 | h9
          · exact H0.out j h9 h'
          · obtain rfl : j = i := by omega
            exact hth)
        obtain ⟨bx, hpe, hIx⟩ : ∃ bx, p = .pointer (some ⟨bx, 0, none⟩) ∧ IndexAt w bx bi ids := by
          rcases HBI.out with ⟨_, h⟩ | h
          · rw [h] at hth
            have := there_iff.1 hth
            simp at this; omega
          · exact h
        subst hpe
        have hC := index_part_ok bx bi ids rs[i] (wr.alloc (.cells #[.int .i64 rs[i].1, .int .i64 rs[i].2] 33)) ((hIx.bel hB).bel ((Bel.refl _).alloc _)) hth
        generalize rs[i] = r at q0 q1 hst hC
        obtain ⟨s, m⟩ := r
        dsimp only at q0 q1 hC
        have HC := Lib.hid hC
        have HST := Lib.hid hst
        clear hC hst hown hB hIx hth hri
        go_wp2_with fail
        refine HC.out.mono ?_
        rintro e w2 ⟨rfl, hB2⟩
        have hown2 := own_bel HOW.out (((Bel.refl wr).alloc (.cells #[.int .i64 s, .int .i64 m] 33)).trans hB2)
        have hB3 := Lib.hid ((HB.out.alloc (.cells #[.int .i64 s, .int .i64 m] 33)).trans hB2)
        have hs3 := hB3.out.size
        have hst2 : (rs.take (i + 1)).map (partV bi ids.length) = (rs.take i).map (partV bi ids.length) ++ [.slice (some ⟨bi, s.toNat, none⟩) m.toNat (ids.length - s.toNat)] := HST.out
        have HST2 := Lib.hid hst2
        have HOW2 := Lib.hid hown2
        clear hst2 hown2 hB2 q0 q1
        go_wp2_with (at_builtin; refine wpList_append_own _ rfl _ _ 77 rfl w.heap.size 28 i0 (.slice none 0 0) 1 24 Try.underlying77 hi0 hz hs hby rfl (by decide) _ _ _ rfl (HOW2.out.alloc _) ⟨w2.heap.size, 0, none⟩ 1 1 [.slice (some ⟨bi, s.toNat, none⟩) m.toNat (ids.length - s.toNat)] rfl rfl ?d2 ?d3 ?d4 ?d5 ?d6 ?_)
        try (case d2 => exact cell_one_new _ _ _)
        case d3 => simp [Value.oneCell']
        case d4 => unfold maxLen; omega
        case d5 => omega
        case d6 => first | omega | (simp; omega)
        intro v' w4 hown4 hgrow hnil
        have hB4 : Bel w w4 := bel_app HOW2.out hB3.out hgrow
        have HN : Hid (Parts w bi ids.length (rs.take (i + 1)) v' w4) := Lib.hid ⟨by
          have hl9 : (rs.take (i + 1)).length = i + 1 := by simp; omega
          rw [hl9, HST2.out]
          rw [← List.map_take] at hown4
          exact hown4, hB4⟩
        clear hown4 hgrow hnil hB4
        go_wp2
        go_roundw
        case rel => exact ⟨i + 1, by omega, by go_num, HN.out, hH1⟩
        case measure => simp [intOf]; omega
      · have HNA : Hid (¬ AllThere ids.length rs) := Lib.hid (fun h => hth (h _ (List.getElem_mem _)))
        have hC := index_part_out p ids rs[i] (wr.alloc (.cells #[.int .i64 rs[i].1, .int .i64 rs[i].2] 33)) ((HP.out.bel hB).bel ((Bel.refl _).alloc _)) hri.1 hri.2 (by simpa using hth)
        generalize rs[i] = r at q0 q1 hC
        obtain ⟨s, m⟩ := r
        dsimp only at q0 q1 hC
        have HC := Lib.hid hC
        clear hC hown hB hth hri
        go_wp2_with fail
        refine HC.out.mono ?_
        rintro e w2 ⟨rfl, hB2⟩
        go_wp2
        exact ⟨rfl, .inr ⟨HNA.out, rfl, (HB.out.alloc _).trans hB2⟩⟩
    · obtain rfl : i = rs.length := by omega
      rw [List.take_length] at hown
      go_wp2
      go_ret
      exact .inl ⟨fun r hr => by obtain ⟨j, hj, rfl⟩ := List.getElem_of_mem hr; exact H0.out j (by omega) hj, _, bi, rfl, ⟨hown, hB⟩, HBI.out⟩
end Go.Proofs.Ythkbhikiljlgoaa

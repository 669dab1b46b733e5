/- Package heap: Free. -/
import Derived.Test.YthkbhikiljlgoaaWHeap3
namespace Go.Proofs.Ythkbhikiljlgoaa
open Go.RowKit Go.Maps

theorem run_makeMet7 (W : World) : (Instr.makeMap 56 none).run Try.prog W = .ok (.map (some W.heap.size)) (W.alloc (.map #[] 0)) := by kernel_rfl
/-- Under way: what has been met. -/
structure FreeWay (w wr : World) (S : List Sp) (l : List Int) (i : Nat) (rv : Value) (xs : List Int) : Prop where
  bel : Bel w wr
  box : wr.heap[w.heap.size + 1]? = some (.cells #[.map (some w.heap.size)] 56 (0, 0))
  met : MetAt wr w.heap.size xs
  mem : ∀ k, k ∈ xs ↔ k ∈ l.take i
  len : xs.length ≤ i
  some : ∀ k ∈ l.take i, (getS S k).isSome = true
  nd : (l.take i).Nodup
  own : wr.ownsRow w.heap.size 33 2 rv (runsOf S (l.take i)).length (cellsOf (runsOf S (l.take i)))
def FreeOk (S : List Sp) (l : List Int) : Prop := (∀ k ∈ l, (getS S k).isSome = true) ∧ l.Nodup
theorem runsOf_length (S : List Sp) (l : List Int) : (runsOf S l).length = l.length := by simp [runsOf]
theorem free_not {S : List Sp} {l : List Int} {i : Nat} (hi : i < l.length) (h : getS S l[i] = none ∨ l[i] ∈ l.take i) : ¬ FreeOk S l := by
  rintro ⟨h1, h2⟩
  rcases h with h | h
  · have := h1 _ (List.getElem_mem hi)
    rw [h] at this; cases this
  · have h3 : l.take (i + 1) = l.take i ++ [l[i]] := List.take_succ_eq_append_getElem hi
    have h4 := h2.sublist (List.take_sublist (i + 1) l)
    rw [h3, List.nodup_append] at h4
    exact h4.2.2 _ h _ (by simp) rfl
/-- What Free leaves at its end. -/
theorem heap_freed {w w1 w2 w3 : World} {h rb : Nat} {v : Value} {bx bi bm : Nat} {L L' : List Rn} {ids ids' : List Int} {S : List Sp} {last : Nat} {l xs : List Int} (H : HeapAt w h rb v bx bi bm L ids S last) (hf : Freed ids L S last l L' ids') (hx : ∀ k, k ∈ xs ↔ k ∈ l)
    (h1 : w.grownBy w1 (some bm)) (hs : SpansAt w1 bm last (S.filter fun s => !decide (s.1 ∈ xs))) (h2 : Fr (fun k => k = bi) w1 w2) (hi : IndexAt w2 bx bi ids') (h3 : RPost w2 rb v L' w3) : HPost w h rb v bx bi bm L' ids' (S.filter fun s => !decide (s.1 ∈ l)) last w3 := by
  have NE := H.ne
  have e : (S.filter fun s => !decide (s.1 ∈ xs)) = S.filter fun s => !decide (s.1 ∈ l) := List.filter_congr (fun s _ => by rw [decide_eq_decide.2 (hx s.1)])
  rw [e] at hs
  obtain ⟨v', hF, hv, hFr⟩ := h3
  have f1 := fr_grown h1
  have h0 : w.heap.size ≤ w2.heap.size := Nat.le_trans f1.size h2.size
  refine ⟨v', ⟨?_, hF, ?_, ?_, hf.inv, H.small⟩, fun k hk => ?_, ?_⟩
  · exact hFr.heap (h2.heap (f1.heap H.hd NE.h_bm) NE.h_bi) (fun hk => by rcases hk with hk | hk; exact NE.h_rb hk; exact NE.h_v hk)
  · exact hi.fr hFr (fun hk => by rcases hk with hk | hk; exact NE.rb_bx hk.symm; exact NE.bx_v hk) (fun hk => by rcases hk with hk | hk; exact NE.rb_bi hk.symm; exact NE.bi_v hk)
  · exact (hs.fr h2 (Ne.symm NE.bi_bm)).fr hFr (fun hk => by rcases hk with hk | hk; exact NE.rb_bm hk.symm; exact NE.bm_v hk)
  · rcases hv k hk with h9 | h9
    · exact .inl h9
    · exact .inr (Nat.le_trans h0 h9)
  · exact ((f1.mono (fun k hk => .inr (.inr (.inr (.inr (.inr hk)))))).trans' (h2.mono (fun k hk => .inr (.inr (.inr (.inr (.inl hk))))))).trans' (hFr.mono (fun k hk => by rcases hk with hk | hk; exact .inr (.inl hk); exact .inr (.inr (.inl hk))))
set_option maxHeartbeats 4000000 in
set_option maxRecDepth 20000 in
theorem heap_Free {h rb : Nat} {v : Value} {bx bi bm : Nat} {L : List Rn} {ids : List Int} {S : List Sp} {last : Nat} (w : World) (H : HeapAt w h rb v bx bi bm L ids S last) (a : Option Addr) (l : List Int) (n c : Nat) (hn : n = l.length) (hl : l.length ≤ 1024) (hr : RdV w a (ints l)) (hok : ∀ k ∈ l, (Lit.int .i64 k).wf = true) :
    Calls Try.prog 8 #[.pointer (some ⟨h, 0, none⟩), .slice a n c] w fun e w' =>
      (FreeOk S l ∧ e = .returned (.int .i64 0) ∧ ∃ L' ids', Freed ids L S last l L' ids' ∧ HPost w h rb v bx bi bm L' ids' (S.filter fun s => !decide (s.1 ∈ l)) last w') ∨
      (¬ FreeOk S l ∧ e = .returned (.int .i64 6) ∧ HPost w h rb v bx bi bm L ids S last w') := by
  subst hn
  have NE := H.ne
  have HH := Lib.hid H
  have HR := Lib.hid hr
  have HOK := Lib.hid hok
  have q := run_makeMet7 w
  have hb0 : Bel w ((w.alloc (.map #[] 0)).alloc (.cells #[.map (some w.heap.size)] 56)) := ((Bel.refl w).alloc _).alloc _
  have HST : Hid (FreeWay w ((w.alloc (.map #[] 0)).alloc (.cells #[.map (some w.heap.size)] 56)) S l 0 (.slice none 0 0) []) := Lib.hid (by
    refine ⟨hb0, ?_, (MetAt.made w).bel ((Bel.refl _).alloc _), fun k => by simp, Nat.le_refl _, fun k hk => by simp at hk, by simp, World.ownsRow_nil _ _ _ _⟩
    have := blk_alloc (w.alloc (.map #[] 0)) (.cells #[.map (some w.heap.size)] 56)
    rwa [World.size_alloc] at this)
  clear hr hok H hb0
  go_enter Try.func8, Try.ntmps8
  go_wp2_with fail
  go_loopw [5, 14] (fun rv k wr => ∃ i : Nat, i ≤ l.length ∧ k = .int .i64 i ∧ ∃ u, u = rv ∧ Hid (∃ xs, FreeWay w wr S l i u xs)) (fun rv k wr => l.length - (intOf k).toNat)
  case atStart => exact ⟨0, Nat.zero_le _, rfl, _, rfl, Lib.hid ⟨[], HST.out⟩⟩
  case round =>
    clear HST q
    obtain ⟨i, hi, rfl, rv, rfl, HX⟩ := hrel
    obtain ⟨xs, hW⟩ := HX.out
    have HW := Lib.hid hW
    have hl0 : l.length ≤ 9223372036854775807 := by omega
    have hszw := hW.bel.size
    clear HX hW
    by_cases hlt : i < l.length
    · obtain ⟨b, o, rfl, hra⟩ : ∃ b o, a = some ⟨b, o, none⟩ ∧ wr.cell? ⟨b, o + i, none⟩ = some (.int .i64 l[i]) := by
        rcases HR.out.bel HW.out.bel with h9 | ⟨b, o, e, h9⟩
        · have : l = [] := by simpa [ints] using h9
          subst this; simp at hlt
        · refine ⟨b, o, e, ?_⟩
          have := h9 i (by simpa [ints] using hlt)
          simpa [ints] using this
      have hkw := HOK.out _ (List.getElem_mem hlt)
      have HNOT := Lib.hid (fun hh => free_not (S := S) hlt hh)
      have htk : l.take (i + 1) = l.take i ++ [l[i]] := List.take_succ_eq_append_getElem hlt
      have HTK := Lib.hid htk
      have d0 : (i : Int) < l.length := by omega
      obtain ⟨k, hk⟩ : ∃ k, l[i] = k := ⟨_, rfl⟩
      rw [hk] at hra hkw HNOT HTK
      have HSP := Lib.hid (heap_Span wr (HH.out.bel HW.out.bel) k hkw)
      clear hk htk
      go_wp2_with fail
      refine HSP.out.mono ?_
      clear HSP
      rintro e w1 ⟨rfl, hB1⟩
      obtain ⟨s, hs⟩ : ∃ s, (getS S k).getD sp0 = s := ⟨_, rfl⟩
      obtain ⟨p, hp⟩ : ∃ p, (getS S k).isSome = p := ⟨_, rfl⟩
      rw [hs, hp]
      obtain ⟨s1, ⟨s2, s3⟩, s4⟩ := s
      simp only [spV]
      have hal := hB1.alloc (.cells #[.int .i64 s1, .int .i64 s2, .int .i64 s3, .int .i64 s4] 35)
      have hlk := (HW.out.met.bel hal).look k hkw
      have hbx := (Fr.of_bel (S := fun _ => False) hal).heap HW.out.box (fun h => h)
      have hsb := blk_alloc w1 (.cells #[.int .i64 s1, .int .i64 s2, .int .i64 s3, .int .i64 s4] 35)
      have b0 : (w1.alloc (.cells #[.int .i64 s1, .int .i64 s2, .int .i64 s3, .int .i64 s4] 35)).cell? ⟨w.heap.size + 1, 0, none⟩ = some (.map (some w.heap.size)) := blk_cell hbx 0
      have hs1 : wr.heap.size ≤ w1.heap.size := hB1.size
      have hbl : w.heap.size + 1 < wr.heap.size := heap_lt HW.out.box
      have HAL := Lib.hid hal
      have HSB := Lib.hid hsb
      have HPS := Lib.hid (And.intro hs hp)
      cases p
      · have HN := Lib.hid (HNOT.out (.inl (by cases hg : getS S k with | none => rfl | some y => rw [hg] at hp; cases hp)))
        clear hal hbx hsb hB1 hs hp HNOT
        go_wp2
        go_ret
        exact .inr ⟨HN.out, rfl, HPost.same HH.out (HW.out.bel.trans HAL.out)⟩
      · obtain ⟨m, hm⟩ : ∃ m, decide (k ∈ xs) = m := ⟨_, rfl⟩
        rw [hm] at hlk
        cases m
        · have hkn : k ∉ xs := of_decide_eq_false hm
          obtain ⟨w2, hrun, hM2, hg2⟩ := (HW.out.met.bel hal).put k hkw (by have := HW.out.len; unfold maxLen; omega)
          have hf2 := fr_grown hg2
          have hbx2 := hf2.heap hbx (by omega)
          have hsb2 := hf2.heap hsb (by omega)
          obtain ⟨y0, y1, y2, y3⟩ := four_cells hsb2
          have hget : getS S k = some (s1, (s2, s3), s4) := by
            cases hg : getS S k with
            | none => rw [hg] at hp; cases hp
            | some y => rw [hg] at hs; simp at hs; rw [hs]
          have hown2 : w2.ownsRow w.heap.size 33 2 rv (runsOf S (l.take i)).length (cellsOf (runsOf S (l.take i))) := own_fr (own_bel HW.out.own hal) hf2 (fun g hg1 hg e => by
            subst e
            obtain ⟨cur, hc⟩ := own_type (own_bel HW.out.own hal) hg
            obtain ⟨D, ⟨es, ck, h5, _⟩, _⟩ := HW.out.met.bel hal
            rw [hc] at h5; simp at h5)
          have HOW2 := Lib.hid hown2
          have hB2 : Bel w w2 := Below.grown (HW.out.bel.trans hal) hg2 (HW.out.bel.trans hal).size (fun j hj => by cases hj; exact Nat.le_refl _)
          have HM2 : Hid (MetAt w2 w.heap.size (k :: xs) ∧ w2.heap[w.heap.size + 1]? = some (.cells #[.map (some w.heap.size)] 56 (0, 0)) ∧ Bel w w2) := Lib.hid ⟨hM2, hbx2, hB2⟩
          have HK := Lib.hid (And.intro hkn hget)
          have hrl : (runsOf S (l.take i)).length ≤ 1024 := by rw [runsOf_length, List.length_take]; omega
          have hs2 := hB2.size
          clear hown2 hM2 hg2 hf2 hbx2 hsb2 hal hbx hsb hB1 hs hp HNOT hB2 hget hkn
          go_wp2_with (at_builtin; refine wpList_append_runs rfl _ _ rfl w.heap.size _ (runsOf S (l.take i)) rfl (HOW2.out.alloc _) _ _ [(s2, s3)] rfl ?d1 ?d2 ?d3 ?d4 ?_)
          case d1 => exact RunsIn.of_row (RdV.newAt _ #[.int .i64 s2, .int .i64 s3] 33 _ (by simp))
          try (case d2 => rintro ⟨⟩)
          case d3 => first | omega | (simp; done) | (simp; omega)
          case d4 => first | omega | (simp; done) | (simp; omega)
          intro v' w4 hown4 hgrow
          have hB4 : Bel w w4 := bel_app HOW2.out HM2.out.2.2 hgrow
          have hne : ∀ j o, w2.heap[j]? = some o → (∀ cur : Array Value, o ≠ Obj.cells cur 33 (0, 0)) → w4.heap[j]? = some o := fun j o ho hno => by
            have h6 : (w2.alloc (.cells #[.int .i64 s2, .int .i64 s3] 33)).heap[j]? = some o := blk_alloc_old _ ho
            refine (hgrow.block j (heap_lt h6) (fun e => ?_)).trans h6
            obtain ⟨cur, hc⟩ := own_type HOW2.out e.symm
            rw [ho] at hc
            exact hno cur (Option.some.inj hc)
          have HN : Hid (FreeWay w w4 S l (i + 1) v' (k :: xs)) := Lib.hid (by
            have ert : runsOf S (l.take (i + 1)) = runsOf S (l.take i) ++ [(s2, s3)] := by rw [HTK.out, runsOf_snoc _ _ _ _ HK.out.2]
            refine ⟨hB4, hne _ _ HM2.out.2.1 (fun cur e => by simp at e), ?_, fun j => ?_, by simp; have := HW.out.len; omega, fun j hj => ?_, ?_, ?_⟩
            · obtain ⟨D, ⟨es, ck, h5, h6⟩, h7⟩ := HM2.out.1
              exact ⟨D, ⟨es, ck, hne _ _ h5 (fun cur e => by simp at e), h6⟩, h7⟩
            · rw [HTK.out, List.mem_cons, List.mem_append, HW.out.mem j]
              simp
              exact Or.comm
            · rw [HTK.out, List.mem_append] at hj
              rcases hj with hj | hj
              · exact HW.out.some j hj
              · simp at hj; subst hj; rw [HK.out.2]; rfl
            · rw [HTK.out, List.nodup_append]
              refine ⟨HW.out.nd, by simp, fun x hx y hy e => ?_⟩
              simp at hy; subst hy; subst e
              exact HK.out.1 ((HW.out.mem _).2 hx)
            · rw [ert]; simpa using hown4)
          clear hown4 hgrow hB4 hne
          go_wp2
          go_roundw
          case rel => exact ⟨i + 1, by omega, by go_num, _, rfl, Lib.hid ⟨_, HN.out⟩⟩
          case measure => simp [intOf]; omega
        · have hkn : k ∈ xs := of_decide_eq_true hm
          have HN := Lib.hid (HNOT.out (.inr ((HW.out.mem k).1 hkn)))
          clear hal hbx hsb hB1 hs hp HNOT
          go_wp2
          go_ret
          exact .inr ⟨HN.out, rfl, HPost.same HH.out (HW.out.bel.trans HAL.out)⟩
    · obtain rfl : i = l.length := by omega
      have hsome := HW.out.some
      have hnd := HW.out.nd
      have hown := HW.out.own
      have hmem := HW.out.mem
      rw [List.take_length] at hsome hnd hown hmem
      have HFO : Hid (FreeOk S l) := Lib.hid ⟨hsome, hnd⟩
      obtain ⟨L', ids', hfr⟩ := HH.out.inv.freed hsome hnd
      have HFR := Lib.hid hfr
      obtain ⟨av, cv, rfl, hrv, _, hpv⟩ := own_slice2 hown
      have HRV := Lib.hid (RunsIn.of_row hrv)
      have HMEM := Lib.hid hmem
      have HRL := Lib.hid (runsOf_length S l)
      have HHW := Lib.hid (HH.out.bel HW.out.bel)
      obtain ⟨q0, q1, q2, q3⟩ := four_cells HHW.out.hd
      have hbl : w.heap.size + 1 < wr.heap.size := heap_lt HW.out.box
      have hbm : bm < w.heap.size := HH.out.lt (.inr (.inr (.inr (.inr (.inr rfl)))))
      have hbi : bi < w.heap.size := HH.out.lt (.inr (.inr (.inr (.inr (.inl rfl)))))
      have hpv' := hpv
      clear hsome hnd hown hmem hfr hrv hpv
      by_cases h0 : l = []
      · have HE : Hid (L' = L ∧ ids' = ids ∧ (S.filter fun s => !decide (s.1 ∈ l)) = S) := Lib.hid (by
          have h1 := HFR.out.add
          have h2 := HFR.out.drop
          have e0 : runsOf S l = [] := by rw [h0]; rfl
          rw [e0, addR_none] at h1
          rw [e0, drop_ok (fun r hr => by simp at hr) (fun p _ _ hp => by simp at hp), fillA_nil] at h2
          refine ⟨(Prod.mk.inj h1).1.symm, (Prod.mk.inj h2).1.symm, ?_⟩
          rw [h0]; simp)
        have e1 : (runsOf S l).length = 0 := by rw [HRL.out, h0]; rfl
        rw [e1]
        clear hpv'
        go_wp2
        go_ret
        refine .inl ⟨HFO.out, rfl, L', ids', HFR.out, ?_⟩
        rw [HE.out.1, HE.out.2.1, HE.out.2.2]
        exact HPost.same HH.out HW.out.bel
      · have hpos : 0 < l.length := List.length_pos_iff.2 h0
        have e1 : ((runsOf S l).length : Int) ≠ 0 := by have := HRL.out; omega
        have e2 : (((runsOf S l).length : Int) == 0) = false := by simpa using e1
        have HAV : Hid (∀ p, av = some p → w.heap.size ≤ p.block) := Lib.hid hpv'
        have b0 : wr.cell? ⟨w.heap.size + 1, 0, none⟩ = some (.map (some w.heap.size)) := blk_cell HW.out.box 0
        have HDEL := Lib.hid (delete_spans bm last S xs (w.heap.size + 1) w.heap.size wr HHW.out.spans HW.out.met b0 (by omega) (by omega))
        clear hpv' b0 e1
        go_wp2_with fail
        refine HDEL.out.mono ?_
        clear HDEL
        rintro e w1 ⟨rfl, hS1, hg1⟩
        have f1 := fr_grown hg1
        obtain ⟨q0, q1, q2, q3⟩ := four_cells (f1.heap HHW.out.hd NE.h_bm)
        have hI1 := HHW.out.index.fr f1 NE.bx_bm NE.bi_bm
        have hF1 := HHW.out.free.fr f1 NE.rb_bm (fun g hg e => NE.bm_v (by rw [← e]; exact hg))
        have hR1 := HRV.out.fr f1 (fun p hp e => by have := HAV.out p hp; omega)
        have hd := index_Drop bx bi ids av (runsOf S l) (runsOf S l).length cv w1 hI1 rfl (by have := HRL.out; omega) hR1 (fun r hr => by have := HFR.out.ok r hr; exact ⟨⟨by omega, by omega⟩, ⟨by omega, by omega⟩⟩)
        rw [HFR.out.drop] at hd
        have HD := Lib.hid hd
        have HQ1 := Lib.hid (And.intro hS1 (And.intro hg1 (And.intro hF1 hR1)))
        have HD1 := Lib.hid (f1.heap HHW.out.hd NE.h_bm)
        clear hS1 hg1 hI1 hF1 hR1 hd f1
        go_wp2_with fail
        refine HD.out.mono ?_
        clear HD
        rintro e w2 ⟨rfl, hI2, hf2⟩
        obtain ⟨q0, q1, q2, q3⟩ := four_cells (hf2.heap HD1.out NE.h_bi)
        have hF2 := HQ1.out.2.2.1.fr hf2 NE.rb_bi (fun g hg e => NE.bi_v (by rw [← e]; exact hg))
        have hR2 := HQ1.out.2.2.2.fr hf2 (fun p hp e => by have := HAV.out p hp; omega)
        have ha := runs_Add rb v L av (runsOf S l) (runsOf S l).length cv w2 hF2 rfl (by have := HRL.out; omega) hR2 (fun r hr => by have := HFR.out.ok r hr; exact ⟨⟨by omega, by omega⟩, ⟨by omega, by omega⟩⟩)
        rw [HFR.out.add] at ha
        have HA := Lib.hid ha
        have HQ2 := Lib.hid (And.intro hI2 hf2)
        clear hI2 hf2 hF2 hR2 ha
        go_wp2_with fail
        refine HA.out.mono ?_
        rintro e w3 ⟨rfl, hP⟩
        have HP := Lib.hid (heap_freed HHW.out HFR.out HMEM.out HQ1.out.2.1 HQ1.out.1 HQ2.out.2 HQ2.out.1 hP)
        clear hP
        go_wp2
        go_ret
        exact .inl ⟨HFO.out, rfl, L', ids', HFR.out, HP.out.from HW.out.bel⟩
end Go.Proofs.Ythkbhikiljlgoaa

/- The slow twin of layer 8: Push. -/
import Derived.Test.YtnehccndghkakaaRef08B
import Derived.Deep.RegionHeld3
namespace Go.Proofs.Ytnehccndghkakaa
open Go.RowKit Go.Deep

/-- What an act of the twin leaves: words (those that were handed in, or new ones), a chain, an error. -/
def RCPost (w : World) (a : Option Addr) (L : Nat) (r : CR) (e : Ending) (w' : World) : Prop :=
  ∃ a' c', e = .returned (.tuple #[.slice a' L c', .agg #[.int .i64 r.hd, .int .i64 r.ln], .int .i64 r.e]) ∧ RdV w' a' (u64s r.ws) ∧ (∀ p, a' = some p → a' = a ∨ w.heap.size ≤ p.block) ∧ Bel w w'

/-- An end of the twin's acts: the chain's box is copied, the words are handed back. -/
theorem rbox_end {w wr : World} {a : Option Addr} {hd ln : Int} (g : RBox w wr hd ln) (hB : Bel w wr) {ws : List Int} (hrd : RdV w a (u64s ws)) (hab : ∀ p, a = some p → p.block < w.heap.size) :
    RdV ((wr.setCell ⟨w.heap.size + 1, 0, none⟩ (.int .i64 hd)).setCell ⟨w.heap.size + 1, 1, none⟩ (.int .i64 ln)) a (u64s ws) ∧
    Bel w ((wr.setCell ⟨w.heap.size + 1, 0, none⟩ (.int .i64 hd)).setCell ⟨w.heap.size + 1, 1, none⟩ (.int .i64 ln)) := by
  have hF := fr_two (S := fun _ => False) (Fr.of_bel hB) (R := w.heap.size + 1) (by omega) (.int .i64 hd) (.int .i64 ln)
  have hB' := Fr.bel hF (fun k h => h.elim)
  exact ⟨hrd.bel hB', hB'⟩

set_option maxHeartbeats 2000000 in
set_option maxRecDepth 20000 in
theorem ref8_Push_bad (a : Option Addr) (ws : List Int) (hd ln : Int) (b : Option Addr) (at_ : List Int) (c d : Nat) (w : World) (hsm : ws.length ≤ 65536) (hra : RdV w a (u64s ws)) (hwf : ∀ y ∈ ws, 0 ≤ y ∧ y ≤ 18446744073709551615)
    (hhd : I64 hd) (hhl : I64 ln) (hbad : ∀ l, ¬ RightC ws hd ln l) :
    Calls Try.prog 20 #[.slice a ws.length c, .agg #[.int .i64 hd, .int .i64 ln], .slice b at_.length d] w (RCPost w a ws.length (pushF ws hd ln at_)) := by
  have hG0 := RBox.start w hd ln
  have hB0 : Bel w ((w.alloc (.cells #[.int .i64 hd, .int .i64 ln] 37)).alloc (.cells #[.int .i64 0, .int .i64 0] 37)) := ((Bel.refl _).alloc _).alloc _
  obtain ⟨W0, hW0⟩ : ∃ W0, (w.alloc (.cells #[.int .i64 hd, .int .i64 ln] 37)).alloc (.cells #[.int .i64 0, .int .i64 0] 37) = W0 := ⟨_, rfl⟩
  rw [hW0] at hB0 hG0
  have hs0 := hG0.size
  have HW0 := Lib.hid hW0
  have HB := Lib.hid hB0
  have HG := Lib.hid hG0
  have HRA := Lib.hid hra
  have HF := Lib.hid (pushF_bad at_ hbad)
  clear hW0 hB0 hG0 hra
  go_enter Try.func20, Try.ntmps20
  go_wp2_with fail
  rw [HW0.out]
  refine (ref8_List_bad a ws hd ln c _ hsm (HRA.out.bel HB.out) hwf hhd hhl hbad).mono ?_
  rintro e w1 ⟨l, v, rfl, hN, hB1⟩
  have g := HG.out.bel hB1
  obtain ⟨q0, q1, q2, q3⟩ := two_cells g.c
  obtain ⟨t0, t1, t2, t3⟩ := two_cells g.r
  go_wp2_with fail
  go_region
  go_wp2
  obtain ⟨r0, r1, r2⟩ := two_set g.r (.int .i64 hd) (.int .i64 ln)
  refine bodyPost_ret (v := .tuple #[.slice a ws.length c, .agg #[.int .i64 hd, .int .i64 ln], .int .i64 9]) (by simp [results, Try.results20, go_sem, r0, r1]) rfl ?_
  have hBe : Bel w ((w1.setCell ⟨w.heap.size + 1, 0, none⟩ (.int .i64 hd)).setCell ⟨w.heap.size + 1, 1, none⟩ (.int .i64 ln)) :=
    Fr.bel (fr_two (S := fun _ => False) (Fr.of_bel (HB.out.trans hB1)) (by omega) _ _) (fun k h => h.elim)
  rw [HF.out]
  exact ⟨a, c, rfl, (HRA.out.bel hBe).bel (Bel.refl _).drew, fun p hp => .inl rfl, hBe.drew⟩

theorem Calls.quiet_eq8 {P : Program} {f : FuncId} {args : Array Value} {w : World} {n : Nat} {v : Value}
    (h : Calls P f args (w.drewN n) fun e w' => e = .returned v ∧ w.drewN n = w') : Calls P f args (w.drewN n) fun e w'' => e = .returned v ∧ ∃ m, w'' = w.drewN m :=
  h.mono fun _ _ ⟨he, hm⟩ => ⟨he, n, hm.symm⟩
theorem fr_no {w w' : World} (k : Bel w w') : Fr (fun _ => False) w w' := Fr.of_bel k
/-- New words, from another world on. -/
def WithGot (w : World) (L : Nat) (ws : List Int) (e : Ending) (w' : World) : Prop := ∃ a c, e = .returned (.slice a L c) ∧ RdV w' a (u64s ws) ∧ (∀ p, a = some p → w.heap.size ≤ p.block) ∧ Bel w w'
theorem fr_two' (w : World) (R : Nat) (x y : Value) : Fr (fun k => k = R) w ((w.setCell ⟨R, 0, none⟩ x).setCell ⟨R, 1, none⟩ y) :=
  Fr.setCell (S := fun k => k = R) (p := ⟨R, 1, none⟩) (Fr.setCell (S := fun k => k = R) (p := ⟨R, 0, none⟩) (Fr.refl (fun k => k = R) w) (.inl rfl) x) (.inl rfl) y
/-- The twin's words and chain, in the loop that pushes. -/
structure RP (w wr : World) (a : Option Addr) (ws : List Int) (W : List Int) (hd ln : Int) (v : Value) : Prop where
  v : ∃ a' c', v = .slice a' ws.length c' ∧ RdV wr a' (u64s W) ∧ ∀ p, a' = some p → a' = a ∨ w.heap.size + 2 ≤ p.block
  g : RBox w wr hd ln
  bel : Bel w wr

set_option maxHeartbeats 4000000 in
set_option maxRecDepth 20000 in
theorem ref8_Push_right (a : Option Addr) (ws : List Int) (hd ln : Int) (l : List Int) (b : Option Addr) (at_ : List Int) (c d : Nat) (w : World) (hsm : ws.length ≤ 65536) (hra : RdV w a (u64s ws)) (hwf : ∀ y ∈ ws, 0 ≤ y ∧ y ≤ 18446744073709551615)
    (hal : ∀ p, a = some p → p.block < w.heap.size) (hl : at_.length ≤ 65536) (hcap : at_.length ≤ d) (hx : ∀ x ∈ at_, I64 x) (hrb : RdV w b (ints at_)) (hr : RightC ws hd ln l) :
    Calls Try.prog 20 #[.slice a ws.length c, .agg #[.int .i64 hd, .int .i64 ln], .slice b at_.length d] w (RCPost w a ws.length (pushF ws hd ln at_)) := by
  have hG0 := RBox.start w hd ln
  have hB0 : Bel w ((w.alloc (.cells #[.int .i64 hd, .int .i64 ln] 37)).alloc (.cells #[.int .i64 0, .int .i64 0] 37)) := ((Bel.refl _).alloc _).alloc _
  obtain ⟨W0, hW0⟩ : ∃ W0, (w.alloc (.cells #[.int .i64 hd, .int .i64 ln] 37)).alloc (.cells #[.int .i64 0, .int .i64 0] 37) = W0 := ⟨_, rfl⟩
  rw [hW0] at hB0 hG0
  have hs0 := hG0.size
  have hll := hr.small
  have hhead := isCh_head hr.ch
  have hlen := hr.len
  have hml : at_.length ≤ maxLen := by unfold maxLen; omega
  have hmll : l.length ≤ maxLen := by unfold maxLen; omega
  have HW0 := Lib.hid hW0
  have HB := Lib.hid hB0
  have HG := Lib.hid hG0
  have HRA := Lib.hid hra
  have HRB := Lib.hid hrb
  have HR := Lib.hid hr
  clear hW0 hB0 hG0 hra hrb hr
  go_enter Try.func20, Try.ntmps20
  go_wp2_with fail
  rw [HW0.out]
  refine (ref8_List_ok a ws hd ln l c _ hsm (HRA.out.bel HB.out) hwf HR.out).mono ?_
  rintro e w1 ⟨v, rfl, hN, hB1⟩
  have hs1 := hB1.size
  obtain ⟨al, cl, rfl, hrl, _⟩ := own_slice hN
  have HRL := Lib.hid hrl
  clear hN hrl
  go_wp2_with fail
  go_loop [26] (fun k => ∃ i : Nat, i ≤ at_.length ∧ k = .int .i64 i ∧ Hid (∀ j (hj : j < i) (hj' : j < at_.length), inW ws at_[j] = true)) (fun k => at_.length - (intOf k).toNat)
  case atStart => exact ⟨0, Nat.zero_le _, rfl, Lib.hid (fun j hj => by omega)⟩
  case round =>
    obtain ⟨i, hi, rfl, H0⟩ := hrel
    by_cases hlt : i < at_.length
    · obtain ⟨bb, oo, rfl, hc⟩ := (HRB.out.bel (HB.out.trans hB1)).at (f := fun x => .int .i64 x) (xs := at_) i hlt
      obtain ⟨x, hxx⟩ : ∃ x, at_[i] = x := ⟨_, rfl⟩
      rw [hxx] at hc
      have hxi := hx at_[i] (List.getElem_mem _)
      rw [hxx] at hxi
      have HXX := Lib.hid hxx
      clear hxx
      by_cases hin : 0 ≤ x ∧ x < ws.length
      · obtain ⟨x0, x1⟩ := hin
        go_wp2
        go_round
        case rel =>
          refine ⟨i + 1, by omega, by go_num, Lib.hid (fun j hj hj' => ?_)⟩
          rcases Nat.lt_or_ge j i with h | h
          · exact H0.out j h hj'
          · obtain rfl : j = i := by omega
            rw [HXX.out]
            exact inW_iff.2 ⟨x0, x1⟩
        case measure => simp [intOf]; omega
      · have HF := Lib.hid (pushF_range (at_ := at_) HR.out (by
          rw [List.any_eq_true]
          refine ⟨at_[i], List.getElem_mem _, ?_⟩
          rw [HXX.out]
          simp only [Bool.not_eq_true', ← Bool.not_eq_true, inW_iff]
          exact hin))
        have g := HG.out.bel hB1
        obtain ⟨q0, q1, q2, q3⟩ := two_cells g.c
        obtain ⟨t0, t1, t2, t3⟩ := two_cells g.r
        have hBe : Bel w ((w1.setCell ⟨w.heap.size + 1, 0, none⟩ (.int .i64 hd)).setCell ⟨w.heap.size + 1, 1, none⟩ (.int .i64 ln)) :=
          Fr.bel (fr_two (S := fun _ => False) (fr_no (HB.out.trans hB1)) (by omega) _ _) (fun k h => h.elim)
        have HBE := Lib.hid hBe
        clear hBe
        have hcs : x < 0 ∨ (0 ≤ x ∧ (ws.length : Int) ≤ x) := by omega
        clear hin
        rcases hcs with hx0 | ⟨hx0, hx1⟩
        all_goals
          go_wp2_with fail
          go_region
          go_wp2
          obtain ⟨r0, r1, r2⟩ := two_set g.r (.int .i64 hd) (.int .i64 ln)
          refine bodyPost_ret (v := .tuple #[.slice a ws.length c, .agg #[.int .i64 hd, .int .i64 ln], .int .i64 2]) (by simp [results, Try.results20, go_sem, r0, r1]) rfl ?_
          rw [HF.out]
          exact ⟨a, c, rfl, (HRA.out.bel HBE.out).bel (Bel.refl _).drew, fun p hp => .inl rfl, HBE.out.drew⟩
    · have hany : at_.any (fun x => !inW ws x) = false := by
        rw [List.any_eq_false]
        intro x hxm
        obtain ⟨j, hj, rfl⟩ := List.getElem_of_mem hxm
        rw [H0.out j (by omega) hj]
        simp
      have HANY := Lib.hid hany
      have HIN := Lib.hid (not_any_inW hany)
      clear hany
      go_wp2_with fail
      go_loopw [48] (fun k wr => ∃ i : Nat, i ≤ at_.length ∧ k = .int .i64 i ∧ (l ++ at_.take i).Nodup ∧ Bel w1 wr) (fun k wr => at_.length - (intOf k).toNat)
      case atStart => exact ⟨0, Nat.zero_le _, rfl, by simpa using HR.out.nd, Bel.refl _⟩
      case round =>
        obtain ⟨i, hi, rfl, hnd, hB2⟩ := hrel
        by_cases hlt : i < at_.length
        · obtain ⟨bb, oo, rfl, hc⟩ := (HRB.out.bel ((HB.out.trans hB1).trans hB2)).at (f := fun x => .int .i64 x) (xs := at_) i hlt
          have hrbw := HRB.out.bel ((HB.out.trans hB1).trans hB2)
          have htl : (at_.take i).length = i := by simp; omega
          have hstep : l ++ at_.take (i + 1) = (l ++ at_.take i) ++ [at_[i]] := by rw [List.take_succ_eq_append_getElem hlt, List.append_assoc]
          obtain ⟨x, hxx⟩ : ∃ x, at_[i] = x := ⟨_, rfl⟩
          rw [hxx] at hc hstep
          have C1 : ∀ nq, Calls Try.prog 17 #[.slice al l.length cl, .int .i64 x] (wr.drewN nq) fun e w' => e = .returned (.bool (decide (x ∈ l))) ∧ wr.drewN nq = w' := fun nq =>
            ref3_In al l x _ cl _ rfl hmll ((HRL.out.bel hB2).bel (Bel.drewN (Bel.refl _) _))
          have C2 : ∀ nq, Calls Try.prog 17 #[.slice (some ⟨bb, oo, none⟩) i d, .int .i64 x] (wr.drewN nq) fun e w' => e = .returned (.bool (decide (x ∈ at_.take i))) ∧ wr.drewN nq = w' := fun nq => by
            have := ref3_In (some ⟨bb, oo, none⟩) (at_.take i) x _ d (wr.drewN nq) rfl (by unfold maxLen; omega) ((RdV.take hrbw i).bel (Bel.drewN (Bel.refl _) _))
            rwa [htl] at this
          have HC1 := Lib.hid C1
          have HC2 := Lib.hid C2
          have HND := Lib.hid hnd
          have HST := Lib.hid hstep
          have HBB := Lib.hid hB2
          have hid_ : (i : Int) ≤ d := by omega
          clear C1 C2 hnd hstep hB2 hrbw hxx
          by_cases m1 : x ∈ l
          · simp only [decide_eq_true m1] at HC1
            have HF := Lib.hid (pushF_twice HR.out HANY.out (fun h => by
              have := nodup_take (i + 1) h
              rw [HST.out] at this
              exact (List.nodup_append.1 this).2.2 x (by simp [m1]) x (by simp) rfl))
            clear m1
            go_wp2_with fail
            go_quiet (first | (go_at_call 17; with_reducible refine Calls.quiet_eq8 (HC1.out _)) | (go_at_call 17; with_reducible refine Calls.quiet_eq8 (HC2.out _)))
            have hBq := Bel.drewN (Bel.refl wr) nq
            generalize wr.drewN nq = wq at hBq ⊢
            have hB9 := HBB.out.trans hBq
            have g := HG.out.bel (hB1.trans hB9)
            obtain ⟨q0, q1, q2, q3⟩ := two_cells g.c
            obtain ⟨t0, t1, t2, t3⟩ := two_cells g.r
            have hBe : Bel w ((wq.setCell ⟨w.heap.size + 1, 0, none⟩ (.int .i64 hd)).setCell ⟨w.heap.size + 1, 1, none⟩ (.int .i64 ln)) :=
              Fr.bel (fr_two (S := fun _ => False) (fr_no ((HB.out.trans hB1).trans hB9)) (by omega) _ _) (fun k h => h.elim)
            have HBE := Lib.hid hBe
            clear hBe
            go_wp2_with fail
            go_region
            go_wp2
            obtain ⟨r0, r1, r2⟩ := two_set g.r (.int .i64 hd) (.int .i64 ln)
            refine bodyPost_ret (v := .tuple #[.slice a ws.length c, .agg #[.int .i64 hd, .int .i64 ln], .int .i64 1]) (by simp [results, Try.results20, go_sem, r0, r1]) rfl ?_
            rw [HF.out]
            exact ⟨a, c, rfl, (HRA.out.bel HBE.out).bel (Bel.refl _).drew, fun p hp => .inl rfl, HBE.out.drew⟩
          · simp only [decide_eq_false m1] at HC1
            by_cases m2 : x ∈ at_.take i
            · simp only [decide_eq_true m2] at HC2
              have HF := Lib.hid (pushF_twice HR.out HANY.out (fun h => by
                have := nodup_take (i + 1) h
                rw [HST.out] at this
                exact (List.nodup_append.1 this).2.2 x (by simp [m2]) x (by simp) rfl))
              clear m1 m2
              go_wp2_with fail
              go_quiet (first | (go_at_call 17; with_reducible refine Calls.quiet_eq8 (HC1.out _)) | (go_at_call 17; with_reducible refine Calls.quiet_eq8 (HC2.out _)))
              have hBq := Bel.drewN (Bel.refl wr) nq
              generalize wr.drewN nq = wq at hBq ⊢
              have hB9 := HBB.out.trans hBq
              have g := HG.out.bel (hB1.trans hB9)
              obtain ⟨q0, q1, q2, q3⟩ := two_cells g.c
              obtain ⟨t0, t1, t2, t3⟩ := two_cells g.r
              have hBe : Bel w ((wq.setCell ⟨w.heap.size + 1, 0, none⟩ (.int .i64 hd)).setCell ⟨w.heap.size + 1, 1, none⟩ (.int .i64 ln)) :=
                Fr.bel (fr_two (S := fun _ => False) (fr_no ((HB.out.trans hB1).trans hB9)) (by omega) _ _) (fun k h => h.elim)
              have HBE := Lib.hid hBe
              clear hBe
              go_wp2_with fail
              go_region
              go_wp2
              obtain ⟨r0, r1, r2⟩ := two_set g.r (.int .i64 hd) (.int .i64 ln)
              refine bodyPost_ret (v := .tuple #[.slice a ws.length c, .agg #[.int .i64 hd, .int .i64 ln], .int .i64 1]) (by simp [results, Try.results20, go_sem, r0, r1]) rfl ?_
              rw [HF.out]
              exact ⟨a, c, rfl, (HRA.out.bel HBE.out).bel (Bel.refl _).drew, fun p hp => .inl rfl, HBE.out.drew⟩
            · simp only [decide_eq_false m2] at HC2
              have HM := Lib.hid (And.intro m1 m2)
              clear m1 m2
              go_wp2_with fail
              go_quiet (first | (go_at_call 17; with_reducible refine Calls.quiet_eq8 (HC1.out _)) | (go_at_call 17; with_reducible refine Calls.quiet_eq8 (HC2.out _)))
              go_wp2
              go_roundw
              case rel =>
                refine ⟨i + 1, by omega, by go_num, ?_, HBB.out.drewN _⟩
                rw [HST.out, List.nodup_append]
                refine ⟨HND.out, by simp, fun y hy z hz e => ?_⟩
                simp at hz
                rw [e, hz] at hy
                rcases List.mem_append.1 hy with h | h
                · exact HM.out.1 h
                · exact HM.out.2 h
              case measure => simp [intOf]; omega
        · have hlast : i = at_.length := by omega
          subst hlast
          rw [List.take_length] at hnd
          have HF := Lib.hid (pushF_ok HR.out HANY.out hnd)
          have hB12 := HB.out.trans (hB1.trans hB2)
          have HG2 := Lib.hid (HG.out.bel (hB1.trans hB2))
          have HB12 := Lib.hid hB12
          clear hnd hB2 hB12
          go_wp2_with fail
          go_loopw [0, 72] (fun v k wr => ∃ i : Nat, i ≤ at_.length ∧ k = .int .i64 i ∧ RP w wr a ws (pushW ws hd (at_.take i)).1 (pushW ws hd (at_.take i)).2 (ln + i) v) (fun v k wr => at_.length - (intOf k).toNat)
          case atStart => exact ⟨0, Nat.zero_le _, rfl, ⟨⟨a, c, rfl, by simpa [pushW] using HRA.out.bel HB12.out, fun p hp => .inl rfl⟩, by simpa [pushW] using HG2.out, HB12.out⟩⟩
          case round =>
            obtain ⟨i, hi, rfl, hP⟩ := hrel
            obtain ⟨a', c', rfl, hra', hpa⟩ := hP.v
            have g := hP.g
            have hWl : (pushW ws hd (at_.take i)).1.length = ws.length := pushW_length _ _ _
            by_cases hlt : i < at_.length
            · obtain ⟨bb, oo, rfl, hc⟩ := (HRB.out.bel hP.bel).at (f := fun x => .int .i64 x) (xs := at_) i hlt
              have hh := pushW_head hhead (at_.take i) (fun y hy => HIN.out y (List.mem_of_mem_take hy))
              have hxr := HIN.out at_[i] (List.getElem_mem _)
              have hstep := pushW_step (ws := ws) (hd := hd) at_ i hlt
              have hbbl : bb < w.heap.size := by
                rcases HRB.out with h | ⟨b8, o8, h8, h9⟩
                · simp [ints] at h; subst h; simp at hlt
                · cases h8
                  exact World.block_lt_of_cell? w _ (h9 i (by simpa [ints] using hlt))
              generalize at_[i] = x at hc hxr hstep
              have HP := Lib.hid hP
              clear hP
              generalize (pushW ws hd (at_.take i)).1 = W at HP hstep hWl hra'
              generalize (pushW ws hd (at_.take i)).2 = h at HP g hh hstep
              obtain ⟨q0, q1, q2, q3⟩ := two_cells g.c
              have C : ∀ V, Bel wr V → Calls Try.prog 36 #[.slice a' ws.length c', .int .i64 x, .int .u64 h] V (WithGot wr ws.length (setW W x h)) := fun V hb => by
                have := ref8_with a' W x h c' V (by omega) (hra'.bel hb) hxr.1 (by omega)
                rw [hWl] at this
                refine this.mono ?_
                rintro e V2 ⟨v, rfl, hN, hB⟩
                obtain ⟨a9, c9, rfl, hr9, _, hp9⟩ := own_slice2 hN
                rw [setW_length, hWl]
                exact ⟨a9, c9, rfl, hr9, fun p hp => Nat.le_trans hb.size (hp9 p hp), hb.trans hB⟩
              have HC := Lib.hid C
              have HST := Lib.hid hstep
              have HGG := Lib.hid g
              have hwu : IntKind.u64.wrap h = h := IntWalk.u64_in _ (by omega)
              have hsz := g.size
              obtain ⟨hh0, hh1⟩ := hh
              obtain ⟨hx0, hx1⟩ := hxr
              clear C hstep g hra'
              go_wp2_with fail
              go_region_held3 (fun w' => w'.cell? ⟨w.heap.size, 0, none⟩ = some (.int .i64 h) ∧ w'.cell? ⟨bb, oo + i, none⟩ = some (.int .i64 x))
                (first | go_keep | exact ⟨hB7.cell q0, hB7.cell hc⟩)
                (first | (go_at_call 36; (with_reducible refine (HC.out _ ?b1).mono ?_); (case b1 => repeat (first | exact Bel.refl _ | apply Bel.drew | apply Bel.alloc)); rintro e w7 ⟨a7, c7, rfl, hr7, hp7, hB7⟩))
              have g7 := HGG.out.bel hB7
              have hc7 : w7.cell? ⟨bb, oo + i, none⟩ = some (.int .i64 x) := hB7.cell hc
              clear q0 q1 q2 q3 hc
              obtain ⟨q0, q1, q2, q3⟩ := two_cells g7.c
              have hne1 : bb ≠ w.heap.size := by omega
              go_wp2_with fail
              go_region
              go_wp2
              go_roundw
              case rel =>
                have hF7 : Fr (fun k => k = w.heap.size) w7 (((w7.setCell ⟨w.heap.size, 0, none⟩ (.int .i64 (x + 1))).setCell ⟨w.heap.size, 1, none⟩ (.int .i64 (ln + i + 1))).drew) :=
                  (fr_two' w7 w.heap.size _ _).drew
                have hF9 : Bel w (((w7.setCell ⟨w.heap.size, 0, none⟩ (.int .i64 (x + 1))).setCell ⟨w.heap.size, 1, none⟩ (.int .i64 (ln + i + 1))).drew) :=
                  Fr.bel (fr_two (S := fun _ => False) (Fr.of_bel (HP.out.bel.trans hB7)) (Nat.le_refl _) _ _).drew (fun k h => h.elim)
                refine ⟨i + 1, by omega, by go_num, ?_⟩
                rw [HST.out]
                refine ⟨⟨a7, c7, rfl, hr7.fr hF7 (fun p hp e => by have := hp7 p hp; omega), fun p hp => .inr (by have := hp7 p hp; omega)⟩, ?_, hF9⟩
                rw [show ln + ((i + 1 : Nat) : Int) = ln + i + 1 by omega]
                exact ((g7.head (x + 1)).len (ln + i + 1)).bel (Bel.refl _).drew
              case measure => simp [intOf]; omega
            · obtain rfl : i = at_.length := by omega
              rw [List.take_length] at hP g hra'
              obtain ⟨q0, q1, q2, q3⟩ := two_cells g.c
              obtain ⟨t0, t1, t2, t3⟩ := two_cells g.r
              have HRA' := Lib.hid hra'
              have HP := Lib.hid hP
              have G := Lib.hid g
              have hsz := g.size
              clear hra' hP g
              go_wp2_with fail
              go_region
              go_wp2
              obtain ⟨r0, r1, r2⟩ := two_set G.out.r (.int .i64 (pushW ws hd at_).2) (.int .i64 (ln + at_.length))
              refine bodyPost_ret (v := .tuple #[.slice a' ws.length c', .agg #[.int .i64 (pushW ws hd at_).2, .int .i64 (ln + at_.length)], .int .i64 0]) (by simp [results, Try.results20, go_sem, r0, r1]) rfl ?_
              rw [HF.out]
              have hF9 := Fr.bel (fr_two (S := fun _ => False) (Fr.of_bel HP.out.bel) (R := w.heap.size + 1) (by omega) (.int .i64 (pushW ws hd at_).2) (.int .i64 (ln + at_.length))).drew (fun k h => h.elim)
              have hF8 := (fr_two' wr (w.heap.size + 1) (.int .i64 (pushW ws hd at_).2) (.int .i64 (ln + at_.length))).drew
              refine ⟨a', c', rfl, HRA'.out.fr hF8 (fun p hp e => ?_), fun p hp => ?_, hF9⟩
              · rcases hpa p hp with h | h
                · have := hal p (by rw [← h, hp])
                  omega
                · omega
              · rcases hpa p hp with h | h
                · exact .inl h
                · exact .inr (by omega)
end Go.Proofs.Ytnehccndghkakaa

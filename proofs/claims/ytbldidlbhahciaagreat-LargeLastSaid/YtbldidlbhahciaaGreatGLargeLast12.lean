/- The statement LargeLast: whatever comes in, the law returns true, and each argument reads as it did. No condition. Layer 10: what is given back last is taken next. Layer 10: awake. -/
import Derived.Test.YtbldidlbhahciaaGreatGLargeLast11
import Derived.Test.YtbldidlbhahciaaGreatGLargeLast0
set_option linter.unusedVariables false
set_option linter.unusedSimpArgs false
namespace Go.Proofs.YtbldidlbhahciaaGreat
open Go.RowKit

/-! ### the example's states -/
theorem free_is {h : Hp} {L : List Rn} (hL : Canon 1024 L) (hp : ∀ p : Int, inL L p = true ↔ h.freeP p = true) : h.free = L := by
  refine canon_unique (q := 1024) _ _ (listP_canon _) hL (fun p => ?_)
  rw [hp]
  unfold Hp.free
  rw [inL_listP]
  constructor
  · exact fun h => h.2.2
  · intro h9
    have hh := (hp p).2 h9
    obtain ⟨r, hr, hi⟩ := List.any_eq_true.1 hh
    have h1 := hL.ok r hr
    have h2 := inR_iff.1 hi
    exact ⟨by omega, by omega, h9⟩
def S1 : List Sp := [(1, (0, 4), -1)]
def S2 : List Sp := [(1, (0, 4), -1), (2, (4, 4), -1)]
def S3 : List Sp := [(1, (0, 4), -1), (2, (4, 4), -1), (3, (8, 4), -1)]
theorem ex0 : (hpNew 12).free = [(0, 12)] := by
  refine free_is ⟨by intro r hr; simp at hr; subst hr; decide, by simp⟩ (fun p => ?_)
  unfold Hp.freeP hpNew
  simp [inL, inR]
theorem ex1 : (Hp.mk 12 S1 1).free = [(4, 8)] := by
  refine free_is ⟨by intro r hr; simp at hr; subst hr; decide, by simp⟩ (fun p => ?_)
  unfold Hp.freeP S1
  simp [inL, inR]
  omega
theorem ex2 : (Hp.mk 12 S2 2).free = [(8, 4)] := by
  refine free_is ⟨by intro r hr; simp at hr; subst hr; decide, by simp⟩ (fun p => ?_)
  unfold Hp.freeP S2
  simp [inL, inR]
  omega
theorem make_of {h : Hp} {F : List Rn} {n ord t m : Int} (hf : h.free = F) (hb : bestF F n = (t, m)) (hm : ¬ m ≤ 0) (hc : ¬ (n < 1 ∨ ord < -1 ∨ 4 ≤ ord)) : h.make n ord = (⟨h.P, h.S ++ [((h.last : Int) + 1, (t, n), ord)], h.last + 1⟩, ((h.last : Int) + 1, (t, n), ord), 0) := by
  unfold Hp.make
  rw [if_neg hc, hf, hb, if_neg hm]
theorem ex_take1 : (ksNew (hpNew 12)).take 4 = (⟨⟨12, S1, 1⟩, [], [], false⟩, (1, (0, 4), -1), 0) := by
  rw [take_make (by decide +kernel) rfl]
  show (_, ((hpNew 12).make 4 (-1)).2) = _
  rw [show (ksNew (hpNew 12)).h = hpNew 12 from rfl, make_of ex0 (t := 0) (m := 12) (by decide) (by decide) (by decide)]
  rfl
theorem ex_take2 : (KS.mk ⟨12, S1, 1⟩ [] [] false).take 4 = (⟨⟨12, S2, 2⟩, [], [], false⟩, (2, (4, 4), -1), 0) := by
  rw [take_make (by decide +kernel) rfl]
  show (KS.mk ((Hp.mk 12 S1 1).make 4 (-1)).1 _ _ _, ((Hp.mk 12 S1 1).make 4 (-1)).2) = _
  rw [make_of ex1 (t := 4) (m := 8) (by decide) (by decide) (by decide)]
  rfl
theorem ex_take3 : (KS.mk ⟨12, S2, 2⟩ [] [] false).take 4 = (⟨⟨12, S3, 3⟩, [], [], false⟩, (3, (8, 4), -1), 0) := by
  rw [take_make (by decide +kernel) rfl]
  show (KS.mk ((Hp.mk 12 S2 2).make 4 (-1)).1 _ _ _, ((Hp.mk 12 S2 2).make 4 (-1)).2) = _
  rw [make_of ex2 (t := 8) (m := 4) (by decide) (by decide) (by decide)]
  rfl
theorem ex_give : (KS.mk ⟨12, S3, 3⟩ [] [] false).give [1, 2, 3] = (⟨⟨12, S2, 3⟩, S2, [], false⟩, 0) := by
  have h1 : LargeIds (Hp.mk 12 S3 3) [1, 2, 3] := by decide +kernel
  have h2 : ¬ ([1, 2, 3].any (KS.mk ⟨12, S3, 3⟩ [] [] false).has = true) := by decide
  unfold KS.give
  rw [if_pos h1, if_neg h2]
  rfl
set_option maxHeartbeats 1000000 in
set_option maxRecDepth 20000 in
theorem awake10 (w : World) : Calls Tryz.prog 9 #[] w fun e w' => e = .returned (.bool true) ∧ Bel w w' := by
  go_enter Tryz.func9, Tryz.ntmps9
  go_wp2_with fail
  refine (heap_New 12 w (by omega) (by omega)).mono ?_
  rintro e w1 hN
  obtain ⟨hb, bi, rfl, hL⟩ := liveG_new hN
  have HL := Lib.hid hL
  clear hN hL
  go_wp2_with fail
  refine (large_New HL.out).mono ?_
  rintro e w2 ⟨k, rfl, hL2, hB2⟩
  have HT1 := Lib.hid (large_Take hL2 4 ⟨by omega, by omega⟩ (by decide))
  rw [ex_take1] at HT1
  clear hL2 hB2 HL
  simp only [spV] at HT1
  go_wp2_with fail
  refine HT1.out.mono ?_
  clear HT1
  rintro e w3 ⟨rfl, hL3⟩
  have hl3 := hL3.1.then_bel ((Bel.refl w3).alloc (.cells #[.int .i64 1, .int .i64 0, .int .i64 4, .int .i64 (-1)] 33))
  have g3 := blk_alloc w3 (.cells #[.int .i64 1, .int .i64 0, .int .i64 4, .int .i64 (-1)] 33)
  have hl3' := hl3.watch (Bel.refl _) (fun _ => False) (fun i h => h.elim)
  have hN3 := hL3.1.watch ((Bel.refl w3).alloc (.cells #[.int .i64 1, .int .i64 0, .int .i64 4, .int .i64 (-1)] 33)) (fun i => i = w3.heap.size) (fun i hi => by subst hi; simp)
  have HT2 := Lib.hid (large_Take hN3 4 ⟨by omega, by omega⟩ (by decide))
  rw [ex_take2] at HT2
  have HG3 := Lib.hid g3
  clear hL3 hl3 hl3' hN3 g3
  simp only [spV] at HT2
  go_wp2_with fail
  refine HT2.out.mono ?_
  clear HT2
  rintro e w4 ⟨rfl, hL4⟩
  have g34 := hL4.2.heap HG3.out (fun h => h (.inr rfl))
  have hN4 := hL4.1.watch ((Bel.refl w4).alloc (.cells #[.int .i64 2, .int .i64 4, .int .i64 4, .int .i64 (-1)] 33)) (fun i => i = w4.heap.size) (fun i hi => by subst hi; simp)
  have HT3 := Lib.hid (large_Take hN4 4 ⟨by omega, by omega⟩ (by decide))
  rw [ex_take3] at HT3
  have HG4 := Lib.hid (And.intro (blk_alloc_old (.cells #[.int .i64 2, .int .i64 4, .int .i64 4, .int .i64 (-1)] 33) g34) (blk_alloc w4 (.cells #[.int .i64 2, .int .i64 4, .int .i64 4, .int .i64 (-1)] 33)))
  clear hL4 hN4 g34 HG3
  simp only [spV] at HT3
  go_wp2_with fail
  refine HT3.out.mono ?_
  clear HT3
  rintro e w5 ⟨rfl, hL5⟩
  have g35 := hL5.2.heap HG4.out.1 (fun h => h (.inl (.inr rfl)))
  have g45 := hL5.2.heap HG4.out.2 (fun h => h (.inr rfl))
  obtain ⟨r0, _, _, _⟩ := four_cells (blk_alloc_old (.cells #[.int .i64 3, .int .i64 8, .int .i64 4, .int .i64 (-1)] 33) g35)
  obtain ⟨s0, _, _, _⟩ := four_cells (blk_alloc_old (.cells #[.int .i64 3, .int .i64 8, .int .i64 4, .int .i64 (-1)] 33) g45)
  obtain ⟨t0, _, _, _⟩ := four_cells (blk_alloc w5 (.cells #[.int .i64 3, .int .i64 8, .int .i64 4, .int .i64 (-1)] 33))
  have hb6 := ((Bel.refl w5).alloc (.cells #[.int .i64 3, .int .i64 8, .int .i64 4, .int .i64 (-1)] 33)).alloc (.cells #[.int .i64 1, .int .i64 2, .int .i64 3] 3)
  have HG := Lib.hid (large_Give (hL5.1.then_bel hb6) (some ⟨w5.heap.size + 1, 0, none⟩) [1, 2, 3] 3 (by decide) (by have := RdV.new (w5.alloc (.cells #[.int .i64 3, .int .i64 8, .int .i64 4, .int .i64 (-1)] 33)) #[.int .i64 1, .int .i64 2, .int .i64 3] 3; simpa [ints] using this) (by intro x hx; simp at hx; rcases hx with rfl | rfl | rfl <;> decide) (by decide))
  rw [ex_give] at HG
  clear hL5 hb6 g35 g45 HG4
  go_wp2_with fail
  refine HG.out.mono ?_
  clear HG
  rintro e w6 ⟨rfl, hL6⟩
  have HL6 := Lib.hid hL6.1
  have HK := Lib.hid (large_Kept hL6.1 4 (by decide))
  have hks : keptIds S2 4 = [1, 2] := by decide
  rw [show (KS.mk ⟨12, S2, 3⟩ S2 [] false).kept = S2 from rfl, hks] at HK
  clear hL6 hks
  go_wp2_with fail
  refine HK.out.mono ?_
  clear HK
  rintro e w7 ⟨v, rfl, ho, hB7⟩
  obtain ⟨a7, c7, rfl, hr7, _, _⟩ := own_slice2 ho
  have hb7 := (Bel.refl w7).alloc (.cells #[.int .i64 1, .int .i64 2] 3)
  have HI := Lib.hid (ref_Ints a7 (some ⟨w7.heap.size, 0, none⟩) [1, 2] [1, 2] 2 c7 2 2 (w7.alloc (.cells #[.int .i64 1, .int .i64 2] 3)) rfl rfl (by decide) (by decide) (hr7.bel hb7) (RdV.new w7 #[.int .i64 1, .int .i64 2] 3))
  rw [show decide (([1, 2] : List Int) = [1, 2]) = true from rfl] at HI
  have HL7 := Lib.hid (HL6.out.then_bel (hB7.trans hb7))
  clear ho hr7 hB7 hb7 HL6
  go_wp2_with fail
  refine HI.out.mono ?_
  clear HI
  rintro e w8 ⟨rfl, hB8⟩
  have HL8 := Lib.hid (HL7.out.then_bel hB8)
  clear hB8 HL7
  go_wp2_with fail
  refine (HL8.out.heapSpans _ (Bel.refl _)).mono ?_
  rintro e w9 ⟨a9, c9, zs, rfl, hz, _, hB9, _⟩
  have hzl : zs.length = 2 := by rw [hz.1.length_eq]; rfl
  have HE := Lib.hid (HL8.out.bel.trans hB9)
  clear hz hB9
  rw [hzl]
  go_wp2
  go_ret
  exact ⟨rfl, HE.out⟩
end Go.Proofs.YtbldidlbhahciaaGreat

namespace Go.Proofs.YtbldidlbhahciaaGreat
open Go.RowKit

/-- The block of an address, if there is one. -/
def bOf (a : Option Addr) (i : Nat) : Prop := ∃ p, a = some p ∧ p.block = i
/-- Nothing is kept, nothing waits, it isn't held. -/
structure Bare (k : KS) : Prop where
  kept : k.kept = []
  waits : k.waits = []
  held : k.held = false
theorem Bare.take {k : KS} (H : Bare k) (n : Int) : Bare (k.take n).1 := by
  cases hf : fitsF n with
  | false => rw [take_bad hf]; exact H
  | true =>
    have hl : lastI k.kept n = none := by rw [H.kept]; rfl
    rw [take_make hf hl]; exact ⟨H.kept, H.waits, H.held⟩
theorem take_last (k : KS) (n : Int) : (k.take n).1.h.last ≤ k.h.last + 1 := by
  cases hf : fitsF n with
  | false => rw [take_bad hf]; exact Nat.le_succ _
  | true =>
    cases hl : lastI k.kept n with
    | none => rw [take_make hf hl]; exact Hp.make_last _ _ _
    | some i => rw [take_kept hf hl]; exact Nat.le_succ _
theorem take_P (k : KS) (n : Int) : (k.take n).1.h.P = k.h.P := by
  cases hf : fitsF n with
  | false => rw [take_bad hf]
  | true =>
    cases hl : lastI k.kept n with
    | none => rw [take_make hf hl]; exact Hp.make_P _ _ _
    | some i => rw [take_kept hf hl]
/-- What a take that makes leaves. -/
theorem take_made {k : KS} (H : KInv k) (hb : Bare k) {n : Int} (e : (k.take n).2.2 = 0) :
    ∃ s : Sp, (k.take n).2.1 = s ∧ s.2.1.2 = n ∧ s.2.2 = -1 ∧ fitsF n = true ∧ (k.take n).1 = ⟨⟨k.h.P, k.h.S ++ [s], k.h.last + 1⟩, [], [], false⟩ ∧ s.1 = (k.h.last : Int) + 1 := by
  cases hf : fitsF n with
  | false => rw [take_bad hf] at e; simp at e
  | true =>
    have hl : lastI k.kept n = none := by rw [hb.kept]; rfl
    rw [take_make hf hl] at e ⊢
    obtain ⟨e1, e2⟩ := Hp.make_ok e
    refine ⟨(k.h.make n (-1)).2.1, rfl, by rw [e2], by rw [e2], rfl, by rw [e1, hb.kept, hb.waits, hb.held], by rw [e2]⟩
theorem last_law {k : KS} (H : KInv k) (hb : Bare k) {n : Int} (e : (k.take n).2.2 = 0) :
    ((k.take n).1.give [(k.take n).2.1.1]).2 = 0 ∧ ((k.take n).1.give [(k.take n).2.1.1]).1.kept = [(k.take n).2.1] ∧ keptIds [(k.take n).2.1] n = [(k.take n).2.1.1] ∧
      (((k.take n).1.give [(k.take n).2.1.1]).1.take n).2 = ((k.take n).2.1, 0) ∧ (((k.take n).1.give [(k.take n).2.1.1]).1.take n).1.kept = [] ∧ ((k.take n).1.give [(k.take n).2.1.1]).1.h = (k.take n).1.h := by
  obtain ⟨s, e1, hn, ho, hf, e2, hs⟩ := take_made H hb e
  have hi := H.take n
  have hok := hi.ok
  rw [e2] at hok
  rw [e1, e2]
  have hg : getS (k.h.S ++ [s]) s.1 = some s := getS_self (h := ⟨k.h.P, k.h.S ++ [s], k.h.last + 1⟩) hok (by simp)
  have hso : spOf ⟨k.h.P, k.h.S ++ [s], k.h.last + 1⟩ s.1 = s := by unfold spOf; rw [hg]; rfl
  have hL : LargeIds ⟨k.h.P, k.h.S ++ [s], k.h.last + 1⟩ [s.1] := ⟨fun x hx => by
    simp at hx; subst hx
    unfold largeId; rw [hso, hg, ho, hn, hf]; rfl, by simp⟩
  have hgive : (KS.mk ⟨k.h.P, k.h.S ++ [s], k.h.last + 1⟩ [] [] false).give [s.1] = (⟨⟨k.h.P, k.h.S ++ [s], k.h.last + 1⟩, [s], [], false⟩, 0) := by
    unfold KS.give
    rw [if_pos hL, if_neg (by simp [KS.has]), List.map_cons, List.map_nil, hso]
    simp [KS.give1, cntK]
  rw [hgive]
  have hol : ofLen n s = true := by unfold ofLen; simpa using hn
  have hli : lastI [s] n = some 0 := lastI_some (by simp) (by simpa using hn) (fun j hj h => by simp at hj; omega)
  refine ⟨rfl, rfl, by unfold keptIds; rw [List.filter_cons_of_pos hol]; rfl, ?_, ?_, rfl⟩
  · rw [take_kept hf hli]; rfl
  · rw [take_kept hf hli]; rfl
/-- The law's loop: sizes are taken. -/
def LastWay (w wr : World) (k hb bi P : Nat) (i : Nat) : Prop := ∃ st, LiveK w (fun _ => False) wr k hb bi st ∧ Bare st ∧ st.h.last ≤ i ∧ st.h.P = P
set_option maxHeartbeats 4000000 in
set_option maxRecDepth 20000 in
theorem largeLast_walk (pages : Int) (sa : Option Addr) (xs : List Int) (m0 c0 : Nat) (n : Int) (w : World) (hp : I64 pages) (hm : m0 = xs.length) (hl : xs.length ≤ maxLen) (hr : RdV w sa (ints xs)) (hok : ∀ x ∈ xs, I64 x) (hn : I64 n) :
    Calls Tryz.prog 3 #[.int .i64 pages, .slice sa m0 c0, .int .i64 n] w fun e w' => e = .returned (.bool true) ∧ Bel w w' := by
  subst hm
  have hl2 : xs.length ≤ 9223372036854775807 := by unfold maxLen at hl; omega
  by_cases hpg : pages < 4 ∨ 1024 < pages
  · have HNB := Lib.hid (heap_New_bad pages w hp hpg)
    clear hr hok hpg
    by_cases c0 : 100 < pages
    · go_enter Tryz.func3, Tryz.ntmps3
      go_wp2_with fail
      refine HNB.out.mono ?_; rintro e w1 ⟨rfl, rfl⟩
      go_wp2_with fail
      refine (awake10 _).mono ?_; rintro e w' ⟨rfl, hB⟩
      go_wp2
      go_ret
      exact ⟨rfl, hB⟩
    by_cases c1 : 60 < (xs.length : Int)
    all_goals
      go_enter Tryz.func3, Tryz.ntmps3
      go_wp2_with fail
      refine HNB.out.mono ?_; rintro e w1 ⟨rfl, rfl⟩
      go_wp2_with fail
      refine (awake10 _).mono ?_; rintro e w' ⟨rfl, hB⟩
      go_wp2
      go_ret
      exact ⟨rfl, hB⟩
  obtain ⟨P, rfl⟩ := Int.eq_ofNat_of_zero_le (show 0 ≤ pages by omega)
  have HNEW := Lib.hid (heap_New P w (by omega) (by omega))
  have HRD := Lib.hid hr
  have HOK := Lib.hid hok
  clear hr hok hpg
  by_cases c0 : 100 < (P : Int)
  · go_enter Tryz.func3, Tryz.ntmps3
    go_wp2_with fail
    refine HNEW.out.mono ?_; rintro e w1 hN
    obtain ⟨hb, bi, rfl, hL⟩ := liveG_new hN
    have HB := Lib.hid hL.bel
    clear hN hL
    go_wp2_with fail
    refine (awake10 _).mono ?_; rintro e w' ⟨rfl, hB⟩
    go_wp2
    go_ret
    exact ⟨rfl, HB.out.trans hB⟩
  by_cases c1 : 60 < (xs.length : Int)
  · go_enter Tryz.func3, Tryz.ntmps3
    go_wp2_with fail
    refine HNEW.out.mono ?_; rintro e w1 hN
    obtain ⟨hb, bi, rfl, hL⟩ := liveG_new hN
    have HB := Lib.hid hL.bel
    clear hN hL
    go_wp2_with fail
    refine (awake10 _).mono ?_; rintro e w' ⟨rfl, hB⟩
    go_wp2
    go_ret
    exact ⟨rfl, HB.out.trans hB⟩
  have c2 : xs.length ≤ 60 := by omega
  go_enter Tryz.func3, Tryz.ntmps3
  go_wp2_with fail
  refine HNEW.out.mono ?_; rintro e w1 hN
  obtain ⟨hb, bi, rfl, hL⟩ := liveG_new hN
  have HL0 := Lib.hid hL
  clear hN hL HNEW
  go_wp2_with fail
  refine (large_New HL0.out).mono ?_
  rintro e w2 ⟨k, rfl, hL2, hB2⟩
  have HST : Hid (LastWay w w2 k hb bi P 0) := Lib.hid ⟨_, hL2, ⟨rfl, rfl, rfl⟩, Nat.le_refl _, rfl⟩
  clear hL2 hB2 HL0
  go_wp2_with fail
  go_loopw [10] (fun kk wr => ∃ i : Nat, i ≤ xs.length ∧ kk = .int .i64 i ∧ Hid (LastWay w wr k hb bi P i)) (fun kk wr => xs.length - (intOf kk).toNat)
  case atStart => exact ⟨0, Nat.zero_le _, rfl, HST⟩
  case round =>
    clear HST
    obtain ⟨i, hi, rfl, HX⟩ := hrel
    obtain ⟨st, hL, hbare, hlast, hP⟩ := HX.out
    by_cases hlt : i < xs.length
    · obtain ⟨b, o, rfl, p0⟩ := (HRD.out.bel hL.bel).at i hlt
      have hx := HOK.out xs[i] (List.getElem_mem hlt)
      obtain ⟨x, hxe⟩ : ∃ x, xs[i] = x := ⟨_, rfl⟩
      rw [hxe] at p0 hx
      have HT := Lib.hid (large_Take hL x hx (by omega))
      have d0 : (i : Int) < xs.length := by omega
      have HF := Lib.hid (And.intro (hbare.take x) (And.intro (take_last st x) (take_P st x)))
      clear hxe hx HX hL
      obtain ⟨s, hs⟩ : ∃ s, (st.take x).2.1 = s := ⟨_, rfl⟩
      rw [hs] at HT
      obtain ⟨s1, ⟨s2, s3⟩, s4⟩ := s
      simp only [spV] at HT
      clear hs
      go_wp2_with fail
      refine HT.out.mono ?_
      clear HT
      rintro e w7 ⟨rfl, hL7⟩
      have HN : Hid (LastWay w w7 k hb bi P (i + 1)) := Lib.hid ⟨_, hL7.1, HF.out.1, by have := HF.out.2.1; omega, HF.out.2.2.trans hP⟩
      clear hL7
      go_wp2
      go_roundw
      case rel => exact ⟨i + 1, by omega, by go_num, HN⟩
      case measure => simp [intOf]; omega
    · obtain rfl : i = xs.length := by omega
      have HT := Lib.hid (large_Take hL n hn (by omega))
      have hlaw := fun e => last_law hL.inv hbare (n := n) e
      have hwfs : ∀ e : (st.take n).2.2 = 0, (Lit.int .i64 (st.take n).2.1.1).wf = true := fun e => by
        obtain ⟨s, e1, _, _, _, _, e5⟩ := take_made hL.inv hbare e
        rw [e1, e5]; exact wf_i64 (by omega) (by omega)
      have hlast1 := take_last st n
      obtain ⟨st1, hst1⟩ : ∃ st1, (st.take n).1 = st1 := ⟨_, rfl⟩
      obtain ⟨s, hs⟩ : ∃ s, (st.take n).2.1 = s := ⟨_, rfl⟩
      obtain ⟨en, hen⟩ : ∃ en, (st.take n).2.2 = en := ⟨_, rfl⟩
      rw [hst1, hs, hen] at HT
      rw [hst1, hs, hen] at hlaw
      rw [hs, hen] at hwfs
      rw [hst1] at hlast1
      have HLAW := Lib.hid hlaw
      have HWF := Lib.hid hwfs
      obtain ⟨s1, ⟨s2, s3⟩, s4⟩ := s
      simp only [spV] at HT
      clear hlaw hwfs HX hL hst1 hs hen
      go_wp2_with fail
      refine HT.out.mono ?_
      clear HT
      rintro e w3 ⟨rfl, hL3⟩
      by_cases he : en = 0
      · subst he
        obtain ⟨h1, h2, h3, h4, h5, h6⟩ := HLAW.out rfl
        have hN3 := hL3.1.watch ((Bel.refl w3).alloc (.cells #[.int .i64 s1, .int .i64 s2, .int .i64 s3, .int .i64 s4] 33)) (fun i => i = w3.heap.size) (fun i hi => by subst hi; simp)
        have hb4 := (Bel.refl (w3.alloc (.cells #[.int .i64 s1, .int .i64 s2, .int .i64 s3, .int .i64 s4] 33))).alloc (.cells #[.int .i64 s1] 3)
        have g3 := blk_alloc w3 (.cells #[.int .i64 s1, .int .i64 s2, .int .i64 s3, .int .i64 s4] 33)
        have HG := Lib.hid (large_Give (hN3.then_bel hb4) (some ⟨w3.heap.size + 1, 0, none⟩) [s1] 1 (by simp) (rdv_one (blk_allocAt _ _ _ (by simp))) (by intro x hx; simp at hx; subst hx; exact HWF.out rfl) (by omega))
        obtain ⟨r0, _, _, _⟩ := four_cells g3
        have HG3 := Lib.hid (And.intro g3 hb4)
        rw [h1] at HG
        obtain ⟨st2, hst2⟩ : ∃ st2, (st1.give [s1]).1 = st2 := ⟨_, rfl⟩
        rw [hst2] at HG h2 h4 h5 h6
        have HF := Lib.hid (And.intro h2 (And.intro h3 (And.intro h4 (And.intro h5 h6))))
        clear hL3 hN3 hb4 g3 h1 h2 h3 h4 h5 h6 hst2
        go_wp2_with fail
        refine HG.out.mono ?_
        clear HG
        rintro e w4 ⟨rfl, hL4⟩
        have hK4 := large_Kept hL4.1 n (by rw [HF.out.1]; simp)
        rw [HF.out.1, HF.out.2.1] at hK4
        have HK := Lib.hid hK4
        have HL4 := Lib.hid (And.intro hL4.1 (hL4.2.heap (HG3.out.2.blk HG3.out.1) (fun h => h (.inr rfl))))
        clear hL4 hK4 r0
        go_wp2_with fail
        refine HK.out.mono ?_
        clear HK
        rintro e w5 ⟨v5, rfl, ho5, hB5⟩
        obtain ⟨a5, c5, rfl, hr5, _, hp5⟩ := own_slice2 ho5
        have hbk5 : ∀ p, a5 = some p → w4.heap.size ≤ p.block ∧ p.block < w5.heap.size := fun p hp => ⟨hp5 p hp, by
          rcases hr5 with h | ⟨b, o, e, h⟩
          · simp [ints] at h
          · rw [hp] at e; cases e
            exact World.block_lt_of_cell? _ _ (h 0 (by simp [ints]))⟩
        have hN5 := HL4.out.1.watch hB5 (bOf a5) (fun i hi => by obtain ⟨p, hp, rfl⟩ := hi; exact hbk5 p hp)
        have HT2 := Lib.hid (large_Take hN5 n hn (by rw [HF.out.2.2.2.2]; omega))
        rw [HF.out.2.2.1] at HT2
        have HL5 := Lib.hid (And.intro hr5 (hB5.blk HL4.out.2))
        simp only [spV] at HT2
        clear ho5 hr5 hB5 hp5 hN5 hbk5
        go_wp2_with fail
        refine HT2.out.mono ?_
        clear HT2
        rintro e w6 ⟨rfl, hL6⟩
        have hr6 : RdV w6 a5 (ints [s1]) := by
          refine HL5.out.1.fr hL6.2 (fun p hp h => h (.inr ⟨p, hp, rfl⟩))
        have g6 := hL6.2.heap HL5.out.2 (fun h => h (.inl (.inr rfl)))
        have hb7 := (Bel.refl w6).alloc (.cells #[.int .i64 s1, .int .i64 s2, .int .i64 s3, .int .i64 s4] 33)
        have hb8 := hb7.alloc (.cells #[.int .i64 s1] 3)
        obtain ⟨r0, r1, r2, r3⟩ := four_cells (hb7.blk g6)
        obtain ⟨t0, t1, t2, t3⟩ := four_cells (blk_alloc w6 (.cells #[.int .i64 s1, .int .i64 s2, .int .i64 s3, .int .i64 s4] 33))
        have HI := Lib.hid (ref_Ints a5 (some ⟨w6.heap.size + 1, 0, none⟩) [s1] [s1] 1 c5 1 1 _ rfl rfl (by simp [maxLen]) (by simp [maxLen]) (hr6.bel hb8) (rdv_one (blk_allocAt _ _ _ (by simp))))
        rw [show decide (([s1] : List Int) = [s1]) = true from by simp] at HI
        have hK7 := large_Kept (hL6.1.then_bel hb8) n (by rw [HF.out.2.2.2.1]; simp)
        rw [HF.out.2.2.2.1] at hK7
        have HL6 := Lib.hid (And.intro (hL6.1.then_bel hb8) hK7)
        clear hL6 hr6 g6 hb7 hb8 hK7
        go_wp2_with fail
        refine HI.out.mono ?_
        clear HI
        rintro e w7 ⟨rfl, hB7⟩
        have hK8 := large_Kept (HL6.out.1.then_bel hB7) n (by rw [HF.out.2.2.2.1]; simp)
        rw [HF.out.2.2.2.1, show keptIds [] n = [] from rfl] at hK8
        have HK8 := Lib.hid hK8
        have HB7 := Lib.hid (HL6.out.1.bel.trans hB7)
        clear hB7 hK8
        go_wp2_with fail
        refine HK8.out.mono ?_
        clear HK8
        rintro e w8 ⟨v8, rfl, ho8, hB8⟩
        obtain ⟨a8, c8, rfl, _⟩ := own_slice ho8
        have HB8 := Lib.hid (HB7.out.trans hB8)
        clear ho8 hB8
        go_wp2_with fail
        refine (awake10 _).mono ?_; rintro e w' ⟨rfl, hB⟩
        go_wp2
        go_ret
        exact ⟨rfl, HB8.out.trans hB⟩
      · have e1 : (en != 0) = true := by simpa using he
        have HB := Lib.hid (hL3.1.bel.alloc (.cells #[.int .i64 s1, .int .i64 s2, .int .i64 s3, .int .i64 s4] 33))
        clear hL3
        go_wp2_with fail
        refine (awake10 _).mono ?_; rintro e w' ⟨rfl, hB⟩
        go_wp2
        go_ret
        exact ⟨rfl, HB.out.trans hB⟩
end Go.Proofs.YtbldidlbhahciaaGreat

namespace Go.Proofs.YtbldidlbhahciaaGreat.largeLast
open Go.ChangeShapes Go.WideShapes Go.ChangeAt Go.RowKit
set_option linter.unusedVariables false

set_option maxRecDepth 100000 in
theorem lifted (os : Os) (started : os.Started) (H : Type) (enc : TypeId × Value → H) :
    ReturnsInHanded {} Tryz.checked os 3 .any (Rows.largeLastSpec.pre6 enc Tryz.prog Tryz.f3 Rows.largeLastRow.domain false) (Rows.largeLastSpec.post enc Tryz.prog Tryz.f3 false true false false) := by
  refine returnsInHanded_of_change (C := Tryz.checked) lk_own started (by kernel_rfl) Tryz.func3
    (ChangeSpec.witness6 (enc := enc) (C := Tryz.checked) false ⟨#[], #[.int .i64 0, .slice none 0 0, .int .i64 0], []⟩ 8 (by kernel_rfl) (by kernel_rfl) (by kernel_rfl) (by kernel_rfl)) ?_
  intro W base args ds gs before hval0 hW hcnd _
  have hval : ∀ (j : Nat) t v, Tryz.f3.params[j]? = some t → args[j]? = some v → Value.okWide Tryz.prog W .any base t v := hval0
  have hW' := hW
  obtain ⟨p, q, hA0, hV, rfl, hfz, hnd⟩ := hW
  have hA : DataW.TrodAll enc Tryz.prog W 0 (fun _ => true) true Tryz.f3.params.toList args.toList ds p := hA0
  rw [Tryz.params3] at hA hval
  obtain ⟨v0, vs0, d0, ds0, p0, q0, hargs, rfl, rfl, h0, r_0⟩ := trodAll_cons hA
  obtain ⟨v1, vs1, d1, ds1, p1, q1, rfl, rfl, rfl, h1, r_1⟩ := trodAll_cons r_0
  obtain ⟨v2, vs2, d2, ds2, p2, q2, rfl, rfl, rfl, h2, r_2⟩ := trodAll_cons r_1
  obtain ⟨rfl, rfl, rfl⟩ := trodAll_nil r_2
  obtain rfl : args = #[v0, v1, v2] := by cases args; simp_all
  obtain ⟨rfl, rfl⟩ := trodVars_none hV
  obtain ⟨a0, rfl, rfl, rfl, w0⟩ := open_int Tryz.underlying3 (hval 0 3 v0 rfl rfl) h0
  obtain ⟨s1, l1, c1, rfl⟩ := okWide_slice Tryz.underlying22 (hval 1 22 v1 rfl rfl)
  have k1 := h1
  have lt1 : ∀ x ∈ p1, x.block < W.heap.size := by obtain ⟨m, hm⟩ := k1; exact DataW.trod_lt m _ _ _ hm
  obtain ⟨x1, e1, m1, r1, f1⟩ := arg_nums Tryz.underlying22 Tryz.underlying3 (by kernel_rfl) h1
  obtain ⟨a2, rfl, rfl, rfl, w2⟩ := open_int Tryz.underlying3 (hval 2 3 v2 rfl rfl) h2
  clear hA0 hval0
  refine (largeLast_walk a0 s1 x1 l1 c1 a2 W (i64_of_wf w0) e1 m1 r1 (fun x hx => i64_of_wf (f1 x hx)) (i64_of_wf w2)).mono fun e W' ⟨he, bel⟩ => ?_
  subst he
  exact ⟨_, rfl, _, _, _, [], _, [], hW', trodAll_mk1 (shut_bool Tryz.underlying4 _), (trodAll_cons_mk (shut_int Tryz.underlying3 w0) (trodAll_cons_mk (Below.trod lk_laid (by kernel_rfl) (of_decide_eq_true (by kernel_rfl)) k1 bel lt1) (trodAll_cons_mk (shut_int Tryz.underlying3 w2) trodAll_mk0))), rfl, Below.frame bel _, fun h => by cases h⟩

theorem over : Rows.largeLastRow.holds Tryz.pinned (OpenSpec.ofChange Rows.largeLastSpec) :=
  OpenClaim.holds_of_wide 3 Tryz.f3 rfl rfl rfl rfl rfl rfl rfl ⟨rfl, rfl, rfl, rfl, rfl⟩ rfl rfl rfl rfl rfl (by kernel_rfl) Tryz.func3 (by kernel_rfl)
    (of_decide_eq_true (by kernel_rfl)) (by unfold Func.isWrapper; first | (rw [if_pos (by decide +kernel)]; kernel_rfl) | (rw [if_neg (by decide +kernel)]; exact ⟨rfl, rfl⟩))
    (fun os started H enc _ => lifted os started H enc)

theorem proved : Rows.LargeLastSaid := over
#print axioms proved
end Go.Proofs.YtbldidlbhahciaaGreat.largeLast

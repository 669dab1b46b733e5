/- Layer 10: a keeper and its twin, side by side. Layer 10: when all are given back, all pages are one run. Lists of runs that were made; the twin's Same at one list twice. The slow twin of layer 5: Same. Layer 10: what is given back last is taken next. Layer 10: awake. -/
import Derived.Test.YtbldidlbhahciaaGreatGLargeHolds14
import Derived.Test.YtbldidlbhahciaaGreatGLargeHolds1
import Derived.Test.YtbldidlbhahciaaGreatGLargeHolds12
import Derived.Deep.QuietTactic
import Derived.BigQuiet
set_option linter.unusedVariables false
set_option linter.unusedSimpArgs false
namespace Go.Proofs.YtbldidlbhahciaaGreat
open Go.RowKit

/-! ### the example's states -/
theorem free_is {h : Hp} {L : List Rn} (hL : Canon 1024 L) (hp : ∀ p : Int, inL L p = true ↔ h.freeP p = true) : h.free = L := by
  refine canon_unique (q := 1024) _ _ (listP_canon _) hL (fun p => ?_)
  rw [hp]
  unfold Hp.free
  rw [inL_listP]
  constructor
  · exact fun h => h.2.2
  · intro h9
    have hh := (hp p).2 h9
    obtain ⟨r, hr, hi⟩ := List.any_eq_true.1 hh
    have h1 := hL.ok r hr
    have h2 := inR_iff.1 hi
    exact ⟨by omega, by omega, h9⟩
def S1 : List Sp := [(1, (0, 4), -1)]
def S2 : List Sp := [(1, (0, 4), -1), (2, (4, 4), -1)]
def S3 : List Sp := [(1, (0, 4), -1), (2, (4, 4), -1), (3, (8, 4), -1)]
theorem ex0 : (hpNew 12).free = [(0, 12)] := by
  refine free_is ⟨by intro r hr; simp at hr; subst hr; decide, by simp⟩ (fun p => ?_)
  unfold Hp.freeP hpNew
  simp [inL, inR]
theorem ex1 : (Hp.mk 12 S1 1).free = [(4, 8)] := by
  refine free_is ⟨by intro r hr; simp at hr; subst hr; decide, by simp⟩ (fun p => ?_)
  unfold Hp.freeP S1
  simp [inL, inR]
  omega
theorem ex2 : (Hp.mk 12 S2 2).free = [(8, 4)] := by
  refine free_is ⟨by intro r hr; simp at hr; subst hr; decide, by simp⟩ (fun p => ?_)
  unfold Hp.freeP S2
  simp [inL, inR]
  omega
theorem make_of {h : Hp} {F : List Rn} {n ord t m : Int} (hf : h.free = F) (hb : bestF F n = (t, m)) (hm : ¬ m ≤ 0) (hc : ¬ (n < 1 ∨ ord < -1 ∨ 4 ≤ ord)) : h.make n ord = (⟨h.P, h.S ++ [((h.last : Int) + 1, (t, n), ord)], h.last + 1⟩, ((h.last : Int) + 1, (t, n), ord), 0) := by
  unfold Hp.make
  rw [if_neg hc, hf, hb, if_neg hm]
theorem ex_take1 : (ksNew (hpNew 12)).take 4 = (⟨⟨12, S1, 1⟩, [], [], false⟩, (1, (0, 4), -1), 0) := by
  rw [take_make (by decide +kernel) rfl]
  show (_, ((hpNew 12).make 4 (-1)).2) = _
  rw [show (ksNew (hpNew 12)).h = hpNew 12 from rfl, make_of ex0 (t := 0) (m := 12) (by decide) (by decide) (by decide)]
  rfl
theorem ex_take2 : (KS.mk ⟨12, S1, 1⟩ [] [] false).take 4 = (⟨⟨12, S2, 2⟩, [], [], false⟩, (2, (4, 4), -1), 0) := by
  rw [take_make (by decide +kernel) rfl]
  show (KS.mk ((Hp.mk 12 S1 1).make 4 (-1)).1 _ _ _, ((Hp.mk 12 S1 1).make 4 (-1)).2) = _
  rw [make_of ex1 (t := 4) (m := 8) (by decide) (by decide) (by decide)]
  rfl
theorem ex_take3 : (KS.mk ⟨12, S2, 2⟩ [] [] false).take 4 = (⟨⟨12, S3, 3⟩, [], [], false⟩, (3, (8, 4), -1), 0) := by
  rw [take_make (by decide +kernel) rfl]
  show (KS.mk ((Hp.mk 12 S2 2).make 4 (-1)).1 _ _ _, ((Hp.mk 12 S2 2).make 4 (-1)).2) = _
  rw [make_of ex2 (t := 8) (m := 4) (by decide) (by decide) (by decide)]
  rfl
theorem ex_give : (KS.mk ⟨12, S3, 3⟩ [] [] false).give [1, 2, 3] = (⟨⟨12, S2, 3⟩, S2, [], false⟩, 0) := by
  have h1 : LargeIds (Hp.mk 12 S3 3) [1, 2, 3] := by decide +kernel
  have h2 : ¬ ([1, 2, 3].any (KS.mk ⟨12, S3, 3⟩ [] [] false).has = true) := by decide
  unfold KS.give
  rw [if_pos h1, if_neg h2]
  rfl
set_option maxHeartbeats 1000000 in
set_option maxRecDepth 20000 in
theorem awake10 (w : World) : Calls Tryz.prog 9 #[] w fun e w' => e = .returned (.bool true) ∧ Bel w w' := by
  go_enter Tryz.func9, Tryz.ntmps9
  go_wp2_with fail
  refine (heap_New 12 w (by omega) (by omega)).mono ?_
  rintro e w1 hN
  obtain ⟨hb, bi, rfl, hL⟩ := liveG_new hN
  have HL := Lib.hid hL
  clear hN hL
  go_wp2_with fail
  refine (large_New HL.out).mono ?_
  rintro e w2 ⟨k, rfl, hL2, hB2⟩
  have HT1 := Lib.hid (large_Take hL2 4 ⟨by omega, by omega⟩ (by decide))
  rw [ex_take1] at HT1
  clear hL2 hB2 HL
  simp only [spV] at HT1
  go_wp2_with fail
  refine HT1.out.mono ?_
  clear HT1
  rintro e w3 ⟨rfl, hL3⟩
  have hl3 := hL3.1.then_bel ((Bel.refl w3).alloc (.cells #[.int .i64 1, .int .i64 0, .int .i64 4, .int .i64 (-1)] 33))
  have g3 := blk_alloc w3 (.cells #[.int .i64 1, .int .i64 0, .int .i64 4, .int .i64 (-1)] 33)
  have hl3' := hl3.watch (Bel.refl _) (fun _ => False) (fun i h => h.elim)
  have hN3 := hL3.1.watch ((Bel.refl w3).alloc (.cells #[.int .i64 1, .int .i64 0, .int .i64 4, .int .i64 (-1)] 33)) (fun i => i = w3.heap.size) (fun i hi => by subst hi; simp)
  have HT2 := Lib.hid (large_Take hN3 4 ⟨by omega, by omega⟩ (by decide))
  rw [ex_take2] at HT2
  have HG3 := Lib.hid g3
  clear hL3 hl3 hl3' hN3 g3
  simp only [spV] at HT2
  go_wp2_with fail
  refine HT2.out.mono ?_
  clear HT2
  rintro e w4 ⟨rfl, hL4⟩
  have g34 := hL4.2.heap HG3.out (fun h => h (.inr rfl))
  have hN4 := hL4.1.watch ((Bel.refl w4).alloc (.cells #[.int .i64 2, .int .i64 4, .int .i64 4, .int .i64 (-1)] 33)) (fun i => i = w4.heap.size) (fun i hi => by subst hi; simp)
  have HT3 := Lib.hid (large_Take hN4 4 ⟨by omega, by omega⟩ (by decide))
  rw [ex_take3] at HT3
  have HG4 := Lib.hid (And.intro (blk_alloc_old (.cells #[.int .i64 2, .int .i64 4, .int .i64 4, .int .i64 (-1)] 33) g34) (blk_alloc w4 (.cells #[.int .i64 2, .int .i64 4, .int .i64 4, .int .i64 (-1)] 33)))
  clear hL4 hN4 g34 HG3
  simp only [spV] at HT3
  go_wp2_with fail
  refine HT3.out.mono ?_
  clear HT3
  rintro e w5 ⟨rfl, hL5⟩
  have g35 := hL5.2.heap HG4.out.1 (fun h => h (.inl (.inr rfl)))
  have g45 := hL5.2.heap HG4.out.2 (fun h => h (.inr rfl))
  obtain ⟨r0, _, _, _⟩ := four_cells (blk_alloc_old (.cells #[.int .i64 3, .int .i64 8, .int .i64 4, .int .i64 (-1)] 33) g35)
  obtain ⟨s0, _, _, _⟩ := four_cells (blk_alloc_old (.cells #[.int .i64 3, .int .i64 8, .int .i64 4, .int .i64 (-1)] 33) g45)
  obtain ⟨t0, _, _, _⟩ := four_cells (blk_alloc w5 (.cells #[.int .i64 3, .int .i64 8, .int .i64 4, .int .i64 (-1)] 33))
  have hb6 := ((Bel.refl w5).alloc (.cells #[.int .i64 3, .int .i64 8, .int .i64 4, .int .i64 (-1)] 33)).alloc (.cells #[.int .i64 1, .int .i64 2, .int .i64 3] 3)
  have HG := Lib.hid (large_Give (hL5.1.then_bel hb6) (some ⟨w5.heap.size + 1, 0, none⟩) [1, 2, 3] 3 (by decide) (by have := RdV.new (w5.alloc (.cells #[.int .i64 3, .int .i64 8, .int .i64 4, .int .i64 (-1)] 33)) #[.int .i64 1, .int .i64 2, .int .i64 3] 3; simpa [ints] using this) (by intro x hx; simp at hx; rcases hx with rfl | rfl | rfl <;> decide) (by decide))
  rw [ex_give] at HG
  clear hL5 hb6 g35 g45 HG4
  go_wp2_with fail
  refine HG.out.mono ?_
  clear HG
  rintro e w6 ⟨rfl, hL6⟩
  have HL6 := Lib.hid hL6.1
  have HK := Lib.hid (large_Kept hL6.1 4 (by decide))
  have hks : keptIds S2 4 = [1, 2] := by decide
  rw [show (KS.mk ⟨12, S2, 3⟩ S2 [] false).kept = S2 from rfl, hks] at HK
  clear hL6 hks
  go_wp2_with fail
  refine HK.out.mono ?_
  clear HK
  rintro e w7 ⟨v, rfl, ho, hB7⟩
  obtain ⟨a7, c7, rfl, hr7, _, _⟩ := own_slice2 ho
  have hb7 := (Bel.refl w7).alloc (.cells #[.int .i64 1, .int .i64 2] 3)
  have HI := Lib.hid (ref_Ints a7 (some ⟨w7.heap.size, 0, none⟩) [1, 2] [1, 2] 2 c7 2 2 (w7.alloc (.cells #[.int .i64 1, .int .i64 2] 3)) rfl rfl (by decide) (by decide) (hr7.bel hb7) (RdV.new w7 #[.int .i64 1, .int .i64 2] 3))
  rw [show decide (([1, 2] : List Int) = [1, 2]) = true from rfl] at HI
  have HL7 := Lib.hid (HL6.out.then_bel (hB7.trans hb7))
  clear ho hr7 hB7 hb7 HL6
  go_wp2_with fail
  refine HI.out.mono ?_
  clear HI
  rintro e w8 ⟨rfl, hB8⟩
  have HL8 := Lib.hid (HL7.out.then_bel hB8)
  clear hB8 HL7
  go_wp2_with fail
  refine (HL8.out.heapSpans _ (Bel.refl _)).mono ?_
  rintro e w9 ⟨a9, c9, zs, rfl, hz, _, hB9, _⟩
  have hzl : zs.length = 2 := by rw [hz.1.length_eq]; rfl
  have HE := Lib.hid (HL8.out.bel.trans hB9)
  clear hz hB9
  rw [hzl]
  go_wp2
  go_ret
  exact ⟨rfl, HE.out⟩
end Go.Proofs.YtbldidlbhahciaaGreat

namespace Go.Proofs.YtbldidlbhahciaaGreat
open Go.RowKit

/-- The block of an address, if there is one. -/
def bOf (a : Option Addr) (i : Nat) : Prop := ∃ p, a = some p ∧ p.block = i
/-- Nothing is kept, nothing waits, it isn't held. -/
structure Bare (k : KS) : Prop where
  kept : k.kept = []
  waits : k.waits = []
  held : k.held = false
theorem Bare.take {k : KS} (H : Bare k) (n : Int) : Bare (k.take n).1 := by
  cases hf : fitsF n with
  | false => rw [take_bad hf]; exact H
  | true =>
    have hl : lastI k.kept n = none := by rw [H.kept]; rfl
    rw [take_make hf hl]; exact ⟨H.kept, H.waits, H.held⟩
theorem take_last (k : KS) (n : Int) : (k.take n).1.h.last ≤ k.h.last + 1 := by
  cases hf : fitsF n with
  | false => rw [take_bad hf]; exact Nat.le_succ _
  | true =>
    cases hl : lastI k.kept n with
    | none => rw [take_make hf hl]; exact Hp.make_last _ _ _
    | some i => rw [take_kept hf hl]; exact Nat.le_succ _
theorem take_P (k : KS) (n : Int) : (k.take n).1.h.P = k.h.P := by
  cases hf : fitsF n with
  | false => rw [take_bad hf]
  | true =>
    cases hl : lastI k.kept n with
    | none => rw [take_make hf hl]; exact Hp.make_P _ _ _
    | some i => rw [take_kept hf hl]
/-- What a take that makes leaves. -/
theorem take_made {k : KS} (H : KInv k) (hb : Bare k) {n : Int} (e : (k.take n).2.2 = 0) :
    ∃ s : Sp, (k.take n).2.1 = s ∧ s.2.1.2 = n ∧ s.2.2 = -1 ∧ fitsF n = true ∧ (k.take n).1 = ⟨⟨k.h.P, k.h.S ++ [s], k.h.last + 1⟩, [], [], false⟩ ∧ s.1 = (k.h.last : Int) + 1 := by
  cases hf : fitsF n with
  | false => rw [take_bad hf] at e; simp at e
  | true =>
    have hl : lastI k.kept n = none := by rw [hb.kept]; rfl
    rw [take_make hf hl] at e ⊢
    obtain ⟨e1, e2⟩ := Hp.make_ok e
    refine ⟨(k.h.make n (-1)).2.1, rfl, by rw [e2], by rw [e2], rfl, by rw [e1, hb.kept, hb.waits, hb.held], by rw [e2]⟩
theorem last_law {k : KS} (H : KInv k) (hb : Bare k) {n : Int} (e : (k.take n).2.2 = 0) :
    ((k.take n).1.give [(k.take n).2.1.1]).2 = 0 ∧ ((k.take n).1.give [(k.take n).2.1.1]).1.kept = [(k.take n).2.1] ∧ keptIds [(k.take n).2.1] n = [(k.take n).2.1.1] ∧
      (((k.take n).1.give [(k.take n).2.1.1]).1.take n).2 = ((k.take n).2.1, 0) ∧ (((k.take n).1.give [(k.take n).2.1.1]).1.take n).1.kept = [] ∧ ((k.take n).1.give [(k.take n).2.1.1]).1.h = (k.take n).1.h := by
  obtain ⟨s, e1, hn, ho, hf, e2, hs⟩ := take_made H hb e
  have hi := H.take n
  have hok := hi.ok
  rw [e2] at hok
  rw [e1, e2]
  have hg : getS (k.h.S ++ [s]) s.1 = some s := getS_self (h := ⟨k.h.P, k.h.S ++ [s], k.h.last + 1⟩) hok (by simp)
  have hso : spOf ⟨k.h.P, k.h.S ++ [s], k.h.last + 1⟩ s.1 = s := by unfold spOf; rw [hg]; rfl
  have hL : LargeIds ⟨k.h.P, k.h.S ++ [s], k.h.last + 1⟩ [s.1] := ⟨fun x hx => by
    simp at hx; subst hx
    unfold largeId; rw [hso, hg, ho, hn, hf]; rfl, by simp⟩
  have hgive : (KS.mk ⟨k.h.P, k.h.S ++ [s], k.h.last + 1⟩ [] [] false).give [s.1] = (⟨⟨k.h.P, k.h.S ++ [s], k.h.last + 1⟩, [s], [], false⟩, 0) := by
    unfold KS.give
    rw [if_pos hL, if_neg (by simp [KS.has]), List.map_cons, List.map_nil, hso]
    simp [KS.give1, cntK]
  rw [hgive]
  have hol : ofLen n s = true := by unfold ofLen; simpa using hn
  have hli : lastI [s] n = some 0 := lastI_some (by simp) (by simpa using hn) (fun j hj h => by simp at hj; omega)
  refine ⟨rfl, rfl, by unfold keptIds; rw [List.filter_cons_of_pos hol]; rfl, ?_, ?_, rfl⟩
  · rw [take_kept hf hli]; rfl
  · rw [take_kept hf hli]; rfl
/-- The law's loop: sizes are taken. -/
def LastWay (w wr : World) (k hb bi P : Nat) (i : Nat) : Prop := ∃ st, LiveK w (fun _ => False) wr k hb bi st ∧ Bare st ∧ st.h.last ≤ i ∧ st.h.P = P
set_option maxHeartbeats 4000000 in
set_option maxRecDepth 20000 in
theorem largeLast_walk (pages : Int) (sa : Option Addr) (xs : List Int) (m0 c0 : Nat) (n : Int) (w : World) (hp : I64 pages) (hm : m0 = xs.length) (hl : xs.length ≤ maxLen) (hr : RdV w sa (ints xs)) (hok : ∀ x ∈ xs, I64 x) (hn : I64 n) :
    Calls Tryz.prog 3 #[.int .i64 pages, .slice sa m0 c0, .int .i64 n] w fun e w' => e = .returned (.bool true) ∧ Bel w w' := by
  subst hm
  have hl2 : xs.length ≤ 9223372036854775807 := by unfold maxLen at hl; omega
  by_cases hpg : pages < 4 ∨ 1024 < pages
  · have HNB := Lib.hid (heap_New_bad pages w hp hpg)
    clear hr hok hpg
    by_cases c0 : 100 < pages
    · go_enter Tryz.func3, Tryz.ntmps3
      go_wp2_with fail
      refine HNB.out.mono ?_; rintro e w1 ⟨rfl, rfl⟩
      go_wp2_with fail
      refine (awake10 _).mono ?_; rintro e w' ⟨rfl, hB⟩
      go_wp2
      go_ret
      exact ⟨rfl, hB⟩
    by_cases c1 : 60 < (xs.length : Int)
    all_goals
      go_enter Tryz.func3, Tryz.ntmps3
      go_wp2_with fail
      refine HNB.out.mono ?_; rintro e w1 ⟨rfl, rfl⟩
      go_wp2_with fail
      refine (awake10 _).mono ?_; rintro e w' ⟨rfl, hB⟩
      go_wp2
      go_ret
      exact ⟨rfl, hB⟩
  obtain ⟨P, rfl⟩ := Int.eq_ofNat_of_zero_le (show 0 ≤ pages by omega)
  have HNEW := Lib.hid (heap_New P w (by omega) (by omega))
  have HRD := Lib.hid hr
  have HOK := Lib.hid hok
  clear hr hok hpg
  by_cases c0 : 100 < (P : Int)
  · go_enter Tryz.func3, Tryz.ntmps3
    go_wp2_with fail
    refine HNEW.out.mono ?_; rintro e w1 hN
    obtain ⟨hb, bi, rfl, hL⟩ := liveG_new hN
    have HB := Lib.hid hL.bel
    clear hN hL
    go_wp2_with fail
    refine (awake10 _).mono ?_; rintro e w' ⟨rfl, hB⟩
    go_wp2
    go_ret
    exact ⟨rfl, HB.out.trans hB⟩
  by_cases c1 : 60 < (xs.length : Int)
  · go_enter Tryz.func3, Tryz.ntmps3
    go_wp2_with fail
    refine HNEW.out.mono ?_; rintro e w1 hN
    obtain ⟨hb, bi, rfl, hL⟩ := liveG_new hN
    have HB := Lib.hid hL.bel
    clear hN hL
    go_wp2_with fail
    refine (awake10 _).mono ?_; rintro e w' ⟨rfl, hB⟩
    go_wp2
    go_ret
    exact ⟨rfl, HB.out.trans hB⟩
  have c2 : xs.length ≤ 60 := by omega
  go_enter Tryz.func3, Tryz.ntmps3
  go_wp2_with fail
  refine HNEW.out.mono ?_; rintro e w1 hN
  obtain ⟨hb, bi, rfl, hL⟩ := liveG_new hN
  have HL0 := Lib.hid hL
  clear hN hL HNEW
  go_wp2_with fail
  refine (large_New HL0.out).mono ?_
  rintro e w2 ⟨k, rfl, hL2, hB2⟩
  have HST : Hid (LastWay w w2 k hb bi P 0) := Lib.hid ⟨_, hL2, ⟨rfl, rfl, rfl⟩, Nat.le_refl _, rfl⟩
  clear hL2 hB2 HL0
  go_wp2_with fail
  go_loopw [10] (fun kk wr => ∃ i : Nat, i ≤ xs.length ∧ kk = .int .i64 i ∧ Hid (LastWay w wr k hb bi P i)) (fun kk wr => xs.length - (intOf kk).toNat)
  case atStart => exact ⟨0, Nat.zero_le _, rfl, HST⟩
  case round =>
    clear HST
    obtain ⟨i, hi, rfl, HX⟩ := hrel
    obtain ⟨st, hL, hbare, hlast, hP⟩ := HX.out
    by_cases hlt : i < xs.length
    · obtain ⟨b, o, rfl, p0⟩ := (HRD.out.bel hL.bel).at i hlt
      have hx := HOK.out xs[i] (List.getElem_mem hlt)
      obtain ⟨x, hxe⟩ : ∃ x, xs[i] = x := ⟨_, rfl⟩
      rw [hxe] at p0 hx
      have HT := Lib.hid (large_Take hL x hx (by omega))
      have d0 : (i : Int) < xs.length := by omega
      have HF := Lib.hid (And.intro (hbare.take x) (And.intro (take_last st x) (take_P st x)))
      clear hxe hx HX hL
      obtain ⟨s, hs⟩ : ∃ s, (st.take x).2.1 = s := ⟨_, rfl⟩
      rw [hs] at HT
      obtain ⟨s1, ⟨s2, s3⟩, s4⟩ := s
      simp only [spV] at HT
      clear hs
      go_wp2_with fail
      refine HT.out.mono ?_
      clear HT
      rintro e w7 ⟨rfl, hL7⟩
      have HN : Hid (LastWay w w7 k hb bi P (i + 1)) := Lib.hid ⟨_, hL7.1, HF.out.1, by have := HF.out.2.1; omega, HF.out.2.2.trans hP⟩
      clear hL7
      go_wp2
      go_roundw
      case rel => exact ⟨i + 1, by omega, by go_num, HN⟩
      case measure => simp [intOf]; omega
    · obtain rfl : i = xs.length := by omega
      have HT := Lib.hid (large_Take hL n hn (by omega))
      have hlaw := fun e => last_law hL.inv hbare (n := n) e
      have hwfs : ∀ e : (st.take n).2.2 = 0, (Lit.int .i64 (st.take n).2.1.1).wf = true := fun e => by
        obtain ⟨s, e1, _, _, _, _, e5⟩ := take_made hL.inv hbare e
        rw [e1, e5]; exact wf_i64 (by omega) (by omega)
      have hlast1 := take_last st n
      obtain ⟨st1, hst1⟩ : ∃ st1, (st.take n).1 = st1 := ⟨_, rfl⟩
      obtain ⟨s, hs⟩ : ∃ s, (st.take n).2.1 = s := ⟨_, rfl⟩
      obtain ⟨en, hen⟩ : ∃ en, (st.take n).2.2 = en := ⟨_, rfl⟩
      rw [hst1, hs, hen] at HT
      rw [hst1, hs, hen] at hlaw
      rw [hs, hen] at hwfs
      rw [hst1] at hlast1
      have HLAW := Lib.hid hlaw
      have HWF := Lib.hid hwfs
      obtain ⟨s1, ⟨s2, s3⟩, s4⟩ := s
      simp only [spV] at HT
      clear hlaw hwfs HX hL hst1 hs hen
      go_wp2_with fail
      refine HT.out.mono ?_
      clear HT
      rintro e w3 ⟨rfl, hL3⟩
      by_cases he : en = 0
      · subst he
        obtain ⟨h1, h2, h3, h4, h5, h6⟩ := HLAW.out rfl
        have hN3 := hL3.1.watch ((Bel.refl w3).alloc (.cells #[.int .i64 s1, .int .i64 s2, .int .i64 s3, .int .i64 s4] 33)) (fun i => i = w3.heap.size) (fun i hi => by subst hi; simp)
        have hb4 := (Bel.refl (w3.alloc (.cells #[.int .i64 s1, .int .i64 s2, .int .i64 s3, .int .i64 s4] 33))).alloc (.cells #[.int .i64 s1] 3)
        have g3 := blk_alloc w3 (.cells #[.int .i64 s1, .int .i64 s2, .int .i64 s3, .int .i64 s4] 33)
        have HG := Lib.hid (large_Give (hN3.then_bel hb4) (some ⟨w3.heap.size + 1, 0, none⟩) [s1] 1 (by simp) (rdv_one (blk_allocAt _ _ _ (by simp))) (by intro x hx; simp at hx; subst hx; exact HWF.out rfl) (by omega))
        obtain ⟨r0, _, _, _⟩ := four_cells g3
        have HG3 := Lib.hid (And.intro g3 hb4)
        rw [h1] at HG
        obtain ⟨st2, hst2⟩ : ∃ st2, (st1.give [s1]).1 = st2 := ⟨_, rfl⟩
        rw [hst2] at HG h2 h4 h5 h6
        have HF := Lib.hid (And.intro h2 (And.intro h3 (And.intro h4 (And.intro h5 h6))))
        clear hL3 hN3 hb4 g3 h1 h2 h3 h4 h5 h6 hst2
        go_wp2_with fail
        refine HG.out.mono ?_
        clear HG
        rintro e w4 ⟨rfl, hL4⟩
        have hK4 := large_Kept hL4.1 n (by rw [HF.out.1]; simp)
        rw [HF.out.1, HF.out.2.1] at hK4
        have HK := Lib.hid hK4
        have HL4 := Lib.hid (And.intro hL4.1 (hL4.2.heap (HG3.out.2.blk HG3.out.1) (fun h => h (.inr rfl))))
        clear hL4 hK4 r0
        go_wp2_with fail
        refine HK.out.mono ?_
        clear HK
        rintro e w5 ⟨v5, rfl, ho5, hB5⟩
        obtain ⟨a5, c5, rfl, hr5, _, hp5⟩ := own_slice2 ho5
        have hbk5 : ∀ p, a5 = some p → w4.heap.size ≤ p.block ∧ p.block < w5.heap.size := fun p hp => ⟨hp5 p hp, by
          rcases hr5 with h | ⟨b, o, e, h⟩
          · simp [ints] at h
          · rw [hp] at e; cases e
            exact World.block_lt_of_cell? _ _ (h 0 (by simp [ints]))⟩
        have hN5 := HL4.out.1.watch hB5 (bOf a5) (fun i hi => by obtain ⟨p, hp, rfl⟩ := hi; exact hbk5 p hp)
        have HT2 := Lib.hid (large_Take hN5 n hn (by rw [HF.out.2.2.2.2]; omega))
        rw [HF.out.2.2.1] at HT2
        have HL5 := Lib.hid (And.intro hr5 (hB5.blk HL4.out.2))
        simp only [spV] at HT2
        clear ho5 hr5 hB5 hp5 hN5 hbk5
        go_wp2_with fail
        refine HT2.out.mono ?_
        clear HT2
        rintro e w6 ⟨rfl, hL6⟩
        have hr6 : RdV w6 a5 (ints [s1]) := by
          refine HL5.out.1.fr hL6.2 (fun p hp h => h (.inr ⟨p, hp, rfl⟩))
        have g6 := hL6.2.heap HL5.out.2 (fun h => h (.inl (.inr rfl)))
        have hb7 := (Bel.refl w6).alloc (.cells #[.int .i64 s1, .int .i64 s2, .int .i64 s3, .int .i64 s4] 33)
        have hb8 := hb7.alloc (.cells #[.int .i64 s1] 3)
        obtain ⟨r0, r1, r2, r3⟩ := four_cells (hb7.blk g6)
        obtain ⟨t0, t1, t2, t3⟩ := four_cells (blk_alloc w6 (.cells #[.int .i64 s1, .int .i64 s2, .int .i64 s3, .int .i64 s4] 33))
        have HI := Lib.hid (ref_Ints a5 (some ⟨w6.heap.size + 1, 0, none⟩) [s1] [s1] 1 c5 1 1 _ rfl rfl (by simp [maxLen]) (by simp [maxLen]) (hr6.bel hb8) (rdv_one (blk_allocAt _ _ _ (by simp))))
        rw [show decide (([s1] : List Int) = [s1]) = true from by simp] at HI
        have hK7 := large_Kept (hL6.1.then_bel hb8) n (by rw [HF.out.2.2.2.1]; simp)
        rw [HF.out.2.2.2.1] at hK7
        have HL6 := Lib.hid (And.intro (hL6.1.then_bel hb8) hK7)
        clear hL6 hr6 g6 hb7 hb8 hK7
        go_wp2_with fail
        refine HI.out.mono ?_
        clear HI
        rintro e w7 ⟨rfl, hB7⟩
        have hK8 := large_Kept (HL6.out.1.then_bel hB7) n (by rw [HF.out.2.2.2.1]; simp)
        rw [HF.out.2.2.2.1, show keptIds [] n = [] from rfl] at hK8
        have HK8 := Lib.hid hK8
        have HB7 := Lib.hid (HL6.out.1.bel.trans hB7)
        clear hB7 hK8
        go_wp2_with fail
        refine HK8.out.mono ?_
        clear HK8
        rintro e w8 ⟨v8, rfl, ho8, hB8⟩
        obtain ⟨a8, c8, rfl, _⟩ := own_slice ho8
        have HB8 := Lib.hid (HB7.out.trans hB8)
        clear ho8 hB8
        go_wp2_with fail
        refine (awake10 _).mono ?_; rintro e w' ⟨rfl, hB⟩
        go_wp2
        go_ret
        exact ⟨rfl, HB8.out.trans hB⟩
      · have e1 : (en != 0) = true := by simpa using he
        have HB := Lib.hid (hL3.1.bel.alloc (.cells #[.int .i64 s1, .int .i64 s2, .int .i64 s3, .int .i64 s4] 33))
        clear hL3
        go_wp2_with fail
        refine (awake10 _).mono ?_; rintro e w' ⟨rfl, hB⟩
        go_wp2
        go_ret
        exact ⟨rfl, HB.out.trans hB⟩
end Go.Proofs.YtbldidlbhahciaaGreat

namespace Go.Proofs.YtbldidlbhahciaaGreat
open Go.RowKit

set_option maxHeartbeats 1000000 in
set_option maxRecDepth 20000 in
theorem ref5_Same (a b : Option Addr) (xs ys : List Rn) (n c m d : Nat) (w : World) (hn : n = xs.length) (hm : m = ys.length) (hl : xs.length ≤ 65536) (hl' : ys.length ≤ 65536) (ha : RunsIn w a xs) (hb : RunsIn w b ys) :
    Calls Tryz.prog 26 #[.slice a n c, .slice b m d] w fun e w' => e = .returned (.bool (decide (xs = ys))) ∧ Bel w w' := by
  subst hn hm
  by_cases hne : xs.length = ys.length
  · have HA := Lib.hid ha
    have HB := Lib.hid hb
    have HNE := Lib.hid hne
    have e0 : ((xs.length : Int) != (ys.length : Int)) = false := by simp [hne]
    clear ha hb
    rw [← hne]
    rw [← hne] at e0 hl'
    clear hne
    go_enter Tryz.func26, Tryz.ntmps26
    go_wp2_with fail
    go_loopw [13] (fun k wr => ∃ i : Nat, i ≤ xs.length ∧ k = .int .i64 i ∧ xs.take i = ys.take i ∧ Bel w wr) (fun k wr => xs.length - (intOf k).toNat)
    case atStart => exact ⟨0, Nat.zero_le _, rfl, by simp, Bel.refl _⟩
    case round =>
      obtain ⟨i, hi, rfl, hpre, hB⟩ := hrel
      have HPRE := Lib.hid hpre
      clear hpre
      by_cases hlt : i < xs.length
      · have hlty : i < ys.length := by rw [← HNE.out]; exact hlt
        obtain ⟨b1, o1, rfl, p0, p1⟩ := (HA.out.bel hB).at i hlt
        obtain ⟨b2, o2, rfl, q0, q1⟩ := (HB.out.bel hB).at i hlty
        have hsx : xs.take (i + 1) = xs.take i ++ [xs[i]] := List.take_succ_eq_append_getElem hlt
        have hsy : ys.take (i + 1) = ys.take i ++ [ys[i]] := List.take_succ_eq_append_getElem hlty
        obtain ⟨x, hx⟩ : ∃ x, xs[i] = x := ⟨_, rfl⟩
        obtain ⟨y, hy⟩ : ∃ y, ys[i] = y := ⟨_, rfl⟩
        rw [hx] at p0 p1 hsx
        rw [hy] at q0 q1 hsy
        have hx' : xs[i]? = some x := by rw [List.getElem?_eq_getElem hlt, hx]
        have hy' : ys[i]? = some y := by rw [List.getElem?_eq_getElem hlty, hy]
        have HXY := Lib.hid (And.intro hx' hy')
        have HS := Lib.hid (And.intro hsx hsy)
        have HBB := Lib.hid hB
        obtain ⟨x1, x2⟩ := x
        obtain ⟨y1, y2⟩ := y
        dsimp only at p0 p1 q0 q1
        clear hx hy hx' hy' hsx hsy hB hlty
        have hcs : (x1 = y1 ∧ x2 = y2) ∨ (x1 ≠ y1 ∨ (x1 = y1 ∧ x2 ≠ y2)) := by omega
        rcases hcs with ⟨rfl, rfl⟩ | hcs
        · have e1 : (x1 != x1) = false := by simp
          have e2 : (x2 != x2) = false := by simp
          go_wp2_with fail
          go_region
          go_wp2
          go_roundw
          case rel => exact ⟨i + 1, by omega, by go_num, by rw [HS.out.1, HS.out.2, HPRE.out], HBB.out.drew⟩
          case measure => simp [intOf]; omega
        · have HNO : Hid (decide (xs = ys) = false) := Lib.hid (by
            rw [decide_eq_false_iff_not]
            intro h
            have h1 : xs[i]? = ys[i]? := by rw [h]
            rw [HXY.out.1, HXY.out.2] at h1
            have h2 := Option.some.inj h1
            have h3 := congrArg Prod.fst h2
            have h4 := congrArg Prod.snd h2
            dsimp only at h3 h4
            rcases hcs with h9 | ⟨_, h9⟩
            · exact h9 h3
            · exact h9 h4)
          rcases hcs with h9 | ⟨rfl, h9⟩
          · have e1 : (x1 == y1) = false := by simp [h9]
            go_wp2_with fail
            go_region
            go_wp2
            go_ret
            exact ⟨by rw [HNO.out]; rfl, HBB.out.drew⟩
          · have e1 : (x1 == x1) = true := by simp
            have e2 : (x2 == y2) = false := by simp [h9]
            go_wp2_with fail
            go_region
            go_wp2
            go_ret
            exact ⟨by rw [HNO.out]; rfl, HBB.out.drew⟩
      · obtain rfl : i = xs.length := by omega
        have HE : Hid (decide (xs = ys) = true) := Lib.hid (by
          rw [decide_eq_true_eq]
          have := HPRE.out
          rw [List.take_length, HNE.out, List.take_length] at this
          exact this)
        go_wp2
        go_ret
        exact ⟨by rw [HE.out]; rfl, hB⟩
  · have e0 : ((xs.length : Int) != (ys.length : Int)) = true := by rw [bne_iff_ne]; omega
    have HNO : Hid (decide (xs = ys) = false) := Lib.hid (by rw [decide_eq_false_iff_not]; intro h; exact hne (by rw [h]))
    go_enter Tryz.func26, Tryz.ntmps26
    go_wp2
    go_ret
    exact ⟨by rw [HNO.out]; rfl, Bel.refl _⟩
end Go.Proofs.YtbldidlbhahciaaGreat

namespace Go.Proofs.YtbldidlbhahciaaGreat
open Go.RowKit

theorem dec_self6 (xs : List Rn) : decide (xs = xs) = true := decide_eq_true rfl
/-- A list that was made. -/
def ListPost (w V : World) (L : List Rn) (e : Ending) (V' : World) : Prop :=
  ∃ a c, e = .returned (.slice a L.length c) ∧ RunsIn V' a L ∧ Bel w V' ∧ ∀ p, a = some p → w.heap.size ≤ p.block ∧ p.block < V'.heap.size
theorem list_post {w V V' : World} {L : List Rn} {e : Ending} (hV : Bel w V) (h : NewRuns V L e V') : ListPost w V L e V' := by
  obtain ⟨v, rfl, hown, hB⟩ := h
  obtain ⟨a, c, rfl, hr, _, hp⟩ := own_slice2 hown
  refine ⟨a, c, rfl, RunsIn.of_row hr, hV.trans hB, fun p hp9 => ⟨Nat.le_trans hV.size (hp p hp9), ?_⟩⟩
  exact (hown.lt p.block (by rw [hp9]; rfl)).2
/-- The blocks of a slice. -/
def blkOf (a : Option Addr) : Nat → Prop := fun i => ∃ p, a = some p ∧ p.block = i
theorem RunsIn.watched {N : Nat → Prop} {w w' : World} {a : Option Addr} {rs : List Rn} (h : RunsIn w a rs) (k : Fr (fun i => ¬ N i) w w') (hN : ∀ i, blkOf a i → N i) : RunsIn w' a rs :=
  h.fr k (fun p hp h9 => h9 (hN _ ⟨p, hp, rfl⟩))
theorem same_true {a b : Option Addr} {xs : List Rn} {c d : Nat} {w : World} (hl : xs.length ≤ 65536) (ha : RunsIn w a xs) (hb : RunsIn w b xs) :
    Calls Tryz.prog 26 #[.slice a xs.length c, .slice b xs.length d] w fun e w' => e = .returned (.bool true) ∧ Bel w w' := by
  refine (ref5_Same a b xs xs _ c _ d w rfl rfl hl hl ha hb).mono ?_
  rintro e w' ⟨rfl, hB⟩
  exact ⟨by rw [dec_self6], hB⟩
end Go.Proofs.YtbldidlbhahciaaGreat

namespace Go.Proofs.YtbldidlbhahciaaGreat
open Go.RowKit

theorem LiveG.grow {w0 w w' : World} {N Q : Nat → Prop} {hb bi : Nat} {h : Hp} (H : LiveG w0 N w hb bi h) (k : Fr Q w w') (hQ : ∀ i, Q i → N i ∧ w0.heap.size ≤ i) : LiveG w0 (fun i => N i ∨ (w.heap.size ≤ i ∧ i < w'.heap.size)) w' hb bi h := by
  have h9 := H.fr k hQ
  obtain ⟨L, ids, H, hl⟩ := H
  obtain ⟨rb, v, bx, bm, h1, h2⟩ := H.at_
  refine ⟨L, ids, ⟨⟨rb, v, bx, bm, h1.fr k (fun i hi hq => (h2 i hi).2 (hQ i hq).1), fun i hi => ⟨(h2 i hi).1, ?_⟩⟩, ?_, fun i hi => ?_⟩, hl⟩
  · rintro (h8 | h8)
    · exact (h2 i hi).2 h8
    · have := h1.lt hi; omega
  · exact h9.bel
  · rcases hi with hi | hi
    · exact Nat.lt_of_lt_of_le (H.keep i hi) k.size
    · exact hi.2
theorem LiveK.grow {w0 w w' : World} {N Q : Nat → Prop} {k hb bi : Nat} {st : KS} (H : LiveK w0 N w k hb bi st) (h : Fr Q w w') (hQ : ∀ i, Q i → N i ∧ w0.heap.size ≤ i) : LiveK w0 (fun i => N i ∨ (w.heap.size ≤ i ∧ i < w'.heap.size)) w' k hb bi st := by
  obtain ⟨kv, wv, H⟩ := H
  refine ⟨kv, wv, h.heap H.hd (fun hq => H.nN _ (.inl rfl) (hQ _ hq).1), H.kept.fr h (fun b hb hq => H.nN _ (.inr (.inl hb)) (hQ _ hq).1), H.waits.fr h (fun b hb hq => H.nN _ (.inr (.inr hb)) (hQ _ hq).1), H.apart, fun i hi => ?_, ?_, H.lo, H.inv⟩
  · rintro (h9 | h9)
    · exact H.nN i hi h9
    · rcases hi with rfl | hi | hi
      · have := heap_lt H.hd; omega
      · have := (World.ownsRow.lt H.kept i hi).2; omega
      · have := (World.ownsRow.lt H.waits i hi).2; omega
  · exact (H.heap.grow h (fun i hi => ⟨.inl (hQ i hi).1, (hQ i hi).2⟩)).forget (fun i hi => by
      rcases hi with (hi | hi) | hi
      · exact .inl (.inl hi)
      · exact .inr hi
      · exact .inl (.inr hi))

/-! ### in plain Lean -/
/-- All spans are kept, or wait, or are those of l. -/
def Cover (k : KS) (l : List Sp) : Prop := ∀ s ∈ k.h.S, s ∈ k.kept ++ k.waits ++ l
theorem Cover.give1 {k : KS} {s : Sp} {l : List Sp} (H : KPend k (s :: l)) (hc : Cover k (s :: l)) : Cover (k.give1 s) l := by
  have hs := H.mem s (by simp)
  intro t ht
  unfold KS.give1 at ht ⊢
  split
  · rename_i hh
    rw [if_pos hh] at ht
    have := hc t ht
    simp only [List.mem_append, List.mem_cons, List.not_mem_nil, or_false] at this ⊢
    rcases this with (h | h) | h | h <;> simp [h]
  · rename_i hh
    rw [if_neg hh] at ht
    split
    · rename_i h2
      rw [if_pos h2] at ht
      have := hc t ht
      simp only [List.mem_append, List.mem_cons, List.not_mem_nil, or_false] at this ⊢
      rcases this with (h | h) | h | h <;> simp [h]
    · rename_i h2
      rw [if_neg h2, Hp.drop_one H.ok hs.1] at ht
      obtain ⟨h3, h4⟩ := leftS_mem.1 ht
      have := hc t h3
      simp only [List.mem_append, List.mem_cons, List.not_mem_nil, or_false] at this h4 ⊢
      rcases this with (h | h) | h | h
      · simp [h]
      · simp [h]
      · exact absurd (by rw [h]) h4
      · simp [h]
theorem Cover.gives : ∀ (l : List Sp) {k : KS}, KPend k l → Cover k l → Cover (l.foldl KS.give1 k) []
  | [], _, _, hc => hc
  | _ :: l, _, H, hc => Cover.gives l H.give1 (hc.give1 H)
theorem give1_held (k : KS) (s : Sp) : (k.give1 s).held = k.held := by
  unfold KS.give1
  split
  · rfl
  · split <;> rfl
theorem gives_held (l : List Sp) (k : KS) : (l.foldl KS.give1 k).held = k.held := by
  induction l generalizing k with
  | nil => rfl
  | cons s l ih => rw [List.foldl_cons, ih, give1_held]
theorem give1_P (k : KS) (s : Sp) : (k.give1 s).h.P = k.h.P := by
  unfold KS.give1
  split
  · rfl
  · split
    · rfl
    · exact Hp.drop_P _ _
theorem gives_P (l : List Sp) (k : KS) : (l.foldl KS.give1 k).h.P = k.h.P := by
  induction l generalizing k with
  | nil => rfl
  | cons s l ih => rw [List.foldl_cons, ih, give1_P]
/-- Numbers of all spans, each once. -/
structure AllIds (h : Hp) (l : List Int) : Prop where
  ok : LargeIds h l
  all : ∀ s ∈ h.S, s.1 ∈ l
theorem AllIds.add {k : KS} (H : KInv k) (hb : Bare k) {n : Int} (e : (k.take n).2.2 = 0) {l l' : List Int} (ha : AllIds k.h l) (hl : ∀ x, x ∈ l' ↔ x = (k.take n).2.1.1 ∨ x ∈ l) (hn : l'.Nodup ↔ (k.take n).2.1.1 ∉ l ∧ l.Nodup) : AllIds (k.take n).1.h l' := by
  obtain ⟨s, e1, h1, h2, h3, h4, h5⟩ := take_made H hb e
  have hi := H.take n
  have hok := hi.ok
  rw [e1] at hl hn
  rw [h4] at hok ⊢
  have hold : ∀ x ∈ l, ∃ t ∈ k.h.S, t.1 = x := fun x hx => ⟨_, (largeId_sp (ha.ok.1 x hx)).1, (largeId_sp (ha.ok.1 x hx)).2.1⟩
  have hnew : s.1 ∉ l := fun hx => by
    obtain ⟨t, ht, e9⟩ := hold _ hx
    have := H.ok.span ht
    omega
  have hsp : ∀ t ∈ k.h.S ++ [s], spOf ⟨k.h.P, k.h.S ++ [s], k.h.last + 1⟩ t.1 = t ∧ getS (k.h.S ++ [s]) t.1 = some t := fun t ht => by
    have hg : getS (k.h.S ++ [s]) t.1 = some t := getS_self (h := ⟨k.h.P, k.h.S ++ [s], k.h.last + 1⟩) hok ht
    exact ⟨by unfold spOf; rw [hg]; rfl, hg⟩
  refine ⟨⟨fun x hx => ?_, hn.2 ⟨hnew, ha.ok.2⟩⟩, fun t ht => ?_⟩
  · rcases (hl x).1 hx with rfl | hx
    · unfold largeId
      rw [(hsp s (by simp)).1, (hsp s (by simp)).2, h2, h1, h3]; rfl
    · obtain ⟨g1, g2, g3, g4, _⟩ := largeId_sp (ha.ok.1 x hx)
      obtain ⟨j1, j2⟩ := hsp (spOf k.h x) (by simp [g1])
      rw [g2] at j1 j2
      unfold largeId
      rw [j1, j2, g3, g4]; rfl
  · rcases List.mem_append.1 ht with ht | ht
    · exact (hl _).2 (.inr (ha.all t ht))
    · simp at ht; subst ht; exact (hl _).2 (.inl rfl)
theorem hold_bare {k : KS} (hb : Bare k) (on : Bool) : k.hold on = ⟨k.h, [], [], on⟩ := by
  unfold KS.hold
  cases on
  · simp [hb.kept, hb.waits, freesH]
  · simp [hb.kept, hb.waits]
/-- The end. -/
theorem ends_law {k : KS} (H : KInv k) (hb : Bare k) {l : List Int} (ha : AllIds k.h l) (held : Bool) :
    ((k.hold held).give l).2 = 0 ∧ ((k.hold held).give l).1.held = held ∧ ((((k.hold held).give l).1.hold false).flush).h.S = [] ∧ ((((k.hold held).give l).1.hold false).flush).h.P = k.h.P := by
  have h1 := hold_bare hb held
  have hi1 := H.hold held
  rw [h1] at hi1 ⊢
  have hno : l.any (KS.mk k.h [] [] held).has = false := by simp [KS.has]
  have hg : (KS.mk k.h [] [] held).give l = ((l.map (spOf k.h)).foldl KS.give1 ⟨k.h, [], [], held⟩, 0) := by
    unfold KS.give
    rw [if_pos ha.ok, if_neg (by simp [hno])]
  have hpend := hi1.pend (l := l) ha.ok hno
  have hcov : Cover ⟨k.h, [], [], held⟩ (l.map (spOf k.h)) := fun s hs => by
    simp only [List.append_nil, List.nil_append]
    refine List.mem_map.2 ⟨s.1, ha.all s hs, ?_⟩
    unfold spOf; rw [getS_self H.ok hs]; rfl
  rw [hg]
  have hi2 := KPend.gives _ hpend
  have hc2 := Cover.gives _ hpend hcov
  have hh2 := gives_held (l.map (spOf k.h)) ⟨k.h, [], [], held⟩
  have hP2 := gives_P (l.map (spOf k.h)) ⟨k.h, [], [], held⟩
  obtain ⟨k2, hk2⟩ : ∃ k2, (l.map (spOf k.h)).foldl KS.give1 ⟨k.h, [], [], held⟩ = k2 := ⟨_, rfl⟩
  rw [hk2] at hi2 hc2 hh2 hP2 ⊢
  refine ⟨rfl, hh2, ?_⟩
  have hn := hi2.nd
  simp only [List.append_nil, List.map_append, List.nodup_append] at hn
  obtain ⟨e1, e2, _⟩ := freesH_eq k2.waits hi2.ok (fun s hs => (hi2.mem s (by simp [hs])).1) hn.2.1
  have hh : k2.hold false = ⟨freesH k2.h k2.waits, k2.kept, [], false⟩ := by unfold KS.hold; rw [if_neg (by simp)]
  have hi3 := KInv.hold hi2 false
  rw [hh] at hi3
  have hn3 := hi3.nd
  simp only [List.append_nil] at hn3
  obtain ⟨f1, f2, _⟩ := freesH_eq k2.kept e2 (fun s hs => (hi3.mem s (by simp [hs])).1) hn3
  rw [hh]
  show (freesH (freesH k2.h k2.waits) k2.kept).S = [] ∧ (freesH (freesH k2.h k2.waits) k2.kept).P = k.h.P
  rw [f1, e1]
  refine ⟨?_, hP2⟩
  rw [List.eq_nil_iff_forall_not_mem]
  intro t ht
  obtain ⟨h3, h4⟩ := leftS_mem.1 ht
  obtain ⟨h5, h6⟩ := leftS_mem.1 h3
  have := hc2 t h5
  simp only [List.append_nil, List.mem_append] at this
  rcases this with h | h
  · exact h4 (List.mem_map_of_mem h)
  · exact h6 (List.mem_map_of_mem h)

theorem snoc_nodup (l : List Int) (x : Int) : (l ++ [x]).Nodup ↔ x ∉ l ∧ l.Nodup := by
  rw [List.nodup_append]
  constructor
  · rintro ⟨a, _, b⟩
    exact ⟨fun h => b x h x (by simp) rfl, a⟩
  · rintro ⟨a, b⟩
    exact ⟨b, by simp, fun y hy z hz e => by simp at hz; subst hz; subst e; exact a hy⟩
theorem ints_one10 (xs : List Int) : ∀ v ∈ ints xs, v.oneCell' = true := by
  intro v hv
  simp only [ints, List.mem_map] at hv
  obtain ⟨x, _, rfl⟩ := hv
  rfl
theorem hold_last (k : KS) (on : Bool) : (k.hold on).h.last = k.h.last := by
  unfold KS.hold
  split
  · rfl
  · exact freesH_last _ _
theorem give_last (k : KS) (l : List Int) : (k.give l).1.h.last = k.h.last := by
  unfold KS.give
  split
  · split
    · rfl
    · exact gives_last _ _
  · rfl
/-! ### the walk -/
theorem own_some {w : World} {base e size n : Nat} {v : Value} {xs : List Value} (h : w.ownsRow base e size v n xs) (hn : 0 < n) : ∃ g c, v = .slice (some ⟨g, 0, none⟩) n c := by
  rcases h.2 with ⟨_, h2⟩ | ⟨g, cap, cur, h1, _⟩
  · omega
  · exact ⟨g, cap, h1⟩
def EndsWay (w wr : World) (k hb bi P : Nat) (u : Value) (i : Nat) : Prop :=
  ∃ N st l g c, LiveK w N wr k hb bi st ∧ Bare st ∧ st.h.last ≤ i ∧ st.h.P = P ∧ AllIds st.h l ∧ u = .slice (some ⟨g, 0, none⟩) l.length c ∧ wr.ownsRow w.heap.size 3 1 u l.length (ints l) ∧ N g ∧ l.length ≤ i ∧ ∀ x ∈ l, (Lit.int .i64 x).wf = true
set_option maxHeartbeats 4000000 in
set_option maxRecDepth 20000 in
theorem largeEnds_walk (pages : Int) (sa : Option Addr) (xs : List Int) (m0 c0 : Nat) (held back : Bool) (w : World) (hp : I64 pages) (hm : m0 = xs.length) (hl : xs.length ≤ maxLen) (hr : RdV w sa (ints xs)) (hok : ∀ x ∈ xs, I64 x) :
    Calls Tryz.prog 7 #[.int .i64 pages, .slice sa m0 c0, .bool held, .bool back] w fun e w' => e = .returned (.bool true) ∧ Bel w w' := by
  subst hm
  have hl2 : xs.length ≤ 9223372036854775807 := by unfold maxLen at hl; omega
  by_cases hpg : pages < 4 ∨ 1024 < pages
  · have HNB := Lib.hid (heap_New_bad pages w hp hpg)
    clear hr hok hpg
    by_cases c0 : 100 < pages
    · go_enter Tryz.func7, Tryz.ntmps7
      go_wp2_with fail
      refine HNB.out.mono ?_; rintro e w1 ⟨rfl, rfl⟩
      go_wp2_with fail
      refine (awake10 _).mono ?_; rintro e w' ⟨rfl, hB⟩
      go_wp2
      go_ret
      exact ⟨rfl, hB⟩
    by_cases c1 : 100 < (xs.length : Int)
    all_goals
      go_enter Tryz.func7, Tryz.ntmps7
      go_wp2_with fail
      refine HNB.out.mono ?_; rintro e w1 ⟨rfl, rfl⟩
      go_wp2_with fail
      refine (awake10 _).mono ?_; rintro e w' ⟨rfl, hB⟩
      go_wp2
      go_ret
      exact ⟨rfl, hB⟩
  obtain ⟨P, rfl⟩ := Int.eq_ofNat_of_zero_le (show 0 ≤ pages by omega)
  have HNEW := Lib.hid (heap_New P w (by omega) (by omega))
  have HRD := Lib.hid hr
  have HOK := Lib.hid hok
  clear hr hok hpg
  by_cases c0 : 100 < (P : Int)
  · go_enter Tryz.func7, Tryz.ntmps7
    go_wp2_with fail
    refine HNEW.out.mono ?_; rintro e w1 hN
    obtain ⟨hb, bi, rfl, hL⟩ := liveG_new hN
    have HB := Lib.hid hL.bel
    clear hN hL
    go_wp2_with fail
    refine (awake10 _).mono ?_; rintro e w' ⟨rfl, hB⟩
    go_wp2
    go_ret
    exact ⟨rfl, HB.out.trans hB⟩
  by_cases c1 : 100 < (xs.length : Int)
  · go_enter Tryz.func7, Tryz.ntmps7
    go_wp2_with fail
    refine HNEW.out.mono ?_; rintro e w1 hN
    obtain ⟨hb, bi, rfl, hL⟩ := liveG_new hN
    have HB := Lib.hid hL.bel
    clear hN hL
    go_wp2_with fail
    refine (awake10 _).mono ?_; rintro e w' ⟨rfl, hB⟩
    go_wp2
    go_ret
    exact ⟨rfl, HB.out.trans hB⟩
  have c2 : xs.length ≤ 100 := by omega
  obtain ⟨i0, hi0, hz0, hz1, hz2⟩ := info_parts info_intL
  go_enter Tryz.func7, Tryz.ntmps7
  go_wp2_with fail
  refine HNEW.out.mono ?_; rintro e w1 hN
  obtain ⟨hb, bi, rfl, hL⟩ := liveG_new hN
  have HL0 := Lib.hid hL
  clear hN hL HNEW
  go_wp2_with fail
  refine (large_New HL0.out).mono ?_
  rintro e w2 ⟨k, rfl, hL2, hB2⟩
  have hq2 : (Instr.buildSlice 22 0 #[]).run Tryz.prog w2 = .ok (.slice (some ⟨w2.heap.size, 0, none⟩) 0 0) (w2.alloc (.cells #[] 3)) := by kernel_rfl
  have HST : Hid (EndsWay w (w2.alloc (.cells #[] 3)) k hb bi P (.slice (some ⟨w2.heap.size, 0, none⟩) 0 0) 0) := Lib.hid (by
    refine ⟨_, _, [], w2.heap.size, 0, hL2.watch ((Bel.refl w2).alloc _) (fun i => i = w2.heap.size) (fun i hi => by subst hi; simp), ⟨rfl, rfl, rfl⟩, Nat.le_refl _, rfl, ⟨⟨by simp, by simp⟩, by simp [ksNew, hpNew]⟩, rfl, ?_, .inr rfl, Nat.le_refl _, by simp⟩
    simpa [ints] using World.ownsRow_made (e := 3) (size := 1) w2 #[] 0 hL2.bel.size (by simp [maxLen]) (by simp))
  clear hL2 hB2 HL0
  go_wp2_with fail
  go_loopw [12, 13] (fun uv kk wr => ∃ i : Nat, i ≤ xs.length ∧ kk = .int .i64 i ∧ ∃ u, u = uv ∧ Hid (EndsWay w wr k hb bi P u i)) (fun uv kk wr => xs.length - (intOf kk).toNat)
  case atStart => exact ⟨0, Nat.zero_le _, rfl, _, rfl, HST⟩
  case round =>
    clear HST hq2
    obtain ⟨i, hi, rfl, u, rfl, HX⟩ := hrel
    obtain ⟨N, st, l, g, c, hL, hbare, hlast, hP, hall, rfl, hown, hNg, hlen, hwf⟩ := HX.out
    by_cases hlt : i < xs.length
    · obtain ⟨b, o, rfl, p0⟩ := (HRD.out.bel hL.bel).at i hlt
      have hx := HOK.out xs[i] (List.getElem_mem hlt)
      obtain ⟨x, hxe⟩ : ∃ x, xs[i] = x := ⟨_, rfl⟩
      rw [hxe] at p0 hx
      have HT := Lib.hid (large_Take hL x hx (by omega))
      have d0 : (i : Int) < xs.length := by omega
      have hmade := fun e => take_made hL.inv hbare (n := x) e
      have hadd := fun e l' => AllIds.add hL.inv hbare (n := x) e hall (l' := l')
      have hb1 := hbare.take x
      have hl1 := take_last st x
      have hP1 := take_P st x
      obtain ⟨st1, hst1⟩ : ∃ st1, (st.take x).1 = st1 := ⟨_, rfl⟩
      obtain ⟨s, hs⟩ : ∃ s, (st.take x).2.1 = s := ⟨_, rfl⟩
      obtain ⟨en, hen⟩ : ∃ en, (st.take x).2.2 = en := ⟨_, rfl⟩
      rw [hst1, hs, hen] at HT hadd hmade
      rw [hst1] at hb1 hl1 hP1
      have hsid : en = 0 → s.1 = (st.h.last : Int) + 1 := fun e => by obtain ⟨s', e1, _, _, _, _, e5⟩ := hmade e; rw [e1]; exact e5
      have hnew : en ≠ 0 → st1 = st := fun e => by
        cases hf : fitsF x with
        | false => rw [← hst1, take_bad hf]
        | true =>
          have hli : lastI st.kept x = none := by rw [hbare.kept]; rfl
          rw [take_make hf hli] at hen
          rw [← hst1, take_make hf hli]
          rw [Hp.make_no (by rw [← hen] at e; exact e)]
      have HF := Lib.hid (And.intro hb1 (And.intro hl1 (And.intro (hP1.trans hP) (And.intro hadd (And.intro hsid hnew)))))
      have HW := Lib.hid (And.intro hown (And.intro hNg (And.intro hwf hall)))
      have hlw := hL.bel.size
      clear hxe hx HX hL hst1 hs hen hmade hadd hb1 hl1 hP1 hsid hnew hown hNg hall hwf
      obtain ⟨s1, ⟨s2, s3⟩, s4⟩ := s
      simp only [spV] at HT
      go_wp2_with fail
      refine HT.out.mono ?_
      clear HT
      rintro e w7 ⟨rfl, hL7⟩
      have hb8 := (Bel.refl w7).alloc (.cells #[.int .i64 s1, .int .i64 s2, .int .i64 s3, .int .i64 s4] 33)
      obtain ⟨r0, r1, r2, r3⟩ := four_cells (blk_alloc w7 (.cells #[.int .i64 s1, .int .i64 s2, .int .i64 s3, .int .i64 s4] 33))
      have hrow8 := own_bel (own_fr HW.out.1 hL7.2 (fun b _ hb h => h (by simp [Value.ownBlock] at hb; subst hb; exact HW.out.2.1))) hb8
      have HL8 := Lib.hid (And.intro (hL7.1.then_bel hb8) hrow8)
      have hw8 := HL8.out.1.bel.size
      clear hL7 hrow8 hb8
      by_cases he : en = 0
      · subst he
        have HADD := Lib.hid (HF.out.2.2.2.1 rfl)
        have hsw : (Lit.int .i64 s1).wf = true := by have := HF.out.2.2.2.2.1 rfl; exact wf_i64 (by omega) (by omega)
        cases back
        · -- behind
          go_wp2_with (at_builtin; refine wpList_app_own rfl _ _ 22 3 rfl i0 _ 1 8 Tryz.underlying22 hi0 hz0 hz1 hz2 rfl (by decide) w.heap.size _ l.length (ints l) rfl (own_bel HL8.out.2 ((Bel.refl _).alloc _)) ⟨w7.heap.size + 1, 0, none⟩ 1 1 [.int .i64 s1] rfl rfl ?o2 ?o3 ?o4 ?o5 ?o6 (by decide) (l.length + 1) rfl (ints (l ++ [s1])) (ints_snoc _ _).symm ?_)
          case o2 => exact (rdv_one (blk_allocAt _ _ _ (by simp))).cells
          case o3 => simp [Value.oneCell']
          case o4 => unfold maxLen; omega
          case o5 => omega
          case o6 => simp at hw8 ⊢; omega
          intro g9 c9 w9 hown9 hgrow9 hat9
          have hbb := (Bel.refl (w7.alloc (.cells #[.int .i64 s1, .int .i64 s2, .int .i64 s3, .int .i64 s4] 33))).alloc (.cells #[.int .i64 s1] 3)
          have hlo : w.heap.size ≤ g := (World.ownsRow.lt HL8.out.2 g rfl).1
          have hLg := (HL8.out.1.then_bel hbb).grow (fr_row7 hgrow9) (fun j hj => by simp [Value.ownBlock] at hj; subst hj; exact ⟨HW.out.2.1, hlo⟩)
          have HN9 : Hid (EndsWay w w9 k hb bi P (.slice (some ⟨g9, 0, none⟩) (l.length + 1) c9) (i + 1)) := Lib.hid ⟨_, st1, l ++ [s1], g9, c9, hLg, HF.out.1, by have := HF.out.2.1; omega, HF.out.2.2.1, HADD.out _ (fun y => by simp [or_comm]) (snoc_nodup _ _), by rw [List.length_append]; rfl, by rw [List.length_append]; exact hown9, by
            rcases hat9 with h | h
            · simp [Value.ownBlock] at h; subst h; exact .inl HW.out.2.1
            · refine .inr ⟨by rw [World.size_alloc, World.size_alloc]; omega, ?_⟩
              have := (World.ownsRow.lt hown9 g9 rfl).2
              exact this, by rw [List.length_append]; simp; omega, fun y hy => by
            rcases List.mem_append.1 hy with hy | hy
            · exact HW.out.2.2.1 y hy
            · simp at hy; subst hy; exact hsw⟩
          clear hown9 hgrow9 hat9 hLg hbb
          go_wp2
          go_roundw
          case rel => exact ⟨i + 1, by omega, by go_num, _, rfl, HN9⟩
          case measure => simp [intOf]; omega
        · -- in front
          have hrowx : ((w7.alloc (.cells #[.int .i64 s1, .int .i64 s2, .int .i64 s3, .int .i64 s4] 33)).alloc (.cells #[.int .i64 s1] 3)).ownsRow w.heap.size 3 1 (.slice (some ⟨(w7.alloc (.cells #[.int .i64 s1, .int .i64 s2, .int .i64 s3, .int .i64 s4] 33)).heap.size, 0, none⟩) 1 1) 1 [.int .i64 s1] :=
            ⟨by simp, .inr ⟨_, 1, #[.int .i64 s1], rfl, hw8, blk_alloc _ _, Nat.le_refl _, by simp [maxLen], by simp, by simp⟩⟩
          rw [World.size_alloc] at hrowx
          obtain ⟨_, _, e9, hrd, _, _⟩ := own_slice2 (own_bel HL8.out.2 ((Bel.refl _).alloc (.cells #[.int .i64 s1] 3)))
          cases e9
          have HRX := Lib.hid (And.intro hrowx hrd)
          clear hrowx hrd
          go_wp2_with (at_builtin; refine wpList_append_own_at _ rfl _ _ 22 rfl w.heap.size 3 i0 (.int .i64 0) 1 8 Tryz.underlying22 hi0 hz0 hz1 hz2 rfl (by decide) _ 1 [.int .i64 s1] rfl HRX.out.1 ⟨g, 0, none⟩ l.length c (ints l) rfl ?d1 ?d2 ?d3 ?d4 ?d5 ?d6 ?_)
          case d1 => simp [ints]
          case d2 => exact HRX.out.2.cells
          case d3 => exact ints_one10 l
          case d4 => unfold maxLen; omega
          case d5 => omega
          case d6 => simp at hw8 ⊢; omega
          intro v9 w9 hown9 hgrow9 _ hat9
          have hv9 := own_some hown9 (by omega)
          obtain ⟨g9, c9, rfl⟩ := hv9
          have hbb := (Bel.refl (w7.alloc (.cells #[.int .i64 s1, .int .i64 s2, .int .i64 s3, .int .i64 s4] 33))).alloc (.cells #[.int .i64 s1] 3)
          have hLw := HL8.out.1.watch hbb (fun j => j = w7.heap.size + 1) (fun j hj => by subst hj; simp)
          have hLg := hLw.grow (fr_row7 hgrow9) (fun j hj => by simp [Value.ownBlock] at hj; subst hj; exact ⟨.inr (by simp), by simp at hw8 ⊢; omega⟩)
          have hlt9 := (World.ownsRow.lt hown9 g9 rfl).2
          have HN9 : Hid (EndsWay w w9 k hb bi P (.slice (some ⟨g9, 0, none⟩) (1 + l.length) c9) (i + 1)) := Lib.hid (by
            have e9 : 1 + l.length = (s1 :: l).length := by rw [List.length_cons]; omega
            rw [e9] at hown9 ⊢
            refine ⟨_, st1, s1 :: l, g9, c9, hLg, HF.out.1, by have := HF.out.2.1; omega, HF.out.2.2.1, HADD.out _ (fun y => by simp) List.nodup_cons, rfl, hown9, ?_, by rw [List.length_cons]; omega, fun y hy => ?_⟩
            · rcases hat9 with h | h
              · simp [Value.ownBlock] at h; subst h; exact .inl (.inr (by simp))
              · simp [Value.ownBlock] at h; subst h; exact .inr ⟨by simp, hlt9⟩
            · rcases List.mem_cons.1 hy with rfl | hy
              · exact hsw
              · exact HW.out.2.2.1 y hy)
          clear hown9 hgrow9 hat9 hLg hLw hbb hlt9
          go_wp2
          go_roundw
          case rel => exact ⟨i + 1, by omega, by go_num, _, rfl, HN9⟩
          case measure => simp [intOf]; omega
      · have e1 : (en == 0) = false := by simpa using he
        have hes := HF.out.2.2.2.2.2 he
        subst hes
        have HN9 : Hid (EndsWay w (w7.alloc (.cells #[.int .i64 s1, .int .i64 s2, .int .i64 s3, .int .i64 s4] 33)) k hb bi P (.slice (some ⟨g, 0, none⟩) l.length c) (i + 1)) := Lib.hid ⟨N, st1, l, g, c, HL8.out.1, HF.out.1, by omega, HF.out.2.2.1, HW.out.2.2.2, rfl, HL8.out.2, HW.out.2.1, by omega, HW.out.2.2.1⟩
        go_wp2
        go_roundw
        case rel => exact ⟨i + 1, by omega, by go_num, _, rfl, HN9⟩
        case measure => simp [intOf]; omega
    · obtain rfl : i = xs.length := by omega
      have hE := ends_law hL.inv hbare hall held
      have hH1 := large_Hold hL held (by omega)
      obtain ⟨_, _, e9, hrd, _, _⟩ := own_slice2 hown
      cases e9
      have HQ := Lib.hid (And.intro hrd (And.intro hNg hwf))
      have hl1 := hold_last st held
      obtain ⟨k1, hk1⟩ : ∃ k1, st.hold held = k1 := ⟨_, rfl⟩
      have hg2 := give_last k1 l
      rw [hk1] at hH1 hE hl1
      rw [hP] at hE
      have HE := Lib.hid (And.intro hE (And.intro hl1 hg2))
      have HH1 := Lib.hid hH1
      clear HX hL hE hH1 hrd hown hNg hwf hall hbare hP hk1 hl1 hg2
      go_wp2_with fail
      refine HH1.out.mono ?_
      clear HH1
      rintro e w3 ⟨rfl, hL3⟩
      have hr3 := HQ.out.1.fr hL3.2 (fun p hp h => h (by cases hp; exact HQ.out.2.1))
      have hG := large_Give hL3.1 (some ⟨g, 0, none⟩) l c (by omega) hr3 HQ.out.2.2 (by rw [HE.out.2.1]; omega)
      rw [HE.out.1.1] at hG
      obtain ⟨k2, hk2⟩ : ∃ k2, (k1.give l).1 = k2 := ⟨_, rfl⟩
      rw [hk2] at hG
      have HF : Hid (k2.held = held ∧ ((k2.hold false).flush).h.S = [] ∧ ((k2.hold false).flush).h.P = P ∧ k2.h.last ≤ 65536) := Lib.hid (by
        rw [← hk2]
        exact ⟨HE.out.1.2.1, HE.out.1.2.2.1, HE.out.1.2.2.2, by rw [HE.out.2.2, HE.out.2.1]; omega⟩)
      have HG := Lib.hid hG
      clear hL3 hr3 hG hk2 HE
      go_wp2_with fail
      refine HG.out.mono ?_
      clear HG
      rintro e w4 ⟨rfl, hL4⟩
      have hH2 := large_Hold hL4.1 false HF.out.2.2.2
      rw [HF.out.1] at hH2
      have HH2 := Lib.hid hH2
      clear hL4 hH2
      cases held
      all_goals
        go_wp2_with fail
        refine HH2.out.mono ?_
        clear HH2
        rintro e w5 ⟨rfl, hL5⟩
        have HFl := Lib.hid (large_Flush hL5.1 (by rw [hold_last]; exact HF.out.2.2.2))
        clear hL5
        go_wp2_with fail
        refine HFl.out.mono ?_
        clear HFl
        rintro e w6 ⟨rfl, hL6⟩
        obtain ⟨k3, hk3⟩ : ∃ k3, (k2.hold false).flush = k3 := ⟨_, rfl⟩
        have HF3 : Hid (k3.h.S = [] ∧ k3.h.P = P) := Lib.hid (by rw [← hk3]; exact ⟨HF.out.2.1, HF.out.2.2.1⟩)
        rw [hk3] at hL6
        have HL6 := Lib.hid hL6.1
        have HSP := Lib.hid (hL6.1.heapSpans w6 (Bel.refl _))
        clear hL6 hk3 HF
        go_wp2_with fail
        refine HSP.out.mono ?_
        clear HSP
        rintro e w7 ⟨d5, c5, z5, rfl, hz5, hr5, hB5, _⟩
        have hz0 : z5 = [] := List.eq_nil_of_length_eq_zero (by rw [HF3.out.1] at hz5; simpa using hz5.1.length_eq)
        subst hz0
        have HL7 := Lib.hid (HL6.out.then_bel hB5)
        have HR7 := Lib.hid (HL7.out.heapRuns w7 (Bel.refl _))
        clear hz5 hr5 hB5 HL6
        go_wp2_with fail
        refine HR7.out.mono ?_
        clear HR7
        rintro e w8 hN
        have hfree : k3.h.free = [(0, (P : Int))] := by rw [HL7.out.inv.ok.empty HF3.out.1, HF3.out.2]
        rw [hfree] at hN
        obtain ⟨a6, c6, rfl, hr6, hB6, _⟩ := list_post (Bel.refl _) hN
        have HB8 := Lib.hid (HL7.out.bel.trans hB6)
        have HR8 := Lib.hid hr6
        clear hN hr6 hB6 HL7 hfree HF3
        go_wp2_with fail
        refine (ref5_Same a6 (some ⟨w8.heap.size, 0, none⟩) [(0, (P : Int))] [(0, (P : Int))] _ c6 1 1 _ rfl rfl (by simp) (by simp) (HR8.out.bel ((Bel.refl _).alloc _)) (RunsIn.of_row (RdV.new w8 #[.int .i64 0, .int .i64 P] 31))).mono ?_
        rintro e w9 ⟨rfl, hB9⟩
        rw [dec_self6]
        have HB9 := Lib.hid (HB8.out.trans (((Bel.refl _).alloc (.cells #[.int .i64 0, .int .i64 P] 31)).trans hB9))
        clear hB9 HB8 HR8
        go_wp2_with fail
        refine (awake10 _).mono ?_; rintro e w' ⟨rfl, hB⟩
        go_wp2
        go_ret
        exact ⟨rfl, HB9.out.trans hB⟩
end Go.Proofs.YtbldidlbhahciaaGreat

namespace Go.Proofs.YtbldidlbhahciaaGreat
open Go.RowKit

/-- A twin's rows lie among blocks that the program must leave alone. -/
def InN (N : Nat → Prop) (p : KP) (st : KS) : Prop := N p.g ∧ (∀ q, p.a = some q → st.h.S ≠ [] → N q.block) ∧ (∀ q, p.ka = some q → st.kept ≠ [] → N q.block) ∧ (∀ q, p.wa = some q → st.waits ≠ [] → N q.block)
theorem SpansIn.frS {Q : Nat → Prop} {w w' : World} {a : Option Addr} {S : List Sp} (R : SpansIn w a S) (h : Fr Q w w') (hQ : ∀ q, a = some q → S ≠ [] → ¬ Q q.block) : SpansIn w' a S := by
  by_cases he : S = []
  · exact .inl he
  · exact R.fr7 h (fun q hq => hQ q hq he)
theorem RefK.frN {N Q : Nat → Prop} {w w' : World} {st : KS} {p : KP} (R : RefK w st p) (h : Fr Q w w') (hi : InN N p st) (hQ : ∀ i, N i → ¬ Q i) : RefK w' st p :=
  ⟨R.heap.fr h (hQ _ hi.1) (fun q hq hS => hQ _ (hi.2.1 q hq hS)), R.kept.frS h (fun q hq hS => hQ _ (hi.2.2.1 q hq hS)), R.waits.frS h (fun q hq hS => hQ _ (hi.2.2.2 q hq hS)), R.kcap, R.wcap, R.knil, R.wnil⟩
theorem InN.mono {N N' : Nat → Prop} {p : KP} {st : KS} (h : InN N p st) (hN : ∀ i, N i → N' i) : InN N' p st :=
  ⟨hN _ h.1, fun q hq hS => hN _ (h.2.1 q hq hS), fun q hq hS => hN _ (h.2.2.1 q hq hS), fun q hq hS => hN _ (h.2.2.2 q hq hS)⟩
theorem notHeap_bool : notHeap 4 := by unfold notHeap; decide
def wN (N : Nat → Prop) (a b g : Nat) : Nat → Prop := fun i => N i ∨ (a ≤ i ∧ i < b) ∨ i = g
theorem both_live {w0 w W0 W1 V : World} {N : Nat → Prop} {k hb bi : Nat} {st st' : KS} {p p' : KP} (H : LiveK w0 N w k hb bi st) (b0 : Bel w W0) (P : KPost W0 st p st' p' W1) (hV : Bel W1 V) : LiveK w0 (wN N w.heap.size V.heap.size p'.g) V k hb bi st := by
  obtain ⟨cur, hg⟩ := P.ref.heap.blk
  have hB := b0.trans (P.bel.trans hV)
  have h1 := H.watch hB (fun i => w.heap.size ≤ i ∧ i < V.heap.size) (fun i hi => hi)
  have h2 := h1.add (hV.blk hg) notHeap_bool (by decide) (by decide)
  refine h2.forget (fun i hi => ?_)
  rcases hi with hi | hi | hi
  · exact .inl (.inl hi)
  · exact .inl (.inr hi)
  · exact .inr hi
theorem row_in {w W0 W1 V : World} {N : Nat → Prop} {a a' : Option Addr} {S S' : List Sp} {g : Nat} (f : Fresh W0 a S a' S') (b0 : Bel w W0) (hV : Bel W1 V) (h : ∀ q, a = some q → S ≠ [] → N q.block) (hl : S' ≠ [] → ∀ q, a' = some q → q.block < W1.heap.size) : ∀ q, a' = some q → S' ≠ [] → wN N w.heap.size V.heap.size g q.block := by
  intro q hq hS
  rcases f with ⟨rfl, h2⟩ | ⟨q', h1, h2⟩
  · exact .inl (h q hq (h2 hS))
  · rw [hq] at h1; cases h1
    exact .inr (.inl ⟨Nat.le_trans b0.size h2, Nat.lt_of_lt_of_le (hl hS q hq) hV.size⟩)
theorem row_off {w W0 : World} {a a' : Option Addr} {S S' : List Sp} (f : Fresh W0 a S a' S') (h : S ≠ [] → ∀ q, a = some q → q.block < w.heap.size) {i : Nat} (h1 : w.heap.size ≤ i) (h2 : i < W0.heap.size) : ∀ q, a' = some q → S' ≠ [] → q.block ≠ i := by
  intro q hq hS
  rcases f with ⟨rfl, h3⟩ | ⟨q', h3, h4⟩
  · have := h (h3 hS) q hq; omega
  · rw [hq] at h3; cases h3; omega
theorem both_in {w W0 W1 V : World} {N : Nat → Prop} {st st' : KS} {p p' : KP} (hi : InN N p st) (b0 : Bel w W0) (P : KPost W0 st p st' p' W1) (hV : Bel W1 V) : InN (wN N w.heap.size V.heap.size p'.g) p' st' :=
  ⟨.inr (.inr rfl), row_in P.fa b0 hV hi.2.1 (fun hS q hq => P.ref.heap.lt hS q hq), row_in P.fk b0 hV hi.2.2.1 (fun hS q hq => P.ref.kept.lt hS q hq), row_in P.fw b0 hV hi.2.2.2 (fun hS q hq => P.ref.waits.lt hS q hq)⟩
/-- What an act of both leaves. -/
structure DoesPost (w0 : World) (N : Nat → Prop) (w : World) (k hb bi : Nat) (st : KS) (p : KP) (st' : KS) (p' : KP) (w' : World) : Prop where
  live : ∃ N', (∀ i, N i → N' i) ∧ LiveK w0 N' w' k hb bi st' ∧ InN N' p' st'
  ref : RefK w' st' p'
  fr : Fr (fun i => ¬ N i) w w'
  fa : Fresh w p.a st.h.S p'.a st'.h.S
  fk : Fresh w p.ka st.kept p'.ka st'.kept
  fw : Fresh w p.wa st.waits p'.wa st'.waits
theorem does_fin {w0 w W0 W1 V V' w' : World} {N Q : Nat → Prop} {k hb bi : Nat} {st st' : KS} {p p' : KP} (H : LiveK w0 N w k hb bi st) (R : RefK w st p) (hi : InN N p st) (b0 : Bel w W0) (P : KPost W0 st p st' p' W1) (hV : Bel W1 V)
    (L : LivePostK w0 (wN N w.heap.size V.heap.size p'.g) V k hb bi st' V') (hF : Fr Q V' w') (hQ : ∀ i, Q i → w.heap.size ≤ i ∧ i < W0.heap.size ∧ ∃ cs T, V'.heap[i]? = some (.cells cs T (0, 0)) ∧ T ≠ 4) : DoesPost w0 N w k hb bi st p st' p' w' := by
  have hin := both_in hi b0 P hV
  have R2 : RefK V' st' p' := (P.ref.bel hV).frN L.2 hin (fun i h hn => hn h)
  have hs : W0.heap.size ≤ V.heap.size := Nat.le_trans P.bel.size hV.size
  have hw0 := H.bel.size
  refine ⟨⟨_, fun i h => .inl h, L.1.fr hF (fun i hi => ⟨.inr (.inl ⟨(hQ i hi).1, Nat.lt_of_lt_of_le (hQ i hi).2.1 hs⟩), Nat.le_trans hw0 (hQ i hi).1⟩), hin⟩, ⟨R2.heap.fr hF (fun hq => ?_) (fun q hq hS h9 => row_off P.fa R.heap.lt (hQ _ h9).1 (hQ _ h9).2.1 q hq hS rfl), R2.kept.frS hF (fun q hq hS h9 => row_off P.fk R.kept.lt (hQ _ h9).1 (hQ _ h9).2.1 q hq hS rfl), R2.waits.frS hF (fun q hq hS h9 => row_off P.fw R.waits.lt (hQ _ h9).1 (hQ _ h9).2.1 q hq hS rfl), R2.kcap, R2.wcap, R2.knil, R2.wnil⟩, ?_, Fresh.old P.fa b0.size, Fresh.old P.fk b0.size, Fresh.old P.fw b0.size⟩
  · obtain ⟨cur, hg⟩ := R2.heap.blk
    obtain ⟨_, _, cs, T, h1, h2⟩ := hQ _ hq
    rw [hg] at h1
    simp only [Option.some.injEq, Obj.cells.injEq] at h1
    exact h2 h1.2.1.symm
  · refine ((Fr.of_bel (b0.trans (P.bel.trans hV))).trans' (L.2.mono (fun i hn h9 => hn (.inl h9)))).trans' (hF.mono (fun i hq h9 => ?_))
    have := H.keep i h9
    have := (hQ i hq).1
    omega
/-- The twin's Make alone. -/
theorem KPost.made {w W1 : World} {st : KS} {p : KP} {n ord : Int} {g' fc' c' : Nat} {a' : Option Addr} (R : RefK w st p) (P : GPost w p.a st.h.S (st.h.make n ord).1 g' fc' a' c' W1) :
    KPost w st p ⟨(st.h.make n ord).1, st.kept, st.waits, st.held⟩ ⟨g', fc', a', c', p.ka, p.kc, p.wa, p.wc⟩ W1 :=
  ⟨⟨P.1, R.kept.bel P.2.1, R.waits.bel P.2.1, R.kcap, R.wcap, R.knil, R.wnil⟩, P.2.1, P.2.2, .refl _ _ _, .refl _ _ _⟩

/-! ### acts -/
structure Act10 where
  kind : Int
  n : Int
  order : Int
  on : Bool
  ia : Option Addr
  ids : List Int
  ic : Nat
def c10 (x : Act10) : List Value := [.int .i64 x.kind, .int .i64 x.n, .int .i64 x.order, .bool x.on, .slice x.ia x.ids.length x.ic]
structure Ok10 (W : World) (x : Act10) : Prop where
  kind : I64 x.kind
  n : I64 x.n
  order : I64 x.order
  len : x.ids.length ≤ maxLen
  cap : x.ids.length ≤ x.ic
  rd : RdV W x.ia (ints x.ids)
  ok : ∀ k ∈ x.ids, (Lit.int .i64 k).wf = true
def KS.act (st : KS) (x : Act10) : KS :=
  if x.kind = 0 then (st.take x.n).1
  else if x.kind = 1 then (st.give x.ids).1
  else if x.kind = 2 then st.hold x.on
  else if x.kind = 3 then st.flush
  else ⟨(st.h.make x.n x.order).1, st.kept, st.waits, st.held⟩
theorem KInv.act {st : KS} (H : KInv st) (x : Act10) : KInv (st.act x) := by
  unfold KS.act
  split
  · exact H.take _
  split
  · exact H.give _
  split
  · exact H.hold _
  split
  · exact H.flush
  · exact H.made _ _
theorem flush_last (k : KS) : k.flush.h.last = k.h.last := freesH_last _ _
theorem ktake_last (k : KS) (n : Int) : (k.take n).1.h.last ≤ k.h.last + 1 := by
  unfold KS.take
  split
  · split
    · exact Nat.le_succ _
    · exact Hp.make_last _ _ _
  · exact Nat.le_succ _
theorem act_last (st : KS) (x : Act10) : (st.act x).h.last ≤ st.h.last + 1 := by
  unfold KS.act
  split
  · exact ktake_last _ _
  split
  · rw [give_last]; exact Nat.le_succ _
  split
  · rw [hold_last]; exact Nat.le_succ _
  split
  · rw [flush_last]; exact Nat.le_succ _
  · exact Hp.make_last _ _ _
end Go.Proofs.YtbldidlbhahciaaGreat

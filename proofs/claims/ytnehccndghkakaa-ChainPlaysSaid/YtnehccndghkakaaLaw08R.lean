/- Layer 8: of several chains all are right just if each one is. -/
import Derived.Test.YtnehccndghkakaaLaw08L
import Derived.Test.YtnehccndghkakaaRef04S
namespace Go.Proofs.Ytnehccndghkakaa
open Go.RowKit Go.Deep

/-- The chains that came in. -/
structure Chains08 (W : World) (a : Option Addr) (n : Nat) (xs : List (Int × Int)) : Prop where
  len : n = xs.length
  max : xs.length ≤ maxLen
  rd : RdR W a 2 (xs.map chainCells)
  ok : ∀ x ∈ xs, I64 x.1 ∧ I64 x.2
def sh08c : Sh := .slice (.struct (.pair (.int .i64) (.pair (.int .i64) .unit)))
theorem chains08 {W : World} {a : Option Addr} {n c : Nat} (h : RdC W sh08c [.slice a n c]) : ∃ xs, Chains08 W a n xs := by
  obtain ⟨a', c', rows, he, hl, hr, hR, _⟩ := h
  simp only [List.cons.injEq, Value.slice.injEq, and_true] at he
  obtain ⟨rfl, rfl, rfl⟩ := he
  obtain ⟨xs, rfl, hx⟩ := choose_list (f := chainCells) (p := fun x => I64 x.1 ∧ I64 x.2) rows (fun r hrm => by
    obtain ⟨_, _, rfl, ⟨k, rfl, hk⟩, _, _, rfl, ⟨t, rfl, ht⟩, rfl⟩ := hr r hrm
    exact ⟨(k, t), rfl, i64_of_wf hk, i64_of_wf ht⟩)
  exact ⟨xs, by simp, by simpa using hl, hR, hx⟩
theorem sh08c_is : sh08c.isT Try.prog (.inl 23) :=
  ⟨_, Try.underlying23, by kernel_rfl, by decide, _, Try.underlying37, by kernel_rfl,
    rfl, by kernel_rfl, Try.underlying3, rfl, by kernel_rfl, Try.underlying3, trivial⟩
theorem arg_chains08 {H : Type} {enc : TypeId × Value → H} {W : World} {a : Option Addr} {len cap : Nat} {d : DataW H} {ps : List MemPlace}
    (h : DataW.Trod enc Try.prog W 0 (fun _ => true) true 23 (.slice a len cap) d ps) : ∃ xs, Chains08 W a len xs :=
  chains08 (arg_shape sh08c sh08c_is h)

/-- A chain that comes round is not right. -/
theorem round_bad {W : List Int} (hw : wd W 255 = 256) (ln : Int) : ∀ l, ¬ RightC W 256 ln l := fun l hr => by
  have hc := hr.ch
  have hn := hr.nd
  match l, hc, hn with
  | [], hc, _ => exact absurd (show (256 : Int) = 0 from hc) (by decide)
  | [x], ⟨h1, _, _, hc⟩, _ =>
    obtain rfl : x = 255 := by omega
    rw [hw] at hc
    exact absurd (show (256 : Int) = 0 from hc) (by decide)
  | x :: y :: l, ⟨h1, _, _, h2, _⟩, hn =>
    obtain rfl : x = 255 := by omega
    rw [hw] at h2
    obtain rfl : y = 255 := by omega
    simp at hn
theorem round_none {W : List Int} (hw : wd W 255 = 256) (ln : Int) : ([((256 : Int), ln)].all fun x => (chL W x.1 x.2).isSome) = false := by
  simp [chL_none (round_bad hw ln)]
theorem rdr_one (W : World) (ln : Int) : RdR (W.alloc (.cells #[.int .i64 256, .int .i64 ln] 37)) (some ⟨W.heap.size, 0, none⟩) 2 [[.int .i64 256, .int .i64 ln]] := by
  refine .inr ⟨_, 0, rfl, fun i hi j v hv => ?_⟩
  obtain rfl : i = 0 := by simp at hi; omega
  have hb := blk_alloc W (.cells #[.int .i64 256, .int .i64 ln] 37)
  have := blk_cell hb j
  simp at hv ⊢
  first | exact hv | (rw [this]; simpa using hv)
theorem all_take {xs : List (Int × Int)} (p : Int × Int → Bool) {i : Nat} (h : i < xs.length) : (xs.take (i + 1)).all p = ((xs.take i).all p && p xs[i]) := by
  rw [List.take_succ_eq_append_getElem h, List.all_append]; simp

set_option maxHeartbeats 4000000 in
set_option maxRecDepth 20000 in
theorem chainRights_walk (s : Option Addr) (ws : List Int) (n c : Nat) (s1 : Option Addr) (xs : List (Int × Int)) (l1 d1 : Nat) (w : World) (hn : n = ws.length) (hl : ws.length ≤ maxLen) (hrd : RdV w s (u64s ws)) (hx : ∀ x ∈ ws, 0 ≤ x ∧ x ≤ 18446744073709551615) (hC : Chains08 w s1 l1 xs) :
    Calls Try.prog 3 #[.slice s n c, .slice s1 l1 d1] w fun e w' => e = .returned (.bool true) ∧ Bel w w' := by
  subst hn
  obtain ⟨rfl, hm, hrc, hok⟩ := hC
  have hm2 : xs.length ≤ 9223372036854775807 := by unfold maxLen at hm; omega
  have hl2 : ws.length ≤ 9223372036854775807 := by unfold maxLen at hl; omega
  by_cases c0 : 60 < (ws.length : Int) ∨ 20 < (xs.length : Int)
  · have c1 : 60 < (ws.length : Int) ∨ (¬ 60 < (ws.length : Int) ∧ 20 < (xs.length : Int)) := by omega
    clear c0 hrd hrc hok
    rcases c1 with c1 | ⟨c1, c2⟩
    all_goals
      go_enter Try.func3, Try.ntmps3
      go_wp2_with fail
      refine (awake08 _).mono ?_; rintro e w' ⟨rfl, hB⟩
      go_wp2
      go_ret
      exact ⟨rfl, hB⟩
  · have c1 : ws.length ≤ 60 := by omega
    have c2 : xs.length ≤ 20 := by omega
    clear c0
    have hZ : (List.replicate (64 * 4) (0 : Int)).length = 256 := by rw [List.length_replicate]
    have hin : inB (List.replicate (64 * 4) (0 : Int)).length 0 ws.length = true := inB_iff.2 ⟨by omega, by omega, by rw [hZ]; omega, by rw [hZ]; omega⟩
    obtain ⟨W1, hW1⟩ : ∃ W, stW (List.replicate (64 * 4) 0) 0 ws = W := ⟨_, rfl⟩
    have hL1 : W1.length = 256 := by rw [← hW1, stW_length, hZ]
    have hin1 : inB W1.length 255 (([256] : List Int).length) = true := inB_iff.2 ⟨by simp, by omega, by rw [hL1]; omega, by rw [hL1]; simp⟩
    obtain ⟨W2, hW2⟩ : ∃ W, stW W1 255 [256] = W := ⟨_, rfl⟩
    have hL2 : W2.length = 256 := by rw [← hW2, stW_length, hL1]
    have hwd : wd W2 255 = 256 := by
      rw [← hW2]
      have := stW_one (W := W1) (x := 255) (h := 256) (by omega) (by rw [hL1]; omega)
      rw [this, wd_setW_same (by omega) (by rw [hL1]; omega)]
    have HR1 := Lib.hid (round_none hwd 1)
    have HR2 := Lib.hid (round_none hwd 2)
    have H1 := Lib.hid hin
    have H2 := Lib.hid hin1
    have HW1 := Lib.hid hW1
    have HW2 := Lib.hid hW2
    have HL1 := Lib.hid hL1
    have HL2 := Lib.hid hL2
    have HRD := Lib.hid hrd
    have HRC := Lib.hid hrc
    have HOK := Lib.hid hok
    have HX := Lib.hid hx
    have hmk := fun W => run_make_u64 256 W (by omega)
    rw [show ((256 : Nat) : Int) = 256 by rfl] at hmk
    obtain ⟨cs, hcs⟩ : ∃ cs, (u64s (List.replicate 256 0)).toArray = cs := ⟨_, rfl⟩
    rw [hcs] at hmk
    have HCS := Lib.hid hcs
    clear hin hin1 hW1 hW2 hL1 hL2 hrd hrc hok hx hZ hwd hcs
    go_enter Try.func3, Try.ntmps3
    go_wp2_with fail
    refine (arena_New_ok 4 _ (by omega) (by omega)).mono ?_
    rintro e w1 ⟨ba, rfl, hlt, hA, hB1⟩
    have hbw := heap_lt hA.words
    have HA := Lib.hid hA
    have HB1 := Lib.hid hB1
    clear hA hB1
    go_wp2_with fail
    refine (arena_Store ba w.heap.size _ ws 0 s _ c _ HA.out ⟨by omega, by omega⟩ rfl (by omega) (HRD.out.bel HB1.out) HX.out).mono ?_
    rintro e w2 ⟨rfl, hA2, hF2⟩
    rw [H1.out, okE_true]
    rw [HW1.out] at hA2
    have HA2 := Lib.hid hA2
    have HB2 := Lib.hid (bel_fr HB1.out hF2 (Nat.le_refl _))
    have hs2 := hF2.size
    clear hA2 hF2
    go_wp2_with fail
    refine (arena_Store ba w.heap.size W1 [256] 255 (some ⟨w2.heap.size, 0, none⟩) 1 1 _ (HA2.out.bel ((Bel.refl _).alloc _)) ⟨by omega, by omega⟩ rfl (by simp [maxLen]) (RdV.new w2 #[.int .u64 256] 30) (by intro y hy; simp at hy; omega)).mono ?_
    rintro e w3 ⟨rfl, hA3, hF3⟩
    rw [H2.out, okE_true]
    rw [HW2.out] at hA3
    have HA3 := Lib.hid hA3
    have HB3 := Lib.hid (bel_fr (HB2.out.alloc _) hF3 (Nat.le_refl _))
    have hs3 := hF3.size
    rw [World.size_alloc] at hs3
    clear hA3 hF3
    go_wp2_with fail
    have hcell : RdV (w3.alloc (.cells cs 30)) (some ⟨w3.heap.size, 0, none⟩) (u64s (List.replicate (64 * 4) 0)) := by
      have := RdV.new w3 cs 30
      rw [show cs.toList = u64s (List.replicate 256 0) by rw [← HCS.out]] at this
      exact this
    have E64 : ((List.replicate (64 * 4) (0 : Int)).length) = 256 := by rw [List.length_replicate]
    have HE64 := Lib.hid E64
    have CS := ref_Store (some ⟨w3.heap.size, 0, none⟩) s (List.replicate (64 * 4) 0) ws 0 256 c (w3.alloc (.cells cs 30)) (by rw [E64]; omega) (by omega) ⟨by omega, by omega⟩ hcell (HRD.out.bel (HB3.out.alloc _)) (by intro h; rw [h] at E64; simp at E64)
    rw [E64] at CS
    have HCST := Lib.hid CS
    clear CS E64 hcell
    refine HCST.out.mono ?_
    rintro e w4 ⟨a4, c4, rfl, hr4, hp4, hB4⟩
    rw [H1.out, okE_true, HE64.out]
    rw [HW1.out] at hr4
    have hr4' := hr4.bel ((Bel.refl _).alloc (.cells #[.int .u64 256] 30))
    have CS2 := ref_Store a4 (some ⟨w4.heap.size, 0, none⟩) W1 [256] 255 c4 1 (w4.alloc (.cells #[.int .u64 256] 30)) (by rw [HL1.out]; omega) (by simp [maxLen]) ⟨by omega, by omega⟩ hr4' (RdV.new w4 #[.int .u64 256] 30) (by intro h; have := HL1.out; rw [h] at this; simp at this)
    rw [HL1.out] at CS2
    have HCST2 := Lib.hid CS2
    have HB4 := Lib.hid (((HB3.out.alloc (.cells cs 30)).trans hB4).alloc (.cells #[.int .u64 256] 30))
    have HA4 := Lib.hid ((HA3.out.bel (((Bel.refl _).alloc (.cells cs 30)).trans hB4)).bel ((Bel.refl _).alloc (.cells #[.int .u64 256] 30)))
    clear CS2 hr4 hr4' hB4 hp4 hmk
    go_wp2_with fail
    refine HCST2.out.mono ?_
    rintro e w5 ⟨a5, c5, rfl, hr5, hp5, hB5⟩
    rw [H2.out, okE_true, HL1.out]
    rw [HW2.out] at hr5
    have HR5 := Lib.hid hr5
    have HA5 := Lib.hid (HA4.out.bel hB5)
    have HB5 := Lib.hid (HB4.out.trans hB5)
    have HWF := Lib.hid HA5.out.wf
    have CL : ∀ W hd ln, Bel w5 W → I64 hd → I64 ln → Calls Try.prog 11 #[.slice a5 256 c5, .agg #[.int .i64 hd, .int .i64 ln]] W (fun e w' => ∃ v, e = .returned (.tuple #[v, .bool (chL W2 hd ln).isSome]) ∧ Bel W w') := fun W hd ln hb h1 h2 => by
      rcases chL_or W2 hd ln with ⟨l, hr, hch⟩ | ⟨hbad, hch⟩
      · have := ref8_List_ok a5 W2 hd ln l c5 W (by rw [HL2.out]; omega) (HR5.out.bel hb) HWF.out hr
        rw [HL2.out] at this
        refine this.mono ?_
        rintro e w' ⟨v, rfl, _, hB⟩
        exact ⟨v, by rw [hch]; rfl, hB⟩
      · have := ref8_List_bad a5 W2 hd ln c5 W (by rw [HL2.out]; omega) (HR5.out.bel hb) HWF.out h1 h2 hbad
        rw [HL2.out] at this
        refine this.mono ?_
        rintro e w' ⟨l, v, rfl, _, hB⟩
        exact ⟨v, by rw [hch]; rfl, hB⟩
    have HCL := Lib.hid CL
    clear CL hr5 hp5 hB5
    go_wp2_with fail
    go_loopw [9, 10] (fun v k wr => ∃ i : Nat, i ≤ xs.length ∧ k = .int .i64 i ∧ v = .bool ((xs.take i).all fun x => (chL W2 x.1 x.2).isSome) ∧ Bel w5 wr) (fun v k wr => xs.length - (intOf k).toNat)
    case atStart => exact ⟨0, Nat.zero_le _, rfl, rfl, Bel.refl _⟩
    case round =>
      obtain ⟨i, hi, rfl, rfl, hB⟩ := hrel
      by_cases hlt : i < xs.length
      · obtain ⟨b, o, rfl, hra⟩ := (HRC.out.bel (HB5.out.trans hB)).at i hlt
        have hall := all_take (fun x : Int × Int => (chL W2 x.1 x.2).isSome) hlt
        have hxo := HOK.out xs[i] (List.getElem_mem _)
        generalize xs[i] = x at hra hxo hall
        obtain ⟨x1, x2⟩ := x
        obtain ⟨hx1, hx2⟩ := hxo
        have q0 : wr.cell? ⟨b, o + i * 2, none⟩ = some (.int .i64 x1) := hra 0 _ rfl
        have q1 : wr.cell? ⟨b, o + i * 2 + 1, none⟩ = some (.int .i64 x2) := hra 1 _ rfl
        have HALL := Lib.hid hall
        have HB := Lib.hid hB
        clear hra hall hB
        generalize (xs.take i).all (fun x => (chL W2 x.1 x.2).isSome) = A at HALL
        go_wp2_with fail
        refine (HCL.out wr x1 x2 HB.out hx1 hx2).mono ?_
        rintro e w6 ⟨v6, rfl, hB6⟩
        generalize (chL W2 x1 x2).isSome = B at HALL
        clear q0 q1
        cases A <;> cases B
        all_goals
          go_wp2
          go_roundw
          case rel => exact ⟨i + 1, by omega, by go_num, by rw [HALL.out]; rfl, HB.out.trans hB6⟩
          case measure => simp [intOf]; omega
      · obtain rfl : i = xs.length := by omega
        rw [List.take_length]
        have HB := Lib.hid hB
        have CR : ∀ W, Bel wr W → Calls Try.prog 12 #[.pointer (some ⟨ba, 0, none⟩), .slice s1 xs.length d1] W (fun e w' => e = .returned (.bool (xs.all fun x => (chL W2 x.1 x.2).isSome)) ∧ Bel W w') := fun W hb =>
          chain_Right (some ⟨ba, 0, none⟩) W2 s1 xs xs.length d1 W (.inr ⟨ba, _, rfl, HA5.out.bel (HB.out.trans hb)⟩) rfl hm (HRC.out.bel ((HB5.out.trans HB.out).trans hb)) HOK.out
        have C1 : ∀ W a ln, Bel wr W → (ln = 1 ∨ ln = 2) → RdR W a 2 [[.int .i64 256, .int .i64 ln]] → Calls Try.prog 12 #[.pointer (some ⟨ba, 0, none⟩), .slice a 1 1] W (fun e w' => e = .returned (.bool false) ∧ Bel W w') := fun W a ln hb hln hr => by
          have := chain_Right (some ⟨ba, 0, none⟩) W2 a [(256, ln)] 1 1 W (.inr ⟨ba, _, rfl, HA5.out.bel (HB.out.trans hb)⟩) rfl (by simp [maxLen]) hr (by intro x hx; simp at hx; subst hx; exact ⟨⟨by omega, by omega⟩, ⟨by omega, by omega⟩⟩)
          rcases hln with rfl | rfl
          · rw [HR1.out] at this; exact this
          · rw [HR2.out] at this; exact this
        have HCR := Lib.hid CR
        have HC1 := Lib.hid C1
        have HNR : Hid (∀ (W : World) (ln : Int), RdR (W.alloc (.cells #[.int .i64 256, .int .i64 ln] 37)) (some ⟨W.heap.size, 0, none⟩) 2 [[.int .i64 256, .int .i64 ln]]) := Lib.hid (fun W ln => rdr_one W ln)
        clear CR C1 hB
        generalize (xs.all fun x => (chL W2 x.1 x.2).isSome) = B at HCR
        cases B
        all_goals
          go_wp2_with fail
          refine (HCR.out _ (Bel.refl _)).mono ?_
          rintro e w6 ⟨rfl, hB6⟩
          go_wp2_with fail
          refine (HC1.out _ _ 1 (hB6.alloc _) (.inl rfl) (HNR.out _ _)).mono ?_
          rintro e w7 ⟨rfl, hB7⟩
          go_wp2_with fail
          refine (HC1.out _ _ 2 (((hB6.alloc _).trans hB7).alloc _) (.inr rfl) (HNR.out _ _)).mono ?_
          rintro e w8 ⟨rfl, hB8⟩
          go_wp2_with fail
          refine (awake08 _).mono ?_; rintro e w' ⟨rfl, hB9⟩
          go_wp2
          go_ret
          exact ⟨rfl, (HB5.out.trans HB.out).trans (((((hB6.alloc _).trans hB7).alloc _).trans hB8).trans hB9)⟩
end Go.Proofs.Ytnehccndghkakaa

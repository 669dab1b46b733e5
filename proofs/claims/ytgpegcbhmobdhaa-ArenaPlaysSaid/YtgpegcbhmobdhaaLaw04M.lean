/- Words moved, and moved back (layer 4). -/
import Derived.Test.YtgpegcbhmobdhaaLaw04
namespace Go.Proofs.Ytgpegcbhmobdhaa
open Go.RowKit

/-! ### moved, and moved back -/
theorem moves_law (ws xs : List Int) (f t : Nat) (hw : ws.length = 256) (hf : f + xs.length ≤ 256) (ht : t + xs.length ≤ 256) (hd : t + xs.length ≤ f ∨ f + xs.length ≤ t) :
    ∃ ws1 ws2 ws3 ws4 : List Int, ws1.length = 256 ∧ ws2.length = 256 ∧ ws3.length = 256 ∧ ws4.length = 256 ∧ inB 256 f xs.length = true ∧ mvB 256 t f xs.length = true ∧ mvB 256 f t xs.length = true ∧ inB 256 t xs.length = true ∧
      stW ws f xs = ws1 ∧ mvW ws1 t f xs.length = ws2 ∧ rowW ws2 t xs.length = xs ∧ rowW ws2 f xs.length = xs ∧
      (if inB ws2.length f xs.length then putW ws2 f (List.replicate (xs.length : Int).toNat 0) else ws2) = ws3 ∧ mvW ws3 f t xs.length = ws4 ∧ rowW ws4 f xs.length = xs := by
  have i1 : inB 256 f xs.length = true := inB_iff.2 ⟨by omega, by omega, by omega, by omega⟩
  have i2 : inB 256 t xs.length = true := inB_iff.2 ⟨by omega, by omega, by omega, by omega⟩
  have m1 : mvB 256 t f xs.length = true := by unfold mvB; rw [i1, i2]; rfl
  have m2 : mvB 256 f t xs.length = true := by unfold mvB; rw [i1, i2]; rfl
  have e256 : ∀ l : List Int, l.length = 256 → ((l.length : Nat) : Int) = 256 := fun l h => by omega
  have l1 : (splice ws f xs).length = 256 := by rw [splice_length _ _ _ (by omega)]; exact hw
  have l2 : (splice (splice ws f xs) t xs).length = 256 := by rw [splice_length _ _ _ (by omega)]; exact l1
  have lr : (List.replicate xs.length (0 : Int)).length = xs.length := by simp
  have l3 : (splice (splice (splice ws f xs) t xs) f (List.replicate xs.length (0 : Int))).length = 256 := by rw [splice_length _ _ _ (by omega)]; exact l2
  have l4 : (splice (splice (splice (splice ws f xs) t xs) f (List.replicate xs.length (0 : Int))) f xs).length = 256 := by rw [splice_length _ _ _ (by omega)]; exact l3
  refine ⟨splice ws f xs, splice (splice ws f xs) t xs, splice (splice (splice ws f xs) t xs) f (List.replicate xs.length (0 : Int)), splice (splice (splice (splice ws f xs) t xs) f (List.replicate xs.length (0 : Int))) f xs,
    l1, l2, l3, l4, i1, m1, m2, i2, ?_, ?_, ?_, ?_, ?_, ?_, ?_⟩
  · unfold stW putW; rw [e256 _ hw, i1]; simp
  · unfold mvW putW; rw [e256 _ l1, m1]; simp only [if_true, Int.toNat_natCast]
    rw [splice_row_same ws f xs (by omega)]
  · unfold rowW; rw [e256 _ l2, i2]; simp only [if_true, Int.toNat_natCast]
    exact splice_row_same _ _ _ (by omega)
  · unfold rowW; rw [e256 _ l2, i1]; simp only [if_true, Int.toNat_natCast]
    rw [splice_row_other _ _ _ (by omega) _ _ (by omega)]
    exact splice_row_same _ _ _ (by omega)
  · unfold putW; rw [e256 _ l2, i1]; simp
  · unfold mvW putW; rw [e256 _ l3, m2]; simp only [if_true, Int.toNat_natCast]
    rw [splice_row_other _ f _ (by omega) t _ (by omega), splice_row_same (splice ws f xs) t xs (by omega)]
  · unfold rowW; rw [e256 _ l4, i1]; simp only [if_true, Int.toNat_natCast]
    exact splice_row_same _ _ _ (by omega)

theorem NewU64.fr {w w' : World} {base bw : Nat} {xs : List Int} {v : Value} (h : NewU64 base xs v w) (k : Fr (fun k => k = bw) w w') (hb : bw < base) : NewU64 base xs v w' :=
  own_fr h k (fun b h1 _ h2 => by omega)

theorem same_self (l : List Int) : decide (l = l) = true := by simp

theorem Bel.fr {a b c : World} {bw : Nat} (h : Bel a b) (k : Fr (fun k => k = bw) b c) (hb : a.heap.size ≤ bw) : Bel a c :=
  Fr.bel ((Fr.of_bel (S := fun k => k = bw) h).trans k (fun _ h => .inl h)) (fun k e => by omega)

set_option maxHeartbeats 1600000 in
set_option maxRecDepth 20000 in
theorem arenaMoves_walk (a : Option Addr) (xs : List Int) (ln c : Nat) (from_ to : Int) (w : World) (hln : ln = xs.length) (hl : xs.length ≤ maxLen) (hrd : RdV w a (xs.map (.int .u64))) (hx : ∀ x ∈ xs, 0 ≤ x ∧ x ≤ 18446744073709551615)
    (hf : I64 from_) (ht : I64 to) :
    Calls Try.prog 8 #[.slice a ln c, .int .i64 from_, .int .i64 to] w fun e w' => e = .returned (.bool true) ∧ Bel w w' := by
  subst hln
  have hl2 : xs.length ≤ 9223372036854775807 := by unfold maxLen at hl; omega
  obtain ⟨f0, f1⟩ := hf
  obtain ⟨t0, t1⟩ := ht
  by_cases g : ((xs.length : Int) ≤ 100 ∧ 0 ≤ from_ ∧ 0 ≤ to ∧ from_ ≤ 256 - xs.length ∧ to ≤ 256 - xs.length) ∧ (to + xs.length ≤ from_ ∨ from_ + xs.length ≤ to)
  case neg =>
    have cs : (100 < (xs.length : Int)) ∨ (¬ 100 < (xs.length : Int) ∧ from_ < 0) ∨ (¬ 100 < (xs.length : Int) ∧ ¬ from_ < 0 ∧ to < 0) ∨ (¬ 100 < (xs.length : Int) ∧ ¬ from_ < 0 ∧ ¬ to < 0 ∧ 256 - (xs.length : Int) < from_) ∨
        (¬ 100 < (xs.length : Int) ∧ ¬ from_ < 0 ∧ ¬ to < 0 ∧ ¬ 256 - (xs.length : Int) < from_ ∧ 256 - (xs.length : Int) < to) ∨
        (¬ 100 < (xs.length : Int) ∧ ¬ from_ < 0 ∧ ¬ to < 0 ∧ ¬ 256 - (xs.length : Int) < from_ ∧ ¬ 256 - (xs.length : Int) < to ∧ from_ < to + xs.length ∧ to < from_ + xs.length) := by omega
    clear g hrd hx hl
    rcases cs with c | ⟨c, c2⟩ | ⟨c, c2, c3⟩ | ⟨c, c2, c3, c4⟩ | ⟨c, c2, c3, c4, c5⟩ | ⟨c, c2, c3, c4, c5, c6, c7⟩
    all_goals
      go_enter Try.func8, Try.ntmps8
      go_wp2_with fail
      refine (awake04 _).mono ?_; rintro e w' ⟨rfl, hB⟩
      go_wp2
      go_ret
      exact ⟨rfl, hB⟩
  obtain ⟨⟨c1, c2, c3, c4, c5⟩, c6⟩ := g
  obtain ⟨f, rfl⟩ := Int.eq_ofNat_of_zero_le c2
  obtain ⟨t, rfl⟩ := Int.eq_ofNat_of_zero_le c3
  obtain ⟨ws1, ws2, ws3, ws4, l1, l2, l3, l4, i1, m1, m2, i2, q1, q2, q3, q4, q5, q6, q7⟩ := moves_law (List.replicate (64 * 4) 0) xs f t (by simp) (by omega) (by omega) (by omega)
  have e256 : ∀ l : List Int, l.length = 256 → Hid (((l.length : Nat) : Int) = 256) := fun l h => Lib.hid (by omega)
  have L0 := e256 (List.replicate (64 * 4) 0) (by simp)
  have L1 := e256 ws1 l1
  have L2 := e256 ws2 l2
  have L3 := e256 ws3 l3
  have L4 := e256 ws4 l4
  have I1 := Lib.hid i1
  have I2 := Lib.hid i2
  have M1 := Lib.hid m1
  have M2 := Lib.hid m2
  have Q1 := Lib.hid q1
  have Q2 := Lib.hid q2
  have Q3 := Lib.hid q3
  have Q4 := Lib.hid q4
  have Q5 := Lib.hid q5
  have Q6 := Lib.hid q6
  have Q7 := Lib.hid q7
  have k1 : ¬ 100 < (xs.length : Int) := by omega
  have k2 : ¬ (f : Int) < 0 := by omega
  have k3 : ¬ (t : Int) < 0 := by omega
  have k4 : ¬ 256 - (xs.length : Int) < f := by omega
  have k5 : ¬ 256 - (xs.length : Int) < t := by omega
  have HX := Lib.hid hx
  have HRD := Lib.hid hrd
  have hln : I64 (xs.length : Int) := ⟨by omega, by omega⟩
  have hhf : I64 (f : Int) := ⟨by omega, by omega⟩
  have hht : I64 (t : Int) := ⟨by omega, by omega⟩
  clear e256 l1 l2 l3 l4 i1 i2 m1 m2 q1 q2 q3 q4 q5 q6 q7 hx hrd c2 c3 f0 f1 t0 t1
  have key : ∀ K : Prop, ((¬ (f : Int) < t + xs.length → K) ∧ ((f : Int) < t + xs.length → ¬ (t : Int) < f + xs.length → K)) → K := by
    intro K ⟨h1, h2⟩
    by_cases h : (f : Int) < t + xs.length
    · exact h2 h (by omega)
    · exact h1 h
  clear c6
  refine key _ ⟨?_, ?_⟩
  · intro d1
    clear key
    go_enter Try.func8, Try.ntmps8
    go_wp2_with fail
    refine (arena_New_ok 4 _ (by omega) (by omega)).mono ?_
    rintro e w1 ⟨ba, rfl, hlt, hA, hB⟩
    have hbw := heap_lt hA.words
    go_wp2_with fail
    refine (arena_Store ba _ _ xs f a _ c _ hA hhf rfl hl (HRD.out.bel hB) HX.out).mono ?_
    rintro e w2 ⟨rfl, hA2, hF2⟩
    rw [L0.out, I1.out, okE_true]
    rw [Q1.out] at hA2
    go_wp2_with fail
    refine (arena_Move ba _ _ t f _ _ hA2 hht hhf hln).mono ?_
    rintro e w3 ⟨rfl, hA3, hF3⟩
    rw [L1.out, M1.out, okE_true]
    rw [Q2.out] at hA3
    have hs3 := hF2.size
    have hs4 := hF3.size
    go_wp2_with fail
    refine (arena_Row _ _ t _ _ (.inr ⟨ba, _, rfl, hA3⟩) hht hln).mono ?_
    rintro e w4 ⟨v1, rfl, hN1, hB4⟩
    rw [L2.out, I2.out, okE_true]
    rw [Q3.out] at hN1
    have hA4 := hA3.bel hB4
    go_wp2_with fail
    refine (arena_Row _ _ f _ _ (.inr ⟨ba, _, rfl, hA4⟩) hhf hln).mono ?_
    rintro e w5 ⟨v2, rfl, hN2, hB5⟩
    rw [L2.out, I1.out, okE_true]
    rw [Q4.out] at hN2
    have hA5 := hA4.bel hB5
    go_wp2_with fail
    refine (arena_Zero _ _ f _ ba _ _ rfl hA5 hhf hln).mono ?_
    rintro e w6 ⟨rfl, hA6, hF6⟩
    rw [L2.out, I1.out, okE_true]
    rw [Q5.out] at hA6
    go_wp2_with fail
    refine (arena_Move ba _ _ f t _ _ hA6 hhf hht hln).mono ?_
    rintro e w7 ⟨rfl, hA7, hF7⟩
    rw [L3.out, M2.out, okE_true]
    rw [Q6.out] at hA7
    go_wp2_with fail
    refine (arena_Row _ _ f _ _ (.inr ⟨ba, _, rfl, hA7⟩) hhf hln).mono ?_
    rintro e w8 ⟨v3, rfl, hN3, hB8⟩
    rw [L4.out, I1.out, okE_true]
    rw [Q7.out] at hN3
    have hs5 := hB4.size
    have R1 : NewU64 _ xs v1 w8 := own_bel (NewU64.fr (NewU64.fr (own_bel hN1 hB5) hF6 (by omega)) hF7 (by omega)) hB8
    have R2 : NewU64 _ xs v2 w8 := own_bel (NewU64.fr (NewU64.fr hN2 hF6 (by omega)) hF7 (by omega)) hB8
    obtain ⟨a1, cp1, rfl, hr1, hc1⟩ := own_slice R1
    obtain ⟨a2, cp2, rfl, hr2, hc2⟩ := own_slice R2
    obtain ⟨a3, cp3, rfl, hr3, hc3⟩ := own_slice hN3
    have hF : Bel w w8 := ((((((hB.fr hF2 (Nat.le_refl _)).fr hF3 (Nat.le_refl _)).trans hB4).trans hB5).fr hF6 (Nat.le_refl _)).fr hF7 (Nat.le_refl _)).trans hB8
    have G := Lib.hid (And.intro hr1 (And.intro hr2 hr3))
    have GF := Lib.hid hF
    have hrd8 : Hid (RdV w8 a (u64s xs)) := Lib.hid (HRD.out.bel hF)
    clear hr1 hr2 hr3 hc1 hc2 hc3 R1 R2 hN1 hN2 hN3 hA hA2 hA3 hA4 hA5 hA6 hA7 hF hF2 hF3 hF6 hF7 hB hB4 hB5 hB8
    go_wp2_with fail
    refine (ref_Same a1 a xs xs _ cp1 _ c _ rfl rfl hl hl G.out.1 hrd8.out).mono ?_; rintro e w9 ⟨rfl, hB9⟩
    rw [same_self]
    go_wp2_with fail
    refine (ref_Same a2 a xs xs _ cp2 _ c _ rfl rfl hl hl (G.out.2.1.bel hB9) (hrd8.out.bel hB9)).mono ?_; rintro e w10 ⟨rfl, hB10⟩
    rw [same_self]
    go_wp2_with fail
    refine (ref_Same a3 a xs xs _ cp3 _ c _ rfl rfl hl hl (G.out.2.2.bel (hB9.trans hB10)) (hrd8.out.bel (hB9.trans hB10))).mono ?_; rintro e w11 ⟨rfl, hB11⟩
    rw [same_self]
    go_wp2_with fail
    refine (awake04 _).mono ?_; rintro e w12 ⟨rfl, hB12⟩
    go_wp2
    go_ret
    exact ⟨rfl, GF.out.trans (((hB9.trans hB10).trans hB11).trans hB12)⟩
  · intro d1 d2
    clear key
    go_enter Try.func8, Try.ntmps8
    go_wp2_with fail
    refine (arena_New_ok 4 _ (by omega) (by omega)).mono ?_
    rintro e w1 ⟨ba, rfl, hlt, hA, hB⟩
    have hbw := heap_lt hA.words
    go_wp2_with fail
    refine (arena_Store ba _ _ xs f a _ c _ hA hhf rfl hl (HRD.out.bel hB) HX.out).mono ?_
    rintro e w2 ⟨rfl, hA2, hF2⟩
    rw [L0.out, I1.out, okE_true]
    rw [Q1.out] at hA2
    go_wp2_with fail
    refine (arena_Move ba _ _ t f _ _ hA2 hht hhf hln).mono ?_
    rintro e w3 ⟨rfl, hA3, hF3⟩
    rw [L1.out, M1.out, okE_true]
    rw [Q2.out] at hA3
    have hs3 := hF2.size
    have hs4 := hF3.size
    go_wp2_with fail
    refine (arena_Row _ _ t _ _ (.inr ⟨ba, _, rfl, hA3⟩) hht hln).mono ?_
    rintro e w4 ⟨v1, rfl, hN1, hB4⟩
    rw [L2.out, I2.out, okE_true]
    rw [Q3.out] at hN1
    have hA4 := hA3.bel hB4
    go_wp2_with fail
    refine (arena_Row _ _ f _ _ (.inr ⟨ba, _, rfl, hA4⟩) hhf hln).mono ?_
    rintro e w5 ⟨v2, rfl, hN2, hB5⟩
    rw [L2.out, I1.out, okE_true]
    rw [Q4.out] at hN2
    have hA5 := hA4.bel hB5
    go_wp2_with fail
    refine (arena_Zero _ _ f _ ba _ _ rfl hA5 hhf hln).mono ?_
    rintro e w6 ⟨rfl, hA6, hF6⟩
    rw [L2.out, I1.out, okE_true]
    rw [Q5.out] at hA6
    go_wp2_with fail
    refine (arena_Move ba _ _ f t _ _ hA6 hhf hht hln).mono ?_
    rintro e w7 ⟨rfl, hA7, hF7⟩
    rw [L3.out, M2.out, okE_true]
    rw [Q6.out] at hA7
    go_wp2_with fail
    refine (arena_Row _ _ f _ _ (.inr ⟨ba, _, rfl, hA7⟩) hhf hln).mono ?_
    rintro e w8 ⟨v3, rfl, hN3, hB8⟩
    rw [L4.out, I1.out, okE_true]
    rw [Q7.out] at hN3
    have hs5 := hB4.size
    have R1 : NewU64 _ xs v1 w8 := own_bel (NewU64.fr (NewU64.fr (own_bel hN1 hB5) hF6 (by omega)) hF7 (by omega)) hB8
    have R2 : NewU64 _ xs v2 w8 := own_bel (NewU64.fr (NewU64.fr hN2 hF6 (by omega)) hF7 (by omega)) hB8
    obtain ⟨a1, cp1, rfl, hr1, hc1⟩ := own_slice R1
    obtain ⟨a2, cp2, rfl, hr2, hc2⟩ := own_slice R2
    obtain ⟨a3, cp3, rfl, hr3, hc3⟩ := own_slice hN3
    have hF : Bel w w8 := ((((((hB.fr hF2 (Nat.le_refl _)).fr hF3 (Nat.le_refl _)).trans hB4).trans hB5).fr hF6 (Nat.le_refl _)).fr hF7 (Nat.le_refl _)).trans hB8
    have G := Lib.hid (And.intro hr1 (And.intro hr2 hr3))
    have GF := Lib.hid hF
    have hrd8 : Hid (RdV w8 a (u64s xs)) := Lib.hid (HRD.out.bel hF)
    clear hr1 hr2 hr3 hc1 hc2 hc3 R1 R2 hN1 hN2 hN3 hA hA2 hA3 hA4 hA5 hA6 hA7 hF hF2 hF3 hF6 hF7 hB hB4 hB5 hB8
    go_wp2_with fail
    refine (ref_Same a1 a xs xs _ cp1 _ c _ rfl rfl hl hl G.out.1 hrd8.out).mono ?_; rintro e w9 ⟨rfl, hB9⟩
    rw [same_self]
    go_wp2_with fail
    refine (ref_Same a2 a xs xs _ cp2 _ c _ rfl rfl hl hl (G.out.2.1.bel hB9) (hrd8.out.bel hB9)).mono ?_; rintro e w10 ⟨rfl, hB10⟩
    rw [same_self]
    go_wp2_with fail
    refine (ref_Same a3 a xs xs _ cp3 _ c _ rfl rfl hl hl (G.out.2.2.bel (hB9.trans hB10)) (hrd8.out.bel (hB9.trans hB10))).mono ?_; rintro e w11 ⟨rfl, hB11⟩
    rw [same_self]
    go_wp2_with fail
    refine (awake04 _).mono ?_; rintro e w12 ⟨rfl, hB12⟩
    go_wp2
    go_ret
    exact ⟨rfl, GF.out.trans (((hB9.trans hB10).trans hB11).trans hB12)⟩
end Go.Proofs.Ytgpegcbhmobdhaa

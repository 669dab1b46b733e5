/- Package policy, and the reference of layer 18: what they come to. -/
import Derived.Test.YtgpegcbhmobdhaaWNum2
import Derived.Test.YtgpegcbhmobdhaaPPol
namespace Go.Proofs.Ytgpegcbhmobdhaa
open Go.RowKit

theorem ret_ii {k k' : IntKind} {a b a' b' : Int} (h : b = a) (h' : b' = a') : Ending.returned (.tuple #[.int k a, .int k' a']) = .returned (.tuple #[.int k b, .int k' b']) := by rw [h, h']
theorem ret_ib {k : IntKind} {a b : Int} {a' b' : Bool} (h : b = a) (h' : b' = a') : Ending.returned (.tuple #[.int k a, .bool a']) = .returned (.tuple #[.int k b, .bool b']) := by rw [h, h']

theorem policy_Grow (size used more limit : Int) (w : World) (hs : I64 size) (hu : I64 used) (hm : I64 more) (hl : I64 limit) :
    Calls Try.prog 34 #[.int .i64 size, .int .i64 used, .int .i64 more, .int .i64 limit] w fun e w' =>
      e = .returned (.tuple #[.int .i64 (growI size used more limit).1, .int .i64 (growI size used more limit).2]) ∧ Bel w w' := by
  have hxs : ∀ x ∈ [limit, size], I64 x := by simp [hl, hs]
  obtain ⟨s0, s1⟩ := hs
  obtain ⟨u0, u1⟩ := hu
  obtain ⟨m0, m1⟩ := hm
  obtain ⟨l0, l1⟩ := hl
  have ha : [limit, size].all limB = (limB limit && limB size) := by simp
  by_cases c : (limB limit && limB size) = false ∨ limit < size ∨ used < 0 ∨ size < used ∨ more < 0
  · have H := Lib.hid (grow_bad (more := more) c)
    cases hb : (limB limit && limB size)
    · rw [hb] at ha
      have HA := Lib.hid ha
      clear ha hb c
      go_enter Try.func34, Try.ntmps34
      go_wp2_with fail
      refine (policy_Limit _ [limit, size] _ _ _ rfl (by simp [maxLen]) (RdV.new _ _ _) hxs).mono ?_; rintro e w' ⟨rfl, rfl⟩
      rw [HA.out]
      go_wp2
      go_ret2
      exact ⟨ret_ii (by rw [H.out]) (by rw [H.out]), (Bel.refl _).alloc _⟩
    · rw [hb] at ha
      have HA := Lib.hid ha
      have c1 : limit < size ∨ (¬ limit < size ∧ used < 0) ∨ (¬ limit < size ∧ ¬ used < 0 ∧ size < used) ∨ (¬ limit < size ∧ ¬ used < 0 ∧ ¬ size < used ∧ more < 0) := by
        rcases c with c | c
        · rw [hb] at c; simp at c
        · omega
      clear ha hb c
      rcases c1 with c | ⟨c1, c⟩ | ⟨c1, c2, c⟩ | ⟨c1, c2, c3, c⟩
      all_goals
        go_enter Try.func34, Try.ntmps34
        go_wp2_with fail
        refine (policy_Limit _ [limit, size] _ _ _ rfl (by simp [maxLen]) (RdV.new _ _ _) hxs).mono ?_; rintro e w' ⟨rfl, rfl⟩
        rw [HA.out]
        go_wp2
        go_ret2
        exact ⟨ret_ii (by rw [H.out]) (by rw [H.out]), (Bel.refl _).alloc _⟩
  · have hb : (limB limit && limB size) = true := by
      cases h : (limB limit && limB size) with
      | true => rfl
      | false => exact absurd (.inl h) c
    have hb2 : limB limit = true ∧ limB size = true := by simpa using hb
    rw [hb] at ha
    have HA := Lib.hid ha
    have b1 := limB_bounds hb2.1
    have b2 := limB_bounds hb2.2
    have c1 : ¬ limit < size ∧ ¬ used < 0 ∧ ¬ size < used ∧ ¬ more < 0 :=
      ⟨fun h => c (.inr (.inl h)), fun h => c (.inr (.inr (.inl h))), fun h => c (.inr (.inr (.inr (.inl h)))), fun h => c (.inr (.inr (.inr (.inr h))))⟩
    obtain ⟨c1, c2, c3, c4⟩ := c1
    by_cases d : limit - used < more
    · have H := Lib.hid (grow_lim c d)
      clear ha hb hb2 c
      go_enter Try.func34, Try.ntmps34
      go_wp2_with fail
      refine (policy_Limit _ [limit, size] _ _ _ rfl (by simp [maxLen]) (RdV.new _ _ _) hxs).mono ?_; rintro e w' ⟨rfl, rfl⟩
      rw [HA.out]
      go_wp2
      go_ret2
      exact ⟨ret_ii (by rw [H.out]) (by rw [H.out]), (Bel.refl _).alloc _⟩
    · have H := Lib.hid (grow_ok hb2.1 hb2.2 c1 c2 c3 c4 d).1
      clear ha hb hb2 c
      go_enter Try.func34, Try.ntmps34
      go_wp2_with fail
      refine (policy_Limit _ [limit, size] _ _ _ rfl (by simp [maxLen]) (RdV.new _ _ _) hxs).mono ?_; rintro e w' ⟨rfl, rfl⟩
      rw [HA.out]
      go_wp2_with fail
      refine (num_Up _ _ ⟨by omega, by omega⟩).mono ?_; rintro e w' ⟨rfl, rfl⟩
      go_wp2
      go_ret2
      exact ⟨ret_ii (by rw [H.out]) (by rw [H.out]), (Bel.refl _).alloc _⟩

theorem policy_First (words limit : Int) (w : World) (hw : I64 words) (hl : I64 limit) :
    Calls Try.prog 53 #[.int .i64 words, .int .i64 limit] w fun e w' =>
      e = .returned (.tuple #[.int .i64 (firstI words limit).1, .int .i64 (firstI words limit).2]) ∧ Bel w w' := by
  have hxs : ∀ x ∈ [limit], I64 x := by simp [hl]
  obtain ⟨w0, w1⟩ := hw
  obtain ⟨l0, l1⟩ := hl
  have ha : [limit].all limB = limB limit := by simp
  cases hb : limB limit
  · rw [hb] at ha
    have HA := Lib.hid ha
    have H := Lib.hid (show firstI words limit = (0, 1) by unfold firstI; rw [if_pos (.inl hb)])
    clear ha hb
    go_enter Try.func53, Try.ntmps53
    go_wp2_with fail
    refine (policy_Limit _ [limit] _ _ _ rfl (by simp [maxLen]) (RdV.new _ _ _) hxs).mono ?_; rintro e w' ⟨rfl, rfl⟩
    rw [HA.out]
    go_wp2
    go_ret2
    exact ⟨ret_ii (by rw [H.out]) (by rw [H.out]), (Bel.refl _).alloc _⟩
  · rw [hb] at ha
    have HA := Lib.hid ha
    have b1 := limB_bounds hb
    by_cases c : words < 1
    · have H := Lib.hid (show firstI words limit = (0, 1) by unfold firstI; rw [if_pos (.inr c)])
      clear ha hb
      go_enter Try.func53, Try.ntmps53
      go_wp2_with fail
      refine (policy_Limit _ [limit] _ _ _ rfl (by simp [maxLen]) (RdV.new _ _ _) hxs).mono ?_; rintro e w' ⟨rfl, rfl⟩
      rw [HA.out]
      go_wp2
      go_ret2
      exact ⟨ret_ii (by rw [H.out]) (by rw [H.out]), (Bel.refl _).alloc _⟩
    · by_cases d : limit < words
      · have H := Lib.hid (show firstI words limit = (0, 4) by unfold firstI; rw [if_neg (by simp [hb]; omega), if_pos d])
        clear ha hb
        go_enter Try.func53, Try.ntmps53
        go_wp2_with fail
        refine (policy_Limit _ [limit] _ _ _ rfl (by simp [maxLen]) (RdV.new _ _ _) hxs).mono ?_; rintro e w' ⟨rfl, rfl⟩
        rw [HA.out]
        go_wp2
        go_ret2
        exact ⟨ret_ii (by rw [H.out]) (by rw [H.out]), (Bel.refl _).alloc _⟩
      · have H := Lib.hid (first_ok hb c d).1
        clear ha hb
        go_enter Try.func53, Try.ntmps53
        go_wp2_with fail
        refine (policy_Limit _ [limit] _ _ _ rfl (by simp [maxLen]) (RdV.new _ _ _) hxs).mono ?_; rintro e w' ⟨rfl, rfl⟩
        rw [HA.out]
        go_wp2_with fail
        refine (num_Up _ _ ⟨by omega, by omega⟩).mono ?_; rintro e w' ⟨rfl, rfl⟩
        go_wp2
        go_ret2
        exact ⟨ret_ii (by rw [H.out]) (by rw [H.out]), (Bel.refl _).alloc _⟩

theorem policy_Shrink (size used : Int) (w : World) (hs : I64 size) (hu : I64 used) :
    Calls Try.prog 51 #[.int .i64 size, .int .i64 used] w fun e w' =>
      e = .returned (.tuple #[.int .i64 (shrinkI size used).1, .bool (shrinkI size used).2]) ∧ Bel w w' := by
  have hxs : ∀ x ∈ [size], I64 x := by simp [hs]
  obtain ⟨s0, s1⟩ := hs
  obtain ⟨u0, u1⟩ := hu
  have ha : [size].all szB = szB size := by simp
  cases hb : szB size
  · rw [hb] at ha
    have HA := Lib.hid ha
    have H := Lib.hid (shrink_no (used := used) (.inl hb))
    clear ha hb
    go_enter Try.func51, Try.ntmps51
    go_wp2_with fail
    refine (stacks_Sizes _ [size] _ _ _ rfl (by simp [maxLen]) (RdV.new _ _ _) hxs).mono ?_; rintro e w' ⟨rfl, rfl⟩
    rw [HA.out]
    go_wp2
    go_ret2
    exact ⟨ret_ib (by rw [H.out]) (by rw [H.out]), (Bel.refl _).alloc _⟩
  · rw [hb] at ha
    have HA := Lib.hid ha
    by_cases c : size ≤ 16 ∨ used < 0 ∨ size / 4 < used
    · have H := Lib.hid (shrink_no (used := used) (.inr c))
      have c1 : size ≤ 16 ∨ (¬ size ≤ 16 ∧ used < 0) ∨ (¬ size ≤ 16 ∧ ¬ used < 0 ∧ size / 4 < used) := by omega
      clear ha hb c
      rcases c1 with c | ⟨c1, c⟩ | ⟨c1, c2, c⟩
      all_goals
        go_enter Try.func51, Try.ntmps51
        go_wp2_with fail
        refine (stacks_Sizes _ [size] _ _ _ rfl (by simp [maxLen]) (RdV.new _ _ _) hxs).mono ?_; rintro e w' ⟨rfl, rfl⟩
        rw [HA.out]
        go_wp2
        go_ret2
        exact ⟨ret_ib (by rw [H.out]) (by rw [H.out]), (Bel.refl _).alloc _⟩
    · have c1 : ¬ size ≤ 16 := by omega
      have c2 : ¬ used < 0 := by omega
      have c3 : ¬ size / 4 < used := by omega
      have H := Lib.hid (shrink_ok (by omega) hb c1 c2 c3).1
      clear ha hb c
      go_enter Try.func51, Try.ntmps51
      go_wp2_with fail
      refine (stacks_Sizes _ [size] _ _ _ rfl (by simp [maxLen]) (RdV.new _ _ _) hxs).mono ?_; rintro e w' ⟨rfl, rfl⟩
      rw [HA.out]
      go_wp2
      go_ret2
      exact ⟨ret_ib (by rw [H.out]) (by rw [H.out]), (Bel.refl _).alloc _⟩

/-! ### the reference -/
theorem ref_Limit (n : Int) (w : World) (h : I64 n) :
    Calls Try.prog 38 #[.int .i64 n] w fun e w' => e = .returned (.bool (limB n)) ∧ w = w' := by
  have hh := h
  obtain ⟨h0, h1⟩ := h
  cases hb : szB n
  · have H := Lib.hid (show limB n = false by simp [limB, hb])
    have HB := Lib.hid hb
    clear hb
    go_enter Try.func38, Try.ntmps38
    go_wp2_with fail
    refine (ref_Size _ _ hh).mono ?_; rintro e w' ⟨rfl, rfl⟩
    rw [HB.out]
    go_wp2
    go_ret
    exact ⟨ret_b H.out, rfl⟩
  · have H := Lib.hid (show limB n = decide (n ≤ 65536) by simp [limB, hb])
    have HB := Lib.hid hb
    clear hb
    go_enter Try.func38, Try.ntmps38
    go_wp2_with fail
    refine (ref_Size _ _ hh).mono ?_; rintro e w' ⟨rfl, rfl⟩
    rw [HB.out]
    go_wp2
    go_ret
    exact ⟨ret_b H.out, rfl⟩

theorem rgrow_Grow (size used more limit : Int) (w : World) (hs : I64 size) (hu : I64 used) (hm : I64 more) (hl : I64 limit) :
    Calls Try.prog 35 #[.int .i64 size, .int .i64 used, .int .i64 more, .int .i64 limit] w fun e w' =>
      e = .returned (.tuple #[.int .i64 (growI size used more limit).1, .int .i64 (growI size used more limit).2]) ∧ w = w' := by
  have hhl := hl
  have hhs := hs
  obtain ⟨s0, s1⟩ := hs
  obtain ⟨u0, u1⟩ := hu
  obtain ⟨m0, m1⟩ := hm
  obtain ⟨l0, l1⟩ := hl
  cases hb : limB limit
  · have H := Lib.hid (grow_bad (size := size) (used := used) (more := more) (limit := limit) (.inl (by rw [hb]; rfl)))
    have HB := Lib.hid hb
    clear hb
    go_enter Try.func35, Try.ntmps35
    go_wp2_with fail
    refine (ref_Limit _ _ hhl).mono ?_; rintro e w' ⟨rfl, rfl⟩
    rw [HB.out]
    go_wp2
    go_ret2
    exact ⟨ret_ii (by rw [H.out]) (by rw [H.out]), rfl⟩
  have HB := Lib.hid hb
  have b1 := limB_bounds hb
  cases hz : szB size
  · have H := Lib.hid (grow_bad (size := size) (used := used) (more := more) (limit := limit) (.inl (by rw [hb]; simp [limB, hz])))
    have HZ := Lib.hid hz
    clear hb hz
    go_enter Try.func35, Try.ntmps35
    go_wp2_with fail
    refine (ref_Limit _ _ hhl).mono ?_; rintro e w' ⟨rfl, rfl⟩
    rw [HB.out]
    go_wp2_with fail
    refine (ref_Size _ _ hhs).mono ?_; rintro e w' ⟨rfl, rfl⟩
    rw [HZ.out]
    go_wp2
    go_ret2
    exact ⟨ret_ii (by rw [H.out]) (by rw [H.out]), rfl⟩
  have HZ := Lib.hid hz
  by_cases c : limit < size ∨ used < 0 ∨ size < used ∨ more < 0
  · have H := Lib.hid (grow_bad (size := size) (used := used) (more := more) (limit := limit) (.inr c))
    have c1 : limit < size ∨ (¬ limit < size ∧ used < 0) ∨ (¬ limit < size ∧ ¬ used < 0 ∧ size < used) ∨ (¬ limit < size ∧ ¬ used < 0 ∧ ¬ size < used ∧ more < 0) := by omega
    clear hb hz c
    rcases c1 with c | ⟨c1, c⟩ | ⟨c1, c2, c⟩ | ⟨c1, c2, c3, c⟩
    all_goals
      go_enter Try.func35, Try.ntmps35
      go_wp2_with fail
      refine (ref_Limit _ _ hhl).mono ?_; rintro e w' ⟨rfl, rfl⟩
      rw [HB.out]
      go_wp2_with fail
      refine (ref_Size _ _ hhs).mono ?_; rintro e w' ⟨rfl, rfl⟩
      rw [HZ.out]
      go_wp2
      go_ret2
      exact ⟨ret_ii (by rw [H.out]) (by rw [H.out]), rfl⟩
  have c1 : ¬ limit < size := by omega
  have c2 : ¬ used < 0 := by omega
  have c3 : ¬ size < used := by omega
  have c4 : ¬ more < 0 := by omega
  have hl2 : limB size = true := by rw [limB_szB (by omega)]; exact hz
  have hn : ¬ ((limB limit && limB size) = false ∨ limit < size ∨ used < 0 ∨ size < used ∨ more < 0) := by rw [hb, hl2]; simp; omega
  by_cases d : limit - used < more
  · have H := Lib.hid (grow_lim hn d)
    clear hb hz hl2 hn c
    by_cases d1 : limit < more
    all_goals
      go_enter Try.func35, Try.ntmps35
      go_wp2_with fail
      refine (ref_Limit _ _ hhl).mono ?_; rintro e w' ⟨rfl, rfl⟩
      rw [HB.out]
      go_wp2_with fail
      refine (ref_Size _ _ hhs).mono ?_; rintro e w' ⟨rfl, rfl⟩
      rw [HZ.out]
      go_wp2
      go_ret2
      exact ⟨ret_ii (by rw [H.out]) (by rw [H.out]), rfl⟩
  · have H := Lib.hid (grow_ok hb hl2 c1 c2 c3 c4 d).1
    obtain ⟨k0, k4, k16, hk⟩ := limB_iff.1 hl2
    have d1 : ¬ limit < more := by omega
    have d2 : used + more ≤ limit := by omega
    have b2 := limB_bounds hl2
    have K := Lib.hid hk
    clear hb hz hl2 hn c d hk
    go_enter Try.func35, Try.ntmps35
    go_wp2_with fail
    refine (ref_Limit _ _ hhl).mono ?_; rintro e w' ⟨rfl, rfl⟩
    rw [HB.out]
    go_wp2_with fail
    refine (ref_Size _ _ hhs).mono ?_; rintro e w' ⟨rfl, rfl⟩
    rw [HZ.out]
    go_wp2_with fail
    go_loop [0] (fun v => ∃ s : Int, v = .int .i64 s ∧ 16 ≤ s ∧ s ≤ 131072 ∧ Hid (∃ k, k ≤ 17 ∧ s = 2 ^ k ∧ max s (upI (used + more)) = max size (upI (used + more)))) (fun v => (131072 - intOf v).toNat)
    case atStart => exact ⟨size, rfl, by omega, by omega, Lib.hid ⟨k0, by omega, K.out, rfl⟩⟩
    case round =>
      obtain ⟨s, rfl, s0, s1, HS⟩ := hrel
      by_cases f : s < used + more
      · have H2 : Hid (∃ k, k ≤ 17 ∧ 2 * s = 2 ^ k ∧ max (2 * s) (upI (used + more)) = max size (upI (used + more))) := Lib.hid (by
          obtain ⟨k, hk, e, hm⟩ := HS.out
          have h16 : k < 17 := by
            refine pow_lt_of ?_
            rw [← e, show (2 : Int) ^ 17 = 131072 from rfl]; omega
          refine ⟨k + 1, by omega, by rw [pow_succ', e], ?_⟩
          rw [← hm, e, ← pow_succ']
          exact grow_step (by omega) (by omega))
        have hlt : 2 * s ≤ 131072 := by omega
        go_wp2
        go_round
        case rel => exact ⟨2 * s, rfl, by omega, by omega, H2⟩
        case measure => simp [intOf]; omega
      · have H2 : Hid (growI size used more limit = (s, 0)) := Lib.hid (by
          obtain ⟨k, hk, e, hm⟩ := HS.out
          rw [H.out, ← hm, e, grow_done (by omega) (by omega)])
        go_wp2
        go_ret2
        exact ⟨ret_ii (by rw [H2.out]) (by rw [H2.out]), rfl⟩

theorem rfirst_First (words limit : Int) (w : World) (hw : I64 words) (hl : I64 limit) :
    Calls Try.prog 54 #[.int .i64 words, .int .i64 limit] w fun e w' =>
      e = .returned (.tuple #[.int .i64 (firstI words limit).1, .int .i64 (firstI words limit).2]) ∧ w = w' := by
  have hhl := hl
  obtain ⟨w0, w1⟩ := hw
  obtain ⟨l0, l1⟩ := hl
  cases hb : limB limit
  · have H := Lib.hid (show firstI words limit = (0, 1) by unfold firstI; rw [if_pos (.inl hb)])
    have HB := Lib.hid hb
    clear hb
    go_enter Try.func54, Try.ntmps54
    go_wp2_with fail
    refine (ref_Limit _ _ hhl).mono ?_; rintro e w' ⟨rfl, rfl⟩
    rw [HB.out]
    go_wp2
    go_ret2
    exact ⟨ret_ii (by rw [H.out]) (by rw [H.out]), rfl⟩
  have HB := Lib.hid hb
  have b1 := limB_bounds hb
  by_cases c : words < 1
  · have H := Lib.hid (show firstI words limit = (0, 1) by unfold firstI; rw [if_pos (.inr c)])
    clear hb
    go_enter Try.func54, Try.ntmps54
    go_wp2_with fail
    refine (ref_Limit _ _ hhl).mono ?_; rintro e w' ⟨rfl, rfl⟩
    rw [HB.out]
    go_wp2
    go_ret2
    exact ⟨ret_ii (by rw [H.out]) (by rw [H.out]), rfl⟩
  by_cases d : limit < words
  · have H := Lib.hid (show firstI words limit = (0, 4) by unfold firstI; rw [if_neg (by simp [hb]; omega), if_pos d])
    clear hb
    go_enter Try.func54, Try.ntmps54
    go_wp2_with fail
    refine (ref_Limit _ _ hhl).mono ?_; rintro e w' ⟨rfl, rfl⟩
    rw [HB.out]
    go_wp2
    go_ret2
    exact ⟨ret_ii (by rw [H.out]) (by rw [H.out]), rfl⟩
  have e16 : max (16 : Int) (upI (max words 16)) = upI (max words 16) := by
    have := (up_spec (n := max words 16) (by omega) (by omega)).1; omega
  have H := Lib.hid (first_ok hb c d).1
  have E16 := Lib.hid e16
  clear hb e16
  go_enter Try.func54, Try.ntmps54
  go_wp2_with fail
  refine (ref_Limit _ _ hhl).mono ?_; rintro e w' ⟨rfl, rfl⟩
  rw [HB.out]
  go_wp2_with fail
  go_loop [6] (fun v => ∃ s : Int, v = .int .i64 s ∧ 16 ≤ s ∧ s ≤ 131072 ∧ Hid (∃ k, k ≤ 17 ∧ s = 2 ^ k ∧ max s (upI (max words 16)) = upI (max words 16))) (fun v => (131072 - intOf v).toNat)
  case atStart => exact ⟨16, rfl, by omega, by omega, Lib.hid ⟨4, by omega, rfl, E16.out⟩⟩
  case round =>
    obtain ⟨s, rfl, s0, s1, HS⟩ := hrel
    by_cases f : s < words
    · have H2 : Hid (∃ k, k ≤ 17 ∧ 2 * s = 2 ^ k ∧ max (2 * s) (upI (max words 16)) = upI (max words 16)) := Lib.hid (by
        obtain ⟨k, hk, e, hm⟩ := HS.out
        have h16 : k < 17 := by
          refine pow_lt_of ?_
          rw [← e, show (2 : Int) ^ 17 = 131072 from rfl]; omega
        refine ⟨k + 1, by omega, by rw [pow_succ', e], ?_⟩
        have g := grow_step (n := max words 16) (k := k) (by omega) (by omega)
        rw [e, ← pow_succ', g, ← e, hm])
      have hlt : 2 * s ≤ 131072 := by omega
      go_wp2
      go_round
      case rel => exact ⟨2 * s, rfl, by omega, by omega, H2⟩
      case measure => simp [intOf]; omega
    · have H2 : Hid (firstI words limit = (s, 0)) := Lib.hid (by
        obtain ⟨k, hk, e, hm⟩ := HS.out
        rw [H.out, ← hm, e, grow_done (by omega) (by omega)])
      go_wp2
      go_ret2
      exact ⟨ret_ii (by rw [H2.out]) (by rw [H2.out]), rfl⟩

theorem rshrink_Shrink (size used : Int) (w : World) (hs : I64 size) (hu : I64 used) :
    Calls Try.prog 52 #[.int .i64 size, .int .i64 used] w fun e w' =>
      e = .returned (.tuple #[.int .i64 (shrinkI size used).1, .bool (shrinkI size used).2]) ∧ w = w' := by
  have hhs := hs
  obtain ⟨s0, s1⟩ := hs
  obtain ⟨u0, u1⟩ := hu
  cases hz : szB size
  · have H := Lib.hid (shrink_no (used := used) (.inl hz))
    have HZ := Lib.hid hz
    clear hz
    go_enter Try.func52, Try.ntmps52
    go_wp2_with fail
    refine (ref_Size _ _ hhs).mono ?_; rintro e w' ⟨rfl, rfl⟩
    rw [HZ.out]
    go_wp2
    go_ret2
    exact ⟨ret_ib (by rw [H.out]) (by rw [H.out]), rfl⟩
  have HZ := Lib.hid hz
  have hge : 16 ≤ size := by simp only [szB, Bool.and_eq_true, decide_eq_true_eq] at hz; omega
  by_cases c : size = 16
  · have H := Lib.hid (shrink_no (size := size) (used := used) (.inr (.inl (by omega))))
    subst c
    clear hz
    go_enter Try.func52, Try.ntmps52
    go_wp2_with fail
    refine (ref_Size _ _ hhs).mono ?_; rintro e w' ⟨rfl, rfl⟩
    rw [HZ.out]
    go_wp2
    go_ret2
    exact ⟨ret_ib (by rw [H.out]) (by rw [H.out]), rfl⟩
  by_cases c2 : used < 0
  · have H := Lib.hid (shrink_no (size := size) (used := used) (.inr (.inr (.inl c2))))
    clear hz
    go_enter Try.func52, Try.ntmps52
    go_wp2_with fail
    refine (ref_Size _ _ hhs).mono ?_; rintro e w' ⟨rfl, rfl⟩
    rw [HZ.out]
    go_wp2
    go_ret2
    exact ⟨ret_ib (by rw [H.out]) (by rw [H.out]), rfl⟩
  have h62 : size ≤ 4611686018427387904 ∧ size % 4 = 0 := by
    obtain ⟨k, k4, k63, e⟩ := (szB_iff (by omega)).1 hz
    have := pow_mono (show k ≤ 62 by omega)
    rw [p62] at this
    obtain ⟨j, rfl⟩ : ∃ j, k = j + 2 := ⟨k - 2, by omega⟩
    have e1 := pow_succ' (j + 1)
    have e2 := pow_succ' j
    rw [show j + 1 + 1 = j + 2 from rfl] at e1
    omega
  obtain ⟨h62, h4⟩ := h62
  have e16 : (size == 16) = false := by rw [beq_eq_false_iff_ne]; exact c
  by_cases c3 : size / 4 < used
  · have H := Lib.hid (shrink_no (size := size) (used := used) (.inr (.inr (.inr c3))))
    clear hz
    by_cases d1 : size < used
    · go_enter Try.func52, Try.ntmps52
      go_wp2_with fail
      refine (ref_Size _ _ hhs).mono ?_; rintro e w' ⟨rfl, rfl⟩
      rw [HZ.out]
      go_wp2
      go_ret2
      exact ⟨ret_ib (by rw [H.out]) (by rw [H.out]), rfl⟩
    · by_cases d2 : 1152921504606846976 < used
      · go_enter Try.func52, Try.ntmps52
        go_wp2_with fail
        refine (ref_Size _ _ hhs).mono ?_; rintro e w' ⟨rfl, rfl⟩
        rw [HZ.out]
        go_wp2
        all_goals
          go_ret2
          exact ⟨ret_ib (by rw [H.out]) (by rw [H.out]), rfl⟩
      · have d3 : size < used + used + used + used := by omega
        go_enter Try.func52, Try.ntmps52
        go_wp2_with fail
        refine (ref_Size _ _ hhs).mono ?_; rintro e w' ⟨rfl, rfl⟩
        rw [HZ.out]
        go_wp2
        go_ret2
        exact ⟨ret_ib (by rw [H.out]) (by rw [H.out]), rfl⟩
  · have H := Lib.hid (shrink_ok (by omega) hz (by omega) c2 c3).1
    have d1 : ¬ size < used := by omega
    have d2 : ¬ 1152921504606846976 < used := by omega
    have d3 : ¬ size < used + used + used + used := by omega
    have c4 : ¬ size ≤ 16 := by omega
    clear hz
    go_enter Try.func52, Try.ntmps52
    go_wp2_with fail
    refine (ref_Size _ _ hhs).mono ?_; rintro e w' ⟨rfl, rfl⟩
    rw [HZ.out]
    go_wp2
    go_ret2
    exact ⟨ret_ib (by rw [H.out]) (by rw [H.out]), rfl⟩
end Go.Proofs.Ytgpegcbhmobdhaa

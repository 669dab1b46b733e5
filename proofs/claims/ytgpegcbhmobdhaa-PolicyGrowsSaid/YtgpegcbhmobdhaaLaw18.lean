/- The laws of layer 18, walked: each returns true, and nothing that was there is changed. -/
import Derived.Test.YtgpegcbhmobdhaaWPol
import Derived.Test.YtgpegcbhmobdhaaLaw01
namespace Go.Proofs.Ytgpegcbhmobdhaa
open Go.RowKit

theorem awake18 (w : World) : Calls Try.prog 37 #[] w fun e w' => e = .returned (.bool true) ∧ Bel w w' := by
  have g : Hid (growI 16 10 30 1024 = (64, 0)) := Lib.hid (by decide)
  go_enter Try.func37, Try.ntmps37
  go_wp2_with fail
  refine (policy_Grow 16 10 30 1024 _ ⟨by omega, by omega⟩ ⟨by omega, by omega⟩ ⟨by omega, by omega⟩ ⟨by omega, by omega⟩).mono ?_; rintro e w' ⟨rfl, hB⟩
  rw [g.out]
  go_wp2
  go_ret
  exact ⟨rfl, hB⟩

/-- What Grow says, in one word. -/
theorem grow_cases (size used more limit : Int) : (∃ c, (c = 1 ∨ c = 4) ∧ growI size used more limit = (0, c)) ∨
    (growI size used more limit = (max size (upI (used + more)), 0) ∧ limB limit = true ∧ limB size = true ∧ ¬ limit < size ∧ ¬ used < 0 ∧ ¬ size < used ∧ ¬ more < 0 ∧ ¬ limit - used < more) := by
  unfold growI
  split
  · exact .inl ⟨1, .inl rfl, rfl⟩
  · split
    · exact .inl ⟨4, .inr rfl, rfl⟩
    · rename_i h1 h2
      right
      refine ⟨rfl, ?_⟩
      cases hl : limB limit <;> cases hs : limB size <;> simp [hl, hs] at h1 ⊢
      omega

theorem policyGrows_walk (size used more limit : Int) (w : World) (hs : I64 size) (hu : I64 used) (hm : I64 more) (hl : I64 limit) :
    Calls Try.prog 9 #[.int .i64 size, .int .i64 used, .int .i64 more, .int .i64 limit] w fun e w' => e = .returned (.bool true) ∧ Bel w w' := by
  have hhs := hs
  obtain ⟨s0, s1⟩ := hs
  obtain ⟨u0, u1⟩ := hu
  obtain ⟨m0, m1⟩ := hm
  obtain ⟨l0, l1⟩ := hl
  rcases grow_cases size used more limit with ⟨c, hc, hg⟩ | ⟨hg, a1, a2, a3, a4, a5, a6, a7⟩
  · have G := Lib.hid hg
    have hc0 : (c == 0) = false := by rw [beq_eq_false_iff_ne]; omega
    have hc1 : (c != 0) = true := by rw [bne_iff_ne]; omega
    have hcb : 1 ≤ c ∧ c ≤ 4 := by omega
    obtain ⟨cb0, cb1⟩ := hcb
    clear hg hc
    go_enter Try.func9, Try.ntmps9
    go_wp2_with fail
    refine (policy_Grow size used more limit _ ⟨s0, s1⟩ ⟨u0, u1⟩ ⟨m0, m1⟩ ⟨l0, l1⟩).mono ?_; rintro e w1 ⟨rfl, hB1⟩
    rw [G.out]
    go_wp2_with fail
    refine (rgrow_Grow size used more limit _ ⟨s0, s1⟩ ⟨u0, u1⟩ ⟨m0, m1⟩ ⟨l0, l1⟩).mono ?_; rintro e w2 ⟨rfl, rfl⟩
    rw [G.out]
    go_wp2_with fail
    refine (awake18 _).mono ?_; rintro e w2 ⟨rfl, hB2⟩
    go_wp2
    go_ret
    exact ⟨rfl, hB1.trans hB2⟩
  · obtain ⟨g1, g2, g3, g4, g5⟩ := grow_ok a1 a2 a3 a4 a5 a6 a7
    have b1 := limB_bounds a1
    have b2 := limB_bounds a2
    have G := Lib.hid hg
    obtain ⟨v, hv⟩ : ∃ v, max size (upI (used + more)) = v := ⟨_, rfl⟩
    have V := Lib.hid hv
    rw [hv] at g2 g3 g4
    have hz := Lib.hid g2
    have hge : size ≤ v := by omega
    clear hg hv g1 g2 g5 a1 a2
    go_enter Try.func9, Try.ntmps9
    go_wp2_with fail
    refine (policy_Grow size used more limit _ ⟨s0, s1⟩ ⟨u0, u1⟩ ⟨m0, m1⟩ ⟨l0, l1⟩).mono ?_; rintro e w1 ⟨rfl, hB1⟩
    rw [G.out, V.out]
    go_wp2_with fail
    refine (rgrow_Grow size used more limit _ ⟨s0, s1⟩ ⟨u0, u1⟩ ⟨m0, m1⟩ ⟨l0, l1⟩).mono ?_; rintro e w2 ⟨rfl, rfl⟩
    rw [G.out, V.out]
    go_wp2_with fail
    refine (ref_Size _ _ ⟨by omega, by omega⟩).mono ?_; rintro e w2 ⟨rfl, rfl⟩
    rw [hz.out]
    go_wp2_with fail
    refine (awake18 _).mono ?_; rintro e w2 ⟨rfl, hB2⟩
    go_wp2
    go_ret
    exact ⟨rfl, hB1.trans hB2⟩

theorem first_cases (words limit : Int) : (∃ c, (c = 1 ∨ c = 4) ∧ firstI words limit = (0, c)) ∨
    (firstI words limit = (upI (max words 16), 0) ∧ limB limit = true ∧ ¬ words < 1 ∧ ¬ limit < words) := by
  unfold firstI
  split
  · exact .inl ⟨1, .inl rfl, rfl⟩
  · split
    · exact .inl ⟨4, .inr rfl, rfl⟩
    · rename_i h1 h2
      right
      refine ⟨rfl, ?_⟩
      cases hl : limB limit <;> simp [hl] at h1 ⊢
      omega

theorem policyFirst_walk (words limit : Int) (w : World) (hw : I64 words) (hl : I64 limit) :
    Calls Try.prog 17 #[.int .i64 words, .int .i64 limit] w fun e w' => e = .returned (.bool true) ∧ Bel w w' := by
  obtain ⟨s0, s1⟩ := hw
  obtain ⟨l0, l1⟩ := hl
  have ha : Hid ([limit].all limB = limB limit) := Lib.hid (by simp)
  have hxs : ∀ x ∈ [limit], I64 x := by simp [I64, l0, l1]
  have hbb : ((limB limit) == limB limit) = true := by simp
  rcases first_cases words limit with ⟨c, hc, hg⟩ | ⟨hg, a1, a3, a4⟩
  · have G := Lib.hid hg
    have hc0 : (c == 0) = false := by rw [beq_eq_false_iff_ne]; omega
    have hc1 : (c != 0) = true := by rw [bne_iff_ne]; omega
    have hcb : 1 ≤ c ∧ c ≤ 4 := by omega
    obtain ⟨cb0, cb1⟩ := hcb
    clear hg hc
    go_enter Try.func17, Try.ntmps17
    go_wp2_with fail
    refine (policy_First words limit _ ⟨s0, s1⟩ ⟨l0, l1⟩).mono ?_; rintro e w1 ⟨rfl, hB1⟩
    rw [G.out]
    go_wp2_with fail
    refine (rfirst_First words limit _ ⟨s0, s1⟩ ⟨l0, l1⟩).mono ?_; rintro e w2 ⟨rfl, rfl⟩
    rw [G.out]
    go_wp2_with fail
    refine (policy_Limit _ [limit] _ _ _ rfl (by simp [maxLen]) (RdV.new _ _ _) hxs).mono ?_; rintro e w' ⟨rfl, rfl⟩
    rw [ha.out]
    go_wp2_with fail
    refine (ref_Limit _ _ ⟨l0, l1⟩).mono ?_; rintro e w2 ⟨rfl, rfl⟩
    go_wp2_with fail
    refine (awake18 _).mono ?_; rintro e w2 ⟨rfl, hB2⟩
    go_wp2
    go_ret
    exact ⟨rfl, (hB1.alloc _).trans hB2⟩
  · obtain ⟨g1, g2, g3, g4, g5⟩ := first_ok a1 a3 a4
    have b1 := limB_bounds a1
    have G := Lib.hid hg
    obtain ⟨v, hv⟩ : ∃ v, upI (max words 16) = v := ⟨_, rfl⟩
    have V := Lib.hid hv
    rw [hv] at g2 g3 g4 g5
    have hz := Lib.hid g2
    clear hg hv g1 g2 a1
    rcases Classical.em (v = 16) with h16 | h16
    all_goals
      first
        | subst h16
        | (have g6 : v < 2 * words := by omega
           have n16 : (v == 16) = false := by rw [beq_eq_false_iff_ne]; exact h16
           clear g5 h16)
      go_enter Try.func17, Try.ntmps17
      go_wp2_with fail
      refine (policy_First words limit _ ⟨s0, s1⟩ ⟨l0, l1⟩).mono ?_; rintro e w1 ⟨rfl, hB1⟩
      rw [G.out, V.out]
      go_wp2_with fail
      refine (rfirst_First words limit _ ⟨s0, s1⟩ ⟨l0, l1⟩).mono ?_; rintro e w2 ⟨rfl, rfl⟩
      rw [G.out, V.out]
      go_wp2_with fail
      refine (policy_Limit _ [limit] _ _ _ rfl (by simp [maxLen]) (RdV.new _ _ _) hxs).mono ?_; rintro e w' ⟨rfl, rfl⟩
      rw [ha.out]
      go_wp2_with fail
      refine (ref_Limit _ _ ⟨l0, l1⟩).mono ?_; rintro e w2 ⟨rfl, rfl⟩
      go_wp2_with fail
      refine (ref_Size _ _ ⟨by omega, by omega⟩).mono ?_; rintro e w2 ⟨rfl, rfl⟩
      rw [hz.out]
      go_wp2_with fail
      refine (awake18 _).mono ?_; rintro e w2 ⟨rfl, hB2⟩
      go_wp2
      go_ret
      exact ⟨rfl, (hB1.alloc _).trans hB2⟩

theorem shrink_cases (size used : Int) (h : size < 9223372036854775808) : shrinkI size used = (size, false) ∨
    (shrinkI size used = (size / 2, true) ∧ szB size = true ∧ ¬ size ≤ 16 ∧ ¬ used < 0 ∧ ¬ size / 4 < used) := by
  unfold shrinkI
  split
  · exact .inl rfl
  · rename_i h1
    right
    refine ⟨rfl, ?_⟩
    cases hl : szB size <;> simp [hl] at h1 ⊢
    omega

theorem policyShrinks_walk (size used : Int) (w : World) (hs : I64 size) (hu : I64 used) :
    Calls Try.prog 15 #[.int .i64 size, .int .i64 used] w fun e w' => e = .returned (.bool true) ∧ Bel w w' := by
  obtain ⟨s0, s1⟩ := hs
  obtain ⟨u0, u1⟩ := hu
  rcases shrink_cases size used (by omega) with hg | ⟨hg, a1, a2, a3, a4⟩
  · have G := Lib.hid hg
    clear hg
    go_enter Try.func15, Try.ntmps15
    go_wp2_with fail
    refine (policy_Shrink size used _ ⟨s0, s1⟩ ⟨u0, u1⟩).mono ?_; rintro e w1 ⟨rfl, hB1⟩
    rw [G.out]
    go_wp2_with fail
    refine (rshrink_Shrink size used _ ⟨s0, s1⟩ ⟨u0, u1⟩).mono ?_; rintro e w2 ⟨rfl, rfl⟩
    rw [G.out]
    go_wp2_with fail
    refine (awake18 _).mono ?_; rintro e w2 ⟨rfl, hB2⟩
    go_wp2
    go_ret
    exact ⟨rfl, hB1.trans hB2⟩
  · obtain ⟨g1, g2, g3, g4, g5, g6⟩ := shrink_ok (by omega) a1 a2 a3 a4
    have G := Lib.hid hg
    have hz := Lib.hid g2
    obtain ⟨v, hv⟩ : ∃ v, size / 2 = v := ⟨_, rfl⟩
    rw [hv] at G hz g3 g4
    have e1 : (2 * v == size) = true := by rw [beq_iff_eq]; exact g3
    have v0 : 0 ≤ v := by omega
    have v1 : v ≤ 2305843009213693952 := by omega
    clear hg hv g1 g2 a1 g3
    go_enter Try.func15, Try.ntmps15
    go_wp2_with fail
    refine (policy_Shrink size used _ ⟨s0, s1⟩ ⟨u0, u1⟩).mono ?_; rintro e w1 ⟨rfl, hB1⟩
    rw [G.out]
    go_wp2_with fail
    refine (rshrink_Shrink size used _ ⟨s0, s1⟩ ⟨u0, u1⟩).mono ?_; rintro e w2 ⟨rfl, rfl⟩
    rw [G.out]
    go_wp2_with fail
    refine (ref_Size _ _ ⟨by omega, by omega⟩).mono ?_; rintro e w2 ⟨rfl, rfl⟩
    rw [hz.out]
    go_wp2_with fail
    refine (awake18 _).mono ?_; rintro e w2 ⟨rfl, hB2⟩
    go_wp2
    go_ret
    exact ⟨rfl, hB1.trans hB2⟩

/-- What has just grown stays: more than a quarter of it is used. -/
theorem calm_grown {size used more limit : Int} (a1 : limB limit = true) (a2 : limB size = true) (a3 : ¬ limit < size) (a4 : ¬ used < 0) (a5 : ¬ size < used) (a6 : ¬ more < 0) (a7 : ¬ limit - used < more)
    (h : size < max size (upI (used + more))) : shrinkI (max size (upI (used + more))) (used + more) = (max size (upI (used + more)), false) := by
  obtain ⟨_, _, _, _, g5⟩ := grow_ok a1 a2 a3 a4 a5 a6 a7
  have := g5 h
  exact shrink_no (.inr (.inr (.inr (by omega))))
/-- What has shrunk takes as much again. -/
theorem calm_shrunk {size used limit : Int} (h : size ≤ limit) (hl : limB limit = true) (h0 : szB size = true) (h1 : ¬ size ≤ 16) (h2 : ¬ used < 0) (h3 : ¬ size / 4 < used) :
    growI (size / 2) used used limit = (size / 2, 0) := by
  have b := limB_bounds hl
  obtain ⟨_, g2, g3, g4, g5, g6⟩ := shrink_ok (by omega) h0 h1 h2 h3
  have hs : limB (size / 2) = true := by rw [limB_szB (by omega)]; exact g2
  have g := (grow_ok (size := size / 2) (used := used) (more := used) hl hs (by omega) (by omega) (by omega) (by omega) (by omega)).1
  rw [g]
  obtain ⟨k, k4, k16, e⟩ := limB_iff.1 hs
  rw [e, grow_done (by omega) (by omega)]

theorem policyCalms_walk (size used more limit : Int) (w : World) (hs : I64 size) (hu : I64 used) (hm : I64 more) (hl : I64 limit) :
    Calls Try.prog 16 #[.int .i64 size, .int .i64 used, .int .i64 more, .int .i64 limit] w fun e w' => e = .returned (.bool true) ∧ Bel w w' := by
  obtain ⟨s0, s1⟩ := hs
  obtain ⟨u0, u1⟩ := hu
  obtain ⟨m0, m1⟩ := hm
  obtain ⟨l0, l1⟩ := hl
  rcases grow_cases size used more limit with ⟨c, hc, hg⟩ | ⟨hg, a1, a2, a3, a4, a5, a6, a7⟩
  · have G := Lib.hid hg
    have hc0 : (c == 0) = false := by rw [beq_eq_false_iff_ne]; omega
    have hc1 : (c != 0) = true := by rw [bne_iff_ne]; omega
    have hcb : 1 ≤ c ∧ c ≤ 4 := by omega
    obtain ⟨cb0, cb1⟩ := hcb
    clear hg hc
    go_enter Try.func16, Try.ntmps16
    go_wp2_with fail
    refine (policy_Grow size used more limit _ ⟨s0, s1⟩ ⟨u0, u1⟩ ⟨m0, m1⟩ ⟨l0, l1⟩).mono ?_; rintro e w1 ⟨rfl, hB1⟩
    rw [G.out]
    go_wp2_with fail
    refine (awake18 _).mono ?_; rintro e w2 ⟨rfl, hB2⟩
    go_wp2
    go_ret
    exact ⟨rfl, hB1.trans hB2⟩
  · obtain ⟨g1, g2, g3, g4, g5⟩ := grow_ok a1 a2 a3 a4 a5 a6 a7
    have b1 := limB_bounds a1
    have b2 := limB_bounds a2
    have G := Lib.hid hg
    have HS : Hid (size < max size (upI (used + more)) → shrinkI (max size (upI (used + more))) (used + more) = (max size (upI (used + more)), false)) := Lib.hid (calm_grown a1 a2 a3 a4 a5 a6 a7)
    have A1 := Lib.hid a1
    obtain ⟨v, hv⟩ : ∃ v, max size (upI (used + more)) = v := ⟨_, rfl⟩
    have V := Lib.hid hv
    rw [hv] at HS g3 g4
    have hge : size ≤ v := by omega
    have hz : Hid (szB size = true) := Lib.hid (by rw [← limB_szB (by omega)]; exact a2)
    clear hg hv g1 g2 g5 a1 a2
    have hlast : Hid (shrinkI size used = (size, false) ∨ (shrinkI size used = (size / 2, true) ∧ growI (size / 2) used used limit = (size / 2, 0) ∧ -9223372036854775808 ≤ size / 2 ∧ size / 2 ≤ 9223372036854775807)) := Lib.hid (by
      rcases shrink_cases size used (by omega) with h | ⟨h, c1, c2, c3, c4⟩
      · exact .inl h
      · exact .inr ⟨h, calm_shrunk (by omega) A1.out c1 c2 c3 c4, by omega, by omega⟩)
    by_cases d : size < v
    · have HD := Lib.hid (HS.out d)
      rcases hlast.out with h | ⟨h, h', e0, e1⟩
      · have F := Lib.hid h
        clear h
        go_enter Try.func16, Try.ntmps16
        go_wp2_with fail
        refine (policy_Grow size used more limit _ ⟨s0, s1⟩ ⟨u0, u1⟩ ⟨m0, m1⟩ ⟨l0, l1⟩).mono ?_; rintro e w1 ⟨rfl, hB1⟩
        rw [G.out, V.out]
        go_wp2_with fail
        refine (policy_Shrink v (used + more) _ ⟨by omega, by omega⟩ ⟨by omega, by omega⟩).mono ?_; rintro e w2 ⟨rfl, hB2⟩
        rw [HD.out]
        go_wp2_with fail
        refine (policy_Shrink size used _ ⟨s0, s1⟩ ⟨u0, u1⟩).mono ?_; rintro e w3 ⟨rfl, hB3⟩
        rw [F.out]
        go_wp2_with fail
        refine (awake18 _).mono ?_; rintro e w4 ⟨rfl, hB4⟩
        go_wp2
        go_ret
        exact ⟨rfl, ((hB1.trans hB2).trans hB3).trans hB4⟩
      · have F := Lib.hid h
        have F' := Lib.hid h'
        obtain ⟨q, hq⟩ : ∃ q, size / 2 = q := ⟨_, rfl⟩
        rw [hq] at F F' e0 e1
        clear h h' hq hlast
        go_enter Try.func16, Try.ntmps16
        go_wp2_with fail
        refine (policy_Grow size used more limit _ ⟨s0, s1⟩ ⟨u0, u1⟩ ⟨m0, m1⟩ ⟨l0, l1⟩).mono ?_; rintro e w1 ⟨rfl, hB1⟩
        rw [G.out, V.out]
        go_wp2_with fail
        refine (policy_Shrink v (used + more) _ ⟨by omega, by omega⟩ ⟨by omega, by omega⟩).mono ?_; rintro e w2 ⟨rfl, hB2⟩
        rw [HD.out]
        go_wp2_with fail
        refine (policy_Shrink size used _ ⟨s0, s1⟩ ⟨u0, u1⟩).mono ?_; rintro e w3 ⟨rfl, hB3⟩
        rw [F.out]
        go_wp2_with fail
        refine (policy_Grow q used used limit _ ⟨e0, e1⟩ ⟨u0, u1⟩ ⟨u0, u1⟩ ⟨l0, l1⟩).mono ?_; rintro e w5 ⟨rfl, hB5⟩
        rw [F'.out]
        go_wp2_with fail
        refine (awake18 _).mono ?_; rintro e w4 ⟨rfl, hB4⟩
        go_wp2
        go_ret
        exact ⟨rfl, (((hB1.trans hB2).trans hB3).trans hB5).trans hB4⟩
    · rcases hlast.out with h | ⟨h, h', e0, e1⟩
      · have F := Lib.hid h
        clear h
        go_enter Try.func16, Try.ntmps16
        go_wp2_with fail
        refine (policy_Grow size used more limit _ ⟨s0, s1⟩ ⟨u0, u1⟩ ⟨m0, m1⟩ ⟨l0, l1⟩).mono ?_; rintro e w1 ⟨rfl, hB1⟩
        rw [G.out, V.out]
        go_wp2_with fail
        refine (policy_Shrink size used _ ⟨s0, s1⟩ ⟨u0, u1⟩).mono ?_; rintro e w3 ⟨rfl, hB3⟩
        rw [F.out]
        go_wp2_with fail
        refine (awake18 _).mono ?_; rintro e w4 ⟨rfl, hB4⟩
        go_wp2
        go_ret
        exact ⟨rfl, (hB1.trans hB3).trans hB4⟩
      · have F := Lib.hid h
        have F' := Lib.hid h'
        obtain ⟨q, hq⟩ : ∃ q, size / 2 = q := ⟨_, rfl⟩
        rw [hq] at F F' e0 e1
        clear h h' hq hlast
        go_enter Try.func16, Try.ntmps16
        go_wp2_with fail
        refine (policy_Grow size used more limit _ ⟨s0, s1⟩ ⟨u0, u1⟩ ⟨m0, m1⟩ ⟨l0, l1⟩).mono ?_; rintro e w1 ⟨rfl, hB1⟩
        rw [G.out, V.out]
        go_wp2_with fail
        refine (policy_Shrink size used _ ⟨s0, s1⟩ ⟨u0, u1⟩).mono ?_; rintro e w3 ⟨rfl, hB3⟩
        rw [F.out]
        go_wp2_with fail
        refine (policy_Grow q used used limit _ ⟨e0, e1⟩ ⟨u0, u1⟩ ⟨u0, u1⟩ ⟨l0, l1⟩).mono ?_; rintro e w5 ⟨rfl, hB5⟩
        rw [F'.out]
        go_wp2_with fail
        refine (awake18 _).mono ?_; rintro e w4 ⟨rfl, hB4⟩
        go_wp2
        go_ret
        exact ⟨rfl, ((hB1.trans hB3).trans hB5).trans hB4⟩

theorem policyLimits_walk (a : Option Addr) (xs : List Int) (n c : Nat) (w : World) (hn : n = xs.length) (hl : xs.length ≤ maxLen) (hrd : RdV w a (xs.map (.int .i64))) (hx : ∀ x ∈ xs, I64 x) :
    Calls Try.prog 10 #[.slice a n c] w fun e w' => e = .returned (.bool true) ∧ Bel w w' := by
  subst hn
  have hl2 : xs.length ≤ 9223372036854775807 := by unfold maxLen at hl; omega
  by_cases c20 : 20 < xs.length
  · go_enter Try.func10, Try.ntmps10
    go_wp2_with fail
    refine (awake18 _).mono ?_; rintro e w' ⟨rfl, hB⟩
    go_wp2
    go_ret
    exact ⟨rfl, hB⟩
  · go_enter Try.func10, Try.ntmps10
    go_wp2_with fail
    go_loop [3, 4] (fun v k => ∃ m : Nat, m ≤ xs.length ∧ k = .int .i64 m ∧ v = .bool ((xs.take m).all limB)) (fun _ k => xs.length - (intOf k).toNat)
    case atStart => exact ⟨0, Nat.zero_le _, rfl, rfl⟩
    case round =>
      obtain ⟨m, hm, rfl, rfl⟩ := hrel
      by_cases hlt : m < xs.length
      · obtain ⟨b, o, rfl, hcell⟩ := hrd.at m hlt
        have H := all_take_succ limB xs m hlt
        have hxm := hx xs[m] (List.getElem_mem hlt)
        have HR := Lib.hid hrd
        clear hrd
        cases hall : (xs.take m).all limB
        · have H2 : Hid ((xs.take (m + 1)).all limB = false) := Lib.hid (by rw [H, hall]; rfl)
          clear H hall
          go_wp2
          go_round
          case rel => exact ⟨m + 1, by omega, by go_num, by rw [H2.out]⟩
          case measure => simp [intOf]; omega
        · have H2 : Hid ((xs.take (m + 1)).all limB = limB xs[m]) := Lib.hid (by rw [H, hall]; simp)
          clear H hall
          go_wp2_with fail
          refine (ref_Limit _ _ hxm).mono ?_; rintro e w' ⟨rfl, rfl⟩
          go_wp2
          go_round
          case rel => exact ⟨m + 1, by omega, by go_num, by rw [H2.out]⟩
          case measure => simp [intOf]; omega
      · have H2 : Hid ((xs.take m).all limB = xs.all limB) := Lib.hid (by rw [List.take_of_length_le (by omega)])
        go_wp2_with fail
        refine (policy_Limit a xs _ c _ rfl hl hrd hx).mono ?_; rintro e w' ⟨rfl, rfl⟩
        rw [H2.out]
        go_wp2_with fail
        refine (awake18 _).mono ?_; rintro e w' ⟨rfl, hB⟩
        go_wp2
        go_ret
        exact ⟨rfl, hB⟩
end Go.Proofs.Ytgpegcbhmobdhaa

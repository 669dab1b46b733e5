/- Package runs: Concat, byStart, joined. -/
import Derived.Test.YthkbhikiljlgoaaWRuns3
import Derived.Test.YthkbhikiljlgoaaSort
import Derived.Lib.AppendZeros
namespace Go.Proofs.Ythkbhikiljlgoaa
open Go.RowKit Go.Shelf Go.Sort Go.Lib

/-! ### the order of runs -/
theorem isNaN_int (x : Int) (w : World) : Calls Try.prog 47 #[.int .i64 x] w fun e w' => e = .returned (.bool false) ∧ w = w' := by
  have h : (x != x) = false := by simp
  go_enter Try.func47, Try.ntmps47
  go_wp2
  go_ret
  exact ⟨rfl, rfl⟩
def cmpF (x y : Int) : Int := if x < y then -1 else if y < x then 1 else 0
theorem cmp_int (x y : Int) (w : World) : Calls Try.prog 28 #[.int .i64 x, .int .i64 y] w fun e w' => e = .returned (.int .i64 (cmpF x y)) ∧ w = w' := by
  by_cases c1 : x < y
  · have HE : Hid (cmpF x y = -1) := Lib.hid (by unfold cmpF; rw [if_pos c1])
    go_enter Try.func28, Try.ntmps28
    go_wp2_with fail
    refine (isNaN_int x w).mono ?_; rintro e w' ⟨rfl, rfl⟩
    go_wp2_with fail
    refine (isNaN_int y w).mono ?_; rintro e w' ⟨rfl, rfl⟩
    go_wp2
    go_ret
    exact ⟨by rw [HE.out]; rfl, rfl⟩
  · by_cases c2 : y < x
    · have HE : Hid (cmpF x y = 1) := Lib.hid (by unfold cmpF; rw [if_neg c1, if_pos c2])
      go_enter Try.func28, Try.ntmps28
      go_wp2_with fail
      refine (isNaN_int x w).mono ?_; rintro e w' ⟨rfl, rfl⟩
      go_wp2_with fail
      refine (isNaN_int y w).mono ?_; rintro e w' ⟨rfl, rfl⟩
      go_wp2
      go_ret
      exact ⟨by rw [HE.out]; rfl, rfl⟩
    · have HE : Hid (cmpF x y = 0) := Lib.hid (by unfold cmpF; rw [if_neg c1, if_neg c2])
      go_enter Try.func28, Try.ntmps28
      go_wp2_with fail
      refine (isNaN_int x w).mono ?_; rintro e w' ⟨rfl, rfl⟩
      go_wp2_with fail
      refine (isNaN_int y w).mono ?_; rintro e w' ⟨rfl, rfl⟩
      go_wp2
      go_ret
      exact ⟨by rw [HE.out]; rfl, rfl⟩
def cfS (x y : BRn) : Int := cmpF x.1.1 y.1.1
theorem ltS : ByStart cfS := fun x y => by
  unfold ltOf cfS cmpF
  rw [decide_eq_decide]
  split
  · omega
  · split <;> omega
set_option maxRecDepth 20000 in
theorem byStart_cmp (x y : BRn) (W : World) : Calls Try.prog 53 #[.agg #[.int .i64 x.1.1, .int .i64 x.1.2], .agg #[.int .i64 y.1.1, .int .i64 y.1.2]] W fun e w' => e = .returned (.int .i64 (cfS x y)) ∧ ∃ q os', w' = grow (W.drewN q) os' := by
  obtain ⟨⟨x1, x2⟩, hx0, hx1⟩ := x
  obtain ⟨⟨y1, y2⟩, hy0, hy1⟩ := y
  dsimp only at *
  go_enter Try.func53, Try.ntmps53
  go_wp2_with fail
  refine (cmp_int x1 y1 _).mono ?_; rintro e w' ⟨rfl, rfl⟩
  go_wp2
  go_ret
  exact ⟨rfl, 0, _, by rw [alloc_eq_grow, alloc_eq_grow, grow_grow]; rfl⟩
theorem byStart_enters : Enters 53 := enters_of Try.func53 (by kernel_rfl) rfl

/-! ### Concat -/
set_option maxRecDepth 20000 in
theorem grow_runs (n : Nat) (hn : n ≤ 65536) (w : World) :
    Calls Try.prog 54 #[.slice none 0 0, .int .i64 n] w fun e w' => ∃ v, e = .returned v ∧ w'.ownsRow w.heap.size 33 2 v 0 [] ∧ Bel w w' := by
  by_cases h0 : n = 0
  · subst h0
    go_enter Try.func54, Try.ntmps54
    go_wp2
    go_ret
    exact ⟨_, rfl, World.ownsRow_nil _ _ _ _, Bel.refl _⟩
  · have h1 : (0 : Int) < n := by omega
    obtain ⟨i0, hi0, hz0, hz1, hz2⟩ := info_parts info_run
    have hrun : ∀ ty, (Builtin.append_ #[38, 3] ty #[.slice none 0 0, .int .i64 n]).run Try.prog w = _ := fun ty => run_append_nil_zeros w 38 3 ty 33 i0 (.agg #[.int .i64 0, .int .i64 0]) .i64 .i64 Try.underlying38 Try.underlying3 hi0 hz0 n (by omega) (by omega) (by omega) (by rw [hz2]; omega)
    have hge := grownCap_ge w n 0 33
    have hle := grownCap_le_maxLen w n 0 33 (by unfold maxLen; omega)
    generalize grownCap w n 0 33 = cp at hrun hge hle
    have HN : Hid ((w.drew.alloc (.cells (Builtin.zeroCells (Value.agg #[.int .i64 0, .int .i64 0]).cells n ++ Builtin.zeroCells (Value.agg #[.int .i64 0, .int .i64 0]).cells (cp - n)) 33)).ownsRow w.heap.size 33 2 (.slice (some ⟨w.heap.size, 0, none⟩) 0 cp) 0 []) := Lib.hid (by
      refine ⟨rfl, .inr ⟨w.heap.size, cp, _, rfl, Nat.le_refl _, blk_alloc w.drew _, Nat.zero_le _, hle, ?_, by simp⟩⟩
      rw [Array.size_append, size_zeroCells, size_zeroCells]
      have : (Value.agg #[.int .i64 0, .int .i64 0]).cells.size = 2 := rfl
      rw [this]; omega)
    have HB : Hid (Bel w (w.drew.alloc (.cells (Builtin.zeroCells (Value.agg #[.int .i64 0, .int .i64 0]).cells n ++ Builtin.zeroCells (Value.agg #[.int .i64 0, .int .i64 0]).cells (cp - n)) 33))) := Lib.hid ((Bel.refl w).drew.alloc _)
    generalize w.drew.alloc (.cells (Builtin.zeroCells (Value.agg #[.int .i64 0, .int .i64 0]).cells n ++ Builtin.zeroCells (Value.agg #[.int .i64 0, .int .i64 0]).cells (cp - n)) 33) = w1 at hrun HN HB
    have HR := Lib.hid hrun
    clear hrun
    go_enter Try.func54, Try.ntmps54
    go_wp2_with (at_builtin; refine wpList_append_run _ rfl _ _ _ _ rfl _ _ rfl rfl _ _ (HR.out _) ?_)
    go_wp2
    go_ret
    exact ⟨_, rfl, HN.out, HB.out⟩
/-- The two rows that are put together. -/
structure TwoRows (w : World) (g : Nat) (a1 : Option Addr) (L : List Rn) (c1 : Nat) (a2 : Option Addr) (l : List Rn) (c2 : Nat) : Prop where
  s1 : w.cell? ⟨g, 0, none⟩ = some (.slice a1 L.length c1)
  s2 : w.cell? ⟨g, 1, none⟩ = some (.slice a2 l.length c2)
  r1 : RunsIn w a1 L
  r2 : RunsIn w a2 l
  n1 : a1 = none → L = [] ∧ c1 = 0
  n2 : a2 = none → l = [] ∧ c2 = 0
theorem TwoRows.bel {w w' : World} {g : Nat} {a1 : Option Addr} {L : List Rn} {c1 : Nat} {a2 : Option Addr} {l : List Rn} {c2 : Nat} (h : TwoRows w g a1 L c1 a2 l c2) (k : Bel w w') : TwoRows w' g a1 L c1 a2 l c2 :=
  ⟨k.cell h.s1, k.cell h.s2, h.r1.bel k, h.r2.bel k, h.n1, h.n2⟩
set_option maxHeartbeats 1000000 in
set_option maxRecDepth 20000 in
theorem concat_runs (g : Nat) (a1 a2 : Option Addr) (L l : List Rn) (c1 c2 : Nat) (w : World) (h : TwoRows w g a1 L c1 a2 l c2) (hL : L.length ≤ 1024) (hl : l.length ≤ 1024) :
    Calls Try.prog 37 #[.slice (some ⟨g, 0, none⟩) 2 2] w (NewRuns w (L ++ l)) := by
  obtain ⟨i0, hi0, hz0, hz1, hz2⟩ := info_parts info_run
  obtain ⟨s1, s2, r1, r2, m1, m2⟩ := h
  have HT : Hid (TwoRows w g a1 L c1 a2 l c2) := Lib.hid ⟨s1, s2, r1, r2, m1, m2⟩
  have e1 : IntKind.i64.wrap ((L.length : Int) + l.length) = ((L.length + l.length : Nat) : Int) := by rw [IntWalk.i64_in _ (by omega)]; omega
  have hneg : ¬ ((L.length + l.length : Nat) : Int) < 0 := by omega
  clear r1 r2 m1 m2
  go_enter Try.func37, Try.ntmps37
  go_wp2_with fail
  go_loopw [3, 11] (fun n k wr => Hid (w = wr) ∧ ((k = .int .i64 0 ∧ n = .int .i64 0) ∨ (k = .int .i64 1 ∧ n = .int .i64 L.length) ∨ (k = .int .i64 2 ∧ n = .int .i64 ((L.length + l.length : Nat) : Int)))) (fun _ k _ => 2 - (intOf k).toNat)
  case atStart => exact ⟨Lib.hid rfl, .inl ⟨rfl, rfl⟩⟩
  case round =>
    obtain ⟨HW, ⟨rfl, rfl⟩ | ⟨rfl, rfl⟩ | ⟨rfl, rfl⟩⟩ := hrel
    all_goals obtain rfl := HW.out
    · go_wp2
      go_roundw
      case rel => exact ⟨Lib.hid (by first | rfl | trivial), .inr (.inl ⟨rfl, by simp⟩)⟩
      case measure => simp [intOf]
    · go_wp2
      go_roundw
      case rel => exact ⟨Lib.hid (by first | rfl | trivial), .inr (.inr ⟨rfl, rfl⟩)⟩
      case measure => simp [intOf]
    · clear s1 s2 e1 hneg
      have HG := Lib.hid (grow_runs (L.length + l.length) (by omega) w)
      go_wp2_with fail
      refine HG.out.mono ?_
      rintro e w1 ⟨v, rfl, hown, hB⟩
      have HOW := Lib.hid hown
      have HB := Lib.hid hB
      clear hown hB HG
      go_wp2_with fail
      go_loopw [6, 27] (fun v k wr => ∃ i : Nat, i ≤ 2 ∧ k = .int .i64 i ∧ Hid (wr.ownsRow w.heap.size 33 2 v (([L, l].take i).flatten).length (cellsOf ([L, l].take i).flatten) ∧ Bel w wr)) (fun _ k _ => 2 - (intOf k).toNat)
      case atStart => exact ⟨0, by omega, rfl, Lib.hid ⟨by simpa [cellsOf] using HOW.out, HB.out⟩⟩
      case round =>
        obtain ⟨i, hi, rfl, HH⟩ := hrel
        have hsz := HH.out.2.size
        by_cases h2 : i = 2
        · subst h2
          go_wp2
          go_ret
          exact ⟨_, rfl, by simpa using HH.out.1, HH.out.2⟩
        · obtain ⟨ao, rs, cc, hs, hnx, hr, hno, hrl⟩ : ∃ (ao : Option Addr) (rs : List Rn) (cc : Nat), wr.cell? ⟨g, i, none⟩ = some (.slice ao rs.length cc) ∧ ([L, l].take (i + 1)).flatten = ([L, l].take i).flatten ++ rs ∧ RunsIn wr ao rs ∧ (ao = none → rs = [] ∧ cc = 0) ∧ rs.length ≤ 1024 := by
            have h9 := HT.out.bel HH.out.2
            have : i = 0 ∨ i = 1 := by omega
            rcases this with rfl | rfl
            · exact ⟨a1, L, c1, h9.s1, by simp, h9.r1, h9.n1, hL⟩
            · exact ⟨a2, l, c2, h9.s2, by simp, h9.r2, h9.n2, hl⟩
          have hFL : ([L, l].take i).flatten.length ≤ 2048 := by
            have : i = 0 ∨ i = 1 := by omega
            rcases this with rfl | rfl
            · simp
            · simp; omega
          obtain ⟨F, hF⟩ : ∃ F, ([L, l].take i).flatten = F := ⟨_, rfl⟩
          rw [hF] at HH hnx hFL
          have HNX := Lib.hid hnx
          have HR := Lib.hid hr
          have HNO := Lib.hid hno
          have c3 : (i : Int) < 2 := by omega
          clear hF hnx hr hno h2
          go_wp2_with (at_builtin; refine wpList_append_runs rfl _ _ rfl w.heap.size _ F rfl HH.out.1 ao cc rs rfl HR.out HNO.out (by omega) hsz ?_)
          intro v' w4 hown4 hgrow
          have hB4 : Bel w w4 := by
            refine Below.grown HH.out.2 hgrow hsz (fun k hk => ?_)
            rcases HH.out.1.2 with ⟨h1, _⟩ | ⟨g', cap, cur, h1, h2, _⟩
            · rw [h1] at hk; simp [Value.ownBlock] at hk
            · rw [h1] at hk; simp [Value.ownBlock] at hk; omega
          have HN : Hid (w4.ownsRow w.heap.size 33 2 v' ([L, l].take (i + 1)).flatten.length (cellsOf ([L, l].take (i + 1)).flatten) ∧ Bel w w4) := Lib.hid ⟨by rw [HNX.out, List.length_append]; exact hown4, hB4⟩
          clear hown4 hgrow hB4
          go_wp2
          go_roundw
          case rel => exact ⟨i + 1, by omega, by go_num, HN⟩
          case measure => simp [intOf]; omega
end Go.Proofs.Ythkbhikiljlgoaa

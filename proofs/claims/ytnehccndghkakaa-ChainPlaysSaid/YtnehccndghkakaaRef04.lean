/- The reference of layer 4: what its functions come to. -/
import Derived.Test.YtnehccndghkakaaWArena
import Derived.Deep.QuietTactic
import Derived.BigQuiet
namespace Go.Proofs.Ytnehccndghkakaa
open Go.RowKit

/-- What a slice of words reads as. -/
def SlU64 (w : World) (v : Value) (xs : List Int) : Prop := ∃ a c, v = .slice a xs.length c ∧ RdV w a (xs.map (.int .u64))

theorem ref_Same (a b : Option Addr) (xs ys : List Int) (n c m d : Nat) (w : World) (hn : n = xs.length) (hm : m = ys.length) (hl : xs.length ≤ maxLen) (hl' : ys.length ≤ maxLen)
    (ha : RdV w a (xs.map (.int .u64))) (hb : RdV w b (ys.map (.int .u64))) :
    Calls Try.prog 24 #[.slice a n c, .slice b m d] w fun e w' => e = .returned (.bool (decide (xs = ys))) ∧ Bel w w' := by
  subst hn hm
  unfold maxLen at hl hl'
  by_cases hlen : xs.length = ys.length
  · have e1 : (((xs.length : Int)) != (ys.length : Int)) = false := by rw [bne_eq_false_iff_eq]; omega
    have hlen2 : xs.length ≤ ys.length := by omega
    have HL := Lib.hid hlen
    clear hlen
    go_enter Try.func24, Try.ntmps24
    go_wp2_with fail
    go_loopw [13] (fun k W => ∃ i : Nat, i ≤ xs.length ∧ k = .int .i64 i ∧ Bel w W ∧ Hid (xs.take i = ys.take i)) (fun k _ => xs.length - (intOf k).toNat)
    case atStart => exact ⟨0, Nat.zero_le _, rfl, Bel.refl _, Lib.hid rfl⟩
    case round =>
      obtain ⟨i, hi, rfl, hB, HT⟩ := hrel
      by_cases hlt : i < xs.length
      · obtain ⟨b1, o1, rfl, hc1⟩ := (ha.bel hB).at i hlt
        obtain ⟨b2, o2, rfl, hc2⟩ := (hb.bel hB).at i (by omega)
        have HA := Lib.hid ha
        have HB := Lib.hid hb
        clear ha hb
        have hlt2 : i < ys.length := by omega
        have i0 : (0 : Int) ≤ i := by omega
        have i1 : (i : Int) < xs.length := by omega
        have i2 : (i : Int) < ys.length := by omega
        by_cases heq : xs[i] = ys[i]
        · have H2 : Hid (xs.take (i + 1) = ys.take (i + 1)) := Lib.hid (by
            rw [List.take_succ_eq_append_getElem hlt, List.take_succ_eq_append_getElem hlt2, HT.out, heq])
          have hq : (xs[i] != ys[i]) = false := by rw [bne_eq_false_iff_eq]; exact heq
          have HE := Lib.hid heq
          clear heq
          go_wp2_with fail
          go_quiet (fail)
          go_wp2
          go_roundw
          case rel => exact ⟨i + 1, by omega, by go_num, hB.drewN _, H2⟩
          case measure => simp [intOf]; omega
        · have hq : (xs[i] != ys[i]) = true := by rw [bne_iff_ne]; exact heq
          have H2 : Hid (decide (xs = ys) = false) := Lib.hid (by
            rw [decide_eq_false_iff_not]; intro h; subst h; exact heq rfl)
          clear heq
          go_wp2_with fail
          go_quiet (fail)
          go_wp2
          go_ret
          exact ⟨ret_b H2.out, hB.drewN _⟩
      · have H2 : Hid (decide (xs = ys) = true) := Lib.hid (by
          have := HT.out
          rw [List.take_of_length_le (by omega), List.take_of_length_le (by have := HL.out; omega)] at this
          simp [this])
        go_wp2
        go_ret
        exact ⟨ret_b H2.out, hB⟩
  · have e1 : (((xs.length : Int)) != (ys.length : Int)) = true := by rw [bne_iff_ne]; omega
    have H2 : Hid (decide (xs = ys) = false) := Lib.hid (by rw [decide_eq_false_iff_not]; intro h; subst h; exact hlen rfl)
    clear hlen
    go_enter Try.func24, Try.ntmps24
    go_wp2
    go_ret
    exact ⟨ret_b H2.out, Bel.refl _⟩

theorem ref_In (a : Option Addr) (len : Nat) (at_ n : Int) (c : Nat) (w : World) (hl : len ≤ 65536) (ha : I64 at_) (hn : I64 n) :
    Calls Try.prog 27 #[.slice a len c, .int .i64 at_, .int .i64 n] w fun e w' => e = .returned (.bool (inB len at_ n)) ∧ w = w' := by
  obtain ⟨a0, a1⟩ := ha
  obtain ⟨n0, n1⟩ := hn
  by_cases c1 : 0 ≤ at_ ∧ at_ ≤ len ∧ 0 ≤ n ∧ n ≤ len
  · obtain ⟨c1, c2, c3, c4⟩ := c1
    have H : Hid (inB len at_ n = decide (at_ ≤ len - n)) := Lib.hid (by rw [Bool.eq_iff_iff, inB_iff, decide_eq_true_eq]; omega)
    go_enter Try.func27, Try.ntmps27
    go_wp2
    go_ret
    exact ⟨ret_b H.out, rfl⟩
  · have H : Hid (inB len at_ n = false) := Lib.hid (by
      rw [Bool.eq_false_iff, ne_eq, inB_iff]; omega)
    have c2 : ¬ 0 ≤ at_ ∨ (0 ≤ at_ ∧ ¬ at_ ≤ len) ∨ (0 ≤ at_ ∧ at_ ≤ len ∧ ¬ 0 ≤ n) ∨ (0 ≤ at_ ∧ at_ ≤ len ∧ 0 ≤ n ∧ ¬ n ≤ len) := by omega
    clear c1
    rcases c2 with c | ⟨c1, c⟩ | ⟨c1, c2, c⟩ | ⟨c1, c2, c3, c⟩
    all_goals
      go_enter Try.func27, Try.ntmps27
      go_wp2
      go_ret
      exact ⟨ret_b H.out, rfl⟩

/-- What a store comes to: the words it was given, or new ones. -/
def StoredU64 (w : World) (ws : List Int) (e : Ending) (w' : World) : Prop := ∃ v, e = .returned (.tuple #[v, .int .i64 0]) ∧ NewU64 w.heap.size ws v w' ∧ Bel w w'

theorem ref_Store_out (a b : Option Addr) (ws xs : List Int) (at_ : Int) (n c m d : Nat) (w : World) (hn : n = ws.length) (hm : m = xs.length) (hw : ws.length ≤ 65536) (hx : xs.length ≤ maxLen) (ha : I64 at_) (hb : inB ws.length at_ xs.length = false) :
    Calls Try.prog 10 #[.slice a n c, .int .i64 at_, .slice b m d] w fun e w' => e = .returned (.tuple #[.slice a n c, .int .i64 2]) ∧ w = w' := by
  subst hn hm
  have hx2 : xs.length ≤ 9223372036854775807 := by unfold maxLen at hx; omega
  have HB := Lib.hid hb
  clear hb
  go_enter Try.func10, Try.ntmps10
  go_wp2_with fail
  refine (ref_In a ws.length at_ xs.length c _ hw ha ⟨by omega, by omega⟩).mono ?_; rintro e w' ⟨rfl, rfl⟩
  rw [HB.out]
  go_wp2
  go_ret2
  exact ⟨rfl, rfl⟩

theorem ref_Store_in (a b : Option Addr) (ws xs : List Int) (at_ : Int) (n c m d : Nat) (w : World) (hn : n = ws.length) (hm : m = xs.length) (hw : ws.length ≤ 65536)
    (hra : RdV w a (ws.map (.int .u64))) (hrb : RdV w b (xs.map (.int .u64))) (hb : inB ws.length at_ xs.length = true) (h0 : ws ≠ []) :
    Calls Try.prog 10 #[.slice a n c, .int .i64 at_, .slice b m d] w (StoredU64 w (putW ws at_ xs)) := by
  subst hn hm
  obtain ⟨b0, b1, b2, b3⟩ := inB_iff.1 hb
  obtain ⟨o, rfl⟩ := Int.eq_ofNat_of_zero_le b1
  have hfit : o + xs.length ≤ ws.length := by omega
  have HB := Lib.hid hb
  obtain ⟨i, hi, hz, hs, hby⟩ := info_parts info_u64
  obtain ⟨ba, oa, rfl, hca⟩ : ∃ ba oa, a = some ⟨ba, oa, none⟩ ∧ True := by
    rcases hra with h | ⟨ba, oa, e, _⟩
    · simp at h; exact absurd h h0
    · exact ⟨ba, oa, e, trivial⟩
  have hq2 : ∀ W : World, (Instr.buildSlice 22 0 #[]).run Try.prog W = .ok (.slice (some ⟨W.heap.size, 0, none⟩) 0 0) (W.alloc (.cells #[] 30)) := fun W => by kernel_rfl
  clear hb hca
  go_enter Try.func10, Try.ntmps10
  go_wp2_with fail
  refine (ref_In _ ws.length o xs.length c _ hw ⟨by omega, by omega⟩ ⟨by omega, by omega⟩).mono ?_; rintro e w' ⟨rfl, rfl⟩
  rw [HB.out]
  go_wp2_with (at_builtin; refine wpList_append_own _ rfl _ _ 22 rfl w.heap.size 30 i (.int .u64 0) 1 8 Try.underlying22 hi hz hs hby rfl (by decide) _ 0 [] rfl ?c1 ⟨ba, oa, none⟩ ws.length c (u64s ws) rfl ?c2 ?c3 (u64s_one ws) ?c4 ?c5 ?c6 ?_)
  case c1 => exact World.ownsRow_made w #[] 0 (Nat.le_refl _) (by simp [maxLen]) (by simp)
  case c2 => simp [u64s]
  case c3 => exact (RdV.cells (hra.bel ((Bel.refl _).alloc _)))
  case c4 => unfold maxLen; omega
  case c5 => omega
  case c6 => simp
  intro v' w1 hown hgrow hnil
  have hB1 : Bel w w1 := bel_grown ((Bel.refl _).alloc _) hgrow (fun k hk => by simp [Value.ownBlock] at hk; omega)
  try simp only [Nat.zero_add, List.nil_append] at hown
  obtain ⟨g, cap, cur, rfl, hg0, hg1, hg2, hg3, hg4, hg5⟩ : ∃ g cap, ∃ cur : List Value, v' = .slice (some ⟨g, 0, none⟩) ws.length cap ∧ w.heap.size ≤ g ∧ w1.heap[g]? = some (.cells cur.toArray 30 (0, 0)) ∧ ws.length ≤ cap ∧ cap ≤ maxLen ∧ cur.length = cap ∧ cur.take ws.length = u64s ws := by
    rcases hown.2 with ⟨h1, _⟩ | ⟨g, cap, cur, h1, h2, h3, h4, h5, h6, h7⟩
    · exact (hnil h1).elim
    · exact ⟨g, cap, cur.toList, h1, h2, by simpa using h3, h4, h5, by simpa using h6, by simpa using h7⟩
  have HN := Lib.hid hnil
  have HO := Lib.hid hown
  clear hnil hown hgrow
  go_wp2_with fail
  go_loopw [22] (fun k W => ∃ i : Nat, i ≤ xs.length ∧ k = .int .i64 i ∧ Bel w W ∧ Hid (∃ cur : List Value, W.heap[g]? = some (.cells cur.toArray 30 (0, 0)) ∧ cur.length = cap ∧ cur.take ws.length = u64s (splice ws o (xs.take i)))) (fun k _ => xs.length - (intOf k).toNat)
  case atStart => exact ⟨0, Nat.zero_le _, rfl, hB1, Lib.hid ⟨cur, hg1, hg4, by rw [hg5, List.take_zero, splice_nil]⟩⟩
  case round =>
    obtain ⟨i, hi, rfl, hB, HC⟩ := hrel
    obtain ⟨cu, k1, k2, k3⟩ := HC.out
    by_cases hlt : i < xs.length
    · obtain ⟨bb, ob, rfl, hcb⟩ := (hrb.bel hB).at i hlt
      have hwc : wr.cell? ⟨g, o + i, none⟩ = some (cu[o + i]'(by omega)) := by rw [blk_cell k1]; simp
      have hwf : wr.frozen? ⟨g, o + i, none⟩ = false := blk_frozen k1 _
      have hne : bb ≠ g := by
        rcases hrb with h | ⟨b', o', e, h⟩
        · simp at h; subst h; simp at hlt
        · injection e with e; injection e with e1 e2; subst e1
          have := World.block_lt_of_cell? w _ (h i (by simpa using hlt))
          simp at this; omega
      have hi0 : (0 : Int) ≤ i := by omega
      have hi1 : (i : Int) < xs.length := by omega
      have hrb2 := Lib.hid hrb
      have K := Lib.hid k1
      have hoi : (o : Int) + i < ws.length := by omega
      have K3 := Lib.hid k3
      clear k1 k3 hrb hra
      go_wp2
      go_roundw
      case rel =>
        refine ⟨i + 1, by omega, by go_num, Below.setCell hB hg0 _, Lib.hid ⟨cu.set (o + i) (.int .u64 xs[i]), ?_, by simpa using k2, ?_⟩⟩
        · rw [blk_setCell K.out]; simp
        · rw [List.take_set, K3.out, ← splice_set ws o xs hfit i hlt]; simp [u64s, List.map_set]
      case measure => simp [intOf]; omega
    · have hx : xs.take i = xs := List.take_of_length_le (by omega)
      rw [hx] at k3
      have K := Lib.hid k1
      have K3 := Lib.hid k3
      clear k1 k3
      go_wp2
      go_ret2
      refine ⟨_, rfl, ⟨by simp [u64s], .inr ⟨g, cap, cu.toArray, ?_, hg0, K.out, ?_, hg3, by simpa using k2, ?_⟩⟩, hB⟩
      · rw [putW, Int.toNat_natCast, splice_length ws o xs hfit]; rfl
      · rw [putW, Int.toNat_natCast, splice_length ws o xs hfit]; exact hg2
      · rw [putW, Int.toNat_natCast, splice_length ws o xs hfit]; simpa using K3.out
end Go.Proofs.Ytnehccndghkakaa

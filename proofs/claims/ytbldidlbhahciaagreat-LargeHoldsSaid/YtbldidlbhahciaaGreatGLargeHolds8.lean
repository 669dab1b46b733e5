/- The slow twin of layer 7: New, Find, At. The slow twin of layer 6: Put. The slow twin of layer 6: Best. The slow twin of layer 6: List. The slow twin of layer 6: New, May, Put. What lies in blocks that stand; what a nil heap answers. -/
import Derived.Test.YtbldidlbhahciaaGreatGLargeHolds7
import Derived.Test.YtbldidlbhahciaaGreatGLargeHolds1
import Derived.Test.YtbldidlbhahciaaGreatGLargeHolds3
import Derived.Deep.QuietTactic
import Derived.BigQuiet
import Derived.Carry
set_option linter.unusedVariables false
set_option linter.unusedSimpArgs false
namespace Go.Proofs.YtbldidlbhahciaaGreat
open Go.RowKit

theorem Bel.blk {w w' : World} (h : Bel w w') {k : Nat} {o : Obj} (g : w.heap[k]? = some o) : w'.heap[k]? = some o := (h.block k (heap_lt g)).trans g
theorem Bel.set {w w1 : World} (h : Bel w w1) {p : Addr} (hp : w.heap.size ≤ p.block) (v : Value) : Bel w (w1.setCell p v) := Below.setCell h hp v
end Go.Proofs.YtbldidlbhahciaaGreat

namespace Go.Proofs.YtbldidlbhahciaaGreat
open Go.RowKit

/-- 1024 pages of which something holds, as cells. -/
def boolsOf (f : Int → Bool) : List Value := (List.range 1024).map fun (p : Nat) => Value.bool (f (p : Int))
theorem boolsOf_length (f : Int → Bool) : (boolsOf f).length = 1024 := by simp [boolsOf]
theorem boolsOf_get (f : Int → Bool) {p : Nat} (h : p < 1024) : (boolsOf f)[p]? = some (.bool (f (p : Int))) := by simp [boolsOf, h]
theorem boolsOf_one (f : Int → Bool) : ∀ v ∈ boolsOf f, v.oneCell' = true := by
  intro v hv
  simp only [boolsOf, List.mem_map] at hv
  obtain ⟨p, _, rfl⟩ := hv
  rfl
theorem boolsOf_set (f : Int → Bool) (s : Nat) (b : Bool) : (boolsOf f).set s (.bool b) = boolsOf (fun p => if p = (s : Int) then b else f p) := by
  apply List.ext_getElem?
  intro j
  rw [List.getElem?_set, boolsOf_length]
  by_cases hj : j < 1024
  · rw [boolsOf_get _ hj, boolsOf_get _ hj]
    by_cases e : s = j
    · subst e; rw [if_pos rfl, if_pos hj, if_pos rfl]
    · rw [if_neg e, if_neg (by omega)]
  · rw [List.getElem?_eq_none (by rw [boolsOf_length]; omega), List.getElem?_eq_none (by rw [boolsOf_length]; omega)]
    split
    · rw [if_neg (by omega)]
    · rfl
/-- A slice of them. -/
def BitsV (w : World) (v : Value) (f : Int → Bool) : Prop := ∃ b o c, v = .slice (some ⟨b, o, none⟩) 1024 c ∧ ∀ p : Nat, p < 1024 → w.cell? ⟨b, o + p, none⟩ = some (.bool (f (p : Int)))
theorem BitsV.bel {w w' : World} {v : Value} {f : Int → Bool} (h : BitsV w v f) (k : Bel w w') : BitsV w' v f := by
  obtain ⟨b, o, c, e, h⟩ := h
  exact ⟨b, o, c, e, fun p hp => k.cell (h p hp)⟩
theorem BitsV.congr {w : World} {v : Value} {f g : Int → Bool} (h : BitsV w v f) (k : ∀ p, 0 ≤ p → p < 1024 → f p = g p) : BitsV w v g := by
  obtain ⟨b, o, c, e, h⟩ := h
  exact ⟨b, o, c, e, fun p hp => by rw [h p hp, k p (by omega) (by omega)]⟩
theorem bitsV_own {w : World} {base e : Nat} {v : Value} {f : Int → Bool} (h : w.ownsRow base e 1 v 1024 (boolsOf f)) : BitsV w v f := by
  obtain ⟨a, c, rfl, hr, _⟩ := own_slice h
  rcases hr with h9 | ⟨b, o, rfl, hr⟩
  · have := boolsOf_length f; rw [h9] at this; simp at this
  · refine ⟨b, o, c, rfl, fun p hp => ?_⟩
    have h1 := hr p (by rw [boolsOf_length]; exact hp)
    have h2 := boolsOf_get f hp
    rw [List.getElem?_eq_getElem (by rw [boolsOf_length]; exact hp)] at h2
    rw [Option.some.inj h2] at h1
    exact h1
/-- A row of one's own of that type: no block of free runs is it. -/
def BitsO (w : World) (v : Value) (f : Int → Bool) : Prop := BitsV w v f ∧ ∃ g c cur, v = .slice (some ⟨g, 0, none⟩) 1024 c ∧ w.heap[g]? = some (.cells cur 4 (0, 0))
theorem BitsO.bel {w w' : World} {v : Value} {f : Int → Bool} (h : BitsO w v f) (k : Bel w w') : BitsO w' v f := by
  obtain ⟨h1, g, c, cur, e, h2⟩ := h
  exact ⟨h1.bel k, g, c, cur, e, (Fr.of_bel (S := fun _ => False) k).heap h2 (fun h => h)⟩
theorem BitsO.fr {S : Nat → Prop} {w w' : World} {v : Value} {f : Int → Bool} (h : BitsO w v f) (k : Fr S w w') (hS : ∀ g cur, w.heap[g]? = some (.cells cur 4 (0, 0)) → ¬ S g) : BitsO w' v f := by
  obtain ⟨⟨b, o, c', e', h1⟩, g, c, cur, e, h2⟩ := h
  subst e
  simp only [Value.slice.injEq, Option.some.injEq, Addr.mk.injEq, and_true, true_and] at e'
  obtain ⟨⟨rfl, rfl⟩, rfl⟩ := e'
  exact ⟨⟨_, _, _, rfl, fun p hp => k.cell (h1 p hp) (hS _ _ h2)⟩, _, _, _, rfl, k.heap h2 (hS _ _ h2)⟩
theorem bitsO_own {w : World} {base : Nat} {v : Value} {f : Int → Bool} (h : w.ownsRow base 4 1 v 1024 (boolsOf f)) : BitsO w v f := by
  refine ⟨bitsV_own h, ?_⟩
  rcases h.2 with ⟨_, h9⟩ | ⟨g, cap, cur, h1, h2, h3, _⟩
  · simp at h9
  · exact ⟨g, cap, cur, h1, h3⟩
theorem info_bool6 : (Tryz.prog.info? 4).map (fun i => (i.zero, i.size, i.bytes)) = some (some (.bool false), 1, 1) := by kernel_rfl

theorem made_one6 (z : Value) (n : Nat) : madeCells #[z] n = (List.replicate n z).toArray := by
  unfold madeCells
  apply Array.ext
  · simp
  · intro i h1 h2
    simp [Nat.mod_one]
theorem run_make_bool (w : World) : (Instr.makeSlice 41 (.int .i64 1024) (.int .i64 1024)).run Tryz.prog w = .ok (.slice (some ⟨w.heap.size, 0, none⟩) 1024 1024) (w.alloc (.cells (List.replicate 1024 (Value.bool false)).toArray 4)) := by
  obtain ⟨i, hi, hz, hs, hb⟩ := info_parts info_bool6
  have := run_make (P := Tryz.prog) w 41 4 i (.bool false) Tryz.underlying41 hi hz .i64 .i64 1024 1024 (by omega) (by omega) (by rw [hb]; omega) (by omega)
  rw [this, hs]
  have e2 := made_one6 (.bool false) (Int.toNat 1024 * 1)
  have e3 : Int.toNat 1024 * 1 = 1024 := rfl
  rw [e3] at e2
  show Result.ok _ (w.alloc (.cells (madeCells #[Value.bool false] (Int.toNat 1024 * 1)) _)) = _
  rw [e3, e2]
  rfl
theorem ref6_New (w : World) : Calls Tryz.prog 42 #[] w fun e w' => ∃ v, e = .returned v ∧ BitsO w' v (fun _ => false) ∧ Bel w w' := by
  have hm := run_make_bool w
  have HN : Hid (BitsO (w.alloc (.cells (List.replicate 1024 (Value.bool false)).toArray 4)) (.slice (some ⟨w.heap.size, 0, none⟩) 1024 1024) (fun _ => false)) := Lib.hid ⟨⟨_, 0, _, rfl, fun p hp => by
    rw [blk_cell (blk_alloc w _), List.getElem?_toArray, List.getElem?_replicate, if_pos (by omega)]⟩, _, _, _, rfl, blk_alloc w _⟩
  obtain ⟨cs, hcs⟩ : ∃ cs, (List.replicate 1024 (Value.bool false)).toArray = cs := ⟨_, rfl⟩
  rw [hcs] at hm HN
  clear hcs
  go_enter Tryz.func42, Tryz.ntmps42
  go_wp2
  go_ret
  exact ⟨_, rfl, HN.out, (Bel.refl _).alloc _⟩
set_option maxRecDepth 20000 in
theorem ref6_May (x : Rn) (w : World) (h1 : I64 x.1) (h2 : I64 x.2) :
    Calls Tryz.prog 66 #[.agg #[.int .i64 x.1, .int .i64 x.2]] w fun e w' => e = .returned (.bool (there 1024 x)) ∧ Bel w w' := by
  obtain ⟨s, n⟩ := x
  obtain ⟨a0, a1⟩ := h1
  obtain ⟨b0, b1⟩ := h2
  dsimp only at a0 a1 b0 b1
  have hth := there_iff (n := 1024) (r := (s, n))
  dsimp only at hth
  by_cases c1 : 0 ≤ s
  · by_cases c2 : s < 1024
    · by_cases c3 : 1 ≤ n
      · by_cases c4 : n ≤ 1024
        · have c5 : IntKind.i64.wrap (s + n) = s + n := IntWalk.i64_in _ (by omega)
          have HE : Hid (there 1024 (s, n) = decide (s + n ≤ 1024)) := Lib.hid (by rw [Bool.eq_iff_iff, hth, decide_eq_true_eq]; omega)
          clear hth
          go_enter Tryz.func66, Tryz.ntmps66
          go_wp2
          go_ret
          exact ⟨by rw [HE.out]; rfl, (Bel.refl _).alloc _⟩
        · have HE : Hid (there 1024 (s, n) = false) := Lib.hid (by rw [← Bool.not_eq_true, hth]; omega)
          clear hth
          go_enter Tryz.func66, Tryz.ntmps66
          go_wp2
          go_ret
          exact ⟨by rw [HE.out]; rfl, (Bel.refl _).alloc _⟩
      · have HE : Hid (there 1024 (s, n) = false) := Lib.hid (by rw [← Bool.not_eq_true, hth]; omega)
        clear hth
        go_enter Tryz.func66, Tryz.ntmps66
        go_wp2
        go_ret
        exact ⟨by rw [HE.out]; rfl, (Bel.refl _).alloc _⟩
    · have HE : Hid (there 1024 (s, n) = false) := Lib.hid (by rw [← Bool.not_eq_true, hth]; omega)
      clear hth
      go_enter Tryz.func66, Tryz.ntmps66
      go_wp2
      go_ret
      exact ⟨by rw [HE.out]; rfl, (Bel.refl _).alloc _⟩
  · have HE : Hid (there 1024 (s, n) = false) := Lib.hid (by rw [← Bool.not_eq_true, hth]; omega)
    clear hth
    go_enter Tryz.func66, Tryz.ntmps66
    go_wp2
    go_ret
    exact ⟨by rw [HE.out]; rfl, (Bel.refl _).alloc _⟩
end Go.Proofs.YtbldidlbhahciaaGreat

namespace Go.Proofs.YtbldidlbhahciaaGreat
open Go.RowKit

/-- Pages as numbers: 1 where it holds. -/
def idsF (f : Int → Bool) : List Int := (List.range 1024).map fun (p : Nat) => if f p then 1 else 0
theorem listP_idsF (f : Int → Bool) : listP f = runsF (idsF f) 1 := rfl
theorem idsF_length (f : Int → Bool) : (idsF f).length = 1024 := listP_len f
theorem idsF_wd (f : Int → Bool) {p : Nat} (h : p < 1024) : wd (idsF f) (p : Int) = 1 ↔ f (p : Int) = true := by
  have : wd (idsF f) (p : Int) = if f p then 1 else 0 := listP_wd f (by omega) (by omega)
  rw [this]
  cases f (p : Int) <;> simp
set_option maxHeartbeats 4000000 in
set_option maxRecDepth 20000 in
theorem ref6_List (v : Value) (f : Int → Bool) (w : World) (hf : BitsV w v f) :
    Calls Tryz.prog 95 #[v] w (NewRuns w (listP f)) := by
  obtain ⟨bf, of', cf, rfl, hra⟩ := hf
  have hRF : runsF (idsF f) 1 = runsP (idsF f) 1 1024 := by unfold runsF; rw [idsF_length]
  have HLP : Hid (listP f = runsP (idsF f) 1 1024) := Lib.hid (by rw [listP_idsF, hRF])
  have HW : Hid (∀ p : Nat, p < 1024 → (wd (idsF f) (p : Int) = 1 ↔ f (p : Int) = true)) := Lib.hid (fun p hp => idsF_wd f hp)
  obtain ⟨ids, hids⟩ : ∃ ids, idsF f = ids := ⟨_, rfl⟩
  rw [hids] at HLP HW
  have HRA := Lib.hid hra
  have HOW0 : Hid ((w.alloc (.cells #[] 31)).ownsRow w.heap.size 31 2 (.slice (some ⟨w.heap.size, 0, none⟩) 0 0) 0 []) := Lib.hid (World.ownsRow_made (e := 31) (size := 2) w #[] 0 (Nat.le_refl _) (by simp [maxLen]) (by simp))
  have hq2 : (Instr.buildSlice 64 0 #[]).run Tryz.prog w = .ok (.slice (some ⟨w.heap.size, 0, none⟩) 0 0) (w.alloc (.cells #[] 31)) := by kernel_rfl
  clear hra hids hRF
  go_enter Tryz.func95, Tryz.ntmps95
  go_wp2_with fail
  clear hq2
  go_loopw [3, 4] (fun v k wr => ∃ q : Nat, q ≤ 1025 ∧ k = .int .i64 q ∧ Hid (wr.ownsRow w.heap.size 31 2 v (runsP ids 1 (min q 1024)).length (cellsOf (runsP ids 1 (min q 1024))) ∧ Bel w wr ∧ (q = 0 ∨ q = 1025 ∨ wd ids ((q : Int) - 1) ≠ 1))) (fun v k wr => 1025 - (intOf k).toNat)
  case atStart => exact ⟨0, Nat.zero_le _, rfl, Lib.hid ⟨by rw [Nat.zero_min]; exact HOW0.out, (Bel.refl _).alloc _, .inl rfl⟩⟩
  case round =>
    obtain ⟨q, hq, rfl, HH⟩ := hrel
    have HB := Lib.hid HH.out.2.1
    have hsB := HB.out.size
    by_cases hlt : q < 1024
    · have hown := HH.out.1
      rw [Nat.min_eq_left (by omega)] at hown
      have HOW := Lib.hid hown
      have HQ0 : Hid (q = 0 ∨ wd ids ((q : Int) - 1) ≠ 1) := Lib.hid (by rcases HH.out.2.2 with h | h | h; exact .inl h; omega; exact .inr h)
      obtain ⟨av, cv, rfl, _⟩ := own_slice hown
      have hlen : (runsP ids 1 q).length ≤ 1024 := by have := runs_short5 (ids := ids) (id := 1) q; omega
      clear hown HH
      have ez : (q : Int) ≤ 1024 := by omega
      have z9 : (q : Int) < 1024 := by omega
      go_wp2_with fail
      go_loopw [5] (fun k wi => ∃ j : Nat, q + j ≤ 1024 ∧ k = .int .i64 j ∧ Hid (wr = wi ∧ ∀ i : Nat, i < j → wd ids ((q + i : Nat) : Int) = 1)) (fun k _ => 1024 - (intOf k).toNat)
      case atStart => exact ⟨0, by omega, rfl, Lib.hid ⟨rfl, fun i h => by omega⟩⟩
      case round =>
        obtain ⟨j, hj, rfl, HJ⟩ := hrel
        obtain rfl := HJ.out.1
        have ej : (j : Int) ≤ 1024 := by omega
        by_cases hgo : q + j < 1024 ∧ f ((q + j : Nat) : Int) = true
        · obtain ⟨hg1, hg2⟩ := hgo
          have hc := HB.out.cell (HRA.out (q + j) hg1)
          rw [hg2] at hc
          have z1 : (q : Int) + j < 1024 := by omega
          have z2 : ((q : Int) + j).toNat = q + j := by omega
          have HJ2 : Hid (wr = wr ∧ ∀ i : Nat, i < j + 1 → wd ids ((q + i : Nat) : Int) = 1) := Lib.hid ⟨rfl, fun i hi => by
            rcases Nat.lt_or_ge i j with h9 | h9
            · exact HJ.out.2 i h9
            · obtain rfl : i = j := by omega
              exact (HW.out _ hg1).2 hg2⟩
          clear hg2
          go_wp2
          go_roundw
          case rel => exact ⟨j + 1, by omega, by go_num, Lib.hid ⟨by first | rfl | trivial, HJ2.out.2⟩⟩
          case measure => simp [intOf]; omega
        · have hstop : (q + j = 1024) ∨ (q + j < 1024 ∧ f ((q + j : Nat) : Int) = false) := by
            rcases Nat.lt_or_ge (q + j) 1024 with h9 | h9
            · exact .inr ⟨h9, by rw [← Bool.not_eq_true]; exact fun h => hgo ⟨h9, h⟩⟩
            · exact .inl (by omega)
          have HWS : Hid (∀ t : Nat, t < 1024 → f (t : Int) = false → wd ids (t : Int) ≠ 1) := Lib.hid (fun t ht hf h => by rw [HW.out t ht, hf] at h; cases h)
          clear hgo
          cases j with
          | zero =>
            rcases hstop with h9 | ⟨h9, h8⟩
            · omega
            rw [Nat.add_zero] at h9 h8
            have hc := HB.out.cell (HRA.out q h9)
            rw [h8] at hc
            have h7 := HWS.out q h9 h8
            have HST := Lib.hid (runs_skip h7)
            have HQ2 : Hid (q + 1 = 0 ∨ q + 1 = 1025 ∨ wd ids (((q + 1 : Nat) : Int) - 1) ≠ 1) := Lib.hid (.inr (.inr (by rw [show (((q + 1 : Nat) : Int) - 1) = q by omega]; exact h7)))
            clear h8 h7 HQ0
            go_wp2
            go_roundw
            case rel => exact ⟨q + 1, by omega, by go_num, Lib.hid ⟨by rw [Nat.min_eq_left (by omega), HST.out]; exact HOW.out, HB.out, HQ2.out⟩⟩
            case measure => simp [intOf]; omega
          | succ j =>
            have hwh := runs_whole HQ0.out j HJ.out.2
            have HST : Hid (runsP ids 1 (min (q + (j + 1) + 1) 1024) = runsP ids 1 q ++ [((q : Int), ((j + 1 : Nat) : Int))]) := Lib.hid (by
              rcases hstop with h9 | ⟨h9, h8⟩
              · rw [Nat.min_eq_right (by omega), ← h9]; exact hwh
              · rw [Nat.min_eq_left (by omega), runs_skip (HWS.out _ h9 h8)]; exact hwh)
            have HQ2 : Hid (q + (j + 1) + 1 = 0 ∨ q + (j + 1) + 1 = 1025 ∨ wd ids (((q + (j + 1) + 1 : Nat) : Int) - 1) ≠ 1) := Lib.hid (by
              rcases hstop with h9 | ⟨h9, h8⟩
              · exact .inr (.inl (by omega))
              · exact .inr (.inr (by rw [show (((q + (j + 1) + 1 : Nat) : Int) - 1) = ((q + (j + 1) : Nat) : Int) by omega]; exact HWS.out _ h9 h8)))
            have hcd : (¬ (q : Int) + ((j : Int) + 1) < 1024) ∨ ((q : Int) + ((j : Int) + 1) < 1024 ∧ ((q : Int) + ((j : Int) + 1)).toNat = q + (j + 1) ∧ wr.cell? ⟨bf, of' + (q + (j + 1)), none⟩ = some (.bool false)) := by
              rcases hstop with h9 | ⟨h9, h8⟩
              · exact .inl (by omega)
              · refine .inr ⟨by omega, by omega, ?_⟩
                have hc := HB.out.cell (HRA.out (q + (j + 1)) h9)
                rw [h8] at hc; exact hc
            clear hwh hstop HQ0 HWS
            rcases hcd with z1 | ⟨z1, z2, hc⟩
            all_goals
              go_wp2_with (at_builtin; refine wpList_append_runs rfl _ _ rfl w.heap.size _ (runsP ids 1 q) rfl (HOW.out.alloc _) _ _ [((q : Int), ((j + 1 : Nat) : Int))] rfl ?d1 ?d2 ?d3 ?d4 ?_)
              case d1 => exact RunsIn.of_row (RdV.newAt _ #[.int .i64 (q : Int), .int .i64 ((j + 1 : Nat) : Int)] 31 _ (by simp))
              try (case d2 => rintro ⟨⟩)
              case d3 => first | omega | (simp; omega)
              case d4 => first | omega | (simp; omega)
              intro v' w4 hown4 hgrow
              have hB4 : Bel w w4 := bel_app HOW.out HB.out hgrow
              have HN : Hid (w4.ownsRow w.heap.size 31 2 v' (runsP ids 1 (min (q + (j + 1) + 1) 1024)).length (cellsOf (runsP ids 1 (min (q + (j + 1) + 1) 1024))) ∧ Bel w w4 ∧ (q + (j + 1) + 1 = 0 ∨ q + (j + 1) + 1 = 1025 ∨ wd ids (((q + (j + 1) + 1 : Nat) : Int) - 1) ≠ 1)) := Lib.hid (by
                rw [HST.out]
                exact ⟨by simpa using hown4, hB4, HQ2.out⟩)
              clear hown4 hgrow hB4
              go_wp2
              go_roundw
              case rel => exact ⟨q + (j + 1) + 1, by omega, by go_num, HN⟩
              case measure => simp [intOf]; omega
    · have hown := HH.out.1
      rw [Nat.min_eq_right (by omega)] at hown
      have z1 : (1024 : Int) ≤ q := by omega
      obtain ⟨av, cv, rfl, _⟩ := own_slice hown
      have HOW := Lib.hid hown
      clear hown HH
      go_wp2
      go_ret
      exact ⟨_, rfl, by rw [HLP.out]; exact HOW.out, HB.out⟩
end Go.Proofs.YtbldidlbhahciaaGreat

namespace Go.Proofs.YtbldidlbhahciaaGreat
open Go.RowKit

set_option maxHeartbeats 1000000 in
set_option maxRecDepth 20000 in
theorem ref6_Best (v : Value) (f : Int → Bool) (n : Int) (w : World) (hf : BitsV w v f) (hn : I64 n) :
    Calls Tryz.prog 72 #[v, .int .i64 n] w fun e w' => e = .returned (.tuple #[.agg #[.int .i64 (bestF (listP f) n).1, .int .i64 (bestF (listP f) n).2], .bool (decide (0 < (bestF (listP f) n).2))]) ∧ Bel w w' := by
  obtain ⟨n0, n1⟩ := hn
  have HG := Lib.hid (blk_alloc w (.cells #[.int .i64 0, .int .i64 0] 31))
  have HB0 : Hid (Bel w (w.alloc (.cells #[.int .i64 0, .int .i64 0] 31))) := Lib.hid ((Bel.refl _).alloc _)
  have HL := Lib.hid (ref6_List v f _ (hf.bel HB0.out))
  have HCN := Lib.hid (listP_canon f)
  obtain ⟨L, hL⟩ : ∃ L, listP f = L := ⟨_, rfl⟩
  rw [hL] at HL HCN ⊢
  have hlen : L.length ≤ 1024 := HCN.out.len (q := 1024)
  clear hL hf
  go_enter Tryz.func72, Tryz.ntmps72
  go_wp2_with fail
  refine HL.out.mono ?_
  rintro e w1 hN
  obtain ⟨a, c, rfl, hr, hB⟩ := runsIn_new hN
  have HB1 := Lib.hid (HB0.out.trans hB)
  have gR := (Fr.of_bel (S := fun _ => False) hB).heap HG.out (fun h => h)
  have hlt1 := heap_lt gR
  have HGR := Lib.hid gR
  have HRW := Lib.hid hr
  clear hN hr hB gR HL HG HB0
  by_cases c1 : n < 1
  · have HE : Hid (bestF L n = (0, 0)) := Lib.hid (best_none (.inl c1))
    obtain ⟨s0, s1, s2, s3⟩ := two_cells HGR.out
    have g9 := blk_alloc_old (.cells #[.int .i64 0, .int .i64 0] 31) (two_set HGR.out (.int .i64 0) (.int .i64 0)).2.2
    have HEND := Lib.hid (And.intro g9 ((bel_two HB1.out (Nat.le_refl _) (.int .i64 0) (.int .i64 0)).alloc (.cells #[.int .i64 0, .int .i64 0] 31)))
    clear g9
    go_wp2
    generalize ((w1.setCell ⟨w.heap.size, 0, none⟩ (.int .i64 0)).setCell ⟨w.heap.size, 1, none⟩ (.int .i64 0)).alloc (.cells #[.int .i64 0, .int .i64 0] 31) = W9 at HEND ⊢
    obtain ⟨r0, r1, _, _⟩ := two_cells HEND.out.1
    refine bodyPost_ret (v := .tuple #[.agg #[.int .i64 0, .int .i64 0], .bool false]) (by simp [results, Tryz.results72, go_sem, r0, r1]) rfl ?_
    exact ⟨by rw [HE.out]; rfl, HEND.out.2⟩
  · have gX := blk_alloc w1 (.cells #[.int .i64 0, .int .i64 0] 31)
    have HGX := Lib.hid gX
    have HGR2 := Lib.hid (blk_alloc_old (.cells #[.int .i64 0, .int .i64 0] 31) HGR.out)
    have HR2 := Lib.hid (HRW.out.bel ((Bel.refl w1).alloc (.cells #[.int .i64 0, .int .i64 0] 31)))
    have HB2 := Lib.hid (HB1.out.alloc (.cells #[.int .i64 0, .int .i64 0] 31))
    have hwl : w1.heap.size < (w1.alloc (.cells #[.int .i64 0, .int .i64 0] 31)).heap.size := by simp
    clear gX HRW HGR HB1
    go_wp2_with fail
    generalize w1.alloc (.cells #[.int .i64 0, .int .i64 0] 31) = W2 at HGX HGR2 HR2 HB2 hwl ⊢
    have hn1 : 1 ≤ n := by omega
    go_loopw [8] (fun k wr => ∃ want : Int, n ≤ want ∧ (want ≤ 1025 ∨ want = n) ∧ k = .int .i64 want ∧ Hid (W2 = wr ∧ ∀ r ∈ L, ¬ (n ≤ r.2 ∧ r.2 < want))) (fun k _ => 1025 - (intOf k).toNat)
    case atStart => exact ⟨n, Int.le_refl _, .inr rfl, rfl, Lib.hid ⟨rfl, fun r hr h => by omega⟩⟩
    case round =>
      obtain ⟨want, hw1, hw2, rfl, HH⟩ := hrel
      obtain rfl := HH.out.1
      by_cases hlt : want ≤ 1024
      · go_wp2_with fail
        go_loopw [23] (fun k wr => ∃ i : Nat, i ≤ L.length ∧ k = .int .i64 i ∧ Hid (W2 = wr ∧ ∀ j (hj : j < i) (hj' : j < L.length), L[j].2 ≠ want)) (fun k _ => L.length - (intOf k).toNat)
        case atStart => exact ⟨0, Nat.zero_le _, rfl, Lib.hid ⟨rfl, fun j hj => by omega⟩⟩
        case round =>
          obtain ⟨i, hi, rfl, HI⟩ := hrel
          obtain rfl := HI.out.1
          by_cases hlt2 : i < L.length
          · obtain ⟨g, o, rfl, p0, p1⟩ := HR2.out.at i hlt2
            have hfd : L[i].2 = want → bestF L n = L[i] := fun h => best_found hn1 hlt2 (by omega) (by rw [h]; exact HH.out.2) (fun j hj => by rw [h]; exact HI.out.2 j hj (by omega))
            have hne : L[i].2 ≠ want → ∀ j (hj : j < i + 1) (hj' : j < L.length), L[j].2 ≠ want := fun h j hj hj' => by
              rcases Nat.lt_or_ge j i with h9 | h9
              · exact HI.out.2 j h9 hj'
              · obtain rfl : j = i := by omega
                exact h
            have hk := HCN.out.ok _ (List.getElem_mem hlt2)
            obtain ⟨x, hx⟩ : ∃ x, L[i] = x := ⟨_, rfl⟩
            rw [hx] at p0 p1 hfd hne hk
            obtain ⟨x1, x2⟩ := x
            dsimp only at p0 p1 hfd hne hk
            by_cases hq : x2 = want
            · have HE := Lib.hid (hfd hq)
              have d1 : (x2 == want) = true := by simp [hq]
              have d2 : decide (0 < x2) = true := decide_eq_true (by omega)
              obtain ⟨s0, s1, s2, s3⟩ := two_cells HGR2.out
              have g9 := (two_set HGR2.out (.int .i64 x1) (.int .i64 x2)).2.2
              have HEND := Lib.hid (And.intro g9 (bel_two HB2.out (Nat.le_refl _) (.int .i64 x1) (.int .i64 x2)))
              clear g9 hfd hne hx hq
              go_wp2
              obtain ⟨r0, r1, _, _⟩ := two_cells HEND.out.1
              refine bodyPost_ret (v := .tuple #[.agg #[.int .i64 x1, .int .i64 x2], .bool true]) (by simp [results, Tryz.results72, go_sem, r0, r1]) rfl ?_
              exact ⟨by rw [HE.out]; dsimp only; rw [d2], HEND.out.2⟩
            · have HNE := Lib.hid (hne hq)
              have d1 : (x2 == want) = false := by simp [hq]
              clear hfd hne hx
              go_wp2
              go_roundw
              case rel => exact ⟨i + 1, by omega, by go_num, Lib.hid ⟨by first | rfl | trivial, HNE.out⟩⟩
              case measure => simp [intOf]; omega
          · obtain rfl : i = L.length := by omega
            have HN : Hid (∀ r ∈ L, ¬ (n ≤ r.2 ∧ r.2 < want + 1)) := Lib.hid (fun r hr h => by
              obtain ⟨j, hj, rfl⟩ := List.getElem_of_mem hr
              have h8 := HI.out.2 j hj hj
              have h9 := HH.out.2 _ hr
              omega)
            have e1 : IntKind.i64.wrap (want + 1) = want + 1 := IntWalk.i64_in _ (by omega)
            go_wp2
            go_roundw
            case rel => exact ⟨want + 1, by omega, .inl (by omega), by go_num, Lib.hid ⟨by first | rfl | trivial, HN.out⟩⟩
            case measure => simp [intOf]; omega
      · have HE : Hid (bestF L n = (0, 0)) := Lib.hid (best_none (.inr (fun r hr => by
          have h8 := HH.out.2 r hr
          have h9 := HCN.out.ok r hr
          omega)))
        obtain ⟨b0, b1, _, _⟩ := two_cells HGX.out
        obtain ⟨s0, s1, s2, s3⟩ := two_cells HGR2.out
        have g9 := (two_set HGR2.out (.int .i64 0) (.int .i64 0)).2.2
        have HEND := Lib.hid (And.intro g9 (bel_two HB2.out (Nat.le_refl _) (.int .i64 0) (.int .i64 0)))
        clear g9
        go_wp2
        obtain ⟨r0, r1, _, _⟩ := two_cells HEND.out.1
        refine bodyPost_ret (v := .tuple #[.agg #[.int .i64 0, .int .i64 0], .bool false]) (by simp [results, Tryz.results72, go_sem, r0, r1]) rfl ?_
        exact ⟨by rw [HE.out]; rfl, HEND.out.2⟩
end Go.Proofs.YtbldidlbhahciaaGreat

namespace Go.Proofs.YtbldidlbhahciaaGreat
open Go.RowKit

set_option maxHeartbeats 2000000 in
set_option maxRecDepth 20000 in
theorem ref6_Put (v : Value) (f : Int → Bool) (a : Option Addr) (l : List Rn) (n c : Nat) (b : Bool) (w : World) (hn : n = l.length) (hl : l.length ≤ 1024) (hf : BitsO w v f) (hr : RunsIn w a l) (hok : ∀ x ∈ l, I64 x.1 ∧ I64 x.2) :
    Calls Tryz.prog 41 #[v, .slice a n c, .bool b] w fun e w' => ∃ v', e = .returned (.tuple #[v', .int .i64 (putB f l b).2]) ∧ BitsO w' v' (putB f l b).1 ∧ Bel w w' := by
  subst hn
  obtain ⟨bf, of', cf, rfl, hfc⟩ := hf.1
  have HF : Hid (BitsO w (.slice (some ⟨bf, of', none⟩) 1024 cf) f) := Lib.hid hf
  have HFC := Lib.hid hfc
  have HR := Lib.hid hr
  have HOK := Lib.hid hok
  obtain ⟨i0, hi0, hz0, hz1, hz2⟩ := info_parts info_bool6
  clear hr hok hfc hf
  go_enter Tryz.func41, Tryz.ntmps41
  go_wp2_with fail
  go_loopw [14] (fun k wr => ∃ i : Nat, i ≤ l.length ∧ k = .int .i64 i ∧ Hid (Bel w wr ∧ ∀ j (h : j < i) (h' : j < l.length), there 1024 l[j] = true)) (fun k _ => l.length - (intOf k).toNat)
  case atStart => exact ⟨0, Nat.zero_le _, rfl, Lib.hid ⟨Bel.refl _, fun j h => by omega⟩⟩
  case round =>
    obtain ⟨i, hi, rfl, HH⟩ := hrel
    by_cases hlt : i < l.length
    · obtain ⟨g, o, rfl, p0, p1⟩ := (HR.out.bel HH.out.1).at i hlt
      have hx := HOK.out _ (List.getElem_mem hlt)
      have hcon := ref6_May l[i] wr hx.1 hx.2
      have HNA : Hid (there 1024 l[i] = false → ¬ AllThere 1024 l) := Lib.hid (fun h h9 => by rw [h9 _ (List.getElem_mem hlt)] at h; cases h)
      have HST : Hid (there 1024 l[i] = true → ∀ j (h : j < i + 1) (h' : j < l.length), there 1024 l[j] = true) := Lib.hid (fun h j hj h' => by
        rcases Nat.lt_or_ge j i with h9 | h9
        · exact HH.out.2 j h9 h'
        · obtain rfl : j = i := by omega
          exact h)
      obtain ⟨q, hq⟩ : ∃ q, there 1024 l[i] = q := ⟨_, rfl⟩
      rw [hq] at hcon HNA HST
      obtain ⟨x, hx9⟩ : ∃ x, l[i] = x := ⟨_, rfl⟩
      rw [hx9] at p0 p1 hcon
      have HC := Lib.hid hcon
      clear hcon hq hx9 hx
      go_wp2_with fail
      refine HC.out.mono ?_
      rintro e w1 ⟨rfl, hB1⟩
      have HB1 := Lib.hid (HH.out.1.trans hB1)
      clear hB1 HC
      cases q
      · have HE := Lib.hid (putB_out (f := f) (b := b) (HNA.out (by first | rfl | trivial)))
        go_wp2
        go_ret2
        exact ⟨_, by rw [HE.out]; rfl, by rw [HE.out]; exact HF.out.bel HB1.out, HB1.out⟩
      · go_wp2
        go_roundw
        case rel => exact ⟨i + 1, by omega, by go_num, Lib.hid ⟨HB1.out, HST.out (by first | rfl | trivial)⟩⟩
        case measure => simp [intOf]; omega
    · obtain rfl : i = l.length := by omega
      have HAT : Hid (AllThere 1024 l) := Lib.hid (fun r hr => by obtain ⟨j, hj, rfl⟩ := List.getElem_of_mem hr; exact HH.out.2 j hj hj)
      have hq2 : (Instr.buildSlice 41 0 #[]).run Tryz.prog wr = .ok (.slice (some ⟨wr.heap.size, 0, none⟩) 0 0) (wr.alloc (.cells #[] 4)) := by kernel_rfl
      have HOW0 : Hid ((wr.alloc (.cells #[] 4)).ownsRow wr.heap.size 4 1 (.slice (some ⟨wr.heap.size, 0, none⟩) 0 0) 0 []) := Lib.hid (World.ownsRow_made (e := 4) (size := 1) wr #[] 0 (Nat.le_refl _) (by simp [maxLen]) (by simp))
      have HNEW : Hid (∀ j u, (boolsOf f)[j]? = some u → (wr.alloc (.cells #[] 4)).cell? ((⟨bf, of', none⟩ : Addr).add j) = some u) := Lib.hid (fun j u hj => by
        obtain ⟨hj1, _⟩ := List.getElem?_eq_some_iff.1 hj
        rw [boolsOf_length] at hj1
        rw [boolsOf_get f hj1] at hj
        rw [addr_add, ← Option.some.inj hj]
        exact (HH.out.1.alloc _).cell (HFC.out j hj1))
      have HB9 := Lib.hid HH.out.1
      clear HH
      go_wp2_with (at_builtin; refine wpList_append_own _ rfl _ _ 41 rfl wr.heap.size 4 i0 (.bool false) 1 1 Tryz.underlying41 hi0 hz0 hz1 hz2 rfl (by decide) _ _ _ rfl HOW0.out ⟨bf, of', none⟩ 1024 cf (boolsOf f) rfl (boolsOf_length f) HNEW.out (boolsOf_one f) ?d4 ?d5 ?d6 ?_)
      case d4 => unfold maxLen; omega
      case d5 => omega
      case d6 => first | omega | (simp; done) | (simp; omega)
      intro v' w4 hown4 hgrow _
      have hB4 : Bel wr w4 := Below.grown ((Bel.refl wr).alloc _) hgrow (by simp) (fun k hk => by simp [Value.ownBlock] at hk; omega)
      obtain ⟨g, cap, rfl, hgw⟩ : ∃ g cap, v' = .slice (some ⟨g, 0, none⟩) 1024 cap ∧ wr.heap.size ≤ g := by
        rcases hown4.2 with ⟨_, h2⟩ | ⟨g, cap, cur, h1, h2, _⟩
        · simp at h2
        · exact ⟨g, cap, by simpa using h1, h2⟩
      have HB4 := Lib.hid (HB9.out.trans hB4)
      have hs4 := hB4.size
      have hsw := HB9.out.size
      have HOW4 : Hid (w4.ownsRow wr.heap.size 4 1 (.slice (some ⟨g, 0, none⟩) 1024 cap) 1024 (boolsOf f)) := Lib.hid (by simpa using hown4)
      clear hown4 hgrow hB4 HOW0 HNEW hq2
      go_wp2_with fail
      obtain ⟨W0, hW0⟩ : ∃ W0, W0 = wr := ⟨_, rfl⟩
      rw [← hW0] at hgw hsw HOW4
      clear hW0 hs4 HB9
      go_loopw [30] (fun k wi => ∃ i : Nat, i ≤ l.length ∧ k = .int .i64 i ∧ Hid (wi.ownsRow W0.heap.size 4 1 (.slice (some ⟨g, 0, none⟩) 1024 cap) 1024 (boolsOf (setB f (l.take i) b)) ∧ OkB f (l.take i) b ∧ Bel w wi)) (fun k _ => l.length - (intOf k).toNat)
      case atStart => exact ⟨0, Nat.zero_le _, rfl, Lib.hid ⟨by rw [List.take_zero, setB_nil]; exact HOW4.out, by rw [List.take_zero]; exact okB_nil _ _, HB4.out⟩⟩
      case round =>
        obtain ⟨i, hi2, rfl, HH⟩ := hrel
        by_cases hlt2 : i < l.length
        · obtain ⟨gl, ol, rfl, p0, p1⟩ := HR.out.at i hlt2
          have q0 := HH.out.2.2.cell p0
          have hth := there_iff.1 (HAT.out _ (List.getElem_mem hlt2))
          have hst : l.take (i + 1) = l.take i ++ [l[i]] := List.take_succ_eq_append_getElem hlt2
          have hsp : l = l.take i ++ [l[i]] ++ l.drop (i + 1) := by rw [← hst, List.take_append_drop]
          obtain ⟨x, hx⟩ : ∃ x, l[i] = x := ⟨_, rfl⟩
          rw [hx] at p0 p1 q0 hth hst hsp
          obtain ⟨s, m⟩ := x
          dsimp only at p0 p1 q0 hth
          obtain ⟨t0, t1, t2, t3⟩ := hth
          obtain ⟨s, rfl⟩ := Int.eq_ofNat_of_zero_le t0
          obtain ⟨m, rfl⟩ := Int.eq_ofNat_of_zero_le (show 0 ≤ m by omega)
          have HP := Lib.hid (And.intro p0 p1)
          have HST := Lib.hid hst
          have HSP := Lib.hid hsp
          have HA1 : Hid (∀ r ∈ l.take i, 1 ≤ r.2) := Lib.hid (fun r hr => (there_iff.1 (HAT.out r (List.mem_of_mem_take hr))).2.1)
          obtain ⟨A, hA⟩ : ∃ A, l.take i = A := ⟨_, rfl⟩
          rw [hA] at HH HST HSP HA1
          clear hst hsp hx p0 p1 hA
          go_wp2_with fail
          go_loopw [11] (fun k wj => ∃ j : Nat, j ≤ m ∧ k = .int .i64 ((s : Int) + j) ∧ Hid (wj.ownsRow W0.heap.size 4 1 (.slice (some ⟨g, 0, none⟩) 1024 cap) 1024 (boolsOf (setB f (A ++ [((s : Int), (j : Int))]) b)) ∧ OkP f A s j b ∧ Bel w wj)) (fun k _ => s + m - (intOf k).toNat)
          case atStart => exact ⟨0, Nat.zero_le _, by simp, Lib.hid ⟨by rw [show (((0 : Nat) : Int)) = 0 from rfl, setB_zero]; exact HH.out.1, okP_start HH.out.2.1 _, HH.out.2.2⟩⟩
          case round =>
            obtain ⟨j, hj, rfl, HJ⟩ := hrel
            have z0 := HJ.out.2.2.cell HP.out.1
            have z1 := HJ.out.2.2.cell HP.out.2
            have e1 : IntKind.i64.wrap ((s : Int) + m) = (s : Int) + m := IntWalk.i64_in _ (by omega)
            by_cases hlt3 : j < m
            · obtain ⟨g9, cap9, e9, hgb, hcp, hcell, hfz, hset⟩ := own_set HJ.out.1 (t := s + j) (by omega)
              simp only [Value.slice.injEq, Option.some.injEq, Addr.mk.injEq, and_true, true_and] at e9
              obtain ⟨rfl, rfl⟩ := e9
              rw [boolsOf_get _ (by omega)] at hcell
              have hset9 := hset (.bool b)
              have ec : ((s + j : Nat) : Int) = (s : Int) + j := by omega
              rw [boolsOf_set, ec, setB_step] at hset9
              rw [ec] at hcell
              have d1 : (s : Int) + j < (s : Int) + m := by omega
              have d2 : (0 : Int) ≤ (s : Int) + j := by omega
              have d3 : (s : Int) + j < 1024 := by omega
              have d4 : ((s : Int) + j).toNat = s + j := by omega
              have d5 : (j : Int) < (m : Int) := by omega
              have hgl : g < wr.heap.size := World.block_lt_of_cell? wr _ hcell
              have HKO : Hid (setB f (A ++ [((s : Int), (j : Int))]) b ((s : Int) + j) = !b → OkP f A s (j + 1) b) := Lib.hid (fun h => okP_step HJ.out.2.1 h)
              have HNO : Hid (setB f (A ++ [((s : Int), (j : Int))]) b ((s : Int) + j) ≠ !b → ¬ OkB f l b) := Lib.hid (fun h => by rw [HSP.out]; exact okB_not (B := l.drop (i + 1)) d5 h)
              obtain ⟨q, hq⟩ : ∃ q, setB f (A ++ [((s : Int), (j : Int))]) b ((s : Int) + j) = q := ⟨_, rfl⟩
              rw [hq] at hcell HKO HNO
              have HSET := Lib.hid hset9
              have HBS : Hid (Bel w (wr.setCell ⟨g, s + j, none⟩ (.bool b))) := Lib.hid (Below.setCell HJ.out.2.2 (by show w.heap.size ≤ g; omega) _)
              clear hset hset9 hq ec
              by_cases hqb : q = b
              · have HE := Lib.hid (putB_bad (f := f) (b := b) HAT.out (HNO.out (by rw [hqb]; cases b <;> simp)))
                have e5 : (q == b) = true := by simp [hqb]
                clear HKO HNO HSET HBS
                go_wp2_with fail
                go_region
                go_wp2
                go_ret2
                exact ⟨_, by rw [HE.out]; rfl, by rw [HE.out]; exact HF.out.bel HJ.out.2.2.drew, HJ.out.2.2.drew⟩
              · have e5 : (q == b) = false := by simp [hqb]
                have HK := Lib.hid (HKO.out (by revert hqb; cases q <;> cases b <;> simp))
                clear HKO HNO
                go_wp2_with fail
                go_region
                go_wp2
                go_roundw
                case rel => exact ⟨j + 1, by omega, by go_num, Lib.hid ⟨HSET.out.drew, HK.out, HBS.out.drew⟩⟩
                case measure => simp [intOf]; omega
            · obtain rfl : j = m := by omega
              have d1 : ¬ (s : Int) + j < (s : Int) + j := by omega
              have HE := Lib.hid (okP_end HJ.out.2.1 HA1.out (by omega))
              go_wp2_with fail
              go_region
              go_wp2
              go_roundw
              case rel => exact ⟨i + 1, by omega, by go_num, Lib.hid ⟨by rw [HST.out]; exact HJ.out.1, by rw [HST.out]; exact HE.out, HJ.out.2.2.drew⟩⟩
              case measure => simp [intOf]; omega
        · obtain rfl : i = l.length := by omega
          rw [List.take_length] at HH
          have HE := Lib.hid (putB_ok HAT.out HH.out.2.1)
          go_wp2
          go_ret2
          exact ⟨_, by rw [HE.out]; rfl, by rw [HE.out]; exact bitsO_own HH.out.1, HH.out.2.2⟩
end Go.Proofs.YtbldidlbhahciaaGreat

namespace Go.Proofs.YtbldidlbhahciaaGreat
open Go.RowKit

/-- A twin heap as a value. -/
def hV (P g fc : Nat) (a : Option Addr) (n c last : Nat) : Value := .agg #[.int .i64 (P : Int), .slice (some ⟨g, 0, none⟩) 1024 fc, .slice a n c, .int .i64 (last : Int)]
/-- What it holds. -/
structure RefH (w : World) (g fc : Nat) (f : Int → Bool) (a : Option Addr) (c : Nat) (S : List Sp) : Prop where
  bits : BitsO w (.slice (some ⟨g, 0, none⟩) 1024 fc) f
  sp : SpansIn w a S
  nil : a = none → S = [] ∧ c = 0
  cap : S.length ≤ c
theorem RefH.bel {w w' : World} {g fc : Nat} {a : Option Addr} {c : Nat} {f : Int → Bool} {S : List Sp} (h : RefH w g fc f a c S) (k : Bel w w') : RefH w' g fc f a c S := ⟨h.bits.bel k, h.sp.bel k, h.nil, h.cap⟩
theorem BitsO.form {w : World} {v : Value} {f : Int → Bool} (h : BitsO w v f) : ∃ g c, v = .slice (some ⟨g, 0, none⟩) 1024 c := by
  obtain ⟨_, g, c, _, e, _⟩ := h
  exact ⟨g, c, e⟩
set_option maxHeartbeats 1000000 in
set_option maxRecDepth 20000 in
theorem ref7_New_bad (pages : Int) (w : World) (hp : I64 pages) (h : pages < 4 ∨ 1024 < pages) :
    Calls Tryz.prog 15 #[.int .i64 pages] w fun e w' => e = .returned (.tuple #[.agg #[.int .i64 0, .slice none 0 0, .slice none 0 0, .int .i64 0], .int .i64 1]) ∧ Bel w w' := by
  have hc : pages < 4 ∨ (¬ pages < 4 ∧ 1024 < pages) := by omega
  rcases hc with c1 | ⟨c1, c2⟩
  all_goals
    go_enter Tryz.func15, Tryz.ntmps15
    go_wp2
    obtain ⟨r0, r1, r2, r3⟩ := four_cells (blk_alloc w (.cells #[.int .i64 0, .slice none 0 0, .slice none 0 0, .int .i64 0] 44))
    refine bodyPost_ret (v := .tuple #[.agg #[.int .i64 0, .slice none 0 0, .slice none 0 0, .int .i64 0], .int .i64 1]) (by simp [results, Tryz.results15, go_sem, r0, r1, r2, r3]) rfl ?_
    exact ⟨rfl, (Bel.refl _).alloc _⟩
set_option maxHeartbeats 1000000 in
set_option maxRecDepth 20000 in
theorem ref7_New (P : Nat) (w : World) (h1 : 4 ≤ P) (h2 : P ≤ 1024) :
    Calls Tryz.prog 15 #[.int .i64 P] w fun e w' => ∃ g fc, e = .returned (.tuple #[hV P g fc none 0 0 0, .int .i64 0]) ∧ BitsO w' (.slice (some ⟨g, 0, none⟩) 1024 fc) (putB (fun _ => false) [(0, (P : Int))] true).1 ∧ Bel w w' := by
  have gR := blk_alloc w (.cells #[.int .i64 0, .slice none 0 0, .slice none 0 0, .int .i64 0] 44)
  have HB0 := Lib.hid ((Bel.refl w).alloc (.cells #[.int .i64 0, .slice none 0 0, .slice none 0 0, .int .i64 0] 44))
  go_enter Tryz.func15, Tryz.ntmps15
  go_wp2_with fail
  generalize w.alloc (.cells #[.int .i64 0, .slice none 0 0, .slice none 0 0, .int .i64 0] 44) = W0 at gR HB0 ⊢
  obtain ⟨R, hR⟩ : ∃ R, w.heap.size = R := ⟨_, rfl⟩
  rw [hR] at gR
  rw [hR]
  refine (ref6_New _).mono ?_
  rintro e w1 ⟨v, rfl, hO, hB⟩
  have HO := Lib.hid hO
  have HB := Lib.hid hB
  clear hO hB
  obtain ⟨bf, of', cf, rfl, _⟩ := HO.out.1
  have HP := Lib.hid (ref6_Put _ _ (some ⟨w1.heap.size, 0, none⟩) [(0, (P : Int))] 1 1 true _ rfl (by simp) (HO.out.bel ((Bel.refl _).alloc (.cells #[.int .i64 0, .int .i64 P] 31))) (RunsIn.of_row (RdV.new w1 #[.int .i64 0, .int .i64 P] 31)) (by intro r hr; simp at hr; subst hr; exact ⟨⟨by omega, by omega⟩, ⟨by omega, by omega⟩⟩))
  go_wp2_with fail
  refine HP.out.mono ?_
  rintro e w2 ⟨fv, rfl, hO2, hB2⟩
  obtain ⟨g, fc, rfl⟩ := hO2.form
  have hB3 := HB.out.trans (((Bel.refl w1).alloc (.cells #[.int .i64 0, .int .i64 P] 31)).trans hB2)
  have gR2 := hB3.blk gR
  have HE : Hid (((((w2.setCell ⟨R, 0, none⟩ (.int .i64 P)).setCell ⟨R, 1, none⟩ (.slice (some ⟨g, 0, none⟩) 1024 fc)).setCell ⟨R, 2, none⟩ (.slice none 0 0)).setCell ⟨R, 3, none⟩ (.int .i64 0)).heap[R]? = some (.cells #[.int .i64 P, .slice (some ⟨g, 0, none⟩) 1024 fc, .slice none 0 0, .int .i64 0] 44 (0, 0)) ∧
      BitsO ((((w2.setCell ⟨R, 0, none⟩ (.int .i64 P)).setCell ⟨R, 1, none⟩ (.slice (some ⟨g, 0, none⟩) 1024 fc)).setCell ⟨R, 2, none⟩ (.slice none 0 0)).setCell ⟨R, 3, none⟩ (.int .i64 0)) (.slice (some ⟨g, 0, none⟩) 1024 fc) (putB (fun _ => false) [(0, (P : Int))] true).1 ∧ Bel w ((((w2.setCell ⟨R, 0, none⟩ (.int .i64 P)).setCell ⟨R, 1, none⟩ (.slice (some ⟨g, 0, none⟩) 1024 fc)).setCell ⟨R, 2, none⟩ (.slice none 0 0)).setCell ⟨R, 3, none⟩ (.int .i64 0))) := Lib.hid (by
    refine ⟨four_set gR2 _ _ _ _, hO2.fr (S := fun k => k = R) (Fr.setCell (p := ⟨R, 3, none⟩) (Fr.setCell (p := ⟨R, 2, none⟩) (Fr.setCell (p := ⟨R, 1, none⟩) (Fr.setCell (p := ⟨R, 0, none⟩) (Fr.refl (fun k => k = R) w2) (.inl rfl) _) (.inl rfl) _) (.inl rfl) _) (.inl rfl) _) (fun g cur hg e => ?_), bel_four (HB0.out.trans hB3) (by omega) _ _ _ _⟩
    rw [e, gR2] at hg
    simp at hg)
  obtain ⟨c0, c1, c2, c3⟩ := four_cells gR2
  obtain ⟨f0, f1, f2, f3⟩ := four_frozen gR2
  clear hO2 hB2 HB HP HO hB3 HB0 gR gR2
  go_wp2
  generalize (((w2.setCell ⟨R, 0, none⟩ (.int .i64 P)).setCell ⟨R, 1, none⟩ (.slice (some ⟨g, 0, none⟩) 1024 fc)).setCell ⟨R, 2, none⟩ (.slice none 0 0)).setCell ⟨R, 3, none⟩ (.int .i64 0) = W9 at HE ⊢
  obtain ⟨r0, r1, r2, r3⟩ := four_cells HE.out.1
  refine bodyPost_ret (v := .tuple #[hV P g fc none 0 0 0, .int .i64 0]) (by simp [hV, results, Tryz.results15, go_sem, r0, r1, r2, r3]) rfl ?_
  exact ⟨_, _, rfl, HE.out.2⟩
set_option maxHeartbeats 1000000 in
set_option maxRecDepth 20000 in
theorem ref7_Find (P g fc : Nat) (a : Option Addr) (n c : Nat) (last : Nat) (S : List Sp) (k : Int) (w : World) (hn : n = S.length) (hs : SpansIn w a S) (hl : S.length ≤ 65536) :
    Calls Tryz.prog 68 #[hV P g fc a n c last, .int .i64 k] w fun e w' => e = .returned (.int .i64 (idxF (fun s => decide (s.1 = k)) S)) ∧ Bel w w' := by
  subst hn
  unfold hV
  have HS := Lib.hid hs
  clear hs
  go_enter Tryz.func68, Tryz.ntmps68
  go_wp2_with fail
  have hbl := (Bel.refl w).alloc (.cells #[.int .i64 P, .slice (some ⟨g, 0, none⟩) 1024 fc, .slice a S.length c, .int .i64 last] 44)
  have HSP := Lib.hid (HS.out.bel hbl)
  have HBL := Lib.hid hbl
  have gb := blk_alloc w (.cells #[.int .i64 P, .slice (some ⟨g, 0, none⟩) 1024 fc, .slice a S.length c, .int .i64 last] 44)
  clear hbl
  generalize w.alloc (.cells #[.int .i64 P, .slice (some ⟨g, 0, none⟩) 1024 fc, .slice a S.length c, .int .i64 last] 44) = w1 at HSP HBL gb ⊢
  obtain ⟨g0, g1, g2, g3⟩ := four_cells gb
  go_loopw [9] (fun kv wr => ∃ i : Nat, i ≤ S.length ∧ kv = .int .i64 i ∧ (∀ j (hj : j < i) (h : j < S.length), S[j].1 ≠ k) ∧ Bel w1 wr) (fun kv wr => S.length - (intOf kv).toNat)
  case atStart => exact ⟨0, Nat.zero_le _, rfl, fun j hj => by omega, Bel.refl _⟩
  case round =>
    obtain ⟨i, hi, rfl, hpre, hB⟩ := hrel
    have HPRE := Lib.hid hpre
    clear hpre
    by_cases hlt : i < S.length
    · obtain ⟨b1, o1, rfl, p0, _⟩ := (HSP.out.bel hB).at i hlt
      obtain ⟨r0, r1, r2, r3⟩ := four_cells ((Fr.of_bel (S := fun _ => False) hB).heap gb (fun h => h))
      obtain ⟨x, hx⟩ : ∃ x, S[i].1 = x := ⟨_, rfl⟩
      rw [hx] at p0
      have HX := Lib.hid hx
      have HB := Lib.hid hB
      clear hx hB
      by_cases he : x = k
      · subst he
        have e1 : (x == x) = true := by simp
        have HI : Hid (idxF (fun s => decide (s.1 = x)) S = i) := Lib.hid (idxF_at _ _ i hlt (fun j hj => by simpa using HPRE.out j hj (by omega)) (by simpa using HX.out))
        go_wp2
        go_ret
        exact ⟨by rw [HI.out]; rfl, HBL.out.trans HB.out⟩
      · have e1 : (x == k) = false := by simp [he]
        have HN := Lib.hid he
        go_wp2
        go_roundw
        case rel => exact ⟨i + 1, by omega, by go_num, fun j hj h => by
          by_cases h9 : j < i
          · exact HPRE.out j h9 h
          · have : j = i := by omega
            subst this
            rw [HX.out]; exact HN.out, HB.out⟩
        case measure => simp [intOf]; omega
    · obtain rfl : i = S.length := by omega
      have HI : Hid (idxF (fun s => decide (s.1 = k)) S = -1) := Lib.hid (idxF_none _ _ (fun j hj => by simpa using HPRE.out j hj hj))
      go_wp2
      go_ret
      exact ⟨by rw [HI.out]; rfl, HBL.out.trans hB⟩
end Go.Proofs.YtbldidlbhahciaaGreat

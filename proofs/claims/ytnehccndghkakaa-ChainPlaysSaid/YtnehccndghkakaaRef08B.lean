/- The slow twin of layer 8: List at a chain that isn't right; with. -/
import Derived.Test.YtnehccndghkakaaRef08
namespace Go.Proofs.Ytnehccndghkakaa
open Go.RowKit Go.Deep

set_option maxHeartbeats 1600000 in
set_option maxRecDepth 20000 in
theorem ref8_List_bad (a : Option Addr) (ws : List Int) (hd ln : Int) (c : Nat) (w : World) (hsm : ws.length ≤ 65536) (hra : RdV w a (u64s ws)) (hwf : ∀ y ∈ ws, 0 ≤ y ∧ y ≤ 18446744073709551615) (hhd : I64 hd) (hhl : I64 ln)
    (hbad : ∀ l, ¬ RightC ws hd ln l) :
    Calls Try.prog 11 #[.slice a ws.length c, .agg #[.int .i64 hd, .int .i64 ln]] w (fun e w' => ∃ l, RListed w l false e w') := by
  have hq0 : ∀ W : World, (Instr.buildSlice 33 0 #[]).run Try.prog W = .ok (.slice (some ⟨W.heap.size, 0, none⟩) 0 0) (W.alloc (.cells #[] 3)) := fun W => by kernel_rfl
  have hown0 : ∀ W : World, Bel w W → ∀ W', W' = W.alloc (.cells #[] 3) → ∃ l, RListed w l false (.returned (.tuple #[.slice (some ⟨W.heap.size, 0, none⟩) 0 0, .bool false])) W' := fun W hB W' e => by
    subst e
    have := World.ownsRow_made (e := 3) (size := 1) W #[] 0 (Nat.le_refl _) (by simp [maxLen]) (by simp)
    exact ⟨[], _, rfl, own_base this hB.size, hB.alloc _⟩
  obtain ⟨i0, hi, hz, hs, hby⟩ := info_parts info_int
  have HBAD := Lib.hid hbad
  have HRA := Lib.hid hra
  have HWF := Lib.hid hwf
  have HOW := Lib.hid hown0
  have H0 := Lib.hid (RLSt.start w hd ln)
  obtain ⟨l0, l1⟩ := hhl
  clear hra hwf hbad hown0
  go_enter Try.func11, Try.ntmps11
  go_wp2_with fail
  go_loopw [6, 7] (fun v h wr => ∃ o k, h = .int .i64 k ∧ (Seg ws hd o k ∧ o.Nodup ∧ I64 k) ∧ RLSt w wr hd ln o v) (fun v h wr => ws.length + 2 - slen v)
  case atStart => exact ⟨[], hd, rfl, ⟨rfl, List.nodup_nil, hhd⟩, H0.out⟩
  case round =>
    obtain ⟨o, k, rfl, ⟨hS, hN, hk1, hk2⟩, hL⟩ := hrel
    have hbox := hL.box
    have c0 : wr.cell? ⟨w.heap.size, 0, none⟩ = some (.int .i64 hd) := blk_cell hbox 0
    have c1 : wr.cell? ⟨w.heap.size, 1, none⟩ = some (.int .i64 ln) := blk_cell hbox 1
    obtain ⟨a', c', rfl, hro, _⟩ := own_slice hL.own
    have hol : o.length ≤ ws.length := nodup_bound _ o hN hS.range
    have hom : o.length ≤ maxLen := by unfold maxLen; omega
    have HRO := Lib.hid hro
    have HL := Lib.hid hL
    have hsz := hL.size
    clear hbox hro hL
    by_cases hk : k = 0
    · subst hk
      have hne : (((o.length : Nat) : Int) == ln) = false := by
        rw [beq_eq_false_iff_ne]
        intro h
        exact HBAD.out o ⟨by simpa using hS.join (l := []) rfl, hN, h⟩
      clear hS hN
      go_wp2_with fail
      go_quiet (fail)
      go_wp2
      go_ret2
      exact ⟨o, _, rfl, own_base (own_bel HL.out.own (Bel.drewN (Bel.refl _) _)) (by omega), HL.out.bel.drewN _⟩
    · have hkk : (k != 0) = true := by rw [bne_iff_ne]; exact hk
      by_cases hk0 : k < 0
      · clear hS hN
        go_wp2
        go_ret2
        exact HOW.out _ HL.out.bel _ rfl
      · by_cases hkl : (ws.length : Int) < k
        · clear hS hN
          go_wp2
          go_ret2
          exact HOW.out _ HL.out.bel _ rfl
        · have HS := Lib.hid (And.intro hS hN)
          have hrange := hS.range
          clear hS hN
          by_cases hm : k - 1 ∈ o
          · have HM := Lib.hid (decide_eq_true hm)
            clear hm hrange
            go_wp2_with fail
            refine (ref3_In a' o (k - 1) _ c' wr rfl hom HRO.out).mono ?_
            rintro e w1 ⟨rfl, rfl⟩
            rw [HM.out]
            go_wp2
            go_ret2
            exact HOW.out _ HL.out.bel _ rfl
          · have HM := Lib.hid (decide_eq_false hm)
            have HMM := Lib.hid hm
            clear hm hrange
            by_cases hlong : ln ≤ o.length
            · go_wp2_with fail
              refine (ref3_In a' o (k - 1) _ c' wr rfl hom HRO.out).mono ?_
              rintro e w1 ⟨rfl, rfl⟩
              rw [HM.out]
              go_wp2
              go_ret2
              exact HOW.out _ HL.out.bel _ rfl
            · obtain ⟨y, hy⟩ : ∃ y, wd ws (k - 1) = y := ⟨_, rfl⟩
              have hyw := wd_wf HWF.out (k - 1)
              rw [hy] at hyw
              obtain ⟨y0, y1⟩ := hyw
              obtain ⟨bb, oo, hae, hcw0⟩ := u64_at (x := k - 1) HRA.out (by omega) (by omega)
              rw [hy] at hcw0
              have HY := Lib.hid hy
              have HCW := Lib.hid hcw0
              clear hy hcw0
              subst hae
              have htn : (k - 1).toNat = k.toNat - 1 := by omega
              by_cases hyl : y ≤ ws.length
              all_goals
                go_wp2_with fail
                refine (ref3_In a' o (k - 1) _ c' wr rfl hom HRO.out).mono ?_
                rintro e w1 ⟨rfl, rfl⟩
                rw [HM.out]
                go_wp2_with (at_builtin; refine wpList_append_own _ rfl _ _ 33 rfl (w.heap.size + 1) 3 i0 (.int .i64 0) 1 8 Try.underlying33 hi hz hs hby rfl (by decide) _ _ _ rfl (HL.out.own.alloc _) ⟨wr.heap.size, 0, none⟩ 1 1 [.int .i64 (k - 1)] rfl rfl ?_ ?_ ?_ ?_ ?_ ?_)
                · exact cell_one_new wr (.int .i64 (k - 1)) 3
                · simp [Value.oneCell']
                · unfold maxLen; omega
                · omega
                · first | omega | (simp; omega)
                intro v' w2 hown2 hgrow hnil
                have hL2 : RLSt w w2 hd ln (o ++ [k - 1]) v' := RLSt.app HL.out hown2 hgrow
                obtain ⟨a2', c2', rfl⟩ := hL2.own.len
                have hcw : w2.cell? ⟨bb, oo + (k - 1).toNat, none⟩ = some (.int .u64 y) := hL2.bel.cell HCW.out
                rw [htn] at hcw
                have HL2 := Lib.hid hL2
                clear hL2 hown2 hgrow hnil
              · go_wp2
                go_roundw
                case rel =>
                  have hS' := Seg.snoc (x := k - 1) (by rw [show k - 1 + 1 = k by omega]; exact HS.out.1) (by omega) (by omega)
                  rw [HY.out] at hS'
                  refine ⟨o ++ [k - 1], y, rfl, ⟨hS', ?_, by omega, by omega⟩, by have := HL2.out; simpa using this⟩
                  rw [List.nodup_append]
                  refine ⟨HS.out.2, by simp, fun z hz u hu e => ?_⟩
                  simp at hu
                  exact HMM.out (by rw [← hu, ← e]; exact hz)
                case measure => simp [slen]; omega
              · go_wp2
                go_ret2
                exact HOW.out _ HL2.out.bel _ rfl

/-- Words of one's own. -/
def GotU (w : World) (ws : List Int) (e : Ending) (w' : World) : Prop := ∃ v, e = .returned v ∧ NewU64 w.heap.size ws v w' ∧ Bel w w'
set_option maxRecDepth 20000 in
theorem ref8_with (a : Option Addr) (ws : List Int) (x v : Int) (c : Nat) (w : World) (hsm : ws.length ≤ 65536) (hra : RdV w a (u64s ws)) (hx0 : 0 ≤ x) (hx1 : x < ws.length) :
    Calls Try.prog 36 #[.slice a ws.length c, .int .i64 x, .int .u64 v] w (GotU w (setW ws x v)) := by
  have hq2 : ∀ W : World, (Instr.buildSlice 22 0 #[]).run Try.prog W = .ok (.slice (some ⟨W.heap.size, 0, none⟩) 0 0) (W.alloc (.cells #[] 30)) := fun W => by kernel_rfl
  obtain ⟨i, hi, hz, hs, hby⟩ := info_parts info_u64
  obtain ⟨ba, oa, rfl, _⟩ := u64_at hra hx0 hx1
  have HRA := Lib.hid hra
  clear hra
  go_enter Try.func36, Try.ntmps36
  go_wp2_with (at_builtin; refine wpList_append_own _ rfl _ _ 22 rfl w.heap.size 30 i (.int .u64 0) 1 8 Try.underlying22 hi hz hs hby rfl (by decide) _ 0 [] rfl ?c1 ⟨ba, oa, none⟩ ws.length c (u64s ws) rfl ?c2 ?c3 (u64s_one ws) ?c4 ?c5 ?c6 ?_)
  case c1 => exact World.ownsRow_made w #[] 0 (Nat.le_refl _) (by simp [maxLen]) (by simp)
  case c2 => simp [u64s]
  case c3 => exact (RdV.cells (HRA.out.bel ((Bel.refl _).alloc _)))
  case c4 => unfold maxLen; omega
  case c5 => omega
  case c6 => simp
  intro v' w1 hown hgrow hnil
  have hB1 : Bel w w1 := bel_grown ((Bel.refl _).alloc _) hgrow (fun k hk => by simp [Value.ownBlock] at hk; omega)
  try simp only [Nat.zero_add, List.nil_append] at hown
  obtain ⟨g, cap, cu, rfl, hg0, hg1, hg2, hg3, hg4, hg5⟩ : ∃ g cap, ∃ cur : List Value, v' = .slice (some ⟨g, 0, none⟩) ws.length cap ∧ w.heap.size ≤ g ∧ w1.heap[g]? = some (.cells cur.toArray 30 (0, 0)) ∧ ws.length ≤ cap ∧ cap ≤ maxLen ∧ cur.length = cap ∧ cur.take ws.length = u64s ws := by
    rcases hown.2 with ⟨h1, _⟩ | ⟨g, cap, cur, h1, h2, h3, h4, h5, h6, h7⟩
    · exact (hnil h1).elim
    · exact ⟨g, cap, cur.toList, h1, h2, by simpa using h3, h4, h5, by simpa using h6, by simpa using h7⟩
  have hcx : w1.cell? ⟨g, x.toNat, none⟩ = some (cu[x.toNat]'(by omega)) := by rw [blk_cell hg1]; simp
  have hfx : w1.frozen? ⟨g, x.toNat, none⟩ = false := blk_frozen hg1 _
  have K := Lib.hid hg1
  have K5 := Lib.hid hg5
  clear hnil hown hgrow hg1 hg5
  go_wp2
  go_ret
  refine ⟨_, rfl, ⟨by simp [u64s, setW], .inr ⟨g, cap, (cu.set x.toNat (.int .u64 v)).toArray, ?_, hg0, ?_, ?_, hg3, by simpa using hg4, ?_⟩⟩, Below.setCell hB1 hg0 _⟩
  · rw [setW_length]; rfl
  · rw [blk_setCell K.out]; simp
  · rw [setW_length]; exact hg2
  · rw [setW_length]
    have : (cu.set x.toNat (.int .u64 v)).take ws.length = u64s (setW ws x v) := by
      rw [List.take_set, K5.out]
      simp [u64s, setW, List.map_set]
    simpa using this
end Go.Proofs.Ytnehccndghkakaa

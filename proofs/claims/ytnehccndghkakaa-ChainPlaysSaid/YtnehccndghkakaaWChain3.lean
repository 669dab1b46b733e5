/- Layer 8: List at a chain that isn't right. -/
import Derived.Test.YtnehccndghkakaaWChain2
namespace Go.Proofs.Ytnehccndghkakaa
open Go.RowKit

/-- No list, and the error. -/
def Unlisted (w : World) (e : Ending) (w' : World) : Prop := e = .returned (.tuple #[.slice none 0 0, .int .i64 9]) ∧ Bel w w'

/-- How far the walk along a chain that isn't right has come. -/
def Bad (ws : List Int) (hd : Int) (o : List Int) (k : Int) : Prop := k = -1 ∧ o.length ≤ ws.length + 1 ∨ Seg ws hd o k ∧ o.Nodup ∧ I64 k

set_option maxHeartbeats 1000000 in
set_option maxRecDepth 20000 in
theorem chain_List_bad (p : Value) (ws : List Int) (hd ln : Int) (w : World) (hP : ArenaP w p ws) (hhd : I64 hd) (hhl : I64 ln) (hbad : ∀ l, ¬ RightC ws hd ln l) :
    Calls Try.prog 15 #[p, .agg #[.int .i64 hd, .int .i64 ln]] w (Unlisted w) := by
  have hsm := arenaP_small hP
  have hmm := run_makeMet
  obtain ⟨i0, hi, hz, hs, hby⟩ := info_parts info_int
  have HBAD := Lib.hid hbad
  have HP := Lib.hid hP
  have H0 := Lib.hid (LSt.start w hd ln)
  clear hbad hP
  go_enter Try.func15, Try.ntmps15
  go_wp2_with fail
  go_loopw [6, 8] (fun v h wr => ∃ o k, h = .int .i64 k ∧ Bad ws hd o k ∧ LSt w wr hd ln o v) (fun v h wr => ws.length + 2 - slen v)
  case atStart => exact ⟨[], hd, rfl, .inr ⟨rfl, List.nodup_nil, hhd⟩, H0.out⟩
  case round =>
    obtain ⟨o, k, rfl, hB, hL⟩ := hrel
    have hbox := hL.box
    have c0 : wr.cell? ⟨w.heap.size, 0, none⟩ = some (.int .i64 hd) := blk_cell hbox 0
    have c1 : wr.cell? ⟨w.heap.size, 1, none⟩ = some (.int .i64 ln) := blk_cell hbox 1
    obtain ⟨a, c, rfl⟩ := hL.own.len
    obtain ⟨l0, l1⟩ := hhl
    clear hbox
    by_cases hk0 : k < 0
    · have HL := Lib.hid hL
      clear hL hB
      go_wp2
      go_ret2
      exact ⟨rfl, HL.out.bel⟩
    · obtain ⟨hS, hN, hk1, hk2⟩ : Seg ws hd o k ∧ o.Nodup ∧ I64 k := by
        rcases hB with ⟨h, _⟩ | h
        · omega
        · exact h
      have hol : o.length ≤ ws.length := nodup_bound _ o hN hS.range
      clear hB
      by_cases hk : k = 0
      · subst hk
        have hne : (((o.length : Nat) : Int) != ln) = true := by
          rw [bne_iff_ne]
          intro h
          exact HBAD.out o ⟨by simpa using hS.join (l := []) rfl, hN, h⟩
        have HL := Lib.hid hL
        clear hL hS hN
        go_wp2
        go_ret2
        exact ⟨rfl, HL.out.bel⟩
      · have hkk : (k != 0) = true := by rw [bne_iff_ne]; exact hk
        have hlook := hL.met.look k (WalkArith.wf_i64 ⟨hk1, hk2⟩)
        by_cases hm : k - 1 ∈ o
        · rw [show decide (k ∈ (o.map (· + 1)).reverse) = true by
            rw [decide_eq_true_eq, List.mem_reverse, List.mem_map]
            exact ⟨k - 1, hm, by omega⟩] at hlook
          have HL := Lib.hid hL
          clear hL hS hN hm
          go_wp2
          go_ret2
          exact ⟨rfl, HL.out.bel⟩
        · rw [show decide (k ∈ (o.map (· + 1)).reverse) = false by
            rw [decide_eq_false_iff_not, List.mem_reverse, List.mem_map]
            rintro ⟨y, hy, e⟩
            have : y = k - 1 := by omega
            exact hm (this ▸ hy)] at hlook
          by_cases hlong : ln ≤ o.length
          · have HL := Lib.hid hL
            clear hL hS hN hm
            go_wp2
            go_ret2
            exact ⟨rfl, HL.out.bel⟩
          · obtain ⟨w1, hrun, p1, p2, p3, p4, p5⟩ := hL.put k ⟨hk1, hk2⟩ (by unfold maxLen; omega)
            rw [show k = k - 1 + 1 by omega] at p2
            have P := Lib.hid (And.intro p1 (And.intro p2 (And.intro p3 p4)))
            have HB : Hid (Bad ws hd (o ++ [k - 1]) (nxt ws k)) := Lib.hid (by
              have hnn : (o ++ [k - 1]).Nodup := by
                rw [List.nodup_append]
                refine ⟨hN, by simp, fun x hx y hy e => ?_⟩
                simp at hy
                exact hm (by rw [← hy, ← e]; exact hx)
              by_cases hc : 0 ≤ k - 1 ∧ k - 1 < ws.length ∧ wd ws (k - 1) ≤ ws.length
              · right
                have hS' := Seg.snoc (x := k - 1) (by rw [show k - 1 + 1 = k by omega]; exact hS) hc.1 hc.2.1
                have h0 := wd_wf HP.out.wf (k - 1)
                unfold nxt
                rw [if_pos hc]
                exact ⟨hS', hnn, by omega, by omega⟩
              · left
                unfold nxt
                rw [if_neg hc]
                exact ⟨rfl, by simp; omega⟩)
            clear hL hS hN hm p1 p2 p3 p4
            go_wp2_with (at_builtin; refine wpList_append_own _ rfl _ _ 33 rfl (w.heap.size + 2) 3 i0 (.int .i64 0) 1 8 Try.underlying33 hi hz hs hby rfl (by decide) _ _ _ rfl (P.out.1.alloc _) ⟨w1.heap.size, 0, none⟩ 1 1 [.int .i64 (k - 1)] rfl rfl ?c2 ?c3 ?c4 ?c5 ?c6 ?_)
            try case c2 => exact cell_one_new w1 (.int .i64 (k - 1)) 3
            case c3 => simp [Value.oneCell']
            case c4 => unfold maxLen; omega
            case c5 => omega
            case c6 => first | omega | (simp; omega) | (rw [World.size_alloc]; omega)
            intro v' w2 hown2 hgrow hnil
            have hL2 : LSt w w2 hd ln (o ++ [k - 1]) v' := LSt.app P.out.1 P.out.2.1 P.out.2.2.1 P.out.2.2.2 p5 hown2 hgrow
            obtain ⟨a', c', rfl⟩ := hL2.own.len
            have HL := Lib.hid hL2
            clear hL2 hown2 hgrow hnil hlook hrun
            go_wp2_with fail
            refine (chain_next p ws k _ (HP.out.bel HL.out.bel) (by omega) (by omega)).mono ?_
            rintro e w3 ⟨rfl, hB3⟩
            go_wp2
            go_roundw
            case rel => exact ⟨o ++ [k - 1], _, rfl, HB.out, by have := HL.out.then hB3; simpa using this⟩
            case measure => simp [slen]; omega
end Go.Proofs.Ytnehccndghkakaa

/- The slow twin of layer 6: Put. -/
import Derived.Test.YtjmjdkimkgclaaaRef06
namespace Go.Proofs.Ytjmjdkimkgclaaa
open Go.RowKit

set_option maxHeartbeats 2000000 in
set_option maxRecDepth 20000 in
theorem ref6_Put (v : Value) (f : Int → Bool) (a : Option Addr) (l : List Rn) (n c : Nat) (b : Bool) (w : World) (hn : n = l.length) (hl : l.length ≤ 1024) (hf : BitsO w v f) (hr : RunsIn w a l) (hok : ∀ x ∈ l, I64 x.1 ∧ I64 x.2) :
    Calls Try.prog 13 #[v, .slice a n c, .bool b] w fun e w' => ∃ v', e = .returned (.tuple #[v', .int .i64 (putB f l b).2]) ∧ BitsO w' v' (putB f l b).1 ∧ Bel w w' := by
  subst hn
  obtain ⟨bf, of', cf, rfl, hfc⟩ := hf.1
  have HF : Hid (BitsO w (.slice (some ⟨bf, of', none⟩) 1024 cf) f) := Lib.hid hf
  have HFC := Lib.hid hfc
  have HR := Lib.hid hr
  have HOK := Lib.hid hok
  obtain ⟨i0, hi0, hz0, hz1, hz2⟩ := info_parts info_bool6
  clear hr hok hfc hf
  go_enter Try.func13, Try.ntmps13
  go_wp2_with fail
  go_loopw [14] (fun k wr => ∃ i : Nat, i ≤ l.length ∧ k = .int .i64 i ∧ Hid (Bel w wr ∧ ∀ j (h : j < i) (h' : j < l.length), there 1024 l[j] = true)) (fun k _ => l.length - (intOf k).toNat)
  case atStart => exact ⟨0, Nat.zero_le _, rfl, Lib.hid ⟨Bel.refl _, fun j h => by omega⟩⟩
  case round =>
    obtain ⟨i, hi, rfl, HH⟩ := hrel
    by_cases hlt : i < l.length
    · obtain ⟨g, o, rfl, p0, p1⟩ := (HR.out.bel HH.out.1).at i hlt
      have hx := HOK.out _ (List.getElem_mem hlt)
      have hcon := ref6_May l[i] wr hx.1 hx.2
      have HNA : Hid (there 1024 l[i] = false → ¬ AllThere 1024 l) := Lib.hid (fun h h9 => by rw [h9 _ (List.getElem_mem hlt)] at h; cases h)
      have HST : Hid (there 1024 l[i] = true → ∀ j (h : j < i + 1) (h' : j < l.length), there 1024 l[j] = true) := Lib.hid (fun h j hj h' => by
        rcases Nat.lt_or_ge j i with h9 | h9
        · exact HH.out.2 j h9 h'
        · obtain rfl : j = i := by omega
          exact h)
      obtain ⟨q, hq⟩ : ∃ q, there 1024 l[i] = q := ⟨_, rfl⟩
      rw [hq] at hcon HNA HST
      obtain ⟨x, hx9⟩ : ∃ x, l[i] = x := ⟨_, rfl⟩
      rw [hx9] at p0 p1 hcon
      have HC := Lib.hid hcon
      clear hcon hq hx9 hx
      go_wp2_with fail
      refine HC.out.mono ?_
      rintro e w1 ⟨rfl, hB1⟩
      have HB1 := Lib.hid (HH.out.1.trans hB1)
      clear hB1 HC
      cases q
      · have HE := Lib.hid (putB_out (f := f) (b := b) (HNA.out (by first | rfl | trivial)))
        go_wp2
        go_ret2
        exact ⟨_, by rw [HE.out]; rfl, by rw [HE.out]; exact HF.out.bel HB1.out, HB1.out⟩
      · go_wp2
        go_roundw
        case rel => exact ⟨i + 1, by omega, by go_num, Lib.hid ⟨HB1.out, HST.out (by first | rfl | trivial)⟩⟩
        case measure => simp [intOf]; omega
    · obtain rfl : i = l.length := by omega
      have HAT : Hid (AllThere 1024 l) := Lib.hid (fun r hr => by obtain ⟨j, hj, rfl⟩ := List.getElem_of_mem hr; exact HH.out.2 j hj hj)
      have hq2 : (Instr.buildSlice 35 0 #[]).run Try.prog wr = .ok (.slice (some ⟨wr.heap.size, 0, none⟩) 0 0) (wr.alloc (.cells #[] 4)) := by kernel_rfl
      have HOW0 : Hid ((wr.alloc (.cells #[] 4)).ownsRow wr.heap.size 4 1 (.slice (some ⟨wr.heap.size, 0, none⟩) 0 0) 0 []) := Lib.hid (World.ownsRow_made (e := 4) (size := 1) wr #[] 0 (Nat.le_refl _) (by simp [maxLen]) (by simp))
      have HNEW : Hid (∀ j u, (boolsOf f)[j]? = some u → (wr.alloc (.cells #[] 4)).cell? ((⟨bf, of', none⟩ : Addr).add j) = some u) := Lib.hid (fun j u hj => by
        obtain ⟨hj1, _⟩ := List.getElem?_eq_some_iff.1 hj
        rw [boolsOf_length] at hj1
        rw [boolsOf_get f hj1] at hj
        rw [addr_add, ← Option.some.inj hj]
        exact (HH.out.1.alloc _).cell (HFC.out j hj1))
      have HB9 := Lib.hid HH.out.1
      clear HH
      go_wp2_with (at_builtin; refine wpList_append_own _ rfl _ _ 35 rfl wr.heap.size 4 i0 (.bool false) 1 1 Try.underlying35 hi0 hz0 hz1 hz2 rfl (by decide) _ _ _ rfl HOW0.out ⟨bf, of', none⟩ 1024 cf (boolsOf f) rfl (boolsOf_length f) HNEW.out (boolsOf_one f) ?d4 ?d5 ?d6 ?_)
      case d4 => unfold maxLen; omega
      case d5 => omega
      case d6 => first | omega | (simp; done) | (simp; omega)
      intro v' w4 hown4 hgrow _
      have hB4 : Bel wr w4 := Below.grown ((Bel.refl wr).alloc _) hgrow (by simp) (fun k hk => by simp [Value.ownBlock] at hk; omega)
      obtain ⟨g, cap, rfl, hgw⟩ : ∃ g cap, v' = .slice (some ⟨g, 0, none⟩) 1024 cap ∧ wr.heap.size ≤ g := by
        rcases hown4.2 with ⟨_, h2⟩ | ⟨g, cap, cur, h1, h2, _⟩
        · simp at h2
        · exact ⟨g, cap, by simpa using h1, h2⟩
      have HB4 := Lib.hid (HB9.out.trans hB4)
      have hs4 := hB4.size
      have hsw := HB9.out.size
      have HOW4 : Hid (w4.ownsRow wr.heap.size 4 1 (.slice (some ⟨g, 0, none⟩) 1024 cap) 1024 (boolsOf f)) := Lib.hid (by simpa using hown4)
      clear hown4 hgrow hB4 HOW0 HNEW hq2
      go_wp2_with fail
      obtain ⟨W0, hW0⟩ : ∃ W0, W0 = wr := ⟨_, rfl⟩
      rw [← hW0] at hgw hsw HOW4
      clear hW0 hs4 HB9
      go_loopw [30] (fun k wi => ∃ i : Nat, i ≤ l.length ∧ k = .int .i64 i ∧ Hid (wi.ownsRow W0.heap.size 4 1 (.slice (some ⟨g, 0, none⟩) 1024 cap) 1024 (boolsOf (setB f (l.take i) b)) ∧ OkB f (l.take i) b ∧ Bel w wi)) (fun k _ => l.length - (intOf k).toNat)
      case atStart => exact ⟨0, Nat.zero_le _, rfl, Lib.hid ⟨by rw [List.take_zero, setB_nil]; exact HOW4.out, by rw [List.take_zero]; exact okB_nil _ _, HB4.out⟩⟩
      case round =>
        obtain ⟨i, hi2, rfl, HH⟩ := hrel
        by_cases hlt2 : i < l.length
        · obtain ⟨gl, ol, rfl, p0, p1⟩ := HR.out.at i hlt2
          have q0 := HH.out.2.2.cell p0
          have hth := there_iff.1 (HAT.out _ (List.getElem_mem hlt2))
          have hst : l.take (i + 1) = l.take i ++ [l[i]] := List.take_succ_eq_append_getElem hlt2
          have hsp : l = l.take i ++ [l[i]] ++ l.drop (i + 1) := by rw [← hst, List.take_append_drop]
          obtain ⟨x, hx⟩ : ∃ x, l[i] = x := ⟨_, rfl⟩
          rw [hx] at p0 p1 q0 hth hst hsp
          obtain ⟨s, m⟩ := x
          dsimp only at p0 p1 q0 hth
          obtain ⟨t0, t1, t2, t3⟩ := hth
          obtain ⟨s, rfl⟩ := Int.eq_ofNat_of_zero_le t0
          obtain ⟨m, rfl⟩ := Int.eq_ofNat_of_zero_le (show 0 ≤ m by omega)
          have HP := Lib.hid (And.intro p0 p1)
          have HST := Lib.hid hst
          have HSP := Lib.hid hsp
          have HA1 : Hid (∀ r ∈ l.take i, 1 ≤ r.2) := Lib.hid (fun r hr => (there_iff.1 (HAT.out r (List.mem_of_mem_take hr))).2.1)
          obtain ⟨A, hA⟩ : ∃ A, l.take i = A := ⟨_, rfl⟩
          rw [hA] at HH HST HSP HA1
          clear hst hsp hx p0 p1 hA
          go_wp2_with fail
          go_loopw [11] (fun k wj => ∃ j : Nat, j ≤ m ∧ k = .int .i64 ((s : Int) + j) ∧ Hid (wj.ownsRow W0.heap.size 4 1 (.slice (some ⟨g, 0, none⟩) 1024 cap) 1024 (boolsOf (setB f (A ++ [((s : Int), (j : Int))]) b)) ∧ OkP f A s j b ∧ Bel w wj)) (fun k _ => s + m - (intOf k).toNat)
          case atStart => exact ⟨0, Nat.zero_le _, by simp, Lib.hid ⟨by rw [show (((0 : Nat) : Int)) = 0 from rfl, setB_zero]; exact HH.out.1, okP_start HH.out.2.1 _, HH.out.2.2⟩⟩
          case round =>
            obtain ⟨j, hj, rfl, HJ⟩ := hrel
            have z0 := HJ.out.2.2.cell HP.out.1
            have z1 := HJ.out.2.2.cell HP.out.2
            have e1 : IntKind.i64.wrap ((s : Int) + m) = (s : Int) + m := IntWalk.i64_in _ (by omega)
            by_cases hlt3 : j < m
            · obtain ⟨g9, cap9, e9, hgb, hcp, hcell, hfz, hset⟩ := own_set HJ.out.1 (t := s + j) (by omega)
              simp only [Value.slice.injEq, Option.some.injEq, Addr.mk.injEq, and_true, true_and] at e9
              obtain ⟨rfl, rfl⟩ := e9
              rw [boolsOf_get _ (by omega)] at hcell
              have hset9 := hset (.bool b)
              have ec : ((s + j : Nat) : Int) = (s : Int) + j := by omega
              rw [boolsOf_set, ec, setB_step] at hset9
              rw [ec] at hcell
              have d1 : (s : Int) + j < (s : Int) + m := by omega
              have d2 : (0 : Int) ≤ (s : Int) + j := by omega
              have d3 : (s : Int) + j < 1024 := by omega
              have d4 : ((s : Int) + j).toNat = s + j := by omega
              have d5 : (j : Int) < (m : Int) := by omega
              have hgl : g < wr.heap.size := World.block_lt_of_cell? wr _ hcell
              have HKO : Hid (setB f (A ++ [((s : Int), (j : Int))]) b ((s : Int) + j) = !b → OkP f A s (j + 1) b) := Lib.hid (fun h => okP_step HJ.out.2.1 h)
              have HNO : Hid (setB f (A ++ [((s : Int), (j : Int))]) b ((s : Int) + j) ≠ !b → ¬ OkB f l b) := Lib.hid (fun h => by rw [HSP.out]; exact okB_not (B := l.drop (i + 1)) d5 h)
              obtain ⟨q, hq⟩ : ∃ q, setB f (A ++ [((s : Int), (j : Int))]) b ((s : Int) + j) = q := ⟨_, rfl⟩
              rw [hq] at hcell HKO HNO
              have HSET := Lib.hid hset9
              have HBS : Hid (Bel w (wr.setCell ⟨g, s + j, none⟩ (.bool b))) := Lib.hid (Below.setCell HJ.out.2.2 (by show w.heap.size ≤ g; omega) _)
              clear hset hset9 hq ec
              by_cases hqb : q = b
              · have HE := Lib.hid (putB_bad (f := f) (b := b) HAT.out (HNO.out (by rw [hqb]; cases b <;> simp)))
                have e5 : (q == b) = true := by simp [hqb]
                clear HKO HNO HSET HBS
                go_wp2_with fail
                go_region
                go_wp2
                go_ret2
                exact ⟨_, by rw [HE.out]; rfl, by rw [HE.out]; exact HF.out.bel HJ.out.2.2.drew, HJ.out.2.2.drew⟩
              · have e5 : (q == b) = false := by simp [hqb]
                have HK := Lib.hid (HKO.out (by revert hqb; cases q <;> cases b <;> simp))
                clear HKO HNO
                go_wp2_with fail
                go_region
                go_wp2
                go_roundw
                case rel => exact ⟨j + 1, by omega, by go_num, Lib.hid ⟨HSET.out.drew, HK.out, HBS.out.drew⟩⟩
                case measure => simp [intOf]; omega
            · obtain rfl : j = m := by omega
              have d1 : ¬ (s : Int) + j < (s : Int) + j := by omega
              have HE := Lib.hid (okP_end HJ.out.2.1 HA1.out (by omega))
              go_wp2_with fail
              go_region
              go_wp2
              go_roundw
              case rel => exact ⟨i + 1, by omega, by go_num, Lib.hid ⟨by rw [HST.out]; exact HJ.out.1, by rw [HST.out]; exact HE.out, HJ.out.2.2.drew⟩⟩
              case measure => simp [intOf]; omega
        · obtain rfl : i = l.length := by omega
          rw [List.take_length] at HH
          have HE := Lib.hid (putB_ok HAT.out HH.out.2.1)
          go_wp2
          go_ret2
          exact ⟨_, by rw [HE.out]; rfl, by rw [HE.out]; exact bitsO_own HH.out.1, HH.out.2.2⟩
end Go.Proofs.Ytjmjdkimkgclaaa

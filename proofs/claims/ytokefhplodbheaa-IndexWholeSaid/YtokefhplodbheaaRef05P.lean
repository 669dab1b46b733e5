/- The slow twin of layer 5: Put. -/
import Derived.Test.YtokefhplodbheaaRef05
import Derived.Test.YtokefhplodbheaaPIndex3
namespace Go.Proofs.Ytokefhplodbheaa
open Go.RowKit

/-- What the twin's Put leaves: numbers (those that were handed in, or new ones), an error. -/
def RPut (w : World) (b : Nat) (N : Nat) (r : List Int × Int) (e : Ending) (w' : World) : Prop :=
  ∃ b' o' c', e = .returned (.tuple #[.slice (some ⟨b', o', none⟩) N c', .int .i64 r.2]) ∧ RdV w' (some ⟨b', o', none⟩) (ints r.1) ∧ (b' = b ∨ w.heap.size ≤ b') ∧ Bel w w'
theorem ints_one5 (xs : List Int) : ∀ v ∈ ints xs, v.oneCell' = true := by
  intro v hv
  simp only [ints, List.mem_map] at hv
  obtain ⟨x, _, rfl⟩ := hv
  rfl
theorem cells5 {w : World} {b o : Nat} {vs : List Value} (h : RdV w (some ⟨b, o, none⟩) vs) : ∀ j u, vs[j]? = some u → w.cell? ((⟨b, o, none⟩ : Addr).add j) = some u := RdV.cells h
theorem out_get {ids' : List Int} {t : Nat} (h : t < ids'.length) : (ints ids')[t]? = some (.int .i64 (wd ids' (t : Int))) := by
  unfold ints wd
  rw [List.getElem?_map, List.getElem?_eq_getElem h, Int.toNat_natCast, List.getD_eq_getElem?_getD, List.getElem?_eq_getElem h]
  rfl
theorem out_set {ids' : List Int} {t : Nat} {v : Int} : (ints ids').set t (.int .i64 v) = ints (setW ids' (t : Int) v) := by
  unfold ints setW; simp [List.map_set]

set_option maxHeartbeats 4000000 in
set_option maxRecDepth 20000 in
theorem ref5_Put_drop (b0 o0 c0 : Nat) (ids : List Int) (id : Int) (a : Option Addr) (rs : List Rn) (n c : Nat) (w : World) (hsm : ids.length ≤ 1024) (hra : RdV w (some ⟨b0, o0, none⟩) (ints ids)) (hn : n = rs.length) (hl : rs.length ≤ 65536) (hr : RunsIn w a rs) (hi64 : ∀ r ∈ rs, I64 r.1 ∧ I64 r.2) (hid : I64 id) :
    Calls Try.prog 10 #[.slice (some ⟨b0, o0, none⟩) ids.length c0, .int .i64 id, .slice a n c, .bool true] w (RPut w b0 ids.length (putF ids 0 rs true)) := by
  subst hn
  obtain ⟨id0, id1⟩ := hid
  have hq2 : ∀ W : World, (Instr.buildSlice 26 0 #[]).run Try.prog W = .ok (.slice (some ⟨W.heap.size, 0, none⟩) 0 0) (W.alloc (.cells #[] 3)) := fun W => by kernel_rfl
  obtain ⟨i0, hi0, hz, hs, hby⟩ := info_parts info_int5
  have HRA := Lib.hid hra
  have HR := Lib.hid hr
  have HI := Lib.hid hi64
  have HOW0 : Hid (∀ W : World, w.heap.size ≤ W.heap.size → (W.alloc (.cells #[] 3)).ownsRow w.heap.size 3 1 (.slice (some ⟨W.heap.size, 0, none⟩) 0 0) 0 []) := Lib.hid (fun W h => own_base (World.ownsRow_made (e := 3) (size := 1) W #[] 0 (Nat.le_refl _) (by simp [maxLen]) (by simp)) h)
  clear hra hr hi64
  go_enter Try.func10, Try.ntmps10
  go_wp2_with fail
  go_loopw [23] (fun k wr => ∃ i : Nat, i ≤ rs.length ∧ k = .int .i64 i ∧ Bel w wr ∧ Hid (∀ j (h : j < i) (h' : j < rs.length), there ids.length rs[j] = true)) (fun k wr => rs.length - (intOf k).toNat)
  case atStart => exact ⟨0, Nat.zero_le _, rfl, Bel.refl _, Lib.hid (fun j h => by omega)⟩
  case round =>
    obtain ⟨i, hi, rfl, hB, H0⟩ := hrel
    have hsB := hB.size
    by_cases hlt : i < rs.length
    · obtain ⟨b, o, rfl, q0, q1⟩ := (HR.out.bel hB).at i hlt
      have hri := HI.out rs[i] (List.getElem_mem _)
      have hC := ref5_there (some ⟨b0, o0, none⟩) ids.length c0 rs[i] wr hsm hri.1 hri.2
      have HB := Lib.hid hB
      by_cases hth : there ids.length rs[i] = true
      · have hH1 : Hid (∀ j (h : j < i + 1) (h' : j < rs.length), there ids.length rs[j] = true) := Lib.hid (fun j h h' => by
          rcases Nat.lt_or_ge j i with h9 | h9
          · exact H0.out j h9 h'
          · obtain rfl : j = i := by omega
            exact hth)
        rw [hth] at hC
        have HC := Lib.hid hC
        generalize rs[i] = r at q0 q1 HC
        obtain ⟨s, m⟩ := r
        dsimp only at q0 q1 HC
        clear hC hth hri hB
        go_wp2_with fail
        refine HC.out.mono ?_
        rintro e w2 ⟨rfl, hB2⟩
        go_wp2
        go_roundw
        case rel => exact ⟨i + 1, by omega, by go_num, HB.out.trans hB2, hH1⟩
        case measure => simp [intOf]; omega
      · have HP := Lib.hid (putF_out (ids := ids) (id := 0) (rs := rs) (drop := true) (by simp) (fun h => hth (h _ (List.getElem_mem _))))
        rw [show there ids.length rs[i] = false by simpa using hth] at hC
        have HC := Lib.hid hC
        generalize rs[i] = r at q0 q1 HC
        obtain ⟨s, m⟩ := r
        dsimp only at q0 q1 HC
        clear hC hth hri hB
        go_wp2_with fail
        refine HC.out.mono ?_
        rintro e w2 ⟨rfl, hB2⟩
        go_wp2
        go_ret2
        rw [HP.out]
        exact ⟨b0, o0, c0, rfl, HRA.out.bel (HB.out.trans hB2), .inl rfl, HB.out.trans hB2⟩
    · obtain rfl : i = rs.length := by omega
      have HAT : Hid (AllThere ids.length rs) := Lib.hid (fun r hr => by obtain ⟨j, hj, rfl⟩ := List.getElem_of_mem hr; exact H0.out j (by omega) hj)
      have HB := Lib.hid hB
      clear H0 hB hlt hi
      go_wp2_with (at_builtin; refine wpList_append_own _ rfl _ _ 26 rfl w.heap.size 3 i0 (.int .i64 0) 1 8 Try.underlying26 hi0 hz hs hby rfl (by decide) _ 0 [] rfl ?d1 ⟨b0, o0, none⟩ ids.length c0 (ints ids) rfl ?d2 ?d3 (ints_one5 ids) ?d4 ?d5 ?d6 ?_)
      case d1 => exact HOW0.out _ hsB
      case d2 => simp [ints]
      case d3 => exact cells5 (HRA.out.bel (HB.out.alloc _))
      case d4 => unfold maxLen; omega
      case d5 => omega
      case d6 => rw [World.size_alloc]; omega
      intro v' w1 hown hgrow hnil
      have hB1 : Bel w w1 := Below.grown (HB.out.alloc (.cells #[] 3)) hgrow (HB.out.alloc (.cells #[] 3)).size (fun k hk => by simp [Value.ownBlock] at hk; omega)
      try simp only [Nat.zero_add, List.nil_append] at hown
      obtain ⟨g, cap, rfl, hg⟩ : ∃ g cap, v' = .slice (some ⟨g, 0, none⟩) ids.length cap ∧ w.heap.size ≤ g := by
        rcases hown.2 with ⟨h1, _⟩ | ⟨g, cap, cur, h1, h2, _⟩
        · exact (hnil h1).elim
        · exact ⟨g, cap, h1, h2⟩
      have HOWN := Lib.hid hown
      have HB1 := Lib.hid hB1
      clear hown hB1 hgrow hnil HOW0 hq2 hsB
      go_wp2_with fail
      go_loopw [40] (fun k wr => ∃ i : Nat, i ≤ rs.length ∧ k = .int .i64 i ∧ wr.ownsRow w.heap.size 3 1 (.slice (some ⟨g, 0, none⟩) ids.length cap) ids.length (ints (fillA ids 0 (rs.take i))) ∧ Bel w wr ∧ Hid (EachSet ids (rs.take i))) (fun k wr => rs.length - (intOf k).toNat)
      case atStart => exact ⟨0, Nat.zero_le _, rfl, by rw [List.take_zero, fillA_nil]; exact HOWN.out, HB1.out, Lib.hid (by rw [List.take_zero]; exact each_nil ids)⟩
      case round =>
        obtain ⟨i, hi, rfl, hown, hB, HF⟩ := hrel
        by_cases hlt : i < rs.length
        · obtain ⟨b, o, rfl, q0', q1'⟩ := HR.out.at i hlt
          obtain ⟨t0, t1, t2, t3⟩ := there_iff.1 (HAT.out rs[i] (List.getElem_mem _))
          have hst : rs.take (i + 1) = rs.take i ++ [rs[i]] := List.take_succ_eq_append_getElem hlt
          have hri : ∀ p, inR rs[i] p = true ↔ rs[i].1 ≤ p ∧ p < rs[i].1 + rs[i].2 := fun p => inR_iff
          obtain ⟨r, hrr⟩ : ∃ r, rs[i] = r := ⟨_, rfl⟩
          rw [hrr] at q0' q1' t0 t1 t2 t3 hst
          have hrp : ∀ p, r.1 ≤ p → p < r.1 + r.2 → inR rs[i] p = true := fun p h1 h2 => (hri p).2 (by rw [hrr]; exact ⟨h1, h2⟩)
          obtain ⟨s, m⟩ := r
          dsimp only at q0' q1' t0 t1 t2 t3 hrp
          obtain ⟨s, rfl⟩ := Int.eq_ofNat_of_zero_le t0
          obtain ⟨m, rfl⟩ := Int.eq_ofNat_of_zero_le (show 0 ≤ m by omega)
          have q0 := hB.cell q0'
          have q1 := hB.cell q1'
          have f1 : s + m ≤ ids.length := by omega
          have HST := Lib.hid hst
          have HRP := Lib.hid hrp
          have HOW := Lib.hid hown
          have HBI := Lib.hid hB
          have HQ := Lib.hid (And.intro q0' q1')
          have hm1 : 1 ≤ m := by omega
          clear hst hrp hri hrr hown hB q0' q1' t0 t1 t2 t3
          go_wp2_with fail
          clear q0 q1
          go_loopw [13] (fun k wr => ∃ j : Nat, j ≤ m ∧ k = .int .i64 ((s : Int) + j) ∧ wr.ownsRow w.heap.size 3 1 (.slice (some ⟨g, 0, none⟩) ids.length cap) ids.length (ints (fillA ids 0 (rs.take i ++ [((s : Int), (j : Int))]))) ∧ Bel w wr ∧ Hid (EachSet ids (rs.take i ++ [((s : Int), (j : Int))]))) (fun k wr => s + m - (intOf k).toNat)
          case atStart => exact ⟨0, Nat.zero_le _, by simp, by rw [fillA_zero]; exact HOW.out, HBI.out, Lib.hid (each_zero HF.out)⟩
          case round =>
            obtain ⟨j, hj, rfl, hown, hB, HS⟩ := hrel
            have q0 := hB.cell HQ.out.1
            have q1 := hB.cell HQ.out.2
            have HOW := Lib.hid hown
            have HBJ := Lib.hid hB
            have z1 : IntKind.i64.wrap ((s : Int) + m) = (s : Int) + m := IntWalk.i64_in _ (by omega)
            have z2 : (0 : Int) ≤ (s : Int) + j := by omega
            have z3 : (s : Int) + j ≤ ids.length := by omega
            clear hown hB
            by_cases hlt2 : j < m
            · have z4 : (s : Int) + j < ids.length := by omega
              have z5 : ((s : Int) + j).toNat = s + j := by omega
              have z6 : (s : Int) + j < (s : Int) + m := by omega
              have HIN := Lib.hid (HRP.out ((s : Int) + j) (by omega) z6)
              have hOD := own_bel HOW.out (Bel.refl wr).drew
              obtain ⟨g', cap', e9, _, _, hcell, hfz, hset⟩ := own_set hOD (t := s + j) (by omega)
              cases e9
              rw [out_get (by rw [fillA_length]; omega)] at hcell
              have HSET := Lib.hid hset
              have hRD := (HRA.out.bel (HBJ.out.trans (Bel.refl wr).drew)).at (f := fun x => .int .i64 x) (xs := ids) (s + j) (by omega)
              obtain ⟨b0', o0', e8, hcx⟩ := hRD
              cases e8
              have hxw : ids[s + j] = wd ids ((s + j : Nat) : Int) := by unfold wd; rw [Int.toNat_natCast]; simp [List.getD_eq_getElem?_getD, show s + j < ids.length by omega]
              rw [hxw] at hcx
              have ec : ((s + j : Nat) : Int) = (s : Int) + j := by omega
              rw [ec] at hcx hcell
              obtain ⟨y, hy⟩ : ∃ y, wd ids ((s : Int) + j) = y := ⟨_, rfl⟩
              rw [hy] at hcx
              clear hOD hset hxw ec
              by_cases hz : y = 0
              · have HP := Lib.hid (drop_bad (id := 0) HAT.out (fail_drop hlt HIN.out z2 z4 (by rw [hy]; exact hz)))
                subst hz
                go_wp2_with fail
                go_region
                go_wp2
                go_ret2
                rw [HP.out]
                exact ⟨b0, o0, c0, rfl, HRA.out.bel (HBJ.out.trans (Bel.refl wr).drew), .inl rfl, HBJ.out.trans (Bel.refl wr).drew⟩
              · have HS2 : Hid (EachSet ids (rs.take i ++ [((s : Int), ((j + 1 : Nat) : Int))])) := Lib.hid (each_step HS.out (by rw [hy]; exact hz))
                have HFS := Lib.hid (fillA_step (ids := ids) (id := 0) (s := (s : Int)) (i := j) (L := rs.take i) (by omega) z4)
                have y0 : (y == 0) = false := by simp [hz]
                clear hz
                go_wp2_with fail
                go_region
                go_wp2
                have HW2 : Hid ((wr.setCell ⟨g, s + j, none⟩ (.int .i64 0)).drew.ownsRow w.heap.size 3 1 (.slice (some ⟨g, 0, none⟩) ids.length cap) ids.length (ints (fillA ids 0 (rs.take i ++ [((s : Int), ((j + 1 : Nat) : Int))])))) := Lib.hid (by
                  have h9 := HSET.out (.int .i64 0)
                  rw [out_set, show ((s + j : Nat) : Int) = (s : Int) + j by omega, HFS.out] at h9
                  exact h9)
                go_roundw
                case rel => exact ⟨j + 1, by omega, by go_num, HW2.out, Bel.drew (Below.setCell HBJ.out (p := ⟨g, s + j, none⟩) hg _), HS2⟩
                case measure => simp [intOf]; omega
            · obtain rfl : j = m := by omega
              have z6 : ¬ (s : Int) + j < (s : Int) + j := by omega
              have HF2 : Hid (EachSet ids (rs.take (i + 1))) := Lib.hid (by rw [HST.out]; exact HS.out)
              go_wp2_with fail
              go_region
              go_wp2
              go_roundw
              case rel => exact ⟨i + 1, by omega, by go_num, by rw [HST.out]; exact own_bel HOW.out (Bel.refl wr).drew, HBJ.out.trans (Bel.refl wr).drew, HF2⟩
              case measure => simp [intOf]; omega
        · obtain rfl : i = rs.length := by omega
          rw [List.take_length] at hown HF
          have HP := Lib.hid (drop_ok (id := 0) HAT.out HF.out)
          obtain ⟨_, _, e9, hrd, _⟩ := own_slice hown
          cases e9
          go_wp2
          go_ret2
          rw [HP.out]
          exact ⟨g, 0, cap, rfl, hrd, .inr hg, hB⟩
set_option maxHeartbeats 4000000 in
set_option maxRecDepth 20000 in
theorem ref5_Put_set (b0 o0 c0 : Nat) (ids : List Int) (id : Int) (a : Option Addr) (rs : List Rn) (n c : Nat) (w : World) (hsm : ids.length ≤ 1024) (hra : RdV w (some ⟨b0, o0, none⟩) (ints ids)) (hn : n = rs.length) (hl : rs.length ≤ 65536) (hr : RunsIn w a rs) (hi64 : ∀ r ∈ rs, I64 r.1 ∧ I64 r.2) (hid : I64 id) :
    Calls Try.prog 10 #[.slice (some ⟨b0, o0, none⟩) ids.length c0, .int .i64 id, .slice a n c, .bool false] w (RPut w b0 ids.length (putF ids id rs false)) := by
  subst hn
  obtain ⟨id0, id1⟩ := hid
  have hq2 : ∀ W : World, (Instr.buildSlice 26 0 #[]).run Try.prog W = .ok (.slice (some ⟨W.heap.size, 0, none⟩) 0 0) (W.alloc (.cells #[] 3)) := fun W => by kernel_rfl
  obtain ⟨i0, hi0, hz, hs, hby⟩ := info_parts info_int5
  have HRA := Lib.hid hra
  have HR := Lib.hid hr
  have HI := Lib.hid hi64
  have HOW0 : Hid (∀ W : World, w.heap.size ≤ W.heap.size → (W.alloc (.cells #[] 3)).ownsRow w.heap.size 3 1 (.slice (some ⟨W.heap.size, 0, none⟩) 0 0) 0 []) := Lib.hid (fun W h => own_base (World.ownsRow_made (e := 3) (size := 1) W #[] 0 (Nat.le_refl _) (by simp [maxLen]) (by simp)) h)
  clear hra hr hi64
  by_cases c1 : id < 1
  · have HP := Lib.hid (putF_arg (ids := ids) (rs := rs) c1)
    clear hq2
    go_enter Try.func10, Try.ntmps10
    go_wp2
    go_ret2
    rw [HP.out]
    exact ⟨b0, o0, c0, rfl, HRA.out, .inl rfl, Bel.refl _⟩
  have hid1 : 1 ≤ id := by omega
  go_enter Try.func10, Try.ntmps10
  go_wp2_with fail
  go_loopw [23] (fun k wr => ∃ i : Nat, i ≤ rs.length ∧ k = .int .i64 i ∧ Bel w wr ∧ Hid (∀ j (h : j < i) (h' : j < rs.length), there ids.length rs[j] = true)) (fun k wr => rs.length - (intOf k).toNat)
  case atStart => exact ⟨0, Nat.zero_le _, rfl, Bel.refl _, Lib.hid (fun j h => by omega)⟩
  case round =>
    obtain ⟨i, hi, rfl, hB, H0⟩ := hrel
    have hsB := hB.size
    by_cases hlt : i < rs.length
    · obtain ⟨b, o, rfl, q0, q1⟩ := (HR.out.bel hB).at i hlt
      have hri := HI.out rs[i] (List.getElem_mem _)
      have hC := ref5_there (some ⟨b0, o0, none⟩) ids.length c0 rs[i] wr hsm hri.1 hri.2
      have HB := Lib.hid hB
      by_cases hth : there ids.length rs[i] = true
      · have hH1 : Hid (∀ j (h : j < i + 1) (h' : j < rs.length), there ids.length rs[j] = true) := Lib.hid (fun j h h' => by
          rcases Nat.lt_or_ge j i with h9 | h9
          · exact H0.out j h9 h'
          · obtain rfl : j = i := by omega
            exact hth)
        rw [hth] at hC
        have HC := Lib.hid hC
        generalize rs[i] = r at q0 q1 HC
        obtain ⟨s, m⟩ := r
        dsimp only at q0 q1 HC
        clear hC hth hri hB
        go_wp2_with fail
        refine HC.out.mono ?_
        rintro e w2 ⟨rfl, hB2⟩
        go_wp2
        go_roundw
        case rel => exact ⟨i + 1, by omega, by go_num, HB.out.trans hB2, hH1⟩
        case measure => simp [intOf]; omega
      · have HP := Lib.hid (putF_out (ids := ids) (id := id) (rs := rs) (drop := false) (by simp; omega) (fun h => hth (h _ (List.getElem_mem _))))
        rw [show there ids.length rs[i] = false by simpa using hth] at hC
        have HC := Lib.hid hC
        generalize rs[i] = r at q0 q1 HC
        obtain ⟨s, m⟩ := r
        dsimp only at q0 q1 HC
        clear hC hth hri hB
        go_wp2_with fail
        refine HC.out.mono ?_
        rintro e w2 ⟨rfl, hB2⟩
        go_wp2
        go_ret2
        rw [HP.out]
        exact ⟨b0, o0, c0, rfl, HRA.out.bel (HB.out.trans hB2), .inl rfl, HB.out.trans hB2⟩
    · obtain rfl : i = rs.length := by omega
      have HAT : Hid (AllThere ids.length rs) := Lib.hid (fun r hr => by obtain ⟨j, hj, rfl⟩ := List.getElem_of_mem hr; exact H0.out j (by omega) hj)
      have HB := Lib.hid hB
      clear H0 hB hlt hi
      go_wp2_with (at_builtin; refine wpList_append_own _ rfl _ _ 26 rfl w.heap.size 3 i0 (.int .i64 0) 1 8 Try.underlying26 hi0 hz hs hby rfl (by decide) _ 0 [] rfl ?d1 ⟨b0, o0, none⟩ ids.length c0 (ints ids) rfl ?d2 ?d3 (ints_one5 ids) ?d4 ?d5 ?d6 ?_)
      case d1 => exact HOW0.out _ hsB
      case d2 => simp [ints]
      case d3 => exact cells5 (HRA.out.bel (HB.out.alloc _))
      case d4 => unfold maxLen; omega
      case d5 => omega
      case d6 => rw [World.size_alloc]; omega
      intro v' w1 hown hgrow hnil
      have hB1 : Bel w w1 := Below.grown (HB.out.alloc (.cells #[] 3)) hgrow (HB.out.alloc (.cells #[] 3)).size (fun k hk => by simp [Value.ownBlock] at hk; omega)
      try simp only [Nat.zero_add, List.nil_append] at hown
      obtain ⟨g, cap, rfl, hg⟩ : ∃ g cap, v' = .slice (some ⟨g, 0, none⟩) ids.length cap ∧ w.heap.size ≤ g := by
        rcases hown.2 with ⟨h1, _⟩ | ⟨g, cap, cur, h1, h2, _⟩
        · exact (hnil h1).elim
        · exact ⟨g, cap, h1, h2⟩
      have HOWN := Lib.hid hown
      have HB1 := Lib.hid hB1
      clear hown hB1 hgrow hnil HOW0 hq2 hsB
      go_wp2_with fail
      go_loopw [40] (fun k wr => ∃ i : Nat, i ≤ rs.length ∧ k = .int .i64 i ∧ wr.ownsRow w.heap.size 3 1 (.slice (some ⟨g, 0, none⟩) ids.length cap) ids.length (ints (fillA ids id (rs.take i))) ∧ Bel w wr ∧ Hid (NoneSet ids (rs.take i) ∧ (rs.take i).Pairwise Apart)) (fun k wr => rs.length - (intOf k).toNat)
      case atStart => exact ⟨0, Nat.zero_le _, rfl, by rw [List.take_zero, fillA_nil]; exact HOWN.out, HB1.out, Lib.hid (⟨by rw [List.take_zero]; exact none_nil ids, by rw [List.take_zero]; exact List.Pairwise.nil⟩)⟩
      case round =>
        obtain ⟨i, hi, rfl, hown, hB, HF⟩ := hrel
        by_cases hlt : i < rs.length
        · obtain ⟨b, o, rfl, q0', q1'⟩ := HR.out.at i hlt
          obtain ⟨t0, t1, t2, t3⟩ := there_iff.1 (HAT.out rs[i] (List.getElem_mem _))
          have hst : rs.take (i + 1) = rs.take i ++ [rs[i]] := List.take_succ_eq_append_getElem hlt
          have hri : ∀ p, inR rs[i] p = true ↔ rs[i].1 ≤ p ∧ p < rs[i].1 + rs[i].2 := fun p => inR_iff
          obtain ⟨r, hrr⟩ : ∃ r, rs[i] = r := ⟨_, rfl⟩
          rw [hrr] at q0' q1' t0 t1 t2 t3 hst
          have hrp : ∀ p, r.1 ≤ p → p < r.1 + r.2 → inR rs[i] p = true := fun p h1 h2 => (hri p).2 (by rw [hrr]; exact ⟨h1, h2⟩)
          obtain ⟨s, m⟩ := r
          dsimp only at q0' q1' t0 t1 t2 t3 hrp
          obtain ⟨s, rfl⟩ := Int.eq_ofNat_of_zero_le t0
          obtain ⟨m, rfl⟩ := Int.eq_ofNat_of_zero_le (show 0 ≤ m by omega)
          have q0 := hB.cell q0'
          have q1 := hB.cell q1'
          have f1 : s + m ≤ ids.length := by omega
          have HST := Lib.hid hst
          have HRP := Lib.hid hrp
          have HOW := Lib.hid hown
          have HBI := Lib.hid hB
          have HQ := Lib.hid (And.intro q0' q1')
          have hm1 : 1 ≤ m := by omega
          clear hst hrp hri hrr hown hB q0' q1' t0 t1 t2 t3
          go_wp2_with fail
          clear q0 q1
          go_loopw [13] (fun k wr => ∃ j : Nat, j ≤ m ∧ k = .int .i64 ((s : Int) + j) ∧ wr.ownsRow w.heap.size 3 1 (.slice (some ⟨g, 0, none⟩) ids.length cap) ids.length (ints (fillA ids id (rs.take i ++ [((s : Int), (j : Int))]))) ∧ Bel w wr ∧ Hid (SetSo ids (rs.take i) s j)) (fun k wr => s + m - (intOf k).toNat)
          case atStart => exact ⟨0, Nat.zero_le _, by simp, by rw [fillA_zero]; exact HOW.out, HBI.out, Lib.hid (SetSo.start HF.out.1 HF.out.2)⟩
          case round =>
            obtain ⟨j, hj, rfl, hown, hB, HS⟩ := hrel
            have q0 := hB.cell HQ.out.1
            have q1 := hB.cell HQ.out.2
            have HOW := Lib.hid hown
            have HBJ := Lib.hid hB
            have z1 : IntKind.i64.wrap ((s : Int) + m) = (s : Int) + m := IntWalk.i64_in _ (by omega)
            have z2 : (0 : Int) ≤ (s : Int) + j := by omega
            have z3 : (s : Int) + j ≤ ids.length := by omega
            clear hown hB
            by_cases hlt2 : j < m
            · have z4 : (s : Int) + j < ids.length := by omega
              have z5 : ((s : Int) + j).toNat = s + j := by omega
              have z6 : (s : Int) + j < (s : Int) + m := by omega
              have HIN := Lib.hid (HRP.out ((s : Int) + j) (by omega) z6)
              have hOD := own_bel HOW.out (Bel.refl wr).drew
              obtain ⟨g', cap', e9, _, _, hcell, hfz, hset⟩ := own_set hOD (t := s + j) (by omega)
              cases e9
              rw [out_get (by rw [fillA_length]; omega)] at hcell
              have HSET := Lib.hid hset
              have hRD := (HRA.out.bel (HBJ.out.trans (Bel.refl wr).drew)).at (f := fun x => .int .i64 x) (xs := ids) (s + j) (by omega)
              obtain ⟨b0', o0', e8, hcx⟩ := hRD
              cases e8
              have hxw : ids[s + j] = wd ids ((s + j : Nat) : Int) := by unfold wd; rw [Int.toNat_natCast]; simp [List.getD_eq_getElem?_getD, show s + j < ids.length by omega]
              rw [hxw] at hcx
              have ec : ((s + j : Nat) : Int) = (s : Int) + j := by omega
              rw [ec] at hcx hcell
              obtain ⟨y, hy⟩ : ∃ y, wd (fillA ids id (rs.take i ++ [((s : Int), (j : Int))])) ((s : Int) + j) = y := ⟨_, rfl⟩
              rw [hy] at hcell
              clear hOD hset hxw ec
              by_cases hz : ¬ y = 0
              · have HP := Lib.hid (set_bad hid1 HAT.out (fail_set hlt HIN.out z2 z4 (by rw [hy]; exact hz)))
                have y0 : (y == 0) = false := by simp [hz]
                clear hz
                go_wp2_with fail
                go_region
                go_wp2
                go_ret2
                rw [HP.out]
                exact ⟨b0, o0, c0, rfl, HRA.out.bel (HBJ.out.trans (Bel.refl wr).drew), .inl rfl, HBJ.out.trans (Bel.refl wr).drew⟩
              · have HS2 : Hid (SetSo ids (rs.take i) s (j + 1)) := Lib.hid (SetSo.step HS.out hid1 z2 z4 (by rw [hy]; exact Classical.not_not.1 hz))
                have HFS := Lib.hid (fillA_step (ids := ids) (id := id) (s := (s : Int)) (i := j) (L := rs.take i) (by omega) z4)
                have hz2 := Classical.not_not.1 hz
                subst hz2
                clear hz
                go_wp2_with fail
                go_region
                go_wp2
                have HW2 : Hid ((wr.setCell ⟨g, s + j, none⟩ (.int .i64 id)).drew.ownsRow w.heap.size 3 1 (.slice (some ⟨g, 0, none⟩) ids.length cap) ids.length (ints (fillA ids id (rs.take i ++ [((s : Int), ((j + 1 : Nat) : Int))])))) := Lib.hid (by
                  have h9 := HSET.out (.int .i64 id)
                  rw [out_set, show ((s + j : Nat) : Int) = (s : Int) + j by omega, HFS.out] at h9
                  exact h9)
                go_roundw
                case rel => exact ⟨j + 1, by omega, by go_num, HW2.out, Bel.drew (Below.setCell HBJ.out (p := ⟨g, s + j, none⟩) hg _), HS2⟩
                case measure => simp [intOf]; omega
            · obtain rfl : j = m := by omega
              have z6 : ¬ (s : Int) + j < (s : Int) + j := by omega
              have HF2 : Hid (NoneSet ids (rs.take (i + 1)) ∧ (rs.take (i + 1)).Pairwise Apart) := Lib.hid (by rw [HST.out]; exact ⟨HS.out.none, SetSo.done HS.out (fun r hr => by have := there_iff.1 (HAT.out r (List.mem_of_mem_take hr)); omega) (by omega)⟩)
              go_wp2_with fail
              go_region
              go_wp2
              go_roundw
              case rel => exact ⟨i + 1, by omega, by go_num, by rw [HST.out]; exact own_bel HOW.out (Bel.refl wr).drew, HBJ.out.trans (Bel.refl wr).drew, HF2⟩
              case measure => simp [intOf]; omega
        · obtain rfl : i = rs.length := by omega
          rw [List.take_length] at hown HF
          have HP := Lib.hid (set_ok hid1 HAT.out HF.out.1 HF.out.2)
          obtain ⟨_, _, e9, hrd, _⟩ := own_slice hown
          cases e9
          go_wp2
          go_ret2
          rw [HP.out]
          exact ⟨g, 0, cap, rfl, hrd, .inr hg, hB⟩
end Go.Proofs.Ytokefhplodbheaa

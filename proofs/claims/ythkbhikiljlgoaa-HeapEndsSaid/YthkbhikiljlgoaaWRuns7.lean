/- Package runs: Cut, Take, Has. -/
import Derived.Test.YthkbhikiljlgoaaWRuns6
import Derived.Test.YthkbhikiljlgoaaWRepl
namespace Go.Proofs.Ythkbhikiljlgoaa
open Go.RowKit

theorem idxF_or {α : Type} (p : α → Bool) (xs : List α) : (∃ i, ∃ h : i < xs.length, idxF p xs = (i : Int) ∧ p xs[i] = true) ∨ (idxF p xs = -1 ∧ ∀ y ∈ xs, p y = false) := by
  unfold idxF
  cases h : xs.findIdx? p with
  | some i => obtain ⟨hi, hp, _⟩ := List.findIdx?_eq_some_iff_getElem.1 h; exact .inl ⟨i, hi, rfl, hp⟩
  | none => exact .inr ⟨rfl, List.findIdx?_eq_none_iff.1 h⟩
theorem restF_filter (y x : Rn) : ([(y.1, x.1 - y.1), (x.1 + x.2, y.1 + y.2 - x.1 - x.2)] : List Rn).filter (fun z => decide (0 < z.2)) = restF y x := by
  unfold restF
  rw [List.filter_cons, List.filter_cons, List.filter_nil]
  dsimp only
  by_cases ha : 0 < x.1 - y.1 <;> by_cases hb : 0 < y.1 + y.2 - x.1 - x.2 <;> simp only [gt_iff_lt, ha, hb, decide_true, decide_false, if_true, if_false, Bool.false_eq_true, List.nil_append, List.append_nil, List.cons_append]
/-- What Cut answers. -/
def cutR (L : List Rn) (x : Rn) : List Rn × Int := if there 1024 x = true then (if L.any (hasR x) = true then (cutF L x, 0) else (L, 9)) else (L, 2)
theorem cutR_out {L : List Rn} {x : Rn} (h : ¬ there 1024 x = true) : cutR L x = (L, 2) := by unfold cutR; rw [if_neg h]
theorem cutR_ok {L : List Rn} {x : Rn} (h : there 1024 x = true) (h1 : L.any (hasR x) = true) : cutR L x = (cutF L x, 0) := by unfold cutR; rw [if_pos h, if_pos h1]
theorem cutR_bad {L : List Rn} {x : Rn} (h : there 1024 x = true) (h1 : ¬ L.any (hasR x) = true) : cutR L x = (L, 9) := by unfold cutR; rw [if_pos h, if_neg h1]
theorem allThere_one {x : Rn} : AllThere 1024 [x] ↔ there 1024 x = true := by
  constructor
  · intro h; exact h x (by simp)
  · intro h r hr; simp at hr; subst hr; exact h
open Classical in
theorem may_one (x : Rn) (k : Nat) (w : World) (o : Obj) (hk : w.heap.size = k) (h1 : I64 x.1) (h2 : I64 x.2) :
    Calls Try.prog 35 #[.slice (some ⟨k, 0, none⟩) 1 1] (w.alloc (.cells #[.int .i64 x.1, .int .i64 x.2] 33)) fun e w' => e = .returned (.bool (there 1024 x)) ∧ Bel (w.alloc (.cells #[.int .i64 x.1, .int .i64 x.2] 33)) w' := by
  have := runs_may (some ⟨k, 0, none⟩) [x] 1 1 (w.alloc (.cells #[.int .i64 x.1, .int .i64 x.2] 33)) rfl (by simp) (RunsIn.of_row (RdV.newAt w #[.int .i64 x.1, .int .i64 x.2] 33 k hk)) (by intro y hy; simp at hy; subst hy; exact ⟨h1, h2⟩)
  have e : decide (AllThere 1024 [x]) = there 1024 x := by rw [Bool.eq_iff_iff, decide_eq_true_eq]; exact allThere_one
  rw [e] at this
  exact this

set_option maxHeartbeats 1000000 in
set_option maxRecDepth 20000 in
theorem runs_Cut (b : Nat) (v : Value) (L : List Rn) (x : Rn) (w : World) (h : FreeAt w b v L) (h1 : I64 x.1) (h2 : I64 x.2) :
    Calls Try.prog 39 #[.pointer (some ⟨b, 0, none⟩), .agg #[.int .i64 x.1, .int .i64 x.2]] w fun e w' => e = .returned (.int .i64 (cutR L x).2) ∧ RPost w b v (cutR L x).1 w' := by
  have g0 := blk_alloc w (.cells #[.int .i64 x.1, .int .i64 x.2] 33)
  have HM := Lib.hid (may_one x (w.heap.size + 1) (w.alloc (.cells #[.int .i64 x.1, .int .i64 x.2] 33)) (.cells #[] 0) (by simp) h1 h2)
  have HB0 : Hid (Bel w ((w.alloc (.cells #[.int .i64 x.1, .int .i64 x.2] 33)).alloc (.cells #[.int .i64 x.1, .int .i64 x.2] 33))) := Lib.hid (((Bel.refl w).alloc _).alloc _)
  have HG0 := Lib.hid g0
  have HF := Lib.hid h
  have hLl : L.length ≤ 1024 := h.canon.len (q := 1024)
  have hbw := heap_lt h.hd
  clear h g0
  by_cases c1 : there 1024 x = true
  · rw [c1] at HM
    obtain ⟨t0, t1, t2, t3⟩ := there_iff.1 c1
    go_enter Try.func39, Try.ntmps39
    go_wp2_with fail
    refine HM.out.mono ?_
    rintro e w1 ⟨rfl, hB1⟩
    have HB1 := Lib.hid (HB0.out.trans hB1)
    have gx : w1.heap[w.heap.size]? = some (.cells #[.int .i64 x.1, .int .i64 x.2] 33 (0, 0)) := (Fr.of_bel (S := fun _ => False) ((Bel.alloc (Bel.refl _) (.cells #[.int .i64 x.1, .int .i64 x.2] 33)).trans hB1)).heap HG0.out (fun h => h)
    have HGX := Lib.hid gx
    obtain ⟨q0, q1, _, _⟩ := two_cells gx
    have HFD := Lib.hid (runs_find (.pointer (some ⟨b, 0, none⟩)) L x w1 (.inr ⟨b, v, rfl, HF.out.bel HB1.out⟩) c1)
    clear hB1 gx
    go_wp2_with fail
    refine HFD.out.mono ?_
    rintro e w2 ⟨rfl, hB2⟩
    have HB2 := Lib.hid (HB1.out.trans hB2)
    have q0 := hB2.cell q0
    have q1 := hB2.cell q1
    rcases idxF_or (hasR x) L with ⟨i, hi, hix, hhas⟩ | ⟨hix, hno⟩
    · rw [hix]
      have hany : L.any (hasR x) = true := List.any_eq_true.2 ⟨_, List.getElem_mem hi, hhas⟩
      have HP := Lib.hid (cutR_ok c1 hany)
      have HF2 := Lib.hid (HF.out.bel HB2.out)
      obtain ⟨aL, cL, rfl, hrL⟩ := HF2.out.runs
      have hc2 : w2.cell? ⟨b, 0, none⟩ = some (.slice aL L.length cL) := by rw [blk_cell HF2.out.hd]; rfl
      obtain ⟨gL, oL, rfl, p0, p1⟩ := hrL.at i hi
      have hk := HF.out.canon.ok _ (List.getElem_mem hi)
      have h3 := hasR_iff.1 hhas
      have HREP : Hid (replF L i (restF L[i] x) = cutF L x) := Lib.hid (by
        have hs : L = L.take i ++ L[i] :: L.drop (i + 1) := by rw [← List.drop_eq_getElem_cons hi, List.take_append_drop]
        have := cut_at (A := L.take i) (B := L.drop (i + 1)) (y := L[i]) (x := x) (by rw [← hs]; exact HF.out.canon) hhas t1
        unfold replF
        rw [this, ← hs])
      obtain ⟨y, hy⟩ : ∃ y, L[i] = y := ⟨_, rfl⟩
      rw [hy] at p0 p1 hk h3 HREP
      obtain ⟨y1, y2⟩ := y
      obtain ⟨x1, x2⟩ := x
      dsimp only at p0 p1 hk h3 t0 t1 t2 t3 q0 q1 h1 h2 HREP
      have hwl : w.heap.size < w2.heap.size := World.block_lt_of_cell? w2 _ q0
      have hbl2 : b < w2.heap.size := by omega
      have s1 : IntKind.i64.wrap (x1 - y1) = x1 - y1 := IntWalk.i64_in _ (by omega)
      have s2 : IntKind.i64.wrap (x1 + x2) = x1 + x2 := IntWalk.i64_in _ (by omega)
      have s3 : IntKind.i64.wrap (y1 + y2) = y1 + y2 := IntWalk.i64_in _ (by omega)
      have s4 : IntKind.i64.wrap (y1 + y2 - x1) = y1 + y2 - x1 := IntWalk.i64_in _ (by omega)
      have s5 : IntKind.i64.wrap (y1 + y2 - x1 - x2) = y1 + y2 - x1 - x2 := IntWalk.i64_in _ (by omega)
      have HRC : Hid (RunsIn ((w2.alloc (.cells #[.int .i64 y1, .int .i64 y2] 33)).alloc (.cells #[.int .i64 y1, .int .i64 (x1 - y1), .int .i64 (x1 + x2), .int .i64 (y1 + y2 - x1 - x2)] 33)) (some ⟨w2.heap.size + 1, 0, none⟩) [(y1, x1 - y1), (x1 + x2, y1 + y2 - x1 - x2)]) :=
        Lib.hid (RunsIn.of_row (RdV.newAt (w2.alloc (.cells #[.int .i64 y1, .int .i64 y2] 33)) #[.int .i64 y1, .int .i64 (x1 - y1), .int .i64 (x1 + x2), .int .i64 (y1 + y2 - x1 - x2)] 33 (w2.heap.size + 1) (by simp)))
      have HB8 : Hid (Bel w2 ((w2.alloc (.cells #[.int .i64 y1, .int .i64 y2] 33)).alloc (.cells #[.int .i64 y1, .int .i64 (x1 - y1), .int .i64 (x1 + x2), .int .i64 (y1 + y2 - x1 - x2)] 33))) := Lib.hid (((Bel.refl _).alloc _).alloc _)
      obtain ⟨W8, hW8⟩ : ∃ W8, (w2.alloc (.cells #[.int .i64 y1, .int .i64 y2] 33)).alloc (.cells #[.int .i64 y1, .int .i64 (x1 - y1), .int .i64 (x1 + x2), .int .i64 (y1 + y2 - x1 - x2)] 33) = W8 := ⟨_, rfl⟩
      rw [hW8] at HRC HB8
      have HW8 := Lib.hid hW8
      clear hB2 hrL hy hix hhas hany HM HB0 HG0 HFD hW8
      go_wp2_with fail
      rw [HW8.out]
      go_loopw [7, 53] (fun v7 kv wr => ∃ k : Nat, k ≤ 2 ∧ kv = .int .i64 k ∧ Hid (wr.ownsRow W8.heap.size 33 2 v7 (([(y1, x1 - y1), (x1 + x2, y1 + y2 - x1 - x2)].take k).filter (fun z => decide (0 < z.2))).length (cellsOf (([(y1, x1 - y1), (x1 + x2, y1 + y2 - x1 - x2)].take k).filter (fun z => decide (0 < z.2)))) ∧ ((([(y1, x1 - y1), (x1 + x2, y1 + y2 - x1 - x2)] : List Rn).take k).filter (fun z => decide (0 < z.2)) = [] → v7 = .slice none 0 0) ∧ Bel W8 wr)) (fun _ kv _ => 2 - (intOf kv).toNat)
      case atStart => exact ⟨0, by omega, rfl, Lib.hid ⟨World.ownsRow_nil _ _ _ _, fun _ => rfl, Bel.refl _⟩⟩
      case round =>
        obtain ⟨k, hk2, rfl, HH⟩ := hrel
        obtain ⟨Z, hZ⟩ : ∃ Z : List Rn, [(y1, x1 - y1), (x1 + x2, y1 + y2 - x1 - x2)] = Z := ⟨_, rfl⟩
        have hZl : Z.length = 2 := by rw [← hZ]; rfl
        rw [hZ] at HH HRC ⊢
        by_cases hlt : k < 2
        · obtain ⟨gz, oz, ez, z0, z1⟩ := (HRC.out.bel HH.out.2.2).at k (by omega)
          simp only [Option.some.injEq, Addr.mk.injEq, and_true] at ez
          obtain ⟨rfl, rfl⟩ := ez
          have hst : Z.take (k + 1) = Z.take k ++ [Z[k]'(by omega)] := List.take_succ_eq_append_getElem (by omega)
          obtain ⟨z, hz⟩ : ∃ z, Z[k]'(by omega) = z := ⟨_, rfl⟩
          rw [hz] at z0 z1 hst
          obtain ⟨z1', z2'⟩ := z
          dsimp only at z0 z1
          simp only [Nat.zero_add] at z0 z1
          obtain ⟨F, hF⟩ : ∃ F, (Z.take k).filter (fun z => decide (0 < z.2)) = F := ⟨_, rfl⟩
          have hFl : F.length ≤ 2 := by rw [← hF]; exact Nat.le_trans (List.length_filter_le _ _) (by simp; omega)
          have hF1 : (Z.take (k + 1)).filter (fun z => decide (0 < z.2)) = F ++ (if 0 < z2' then [(z1', z2')] else []) := by
            rw [hst, List.filter_append, hF]
            congr 1
            by_cases h9 : 0 < z2' <;> simp [h9]
          rw [hF] at HH
          have hso := HH.out.2.2.size
          have hs8 := HB8.out.size
          obtain ⟨av, cv, rfl, _⟩ := own_slice HH.out.1
          have s9 : (k : Int) < 2 := by omega
          clear hst hz hF hZ hZl
          by_cases hz0 : 0 < z2'
          · rw [if_pos hz0] at hF1
            have HF1 := Lib.hid hF1
            clear hF1
            go_wp2_with (at_builtin; refine wpList_append_runs rfl _ _ rfl W8.heap.size _ F rfl ((HH.out.1.alloc _).alloc _) _ _ [(z1', z2')] rfl ?d1 ?d2 ?d3 ?d4 ?_)
            case d1 => exact RunsIn.of_row (RdV.newAt _ #[.int .i64 z1', .int .i64 z2'] 33 _ (by simp))
            case d2 => rintro ⟨⟩
            case d3 => simp; omega
            case d4 => simp; omega
            intro v' w4 hown4 hgrow
            have hbx := (HH.out.1.alloc (.cells #[.int .i64 z1', .int .i64 z2'] 33)).alloc (.cells #[.int .i64 z1', .int .i64 z2'] 33)
            have hB4 : Bel W8 w4 := by
              refine Below.grown ((HH.out.2.2.alloc _).alloc _) hgrow (by simp; omega) (fun g hg => ?_)
              rcases hbx.2 with ⟨h1, _⟩ | ⟨g', cap, cur, h1, h2, h3, _⟩
              · rw [h1] at hg; simp [Value.ownBlock] at hg
              · rw [h1] at hg; simp [Value.ownBlock] at hg; omega
            have HN : Hid (w4.ownsRow W8.heap.size 33 2 v' ((Z.take (k + 1)).filter (fun z => decide (0 < z.2))).length (cellsOf ((Z.take (k + 1)).filter (fun z => decide (0 < z.2)))) ∧ ((Z.take (k + 1)).filter (fun z => decide (0 < z.2)) = [] → v' = .slice none 0 0) ∧ Bel W8 w4) := Lib.hid (by
              rw [HF1.out]
              exact ⟨by simpa using hown4, fun h => by simp at h, hB4⟩)
            clear hown4 hgrow hB4 hbx
            go_wp2
            go_roundw
            case rel => exact ⟨k + 1, by omega, by go_num, HN⟩
            case measure => simp [intOf]; omega
          · rw [if_neg hz0, List.append_nil] at hF1
            have HN : Hid ((wr.alloc (.cells #[.int .i64 z1', .int .i64 z2'] 33)).ownsRow W8.heap.size 33 2 (.slice av F.length cv) ((Z.take (k + 1)).filter (fun z => decide (0 < z.2))).length (cellsOf ((Z.take (k + 1)).filter (fun z => decide (0 < z.2)))) ∧ ((Z.take (k + 1)).filter (fun z => decide (0 < z.2)) = [] → (Value.slice av F.length cv) = .slice none 0 0) ∧ Bel W8 (wr.alloc (.cells #[.int .i64 z1', .int .i64 z2'] 33))) := Lib.hid (by
              rw [hF1]
              exact ⟨HH.out.1.alloc _, HH.out.2.1, HH.out.2.2.alloc _⟩)
            clear hF1
            go_wp2
            go_roundw
            case rel => exact ⟨k + 1, by omega, by go_num, HN⟩
            case measure => simp [intOf]; omega
        · obtain rfl : k = 2 := by omega
          have hR : (Z.take 2).filter (fun z => decide (0 < z.2)) = restF (y1, y2) (x1, x2) := by
            rw [List.take_of_length_le (by omega), ← hZ]
            exact restF_filter (y1, y2) (x1, x2)
          rw [hR] at HH
          have hRl : (restF (y1, y2) (x1, x2)).length ≤ 2 := by rw [← hR]; exact Nat.le_trans (List.length_filter_le _ _) (by simp; omega)
          obtain ⟨R, hRR⟩ : ∃ R, restF (y1, y2) (x1, x2) = R := ⟨_, rfl⟩
          rw [hRR] at HH HREP hRl
          obtain ⟨av, cv, rfl, _⟩ := own_slice HH.out.1
          have hBw := HB2.out.trans (HB8.out.trans HH.out.2.2)
          have hFw := HF.out.bel hBw
          have hcw : wr.cell? ⟨b, 0, none⟩ = some (.slice (some ⟨gL, oL, none⟩) L.length cL) := by rw [blk_cell hFw.hd]; rfl
          have hblw := heap_lt hFw.hd
          have s6 : IntKind.i64.wrap ((i : Int) + 1) = (i : Int) + 1 := IntWalk.i64_in _ (by omega)
          have HRP := Lib.hid (replace_runs (.slice (some ⟨gL, oL, none⟩) L.length cL) L i (.slice av R.length cv) R wr hi hLl hFw.own (own_base HH.out.1 (Nat.zero_le _)) hRl (fun k hk => by
            have hlt := HF.out.lt (.inr hk)
            intro h9
            rcases HH.out.1.2 with ⟨h1, _⟩ | ⟨g', cap', cur, h1, h2, _⟩
            · rw [h1] at h9; simp [Value.ownBlock] at h9
            · have := HB2.out.size; have := HB8.out.size; rw [h1] at h9; simp [Value.ownBlock] at h9; omega) HH.out.2.1)
          have HFW := Lib.hid hFw
          have HBW := Lib.hid hBw
          clear hR hRR hZ hZl hBw hFw
          go_wp2_with fail
          refine HRP.out.mono ?_
          rintro e w5 ⟨v', rfl, hown5, hv5, hF5⟩
          obtain ⟨a5, c5, rfl, _⟩ := own_slice hown5
          have hbne : ¬ (Value.slice (some ⟨gL, oL, none⟩) L.length cL).ownBlock = some b := HF.out.ne
          have hg5 := hF5.heap HFW.out.hd hbne
          have hc5 : w5.cell? ⟨b, 0, none⟩ = some (.slice (some ⟨gL, oL, none⟩) L.length cL) := by rw [blk_cell hg5]; rfl
          have hf5 := blk_frozen hg5 0
          have hsw := HBW.out.size
          have HEND : Hid (RPost w b (.slice (some ⟨gL, oL, none⟩) L.length cL) (cutF L (x1, x2)) (w5.setCell ⟨b, 0, none⟩ (.slice a5 (replF L i R).length c5))) := Lib.hid ⟨.slice a5 (replF L i R).length c5, ⟨by
              have := blk_setCell hg5 0 (.slice a5 (replF L i R).length c5)
              simpa using this, by
              rw [← HREP.out]
              exact own_fr hown5 (Fr.setCell (S := fun k => k = b) (Fr.refl _ _) (.inl rfl) _) (fun k _ hk he => by
                subst he
                rcases hv5 _ hk with h | h
                · exact hbne h
                · omega), by rw [← HREP.out]; rw [HREP.out]; exact cutF_canon _ _⟩, fun k hk => by
              rcases hv5 k hk with h | h
              · exact .inl h
              · exact .inr (by omega), ((Fr.of_bel HBW.out).trans (S' := fun k => (Value.slice (some ⟨gL, oL, none⟩) L.length cL).ownBlock = some k) hF5 (fun k hk => .inl (.inr hk))).setCell (.inl (.inl rfl)) _⟩
          clear hown5 hv5 hF5 hg5 hbne
          go_wp2
          go_ret
          exact ⟨by rw [HP.out]; rfl, by rw [HP.out]; exact HEND.out⟩
    · rw [hix]
      have hany : ¬ L.any (hasR x) = true := by
        intro h; obtain ⟨y, hy, h9⟩ := List.any_eq_true.1 h; rw [hno y hy] at h9; cases h9
      have HP := Lib.hid (cutR_bad c1 hany)
      clear hno hany hix hB2 q0 q1 HGX HFD HM HB0 HG0
      go_wp2
      go_ret
      exact ⟨by rw [HP.out]; rfl, by rw [HP.out]; exact RPost.same HF.out HB2.out⟩
  · have HP := Lib.hid (cutR_out (L := L) c1)
    rw [Bool.not_eq_true] at c1
    rw [c1] at HM
    go_enter Try.func39, Try.ntmps39
    go_wp2_with fail
    refine HM.out.mono ?_
    rintro e w1 ⟨rfl, hB1⟩
    have HB1 := Lib.hid (HB0.out.trans hB1)
    clear hB1
    go_wp2
    go_ret
    exact ⟨by rw [HP.out]; rfl, by rw [HP.out]; exact RPost.same HF.out HB1.out⟩
end Go.Proofs.Ythkbhikiljlgoaa

/- Package large: Give. Package large: Give. Package large: spans, Give. Package large: give. Package large: Hold, Flush, give. Package large: New, Kept, Waits, free, Hold, Flush. -/
import Derived.Test.YtbldidlbhahciaaGreatGLargeHolds11
import Derived.Test.YtbldidlbhahciaaGreatGLargeHolds12
import Derived.Test.YtbldidlbhahciaaGreatGLargeHolds10
import Derived.Deep.RegionHeld3
import Derived.Deep.DeepCutAuto
set_option linter.unusedVariables false
set_option linter.unusedSimpArgs false
namespace Go.Proofs.YtbldidlbhahciaaGreat
open Go.RowKit

theorem large_New0 (w : World) : Calls Tryz.prog 10 #[.pointer none] w fun e w' => e = .returned (.pointer none) ∧ w = w' := by
  go_enter Tryz.func10, Tryz.ntmps10
  go_wp2
  go_ret
  exact ⟨rfl, rfl⟩
theorem large_New {w0 w : World} {N : Nat → Prop} {hb bi : Nat} {h : Hp} (H : LiveG w0 N w hb bi h) :
    Calls Tryz.prog 10 #[.pointer (some ⟨hb, 0, none⟩)] w fun e w' => ∃ k, e = .returned (.pointer (some ⟨k, 0, none⟩)) ∧ LiveK w0 N w' k hb bi (ksNew h) ∧ Bel w w' := by
  have HM := Lib.hid (KAt.made H H.keep)
  go_enter Tryz.func10, Tryz.ntmps10
  go_wp2
  go_ret
  exact ⟨_, rfl, ⟨_, _, HM.out⟩, (Bel.refl _).alloc _⟩
set_option maxHeartbeats 1000000 in
set_option maxRecDepth 20000 in
theorem large_Kept {w0 w : World} {N : Nat → Prop} {k hb bi : Nat} {st : KS} (H : LiveK w0 N w k hb bi st) (n : Int) (hl : st.kept.length ≤ 65536) :
    Calls Tryz.prog 13 #[.pointer (some ⟨k, 0, none⟩), .int .i64 n] w (NewInts w (keptIds st.kept n)) := by
  obtain ⟨kv, wv, H⟩ := H
  obtain ⟨a, c, rfl, hin, _⟩ := H.kept.in
  obtain ⟨q0, q1, q2, q3⟩ := four_cells H.hd
  have HQ := Lib.hid q1
  have hk := heap_lt H.hd
  have HS : Hid (∀ V, Bel w V → Calls Tryz.prog 40 #[.int .i64 n] V fun e V' => ∃ g, e = .returned (.func (.func 65) #[] #[.pointer (some ⟨g, 0, none⟩)]) ∧ V'.cell? ⟨g, 0, none⟩ = some (.int .i64 n) ∧ Bel w V' ∧ V'.cell? ⟨k, 1, none⟩ = some (.slice a st.kept.length c)) := Lib.hid (fun V hV => (large_same n V).mono fun e V' ⟨h1, h2⟩ => by
    subst h2
    exact ⟨_, h1, by rw [blk_cell (blk_alloc _ _)]; rfl, hV.alloc _, (hV.alloc _).cell HQ.out⟩)
  have HI : Hid (∀ V g, Bel w V → V.cell? ⟨g, 0, none⟩ = some (.int .i64 n) → Calls Tryz.prog 39 #[.slice a st.kept.length c, .func (.func 65) #[] #[.pointer (some ⟨g, 0, none⟩)]] V fun e V' => ∃ b d, e = .returned (.slice b (keptIds st.kept n).length d) ∧ V'.ownsRow w.heap.size 3 1 (.slice b (keptIds st.kept n).length d) (keptIds st.kept n).length (ints (keptIds st.kept n)) ∧ Bel w V' ∧ V'.cell? ⟨k, 1, none⟩ = some (.slice a st.kept.length c)) := Lib.hid (fun V g hV hg =>
    (large_ids _ same_enters _ (ofLen n) a st.kept _ c V rfl hl (hin.bel hV) (same_asks hg)).mono fun e V' ⟨v, h1, h2, h3⟩ => by
      obtain ⟨b, d, rfl, _⟩ := own_slice h2
      exact ⟨b, d, h1, own_base h2 hV.size, hV.trans h3, (hV.trans h3).cell HQ.out⟩)
  clear H hin q0 q2 q3
  go_enter Tryz.func13, Tryz.ntmps13
  go_wp2_with fail
  go_region_held3 (fun w' => w'.cell? ⟨k, 1, none⟩ = some (.slice a st.kept.length c))
    (first | exact HQ.out | exact hc1 | exact hc2 | go_keep)
    (first
    | (go_at_call 40; (with_reducible refine (HS.out _ ?b1).mono ?_); (case b1 => repeat (first | exact Bel.refl _ | apply Bel.drew | apply Bel.alloc)); rintro e w1 ⟨g, rfl, hg1, hB1, hc1⟩)
    | (go_at_call 39; (with_reducible refine (HI.out _ _ ?b2 ?b3).mono ?_); (case b2 => with_reducible assumption); (case b3 => with_reducible assumption); rintro e w2 ⟨b, d, rfl, ho2, hB2, hc2⟩))
  all_goals
    have HO := Lib.hid (And.intro ho2 hB2)
    clear ho2 hB2 hg1 hB1
    go_wp2
    go_ret
    exact ⟨_, rfl, HO.out.1, HO.out.2⟩
theorem filter_all {α : Type} : ∀ l : List α, (l.filter fun _ => true) = l
  | [] => rfl
  | x :: l => by rw [List.filter_cons_of_pos rfl, filter_all l]
set_option maxHeartbeats 1000000 in
set_option maxRecDepth 20000 in
theorem large_Waits {w0 w : World} {N : Nat → Prop} {k hb bi : Nat} {st : KS} (H : LiveK w0 N w k hb bi st) (hl : st.waits.length ≤ 65536) :
    Calls Tryz.prog 18 #[.pointer (some ⟨k, 0, none⟩)] w (NewInts w (idsOf st.waits)) := by
  obtain ⟨kv, wv, H⟩ := H
  obtain ⟨a, c, rfl, hin, _⟩ := H.waits.in
  obtain ⟨q0, q1, q2, q3⟩ := four_cells H.hd
  have HI := Lib.hid (large_ids _ waits_enters _ (fun _ => true) a st.waits _ c w rfl hl hin waits_asks)
  rw [filter_all] at HI
  have hL : st.waits.map (·.1) = idsOf st.waits := rfl
  rw [hL] at HI
  generalize idsOf st.waits = L at HI ⊢
  clear H hin q0 q1 q3 hL
  go_enter Tryz.func18, Tryz.ntmps18
  go_wp2_with fail
  refine HI.out.mono ?_
  rintro e w2 ⟨v, rfl, ho, hB⟩
  have HO := Lib.hid (And.intro ho hB)
  obtain ⟨b, d, rfl, _⟩ := own_slice ho
  clear ho hB
  go_wp2
  go_ret
  exact ⟨_, rfl, HO.out.1, HO.out.2⟩

/-! ### free -/
theorem rdv_one {w : World} {g T : Nat} {x : Int} {fz : Nat × Nat} (h : w.heap[g]? = some (.cells #[.int .i64 x] T fz)) : RdV w (some ⟨g, 0, none⟩) (ints [x]) := by
  refine .inr ⟨g, 0, rfl, fun i hi => ?_⟩
  obtain rfl : i = 0 := by simpa [ints] using hi
  rw [Nat.zero_add, blk_cell h]; rfl
/-- Spans so far have gone. -/
def FreesWay (w0 : World) (M : Nat → Prop) (w : World) (hb bi : Nat) (h : Hp) (l : List Sp) (wr : World) : Prop :=
  LiveG w0 M wr hb bi (freesH h l) ∧ Fr (fun i => ¬ M i) w wr
theorem freesH_snoc (h : Hp) (l : List Sp) (s : Sp) : freesH h (l ++ [s]) = ((freesH h l).drop [s.1]).1 := by simp [freesH, List.foldl_append]
theorem freesH_last (h : Hp) (l : List Sp) : (freesH h l).last = h.last := by
  unfold freesH
  induction l generalizing h with
  | nil => rfl
  | cons s l ih => rw [List.foldl_cons, ih, Hp.drop_last]
set_option maxHeartbeats 1000000 in
set_option maxRecDepth 20000 in
theorem large_free {w0 w : World} {M : Nat → Prop} {k hb bi : Nat} {h : Hp} {x y z : Value} (hd : w.heap[k]? = some (.cells #[.pointer (some ⟨hb, 0, none⟩), x, y, z] 76 (0, 0))) (H : LiveG w0 M w hb bi h) (hM : M k) (a : Option Addr) (l : List Sp) (c : Nat) (hl : l.length ≤ 65536) (hin : SpansIn w a l) (hN : ∀ p, a = some p → M p.block) (hS : ∀ s ∈ l, s ∈ h.S) (hsm : h.last ≤ 65536) :
    Calls Tryz.prog 54 #[.pointer (some ⟨k, 0, none⟩), .slice a l.length c] w fun e w' => e = .returned (.int .i64 l.length) ∧ LivePostG w0 M w hb bi (freesH h l) w' := by
  have HIN := Lib.hid hin
  have HN := Lib.hid hN
  have HS := Lib.hid hS
  have HD := Lib.hid hd
  have HOK := Lib.hid H.ok
  have HM := Lib.hid hM
  have HST : Hid (FreesWay w0 M w hb bi h [] w) := Lib.hid ⟨H, Fr.refl _ _⟩
  clear H hin hN hS hd hM
  go_enter Tryz.func54, Tryz.ntmps54
  go_wp2_with fail
  go_loopw [9] (fun kk wr => ∃ i : Nat, i ≤ l.length ∧ kk = .int .i64 i ∧ Hid (FreesWay w0 M w hb bi h (l.take i) wr)) (fun kk wr => l.length - (intOf kk).toNat)
  case atStart => exact ⟨0, Nat.zero_le _, rfl, by simpa using HST⟩
  case round =>
    clear HST
    obtain ⟨i, hi, rfl, HX⟩ := hrel
    by_cases hlt : i < l.length
    · have hinr : SpansIn wr a l := HIN.out.watched HX.out.2 (fun p hp => HN.out p hp)
      obtain ⟨b, o, rfl, p0, p1, p2, p3⟩ := hinr.at i hlt
      have hhd := HX.out.2.heap HD.out (fun h => h HM.out)
      have htk : l.take (i + 1) = l.take i ++ [l[i]] := List.take_succ_eq_append_getElem hlt
      have hsp := HOK.out.span (HS.out l[i] (List.getElem_mem hlt))
      obtain ⟨x, hx⟩ : ∃ x, l[i] = x := ⟨_, rfl⟩
      rw [hx] at p0 p1 p2 p3 htk hsp
      obtain ⟨x1, ⟨x2, x3⟩, x4⟩ := x
      dsimp only at p0 p1 p2 p3 hsp
      have hxw : (Lit.int .i64 x1).wf = true := wf_i64 (by omega) (by omega)
      have gb := blk_alloc wr (.cells #[.int .i64 x1, .int .i64 x2, .int .i64 x3, .int .i64 x4] 33)
      have hb1 := (Bel.refl wr).alloc (.cells #[.int .i64 x1, .int .i64 x2, .int .i64 x3, .int .i64 x4] 33)
      have hhd1 := hb1.blk hhd
      have HB1 := Lib.hid hb1
      have HTK := Lib.hid htk
      clear hx htk hsp hb1 hinr
      obtain ⟨r0, r1, r2, r3⟩ := four_cells gb
      obtain ⟨q0, q1, q2, q3⟩ := four_cells hhd1
      have HK : Hid (∀ V, Bel (wr.alloc (.cells #[.int .i64 x1, .int .i64 x2, .int .i64 x3, .int .i64 x4] 33)) V → V.cell? ⟨k, 0, none⟩ = some (.pointer (some ⟨hb, 0, none⟩)) ∧ V.cell? ⟨wr.heap.size, 0, none⟩ = some (.int .i64 x1)) := Lib.hid (fun V hV => ⟨hV.cell q0, hV.cell r0⟩)
      have HF : Hid (∀ V g, Bel (wr.alloc (.cells #[.int .i64 x1, .int .i64 x2, .int .i64 x3, .int .i64 x4] 33)) V → RdV V (some ⟨g, 0, none⟩) (ints [x1]) → Calls Tryz.prog 64 #[.pointer (some ⟨hb, 0, none⟩), .slice (some ⟨g, 0, none⟩) 1 1] V fun e V' => ∃ en, e = .returned (.int .i64 en) ∧ LivePostG w0 (fun i => M i ∨ i = wr.heap.size) (wr.alloc (.cells #[.int .i64 x1, .int .i64 x2, .int .i64 x3, .int .i64 x4] 33)) hb bi ((freesH h (l.take i)).drop [x1]).1 V' ∧ V'.cell? ⟨k, 0, none⟩ = some (.pointer (some ⟨hb, 0, none⟩)) ∧ V'.cell? ⟨wr.heap.size, 0, none⟩ = some (.int .i64 x1)) := Lib.hid (fun V g hV hr =>
        (((HX.out.1.watch HB1.out (fun i => i = wr.heap.size) (fun i hi => by subst hi; simp)).Free [x1] (by simp) (by intro y hy; simp at hy; subst hy; exact hxw) V (some ⟨g, 0, none⟩) 1 hV hr)).mono fun e V' ⟨h1, h2⟩ => ⟨_, h1, h2, h2.2.cell q0 (fun h => h (.inl HM.out)), h2.2.cell r0 (fun h => h (.inr rfl))⟩)
      clear gb hhd hhd1 q1 q2 q3 r1 r2 r3
      go_wp2_with fail
      go_region_held3 (fun w' => w'.cell? ⟨k, 0, none⟩ = some (.pointer (some ⟨hb, 0, none⟩)) ∧ w'.cell? ⟨wr.heap.size, 0, none⟩ = some (.int .i64 x1))
        (first | exact hS7 | go_keep)
        (first
        | (go_at_call 64; (with_reducible refine (HF.out _ _ ?b1 ?b2).mono ?_); (case b1 => repeat (first | exact Bel.refl _ | apply Bel.drew | apply Bel.alloc)); (case b2 => exact rdv_one (blk_allocAt _ _ _ (by simp))); rintro e w7 ⟨en, rfl, hL7, hS7⟩))
      all_goals
        have HN7 : Hid (FreesWay w0 M w hb bi h (l.take (i + 1)) w7) := Lib.hid (by
          refine ⟨?_, (HX.out.2.then_bel HB1.out).trans' (hL7.2.mono (fun j hj hk => hj (.inl hk)))⟩
          rw [HTK.out, freesH_snoc]
          exact hL7.1.forget (fun j hj => .inl hj))
        clear hL7 hS7
        go_wp2
        go_roundw
        case rel => exact ⟨i + 1, by omega, by go_num, HN7⟩
        case measure => simp [intOf]; omega
    · obtain rfl : i = l.length := by omega
      rw [List.take_length] at HX
      go_wp2
      go_ret
      exact ⟨rfl, HX.out.1, HX.out.2⟩
end Go.Proofs.YtbldidlbhahciaaGreat

namespace Go.Proofs.YtbldidlbhahciaaGreat
open Go.RowKit

theorem own_nil : (Value.slice none 0 0).ownBlock = none := rfl
theorem rowSp_nil (base : Nat) (w : World) : RowSp base w (.slice none 0 0) [] := World.ownsRow_nil _ _ _ _
theorem RowSp.cell {base : Nat} {w : World} {v : Value} {L : List Sp} {k i : Nat} (x : Value) (h : RowSp base w v L) (hv : v.ownBlock ≠ some k) : RowSp base (w.setCell ⟨k, i, none⟩ x) v L :=
  h.fr (Fr.setCell (S := fun j => j = k) (p := ⟨k, i, none⟩) (Fr.refl _ _) (.inl rfl) x) (fun b hb e => hv (by rw [hb, e]))
set_option maxHeartbeats 1000000 in
set_option maxRecDepth 20000 in
theorem large_Flush {w0 w : World} {N : Nat → Prop} {k hb bi : Nat} {st : KS} (H : LiveK w0 N w k hb bi st) (hsm : st.h.last ≤ 65536) :
    Calls Tryz.prog 25 #[.pointer (some ⟨k, 0, none⟩)] w fun e w' => e = .returned (.int .i64 st.kept.length) ∧ LivePostK w0 N w k hb bi st.flush w' := by
  obtain ⟨kv, wv, H⟩ := H
  obtain ⟨a, c, rfl, hin, hab, hown⟩ := H.kept.in
  obtain ⟨q0, q1, q2, q3⟩ := four_cells H.hd
  have hcnt := H.inv.count
  have HF := Lib.hid (large_free H.hd H.heap (.inr (.inl rfl)) a st.kept c (by omega) hin (fun p hp => .inr (.inr (.inl (hown p hp)))) (fun s hs => (H.inv.mem s (by simp [hs])).1) hsm)
  have HH := Lib.hid H
  obtain ⟨ne1, ne2⟩ := H.ne
  clear H hin hcnt hab hown
  go_enter Tryz.func25, Tryz.ntmps25
  go_wp2_with fail
  refine HF.out.mono ?_
  clear HF
  rintro e w2 ⟨rfl, hP⟩
  have hhd := hP.2.heap HH.out.hd (fun h => h (.inr (.inl rfl)))
  obtain ⟨q0, q1, q2, q3⟩ := four_cells hhd
  obtain ⟨f0, f1, f2, f3⟩ := four_frozen hhd
  have HE : Hid (LivePostK w0 N w k hb bi st.flush (w2.setCell ⟨k, 1, none⟩ (.slice none 0 0))) := Lib.hid (by
    have h3 := blk_setCell hhd 1 (.slice none 0 0)
    refine HH.out.upd2 (st' := st.flush) (kv' := .slice none 0 0) (wv' := wv) hP (Fr.setCell (p := ⟨k, 1, none⟩) (Fr.refl _ _) (.inl (.inl rfl)) _) (by simpa [KS.flush] using h3) (rowSp_nil _ _) ?_ (fun g hg => by simp [own_nil] at hg) (fun g hg => by simp [own_nil] at hg) (fun g hg => .inr (.inl hg)) HH.out.inv.flush
    exact (HH.out.waits.fr hP.2 (fun b hb h => h (.inr (.inr (.inr hb))))).cell _ ne2)
  clear hP hhd
  go_wp2
  go_ret
  exact ⟨rfl, HE.out⟩
set_option maxHeartbeats 1000000 in
set_option maxRecDepth 20000 in
theorem large_Hold {w0 w : World} {N : Nat → Prop} {k hb bi : Nat} {st : KS} (H : LiveK w0 N w k hb bi st) (on : Bool) (hsm : st.h.last ≤ 65536) :
    Calls Tryz.prog 24 #[.pointer (some ⟨k, 0, none⟩), .bool on] w fun e w' => e = .returned (.bool st.held) ∧ LivePostK w0 N w k hb bi (st.hold on) w' := by
  obtain ⟨kv, wv, H⟩ := H
  obtain ⟨ne1, ne2⟩ := H.ne
  obtain ⟨f0, f1, f2, f3⟩ := four_frozen H.hd
  cases on
  · obtain ⟨a, c, rfl, hin, hab, hown⟩ := H.waits.in
    obtain ⟨q0, q1, q2, q3⟩ := four_cells H.hd
    have hcnt := H.inv.count
    have h3 := blk_setCell H.hd 3 (.bool false)
    have h3' : (w.setCell ⟨k, 3, none⟩ (.bool false)).heap[k]? = some (.cells #[.pointer (some ⟨hb, 0, none⟩), kv, .slice a st.waits.length c, .bool false] 76 (0, 0)) := by simpa using h3
    have hFs : Fr (fun i => i = k) w (w.setCell ⟨k, 3, none⟩ (.bool false)) := Fr.setCell (S := fun j => j = k) (p := ⟨k, 3, none⟩) (Fr.refl _ _) (.inl rfl) _
    have hG1 := H.heap.fr hFs (fun i hi => by subst hi; exact ⟨.inr (.inl rfl), H.lo⟩)
    have hin1 : SpansIn (w.setCell ⟨k, 3, none⟩ (.bool false)) a st.waits := hin.fr7 hFs (fun p hp e => ne2 (by rw [hown p hp, e]))
    have hcc := large_free h3' hG1 (.inr (.inl rfl)) a st.waits c (by omega) hin1 (fun p hp => .inr (.inr (.inr (hown p hp)))) (fun s hs => (H.inv.mem s (by simp [hs])).1) hsm
    obtain ⟨p0, p1, p2, p3⟩ := four_cells h3'
    have HF := Lib.hid hcc
    have HH := Lib.hid H
    have HD := Lib.hid (And.intro h3' hFs)
    clear H hin hcnt hab hown h3 h3' hFs hG1 hin1 hcc p0 p1 p3
    go_enter Tryz.func24, Tryz.ntmps24
    go_wp2_with fail
    refine HF.out.mono ?_
    clear HF
    rintro e w2 ⟨rfl, hP⟩
    have hhd := hP.2.heap HD.out.1 (fun h => h (.inr (.inl rfl)))
    obtain ⟨q0, q1, q2, q3⟩ := four_cells hhd
    obtain ⟨f0, f1, f2, f3⟩ := four_frozen hhd
    have HE : Hid (LivePostK w0 N w k hb bi (st.hold false) (w2.setCell ⟨k, 2, none⟩ (.slice none 0 0))) := Lib.hid (by
      have h9 := blk_setCell hhd 2 (.slice none 0 0)
      have hb1 : LivePostG w0 (kN N k kv (.slice a st.waits.length c)) (w.setCell ⟨k, 3, none⟩ (.bool false)) hb bi (freesH st.h st.waits) w2 := hP
      have hrows : RowSp w0.heap.size w2 kv st.kept := (HH.out.kept.cell (.bool false) ne1).fr hP.2 (fun b hb h => h (.inr (.inr (.inl hb))))
      have hA : LivePostG w0 (kN N k kv (.slice a st.waits.length c)) (w.setCell ⟨k, 3, none⟩ (.bool false)) hb bi (freesH st.h st.waits) w2 := hP
      refine ⟨⟨kv, .slice none 0 0, by simpa [KS.hold] using h9, hrows.cell _ ne1, rowSp_nil _ _, fun g _ h => by simp [own_nil] at h, fun i hi => ?_, ?_, HH.out.lo, HH.out.inv.hold false⟩, ?_⟩
      · rcases hi with hi | hi | hi
        · exact HH.out.nN i (.inl hi)
        · exact HH.out.nN i (.inr (.inl hi))
        · simp [own_nil] at hi
      · refine (hP.1.fr (Fr.setCell (S := fun j => j = k) (p := ⟨k, 2, none⟩) (Fr.refl _ _) (.inl rfl) _) (fun i hi => by subst hi; exact ⟨.inr (.inl rfl), HH.out.lo⟩)).forget (fun i hi => ?_)
        rcases hi with hi | hi | hi | hi
        · exact .inl hi
        · exact .inr (.inl hi)
        · exact .inr (.inr (.inl hi))
        · simp [own_nil] at hi
      · refine ((HD.out.2.mono (S' := fun i => ¬ N i) (fun i hi => by subst hi; exact HH.out.nN _ (.inl rfl))).trans' (hP.2.mono (fun i hi h => hi (.inl h)))).setCell (p := ⟨k, 2, none⟩) (.inl (HH.out.nN _ (.inl rfl))) _)
    clear hP hhd
    go_wp2
    go_ret
    exact ⟨rfl, HE.out⟩
  · obtain ⟨q0, q1, q2, q3⟩ := four_cells H.hd
    have HE : Hid (LivePostK w0 N w k hb bi (st.hold true) (w.setCell ⟨k, 3, none⟩ (.bool true))) := Lib.hid (by
      have h3 := blk_setCell H.hd 3 (.bool true)
      exact H.upd (st' := st.hold true) (Fr.setCell (p := ⟨k, 3, none⟩) (Fr.refl _ _) (.inl (.inl rfl)) _) (by simpa [KS.hold] using h3) (H.kept.cell _ ne1) (H.waits.cell _ ne2) H.apart (fun g hg => .inl hg) (fun g hg => .inr (.inl hg)) rfl (H.inv.hold true))
    clear H
    go_enter Tryz.func24, Tryz.ntmps24
    go_wp2
    go_ret
    exact ⟨rfl, HE.out⟩
end Go.Proofs.YtbldidlbhahciaaGreat

namespace Go.Proofs.YtbldidlbhahciaaGreat
open Go.RowKit

theorem spCellsOf_snoc' (L : List Sp) (s : Sp) : spCellsOf (L ++ [s]) = spCellsOf L ++ [.int .i64 s.1, .int .i64 s.2.1.1, .int .i64 s.2.1.2, .int .i64 s.2.2] := by rw [spCellsOf_append]; simp [spCellsOf, spCells]
theorem sp_new {w : World} {g T : Nat} {a b c d : Value} {fz : Nat × Nat} (h : w.heap[g]? = some (.cells #[a, b, c, d] T fz)) : ∀ j u, [a, b, c, d][j]? = some u → w.cell? ((⟨g, 0, none⟩ : Addr).add j) = some u := by
  intro j u hj
  rw [addr_add, Nat.zero_add, blk_cell h]
  rw [← hj]; simp
theorem KAt.pushW {w0 w W w' : World} {N : Nat → Prop} {k hb bi g cap : Nat} {kv wv : Value} {st : KS} {s : Sp} (H : KAt w0 N w k hb bi kv wv st) (hh : st.held = true) (hP : KPend st [s]) (hB : Bel w W)
    (hown : w'.ownsRow w0.heap.size 33 4 (.slice (some ⟨g, 0, none⟩) (st.waits.length + 1) cap) (st.waits.length + 1) (spCellsOf (st.waits ++ [s]))) (hg : W.grownBy w' wv.ownBlock) (hat : wv.ownBlock = some g ∨ g = W.heap.size) :
    LivePostK w0 N w k hb bi (st.give1 s) (w'.setCell ⟨k, 2, none⟩ (.slice (some ⟨g, 0, none⟩) (st.waits.length + 1) cap)) := by
  obtain ⟨ne1, ne2⟩ := H.ne
  have hk := heap_lt H.hd
  have e1 : st.give1 s = ⟨st.h, st.kept, st.waits ++ [s], st.held⟩ := by unfold KS.give1; rw [if_pos hh]
  have hF1 : Fr (fun i => wv.ownBlock = some i) w w' := (Fr.of_bel hB).trans' (fr_row7 hg)
  have hgw : w.heap.size ≤ W.heap.size := hB.size
  have hgk : g ≠ k := by
    rcases hat with h | h
    · rintro rfl; exact ne2 h
    · omega
  have hd' := hF1.heap H.hd (fun h => ne2 h)
  have h9 := blk_setCell hd' 2 (.slice (some ⟨g, 0, none⟩) (st.waits.length + 1) cap)
  have hrow : RowSp w0.heap.size w' (.slice (some ⟨g, 0, none⟩) (st.waits.length + 1) cap) (st.waits ++ [s]) := by
    unfold RowSp; rw [List.length_append]; exact hown
  refine H.upd (st' := st.give1 s) (kv' := kv) (wv' := .slice (some ⟨g, 0, none⟩) (st.waits.length + 1) cap) ((hF1.mono (fun i hi => .inr (.inr hi))).setCell (p := ⟨k, 2, none⟩) (.inl (.inl rfl)) _) (by rw [e1]; simpa using h9) (by rw [e1]; exact (H.kept.fr hF1 (fun b hb h => H.apart b hb h)).cell _ ne1) (by rw [e1]; exact hrow.cell _ (by simpa [Value.ownBlock] using hgk)) (fun i hi h => ?_) (fun i hi => .inl hi) (fun i hi => ?_) (by rw [e1]) hP.give1
  · simp only [Value.ownBlock, Option.some.injEq] at h
    subst h
    rcases hat with h | h
    · exact H.apart _ hi h
    · have := (World.ownsRow.lt H.kept _ hi).2; omega
  · simp only [Value.ownBlock, Option.some.injEq] at hi
    subst hi
    rcases hat with h | h
    · exact .inr (.inl h)
    · exact .inr (.inr (by omega))
theorem KAt.pushK {w0 w W w' : World} {N : Nat → Prop} {k hb bi g cap : Nat} {kv wv : Value} {st : KS} {s : Sp} (H : KAt w0 N w k hb bi kv wv st) (hh : st.held = false) (hc : cntK st.kept s.2.1.2 < 2) (hP : KPend st [s]) (hB : Bel w W)
    (hown : w'.ownsRow w0.heap.size 33 4 (.slice (some ⟨g, 0, none⟩) (st.kept.length + 1) cap) (st.kept.length + 1) (spCellsOf (st.kept ++ [s]))) (hg : W.grownBy w' kv.ownBlock) (hat : kv.ownBlock = some g ∨ g = W.heap.size) :
    LivePostK w0 N w k hb bi (st.give1 s) (w'.setCell ⟨k, 1, none⟩ (.slice (some ⟨g, 0, none⟩) (st.kept.length + 1) cap)) := by
  obtain ⟨ne1, ne2⟩ := H.ne
  have hk := heap_lt H.hd
  have e1 : st.give1 s = ⟨st.h, st.kept ++ [s], st.waits, st.held⟩ := by unfold KS.give1; rw [if_neg (by simp [hh]), if_pos hc]
  have hF1 : Fr (fun i => kv.ownBlock = some i) w w' := (Fr.of_bel hB).trans' (fr_row7 hg)
  have hgw : w.heap.size ≤ W.heap.size := hB.size
  have hgk : g ≠ k := by
    rcases hat with h | h
    · rintro rfl; exact ne1 h
    · omega
  have hd' := hF1.heap H.hd (fun h => ne1 h)
  have h9 := blk_setCell hd' 1 (.slice (some ⟨g, 0, none⟩) (st.kept.length + 1) cap)
  have hrow : RowSp w0.heap.size w' (.slice (some ⟨g, 0, none⟩) (st.kept.length + 1) cap) (st.kept ++ [s]) := by
    unfold RowSp; rw [List.length_append]; exact hown
  refine H.upd (st' := st.give1 s) (kv' := .slice (some ⟨g, 0, none⟩) (st.kept.length + 1) cap) (wv' := wv) ((hF1.mono (fun i hi => .inr (.inl hi))).setCell (p := ⟨k, 1, none⟩) (.inl (.inl rfl)) _) (by rw [e1]; simpa using h9) (by rw [e1]; exact hrow.cell _ (by simpa [Value.ownBlock] using hgk)) (by rw [e1]; exact (H.waits.fr hF1 (fun b hb h => H.apart b h hb)).cell _ ne2) (fun i hi h => ?_) (fun i hi => ?_) (fun i hi => .inr (.inl hi)) (by rw [e1]) hP.give1
  · simp only [Value.ownBlock, Option.some.injEq] at hi
    subst hi
    rcases hat with h9 | h9
    · exact H.apart _ h9 h
    · have := (World.ownsRow.lt H.waits _ h).2; omega
  · simp only [Value.ownBlock, Option.some.injEq] at hi
    subst hi
    rcases hat with h | h
    · exact .inl h
    · exact .inr (.inr (by omega))
theorem cntK_take {K : List Sp} {n : Int} {i : Nat} (h : i < K.length) : cntK (K.take (i + 1)) n = cntK (K.take i) n + (if ofLen n K[i] = true then 1 else 0) := by
  unfold cntK
  rw [List.take_succ_eq_append_getElem h, List.filter_append, List.length_append]
  congr 1
  by_cases hp : ofLen n K[i] = true
  · rw [List.filter_cons_of_pos hp, if_pos hp]; rfl
  · rw [List.filter_cons_of_neg hp, if_neg hp]; rfl
theorem KInv.drop_same {st : KS} {s : Sp} (hh : st.held = false) (hc : ¬ cntK st.kept s.2.1.2 < 2) : st.give1 s = ⟨(st.h.drop [s.1]).1, st.kept, st.waits, st.held⟩ := by
  unfold KS.give1; rw [if_neg (by simp [hh]), if_neg hc]
set_option maxHeartbeats 4000000 in
set_option maxRecDepth 20000 in
theorem large_give {w0 w : World} {N : Nat → Prop} {k hb bi : Nat} {st : KS} (H : LiveK w0 N w k hb bi st) (s1 s2 s3 s4 : Int) (hP : KPend st [(s1, (s2, s3), s4)]) (hsm : st.h.last ≤ 65536) :
    Calls Tryz.prog 38 #[.pointer (some ⟨k, 0, none⟩), .agg #[.int .i64 s1, .int .i64 s2, .int .i64 s3, .int .i64 s4]] w fun e w' => e = .returned (.tuple #[]) ∧ LivePostK w0 N w k hb bi (st.give1 (s1, (s2, s3), s4)) w' := by
  obtain ⟨kv, wv, H⟩ := H
  have hcnt := H.inv.count
  have hlast := hsm
  obtain ⟨ne1, ne2⟩ := H.ne
  obtain ⟨a, c, rfl, hin, hab, hown⟩ := H.kept.in
  obtain ⟨aw, cw, rfl, hinw, habw, hownw⟩ := H.waits.in
  obtain ⟨i0, hi0, hz0, hz1, hz2⟩ := info_parts info_span
  have hspan := H.inv.ok.span (hP.mem (s1, (s2, s3), s4) (by simp)).1
  dsimp only at hspan
  have hk := heap_lt H.hd
  have hw0 := H.bel.size
  obtain ⟨hh, hhv⟩ : ∃ b, st.held = b := ⟨_, rfl⟩
  -- the span's box, and the function's
  have hb1 := (Bel.refl w).alloc (.cells #[.int .i64 s1, .int .i64 s2, .int .i64 s3, .int .i64 s4] 33)
  have gb := blk_alloc w (.cells #[.int .i64 s1, .int .i64 s2, .int .i64 s3, .int .i64 s4] 33)
  have hb2 := hb1.alloc (.cells #[.int .i64 s3] 3)
  have gb2 := blk_alloc_old (.cells #[.int .i64 s3] 3) gb
  have gn := blk_alloc (w.alloc (.cells #[.int .i64 s1, .int .i64 s2, .int .i64 s3, .int .i64 s4] 33)) (.cells #[.int .i64 s3] 3)
  rw [World.size_alloc] at gn
  have HW := Lib.hid (And.intro hb2 (And.intro gb2 gn))
  have HS := Lib.hid (large_same s3 (w.alloc (.cells #[.int .i64 s1, .int .i64 s2, .int .i64 s3, .int .i64 s4] 33)))
  rw [World.size_alloc] at HS
  obtain ⟨r0, r1, r2, r3⟩ := four_cells gb
  have HH := Lib.hid H
  have HIN := Lib.hid hin
  have HPD := Lib.hid hP
  have hgc := same_enters
  unfold Enters at hgc
  clear H hin hinw hb1 hb2 gb gb2 gn hP
  go_enter Tryz.func38, Tryz.ntmps38
  go_wp2_with fail
  refine HS.out.mono ?_
  clear HS
  rintro e w1 ⟨rfl, rfl⟩
  clear r0 r1 r2 r3
  generalize (w.alloc (.cells #[.int .i64 s1, .int .i64 s2, .int .i64 s3, .int .i64 s4] 33)).alloc (.cells #[.int .i64 s3] 3) = W1 at HW ⊢
  obtain ⟨B, hB⟩ : ∃ B, w.heap.size = B := ⟨_, rfl⟩
  rw [hB] at HW hk hw0 ⊢
  obtain ⟨q0, q1, q2, q3⟩ := four_cells (HW.out.1.blk HH.out.hd)
  go_wp2_with fail
  go_loopw [5, 17] (fun nv kk wr => ∃ i : Nat, i ≤ st.kept.length ∧ kk = .int .i64 i ∧ nv = .int .i64 (cntK (st.kept.take i) s3 : Int) ∧ Hid (Bel W1 wr)) (fun nv kk wr => st.kept.length - (intOf kk).toNat)
  case atStart => exact ⟨0, Nat.zero_le _, rfl, rfl, Lib.hid (Bel.refl _)⟩
  case round =>
    clear q0 q1 q2 q3
    obtain ⟨i, hi, rfl, rfl, HX⟩ := hrel
    by_cases hlt : i < st.kept.length
    · obtain ⟨b, o, rfl, p0, p1, p2, p3⟩ := (HIN.out.bel (HW.out.1.trans HX.out)).at i hlt
      have hct := cntK_take (n := s3) hlt
      obtain ⟨x, hx⟩ : ∃ x, st.kept[i] = x := ⟨_, rfl⟩
      rw [hx] at p0 p1 p2 p3 hct
      obtain ⟨x1, ⟨x2, x3⟩, x4⟩ := x
      dsimp only at p0 p1 p2 p3
      obtain ⟨m, hm⟩ : ∃ m, cntK (st.kept.take i) s3 = m := ⟨_, rfl⟩
      rw [hm] at hct ⊢
      have hmi : m ≤ i := by
        rw [← hm]; unfold cntK
        have := List.length_filter_le (ofLen s3) (st.kept.take i)
        rw [List.length_take] at this; omega
      have hbx := (Bel.refl wr).alloc (.cells #[.int .i64 x1, .int .i64 x2, .int .i64 x3, .int .i64 x4] 33)
      have gx := blk_alloc wr (.cells #[.int .i64 x1, .int .i64 x2, .int .i64 x3, .int .i64 x4] 33)
      have HC := Lib.hid (same_lit x1 x2 x3 x4 s3 (B + 1) _ (hbx.cell (HX.out.cell (blk_cell HW.out.2.2 0))))
      have HB1 := Lib.hid hbx
      have HCT := Lib.hid hct
      obtain ⟨r0, r1, r2, r3⟩ := four_cells gx
      clear hx hct hm hbx gx
      go_wp2_with fail
      refine HC.out.mono ?_
      rintro e w2 ⟨rfl, hB2⟩
      have HB2 := Lib.hid (HX.out.trans (HB1.out.trans hB2))
      clear hB2 r0 r1 r2 r3 p0 p1 p2 p3
      cases hp : ofLen s3 (x1, (x2, x3), x4)
      · rw [hp] at HCT
        go_wp2
        go_roundw
        case rel => exact ⟨i + 1, by omega, by go_num, by rw [HCT.out]; simp, HB2⟩
        case measure => simp [intOf]; omega
      · rw [hp] at HCT
        have z1 : IntKind.i64.wrap ((m : Int) + 1) = (m : Int) + 1 := IntWalk.i64_in _ (by omega)
        go_wp2
        go_roundw
        case rel => exact ⟨i + 1, by omega, by go_num, by rw [HCT.out]; simp, HB2⟩
        case measure => simp [intOf]; omega
    · obtain rfl : i = st.kept.length := by omega
      rw [List.take_length]
      clear hlt hi
      have HBW := Lib.hid (HW.out.1.trans HX.out)
      have HGB := Lib.hid (HX.out.blk HW.out.2.1)
      clear HX HW
      obtain ⟨q0, q1, q2, q3⟩ := four_cells (HBW.out.blk HH.out.hd)
      obtain ⟨f0, f1, f2, f3⟩ := four_frozen (HBW.out.blk HH.out.hd)
      obtain ⟨r0, r1, r2, r3⟩ := four_cells HGB.out
      have hBr := heap_lt HGB.out
      have hkw : k < wr.heap.size := by omega
      rw [hhv] at q3
      cases hh
      · obtain ⟨m, hm⟩ : ∃ m, cntK st.kept s3 = m := ⟨_, rfl⟩
        rw [hm]
        have hml : m ≤ st.kept.length := by rw [← hm]; exact List.length_filter_le _ _
        by_cases hc2 : m < 2
        · have d0 : (m : Int) < 2 := by omega
          go_wp2_with fail
          go_region_law (first
            | ((refine step_app_own rfl _ _ 42 33 (by rfl) i0 _ 4 32 Tryz.underlying42 hi0 hz0 hz1 hz2 rfl (by decide) w0.heap.size _ st.kept.length (spCellsOf st.kept) (by rfl) ?o1 ⟨wr.heap.size, 0, none⟩ 1 1 [.int .i64 s1, .int .i64 s2, .int .i64 s3, .int .i64 s4] (by rfl) rfl ?o2 ?o3 ?o4 ?o5 ?o6 (by decide) (st.kept.length + 1) rfl (spCellsOf (st.kept ++ [(s1, (s2, s3), s4)])) (spCellsOf_snoc' st.kept (s1, (s2, s3), s4)).symm ?_); (case o1 => exact HH.out.kept.bel (HBW.out.trans (by repeat (first | exact Bel.refl _ | apply Bel.drew | apply Bel.alloc)))); (case o2 => exact sp_new (blk_allocAt _ _ _ (by first | rfl | simp))); (case o3 => simp [Value.oneCell']); (case o4 => unfold maxLen; omega); (case o5 => omega); (case o6 => have := HBW.out.size; simp; omega); intro g7 c7 w7 hown7 hgrow7 hat7; (have hd7 := ((Fr.of_bel (HBW.out.trans (by repeat (first | exact Bel.refl _ | apply Bel.drew | apply Bel.alloc)))).trans' (fr_row7 hgrow7)).heap HH.out.hd (fun h => ne1 h)); obtain ⟨t0, t1, t2, t3⟩ := four_cells hd7; obtain ⟨u0, u1, u2, u3⟩ := four_frozen hd7))
          all_goals
            have HE := Lib.hid (HH.out.pushK hhv (by rw [hm]; exact hc2) HPD.out (HBW.out.trans (by repeat (first | exact Bel.refl _ | apply Bel.drew | apply Bel.alloc))) hown7 hgrow7 hat7)
            clear hown7 hgrow7 hat7 hd7
            go_wp2
            go_end0
            exact ⟨rfl, HE.out⟩
        · have d0 : ¬ (m : Int) < 2 := by omega
          have hxw : (Lit.int .i64 s1).wf = true := wf_i64 (by omega) (by omega)
          have hes := KInv.drop_same (s := (s1, (s2, s3), s4)) hhv (by rw [hm]; exact hc2)
          have HHW := Lib.hid (HH.out.then_bel HBW.out)
          have HKB : Hid (∀ V, Bel wr V → V.cell? ⟨k, 0, none⟩ = some (.pointer (some ⟨hb, 0, none⟩)) ∧ V.cell? ⟨B, 0, none⟩ = some (.int .i64 s1)) := Lib.hid (fun V hV => ⟨hV.cell q0, hV.cell r0⟩)
          have HF : Hid (∀ V g, Bel wr V → RdV V (some ⟨g, 0, none⟩) (ints [s1]) → Calls Tryz.prog 64 #[.pointer (some ⟨hb, 0, none⟩), .slice (some ⟨g, 0, none⟩) 1 1] V fun e V' => ∃ en, e = .returned (.int .i64 en) ∧ LivePostK w0 N w k hb bi (st.give1 (s1, (s2, s3), s4)) V' ∧ V'.cell? ⟨k, 0, none⟩ = some (.pointer (some ⟨hb, 0, none⟩)) ∧ V'.cell? ⟨B, 0, none⟩ = some (.int .i64 s1)) := Lib.hid (fun V g hV hr =>
            ((HH.out.heap.watch HBW.out (fun i => i = B) (fun i hi => by subst hi; exact ⟨by omega, hBr⟩)).Free [s1] (by simp) (by intro y hy; simp at hy; subst hy; exact hxw) V (some ⟨g, 0, none⟩) 1 hV hr).mono fun e V' ⟨h1, h2⟩ => by
              have hI : KInv ⟨(st.h.drop [s1]).1, st.kept, st.waits, st.held⟩ := by have := HPD.out.give1; rw [hes] at this; exact this
              obtain ⟨h3, h4⟩ := HHW.out.turn (h' := (st.h.drop [s1]).1) ⟨h2.1.forget (fun i hi => .inl hi), h2.2.mono (fun i hi h9 => hi (.inl h9))⟩ hI
              exact ⟨_, h1, by rw [hes]; exact ⟨⟨_, _, h3⟩, (Fr.of_bel HBW.out).trans' h4⟩, h2.2.cell q0 (fun h => h (.inl (.inr (.inl rfl)))), h2.2.cell r0 (fun h => h (.inr rfl))⟩)
          clear HHW
          go_wp2_with fail
          go_region_held3 (fun w' => w'.cell? ⟨k, 0, none⟩ = some (.pointer (some ⟨hb, 0, none⟩)) ∧ w'.cell? ⟨B, 0, none⟩ = some (.int .i64 s1))
            (first | exact hS7 | go_keep)
            (first
            | (go_at_call 64; (with_reducible refine (HF.out _ _ ?b1 ?b2).mono ?_); (case b1 => repeat (first | exact Bel.refl _ | apply Bel.drew | apply Bel.alloc)); (case b2 => exact rdv_one (blk_allocAt _ _ _ (by simp))); rintro e w7 ⟨en, rfl, hL7, hS7⟩))
          all_goals
            have HE := Lib.hid hL7
            clear hL7 hS7
            go_wp2
            go_end0
            exact ⟨rfl, HE.out⟩
      · have hc9 := HH.out.waits
        go_wp2_with fail
        go_region_law (first
          | ((refine step_app_own rfl _ _ 42 33 (by rfl) i0 _ 4 32 Tryz.underlying42 hi0 hz0 hz1 hz2 rfl (by decide) w0.heap.size _ st.waits.length (spCellsOf st.waits) (by rfl) ?o1 ⟨wr.heap.size, 0, none⟩ 1 1 [.int .i64 s1, .int .i64 s2, .int .i64 s3, .int .i64 s4] (by rfl) rfl ?o2 ?o3 ?o4 ?o5 ?o6 (by decide) (st.waits.length + 1) rfl (spCellsOf (st.waits ++ [(s1, (s2, s3), s4)])) (spCellsOf_snoc' st.waits (s1, (s2, s3), s4)).symm ?_); (case o1 => exact HH.out.waits.bel (HBW.out.trans (by repeat (first | exact Bel.refl _ | apply Bel.drew | apply Bel.alloc)))); (case o2 => exact sp_new (blk_allocAt _ _ _ (by first | rfl | simp))); (case o3 => simp [Value.oneCell']); (case o4 => unfold maxLen; omega); (case o5 => omega); (case o6 => have := HBW.out.size; simp; omega); intro g7 c7 w7 hown7 hgrow7 hat7; (have hd7 := ((Fr.of_bel (HBW.out.trans (by repeat (first | exact Bel.refl _ | apply Bel.drew | apply Bel.alloc)))).trans' (fr_row7 hgrow7)).heap HH.out.hd (fun h => ne2 h)); obtain ⟨t0, t1, t2, t3⟩ := four_cells hd7; obtain ⟨u0, u1, u2, u3⟩ := four_frozen hd7))
        all_goals
          have HE := Lib.hid (HH.out.pushW hhv HPD.out (HBW.out.trans (by repeat (first | exact Bel.refl _ | apply Bel.drew | apply Bel.alloc))) hown7 hgrow7 hat7)
          clear hown7 hgrow7 hat7 hd7
          go_wp2
          go_end0
          exact ⟨rfl, HE.out⟩
end Go.Proofs.YtbldidlbhahciaaGreat

namespace Go.Proofs.YtbldidlbhahciaaGreat
open Go.RowKit

/-- What spans answers. -/
def SpansPost (w : World) (h : Hp) (l : List Int) (e : Ending) (w' : World) : Prop :=
  (LargeIds h l ∧ ∃ a c, e = .returned (.tuple #[.slice a l.length c, .bool true]) ∧ SpansIn w' a (l.map (spOf h)) ∧ Bel w w' ∧ ∀ p, a = some p → w.heap.size ≤ p.block ∧ p.block < w'.heap.size) ∨
  (¬ LargeIds h l ∧ e = .returned (.tuple #[.slice none 0 0, .bool false]) ∧ Bel w w')
def SpansWayL (w : World) (h : Hp) (l : List Int) (i : Nat) (u : Value) (wr : World) : Prop :=
  LargeIds h (l.take i) ∧ RowSp w.heap.size wr u ((l.take i).map (spOf h)) ∧ Bel w wr
theorem largeIds_snoc {h : Hp} {l : List Int} {x : Int} : LargeIds h (l ++ [x]) ↔ LargeIds h l ∧ largeId h x = true ∧ x ∉ l := by
  unfold LargeIds
  rw [List.nodup_append]
  constructor
  · rintro ⟨a, b, _, c⟩
    exact ⟨⟨fun y hy => a y (by simp [hy]), b⟩, a x (by simp), fun hx => c x hx x (by simp) rfl⟩
  · rintro ⟨⟨a, b⟩, c, d⟩
    refine ⟨fun y hy => ?_, b, by simp, fun y hy z hz e => ?_⟩
    · rcases List.mem_append.1 hy with hy | hy
      · exact a y hy
      · simp at hy; subst hy; exact c
    · simp at hz; subst hz; subst e; exact d hy
theorem largeIds_take {h : Hp} {l : List Int} (hl : LargeIds h l) (i : Nat) : LargeIds h (l.take i) :=
  ⟨fun x hx => hl.1 x (List.mem_of_mem_take hx), hl.2.sublist (List.take_sublist _ _)⟩
theorem sp_mem {h : Hp} {l : List Int} (hl : LargeIds h l) {x : Int} (hx : largeId h x = true) : spOf h x ∈ l.map (spOf h) ↔ x ∈ l := by
  rw [List.mem_map]
  constructor
  · rintro ⟨y, hy, e⟩
    have h1 := (largeId_sp (hl.1 y hy)).2.1
    have h2 := (largeId_sp hx).2.1
    rw [e, h2] at h1; rw [h1]; exact hy
  · exact fun hx => ⟨x, hx, rfl⟩
theorem getS_bound {h : Hp} (H : HpOk h) {x : Int} {s : Sp} (hs : getS h.S x = some s) : 0 ≤ s.2.1.1 ∧ s.2.1.1 ≤ 1024 ∧ 1 ≤ s.2.1.2 ∧ s.2.1.2 ≤ 1024 := by
  have := H.span (getS_mem hs).1
  have := H.le
  omega
set_option maxHeartbeats 4000000 in
set_option maxRecDepth 20000 in
theorem large_spans {w0 w : World} {N : Nat → Prop} {k hb bi : Nat} {st : KS} (H : LiveK w0 N w k hb bi st) (a : Option Addr) (l : List Int) (c : Nat) (hl : l.length ≤ 1024) (hr : RdV w a (ints l)) (hok : ∀ x ∈ l, (Lit.int .i64 x).wf = true) :
    Calls Tryz.prog 34 #[.pointer (some ⟨k, 0, none⟩), .slice a l.length c] w (SpansPost w st.h l) := by
  obtain ⟨kv, wv, H⟩ := H
  obtain ⟨i0, hi0, hz0, hz1, hz2⟩ := info_parts info_span
  have HR := Lib.hid hr
  have HOK := Lib.hid hok
  have HH := Lib.hid H
  have HST : Hid (SpansWayL w st.h l 0 (.slice none 0 0) w) := Lib.hid ⟨⟨by simp, by simp⟩, rowSp_nil _ _, Bel.refl _⟩
  clear H hr hok
  go_enter Tryz.func34, Tryz.ntmps34
  go_wp2_with fail
  go_loopw [6, 13] (fun uv kk wr => ∃ i : Nat, i ≤ l.length ∧ kk = .int .i64 i ∧ ∃ u, u = uv ∧ Hid (SpansWayL w st.h l i u wr)) (fun uv kk wr => l.length - (intOf kk).toNat)
  case atStart => exact ⟨0, Nat.zero_le _, rfl, _, rfl, HST⟩
  case round =>
    clear HST
    obtain ⟨i, hi, rfl, uv, rfl, HX⟩ := hrel
    by_cases hlt : i < l.length
    · obtain ⟨b, o, rfl, p0⟩ := (HR.out.bel HX.out.2.2).at i hlt
      have htk : l.take (i + 1) = l.take i ++ [l[i]] := List.take_succ_eq_append_getElem hlt
      have hwf := HOK.out l[i] (List.getElem_mem hlt)
      have hno : ¬ LargeIds st.h (l.take (i + 1)) → ¬ LargeIds st.h l := fun h1 h2 => h1 (largeIds_take h2 _)
      obtain ⟨x, hx⟩ : ∃ x, l[i] = x := ⟨_, rfl⟩
      rw [hx] at p0 htk hwf
      rw [htk, largeIds_snoc] at hno
      obtain ⟨q0, q1, q2, q3⟩ := four_cells (HX.out.2.2.blk HH.out.hd)
      have HSP := Lib.hid (HH.out.heap.Span x hwf wr HX.out.2.2)
      obtain ⟨u, cu, rfl, hinu, _⟩ := HX.out.2.1.in
      have hul : ((l.take i).map (spOf st.h)).length = i := by simp; omega
      rw [hul]
      have HULX := Lib.hid hul
      have HTK := Lib.hid htk
      have HNO := Lib.hid hno
      have HIN := Lib.hid hinu
      clear hx htk hno hinu hul
      cases hg : getS st.h.S x with
      | none =>
        have HL : Hid (¬ LargeIds st.h l) := Lib.hid (HNO.out (fun h9 => by have := h9.2.1; unfold largeId at this; rw [hg] at this; simp at this))
        rw [hg] at HSP
        simp only [spV, sp0, Option.getD_none, Option.isSome_none] at HSP
        clear hg
        go_wp2_with fail
        refine HSP.out.mono ?_
        rintro e w2 ⟨rfl, hB2⟩
        have HB2 := Lib.hid (HX.out.2.2.trans hB2)
        clear hB2 q0 q1 q2 q3 p0
        go_wp2
        go_ret2
        exact .inr ⟨HL.out, rfl, HB2.out.alloc _⟩
      | some s =>
        have hso : spOf st.h x = s := by unfold spOf; rw [hg]; rfl
        have hbd := getS_bound HH.out.inv.ok hg
        have hli : largeId st.h x = (decide (s.2.2 = -1) && fitsF s.2.1.2) := by unfold largeId; rw [hg, hso]; rfl
        rw [hg] at HSP
        simp only [Option.getD_some, Option.isSome_some] at HSP
        obtain ⟨s1, ⟨s2, s3⟩, s4⟩ := s
        simp only [spV] at HSP
        dsimp only at hbd hli
        have HSO := Lib.hid hso
        have HLI := Lib.hid hli
        clear hg hso hli
        go_wp2_with fail
        refine HSP.out.mono ?_
        rintro e w2 ⟨rfl, hB2⟩
        have hB3 := hB2.alloc (.cells #[.int .i64 s1, .int .i64 s2, .int .i64 s3, .int .i64 s4] 33)
        have gb := blk_alloc w2 (.cells #[.int .i64 s1, .int .i64 s2, .int .i64 s3, .int .i64 s4] 33)
        have HB3 := Lib.hid (And.intro (HX.out.2.2.trans hB3) (And.intro hB3 gb))
        obtain ⟨r0, r1, r2, r3⟩ := four_cells gb
        clear hB2 hB3 gb q0 q1 q2 q3 p0
        by_cases ho : s4 = -1
        · subst ho
          have HFT := Lib.hid (large_fits s3 (w2.alloc (.cells #[.int .i64 s1, .int .i64 s2, .int .i64 s3, .int .i64 (-1)] 33)) ⟨by omega, by omega⟩)
          cases hft : fitsF s3
          · rw [hft] at HFT HLI
            have HL : Hid (¬ LargeIds st.h l) := Lib.hid (HNO.out (fun h9 => by have := h9.2.1; rw [HLI.out] at this; simp at this))
            clear hft
            go_wp2_with fail
            refine HFT.out.mono ?_
            rintro e w4 ⟨rfl, hB4⟩
            have HB4 := Lib.hid (HB3.out.1.trans hB4)
            clear hB4 r0 r1 r2 r3
            go_wp2
            go_ret2
            exact .inr ⟨HL.out, rfl, HB4.out⟩
          · rw [hft] at HFT HLI
            have HLI2 : Hid (largeId st.h x = true) := Lib.hid (by rw [HLI.out]; simp)
            clear hft
            go_wp2_with fail
            refine HFT.out.mono ?_
            clear HFT
            rintro e w4 ⟨rfl, hB4⟩
            have hB5 := HB3.out.2.1.trans hB4
            have HCT := Lib.hid (contains_sp u ((l.take i).map (spOf st.h)) (s1, (s2, s3), -1) i cu w4 HULX.out.symm (by rw [HULX.out]; omega) (HIN.out.bel hB5))
            dsimp only at HCT
            obtain ⟨r0, r1, r2, r3⟩ := four_cells (hB4.blk HB3.out.2.2)
            have HB4 := Lib.hid (And.intro (HB3.out.1.trans hB4) (And.intro hB5 hB4))
            clear hB4 hB5
            have hmem := sp_mem HX.out.1 HLI2.out
            rw [HSO.out] at hmem
            by_cases hin : x ∈ l.take i
            · have hd : decide (((s1, (s2, s3), -1) : Sp) ∈ (l.take i).map (spOf st.h)) = true := by simpa using hmem.2 hin
              rw [hd] at HCT
              have HL : Hid (¬ LargeIds st.h l) := Lib.hid (HNO.out (fun h9 => h9.2.2 hin))
              clear hd hmem hin
              go_wp2_with fail
              refine HCT.out.mono ?_
              rintro e w6 ⟨rfl, hB6⟩
              have HB6 := Lib.hid (HB4.out.1.trans hB6)
              clear hB6 r0 r1 r2 r3
              go_wp2
              go_ret2
              exact .inr ⟨HL.out, rfl, HB6.out⟩
            · have hd : decide (((s1, (s2, s3), -1) : Sp) ∈ (l.take i).map (spOf st.h)) = false := by simpa using fun h => hin (hmem.1 h)
              rw [hd] at HCT
              have HLT : Hid (LargeIds st.h (l.take (i + 1))) := Lib.hid (by rw [HTK.out]; exact largeIds_snoc.2 ⟨HX.out.1, HLI2.out, hin⟩)
              clear hd hmem hin
              go_wp2_with fail
              refine HCT.out.mono ?_
              clear HCT
              rintro e w6 ⟨rfl, hB6⟩
              obtain ⟨r0, r1, r2, r3⟩ := four_cells ((HB4.out.2.2.trans hB6).blk HB3.out.2.2)
              have HB6 := Lib.hid (And.intro (HB4.out.1.trans hB6) (HB4.out.2.1.trans hB6))
              have hz6 := HB6.out.1.size
              have hrow6 := HX.out.2.1.bel HB6.out.2
              unfold RowSp at hrow6
              rw [HULX.out] at hrow6
              have HROW := Lib.hid hrow6
              clear hB6 hrow6
              go_wp2_with (at_builtin; refine wpList_app_own rfl _ _ 42 33 rfl i0 _ 4 32 Tryz.underlying42 hi0 hz0 hz1 hz2 rfl (by decide) w.heap.size _ i (spCellsOf ((l.take i).map (spOf st.h))) rfl (HROW.out.alloc _) ⟨w6.heap.size, 0, none⟩ 1 1 [.int .i64 s1, .int .i64 s2, .int .i64 s3, .int .i64 (-1)] rfl rfl ?o2 ?o3 ?o4 ?o5 ?o6 (by decide) (i + 1) rfl _ rfl ?_)
              case o2 => exact sp_new (blk_allocAt _ _ _ (by first | rfl | simp))
              case o3 => simp [Value.oneCell']
              case o4 => unfold maxLen; omega
              case o5 => omega
              case o6 => first | omega | (simp; omega)
              intro g7 c7 w7 hown7 hgrow7 hat7
              have hB7 : Bel w w7 := Fr.bel ((Fr.of_bel (HB6.out.1.alloc _)).trans' (fr_row7 hgrow7)) (fun j hj => (HROW.out.lt j hj).1)
              have HN7 : Hid (SpansWayL w st.h l (i + 1) (.slice (some ⟨g7, 0, none⟩) (i + 1) c7) w7) := Lib.hid (by
                refine ⟨HLT.out, ?_, hB7⟩
                unfold RowSp
                have e1 : (l.take (i + 1)).map (spOf st.h) = (l.take i).map (spOf st.h) ++ [(s1, (s2, s3), -1)] := by rw [HTK.out, List.map_append]; simp [HSO.out]
                rw [e1, spCellsOf_snoc', List.length_append, HULX.out]
                rw [← List.map_take] at hown7
                exact hown7)
              clear hown7 hgrow7 hat7 hB7
              go_wp2
              go_roundw
              case rel => exact ⟨i + 1, by omega, by go_num, _, rfl, HN7⟩
              case measure => simp [intOf]; omega
        · have HL : Hid (¬ LargeIds st.h l) := Lib.hid (HNO.out (fun h9 => by have := h9.2.1; rw [HLI.out] at this; simp [ho] at this))
          have e1 : (s4 != -1) = true := by simpa using ho
          clear ho
          go_wp2
          go_ret2
          exact .inr ⟨HL.out, rfl, HB3.out.1⟩
    · obtain rfl : i = l.length := by omega
      have hX := HX.out
      unfold SpansWayL at hX
      rw [List.take_length] at hX
      obtain ⟨u, cu, rfl, hinu, hbu, hou⟩ := hX.2.1.in
      have hul : (l.map (spOf st.h)).length = l.length := by simp
      rw [hul]
      have hblk : ∀ p, u = some p → p.block < wr.heap.size := fun p hp => (World.ownsRow.lt hX.2.1 _ (hou p hp)).2
      have HE := Lib.hid (And.intro hX (And.intro hinu (And.intro hbu hblk)))
      clear HX hX hinu hbu hou hul hblk
      go_wp2
      go_ret2
      exact .inl ⟨HE.out.1.1, _, _, rfl, HE.out.2.1, HE.out.1.2.2, fun p hp => ⟨HE.out.2.2.1 p hp, HE.out.2.2.2 p hp⟩⟩
end Go.Proofs.YtbldidlbhahciaaGreat

namespace Go.Proofs.YtbldidlbhahciaaGreat
open Go.RowKit

/-- Is a span kept, or does it wait? -/
def KS.hasS (k : KS) (s : Sp) : Bool := decide (s ∈ k.kept) || decide (s ∈ k.waits)
theorem KInv.hasS {k : KS} (H : KInv k) {x : Int} (hx : largeId k.h x = true) : k.hasS (spOf k.h x) = k.has x := by
  obtain ⟨h1, h2, _⟩ := largeId_sp hx
  unfold KS.hasS KS.has
  rw [Bool.eq_iff_iff, List.any_eq_true]
  simp only [Bool.or_eq_true, decide_eq_true_eq]
  rw [← List.mem_append]
  constructor
  · exact fun h => ⟨_, h, by simp [h2]⟩
  · rintro ⟨s, hs, he⟩
    have : s.1 = x := by simpa using he
    have hsS := (H.mem s (by simpa using hs)).1
    rw [H.ok.eq h1 hsS (h2.trans this.symm)]; exact hs
theorem any_hasS {k : KS} (H : KInv k) {l : List Int} (hl : LargeIds k.h l) : (l.map (spOf k.h)).any k.hasS = l.any k.has := by
  rw [List.any_map]
  have h1 : ∀ m : List Int, (∀ x ∈ m, largeId k.h x = true) → m.any (k.hasS ∘ spOf k.h) = m.any k.has := by
    intro m
    induction m with
    | nil => intro _; rfl
    | cons x m ih =>
      intro hm
      rw [List.any_cons, List.any_cons, ih (fun y hy => hm y (by simp [hy]))]
      show (k.hasS (spOf k.h x) || _) = _
      rw [H.hasS (hm x (by simp))]
  exact h1 l hl.1
set_option maxHeartbeats 4000000 in
set_option maxRecDepth 20000 in
theorem give1_lit {w0 w : World} {N : Nat → Prop} {k hb bi g : Nat} {st : KS} (H : LiveK w0 N w k hb bi st) (hg : w.cell? ⟨g, 0, none⟩ = some (.pointer (some ⟨k, 0, none⟩))) (s1 s2 s3 s4 : Int) (hsm : st.h.last ≤ 65536) :
    Calls Tryz.prog 36 #[.agg #[.int .i64 s1, .int .i64 s2, .int .i64 s3, .int .i64 s4], .pointer (some ⟨g, 0, none⟩)] w fun e w' => e = .returned (.bool (st.hasS (s1, (s2, s3), s4))) ∧ Bel w w' := by
  obtain ⟨kv, wv, H⟩ := H
  have hcnt := H.inv.count
  obtain ⟨a, c, rfl, hin, hab, hown⟩ := H.kept.in
  obtain ⟨aw, cw, rfl, hinw, habw, hownw⟩ := H.waits.in
  obtain ⟨q0, q1, q2, q3⟩ := four_cells H.hd
  have hb1 := (Bel.refl w).alloc (.cells #[.int .i64 s1, .int .i64 s2, .int .i64 s3, .int .i64 s4] 33)
  have gb := blk_alloc w (.cells #[.int .i64 s1, .int .i64 s2, .int .i64 s3, .int .i64 s4] 33)
  have HW := Lib.hid (And.intro hb1 gb)
  have HIN := Lib.hid (And.intro hin hinw)
  have HQ := Lib.hid (And.intro hg (And.intro q1 q2))
  have hh : Hid (st.hasS (s1, (s2, s3), s4) = (decide (((s1, (s2, s3), s4) : Sp) ∈ st.kept) || decide (((s1, (s2, s3), s4) : Sp) ∈ st.waits))) := Lib.hid rfl
  obtain ⟨p, hp⟩ : ∃ p, decide (((s1, (s2, s3), s4) : Sp) ∈ st.kept) = p := ⟨_, rfl⟩
  obtain ⟨r, hr⟩ : ∃ r, decide (((s1, (s2, s3), s4) : Sp) ∈ st.waits) = r := ⟨_, rfl⟩
  rw [hp, hr] at hh
  have HS : Hid (∀ V, Bel (w.alloc (.cells #[.int .i64 s1, .int .i64 s2, .int .i64 s3, .int .i64 s4] 33)) V → V.cell? ⟨g, 0, none⟩ = some (.pointer (some ⟨k, 0, none⟩)) ∧ V.cell? ⟨k, 1, none⟩ = some (.slice a st.kept.length c) ∧ V.cell? ⟨k, 2, none⟩ = some (.slice aw st.waits.length cw) ∧ V.cell? ⟨w.heap.size, 0, none⟩ = some (.int .i64 s1) ∧ V.cell? ⟨w.heap.size, 1, none⟩ = some (.int .i64 s2) ∧ V.cell? ⟨w.heap.size, 2, none⟩ = some (.int .i64 s3) ∧ V.cell? ⟨w.heap.size, 3, none⟩ = some (.int .i64 s4)) := Lib.hid (fun V hV => by
    obtain ⟨t0, t1, t2, t3⟩ := four_cells (hV.blk HW.out.2)
    exact ⟨(HW.out.1.trans hV).cell HQ.out.1, (HW.out.1.trans hV).cell HQ.out.2.1, (HW.out.1.trans hV).cell HQ.out.2.2, t0, t1, t2, t3⟩)
  have HC1 : Hid (∀ V, Bel (w.alloc (.cells #[.int .i64 s1, .int .i64 s2, .int .i64 s3, .int .i64 s4] 33)) V → Calls Tryz.prog 37 #[.slice a st.kept.length c, .agg #[.int .i64 s1, .int .i64 s2, .int .i64 s3, .int .i64 s4]] V fun e V' => e = .returned (.bool p) ∧ Bel (w.alloc (.cells #[.int .i64 s1, .int .i64 s2, .int .i64 s3, .int .i64 s4] 33)) V') := Lib.hid (fun V hV => by
    have := contains_sp a st.kept (s1, (s2, s3), s4) _ c V rfl (by omega) (HIN.out.1.bel (HW.out.1.trans hV))
    rw [hp] at this
    exact this.mono fun e V' ⟨h1, h2⟩ => ⟨h1, hV.trans h2⟩)
  have HC2 : Hid (∀ V, Bel (w.alloc (.cells #[.int .i64 s1, .int .i64 s2, .int .i64 s3, .int .i64 s4] 33)) V → Calls Tryz.prog 37 #[.slice aw st.waits.length cw, .agg #[.int .i64 s1, .int .i64 s2, .int .i64 s3, .int .i64 s4]] V fun e V' => e = .returned (.bool r) ∧ Bel (w.alloc (.cells #[.int .i64 s1, .int .i64 s2, .int .i64 s3, .int .i64 s4] 33)) V') := Lib.hid (fun V hV => by
    have := contains_sp aw st.waits (s1, (s2, s3), s4) _ cw V rfl (by omega) (HIN.out.2.bel (HW.out.1.trans hV))
    rw [hr] at this
    exact this.mono fun e V' ⟨h1, h2⟩ => ⟨h1, hV.trans h2⟩)
  have hkw := heap_lt H.hd
  have hgw : g < w.heap.size := World.block_lt_of_cell? w ⟨g, 0, none⟩ hg
  obtain ⟨lk, hlk⟩ : ∃ lk, st.kept.length = lk := ⟨_, rfl⟩
  obtain ⟨lw, hlw⟩ : ∃ lw, st.waits.length = lw := ⟨_, rfl⟩
  rw [hlk] at HS HC1 q1
  rw [hlw] at HS HC2 q2
  clear H hin hinw hg q0 q3 hb1 gb hp hr hcnt hlk hlw HQ
  cases p
  · go_enter Tryz.func36, Tryz.ntmps36
    go_wp2_with fail
    have hS0 := HS.out _ (Bel.refl _)
    go_region_held3 (fun w' => w'.cell? ⟨g, 0, none⟩ = some (.pointer (some ⟨k, 0, none⟩)) ∧ w'.cell? ⟨k, 1, none⟩ = some (.slice a lk c) ∧ w'.cell? ⟨k, 2, none⟩ = some (.slice aw lw cw) ∧ w'.cell? ⟨w.heap.size, 0, none⟩ = some (.int .i64 s1) ∧ w'.cell? ⟨w.heap.size, 1, none⟩ = some (.int .i64 s2) ∧ w'.cell? ⟨w.heap.size, 2, none⟩ = some (.int .i64 s3) ∧ w'.cell? ⟨w.heap.size, 3, none⟩ = some (.int .i64 s4))
      (first | (with_reducible exact hS0) | (with_reducible exact hS1) | (with_reducible exact hS2) | go_keep)
      (first
      | (go_at_call 37; (with_reducible refine (HC1.out _ ?b1).mono ?_); (case b1 => repeat (first | (with_reducible assumption) | exact Bel.refl _ | apply Bel.drew | apply Bel.alloc)); rintro e w1 ⟨rfl, hB1⟩; have hS1 := HS.out _ hB1)
      | (go_at_call 37; (with_reducible refine (HC2.out _ ?b2).mono ?_); (case b2 => repeat (first | (with_reducible assumption) | exact Bel.refl _ | apply Bel.drew | apply Bel.alloc)); rintro e w2 ⟨rfl, hB2⟩; have hS2 := HS.out _ hB2))
    all_goals
      have HB := Lib.hid (HW.out.1.trans (by with_reducible assumption))
      go_wp2
      go_ret
      exact ⟨ret_b (by rw [hh.out]; rfl), HB.out⟩
  · go_enter Tryz.func36, Tryz.ntmps36
    go_wp2_with fail
    obtain ⟨v1, v2, v3, v4, v5, v6, v7⟩ := HS.out _ (Bel.refl _)
    go_region_law (first
      | (go_simp; go_at_call 37; (with_reducible refine (HC1.out _ ?b1).mono ?_); (case b1 => repeat (first | (with_reducible assumption) | exact Bel.refl _ | apply Bel.drew | apply Bel.alloc)); rintro e w1 ⟨rfl, hB1⟩; obtain ⟨u1, u2, u3, u4, u5, u6, u7⟩ := HS.out _ hB1))
    all_goals
      have HB := Lib.hid (HW.out.1.trans (by with_reducible assumption))
      go_wp2
      go_ret
      exact ⟨ret_b (by rw [hh.out]; rfl), HB.out⟩
end Go.Proofs.YtbldidlbhahciaaGreat

namespace Go.Proofs.YtbldidlbhahciaaGreat
open Go.RowKit

theorem give1_enters : Enters 36 := enters_of Tryz.func36 (by kernel_rfl) rfl
theorem give1_last (k : KS) (s : Sp) : (k.give1 s).h.last = k.h.last := by
  unfold KS.give1
  split
  · rfl
  · split
    · rfl
    · exact Hp.drop_last _ _
theorem gives_last (l : List Sp) (k : KS) : (l.foldl KS.give1 k).h.last = k.h.last := by
  induction l generalizing k with
  | nil => rfl
  | cons s l ih => rw [List.foldl_cons, ih, give1_last]
theorem KPend.one {k : KS} {s : Sp} {l : List Sp} (H : KPend k (s :: l)) : KPend k [s] := by
  refine ⟨H.ok, fun t ht => H.mem t ?_, H.nd.sublist (List.Sublist.map _ ?_), H.free⟩
  · simp only [List.mem_append, List.mem_cons, List.not_mem_nil, or_false] at ht ⊢; rcases ht with (h | h) | h <;> simp [h]
  · exact List.Sublist.append_left (by simp) _
/-- Some have been given. -/
def GiveWay (w0 : World) (N : Nat → Prop) (w : World) (k hb bi : Nat) (st : KS) (L : List Sp) (i : Nat) (wr : World) : Prop :=
  LiveK w0 N wr k hb bi ((L.take i).foldl KS.give1 st) ∧ KPend ((L.take i).foldl KS.give1 st) (L.drop i) ∧ Fr (fun j => ¬ N j) w wr
set_option maxHeartbeats 4000000 in
set_option maxRecDepth 20000 in
theorem large_Give {w0 w : World} {N : Nat → Prop} {k hb bi : Nat} {st : KS} (H : LiveK w0 N w k hb bi st) (a : Option Addr) (l : List Int) (c : Nat) (hl : l.length ≤ 1024) (hr : RdV w a (ints l)) (hok : ∀ x ∈ l, (Lit.int .i64 x).wf = true) (hsm : st.h.last ≤ 65536) :
    Calls Tryz.prog 12 #[.pointer (some ⟨k, 0, none⟩), .slice a l.length c] w fun e w' => e = .returned (.int .i64 (st.give l).2) ∧ LivePostK w0 N w k hb bi (st.give l).1 w' := by
  have hb1 := (Bel.refl w).alloc (.cells #[.pointer (some ⟨k, 0, none⟩)] 28)
  have gb := blk_alloc w (.cells #[.pointer (some ⟨k, 0, none⟩)] 28)
  have HSP := Lib.hid (large_spans (H.then_bel hb1) a l c hl (hr.bel hb1) hok)
  have HH := Lib.hid (And.intro H (And.intro hb1 gb))
  have gc := blk_cell gb 0
  clear H hr hok hb1 gb
  go_enter Tryz.func12, Tryz.ntmps12
  go_wp2_with fail
  refine HSP.out.mono ?_
  clear HSP gc
  rintro e w1 (⟨hL, u, cu, rfl, hin, hB1, hblk⟩ | ⟨hL, rfl, hB1⟩)
  · have hbw := HH.out.2.1.trans hB1
    have gb1 := hB1.blk HH.out.2.2
    have hlive : LiveK w0 (fun i => N i ∨ (w.heap.size ≤ i ∧ i < w1.heap.size)) w1 k hb bi st := HH.out.1.watch hbw (fun i => w.heap.size ≤ i ∧ i < w1.heap.size) (fun i hi => hi)
    have hbB := heap_lt gb1
    have HW := Lib.hid (And.intro hlive (And.intro hin (And.intro gb1 hbw)))
    have hub : ∀ p, u = some p → w.heap.size ≤ p.block ∧ p.block < w1.heap.size := fun p hp => by
      have := hblk p hp
      rw [World.size_alloc] at this
      omega
    have HUB := Lib.hid hub
    have HASK : Hid (AsksS 36 #[.pointer (some ⟨w.heap.size, 0, none⟩)] st.hasS (l.map (spOf st.h)) w1) := Lib.hid (by
      rintro W hW ⟨x1, ⟨x2, x3⟩, x4⟩ _
      exact give1_lit (hlive.then_bel hW) (hW.cell (blk_cell gb1 0)) x1 x2 x3 x4 hsm)
    have hll : l.length = (l.map (spOf st.h)).length := by simp
    have HCF := Lib.hid (containsFunc_sp _ give1_enters #[.pointer (some ⟨w.heap.size, 0, none⟩)] st.hasS u (l.map (spOf st.h)) l.length cu w1 hll (by simp; omega) hin HASK.out)
    rw [any_hasS HH.out.1.inv hL] at HCF
    have HL := Lib.hid hL
    obtain ⟨q, hq⟩ : ∃ q, l.any st.has = q := ⟨_, rfl⟩
    rw [hq] at HCF
    have HQ := Lib.hid hq
    clear hL hin hB1 hblk hbw gb1 hlive hub hll hq
    cases q
    · have HR : Hid (st.give l = ((l.map (spOf st.h)).foldl KS.give1 st, 0)) := Lib.hid (by unfold KS.give; rw [if_pos HL.out, if_neg (by rw [HQ.out]; simp)])
      have HPE := Lib.hid (HH.out.1.inv.pend HL.out HQ.out)
      obtain ⟨L, hLm⟩ : ∃ L, l.map (spOf st.h) = L := ⟨_, rfl⟩
      have hlen : l.length = L.length := by rw [← hLm]; simp
      rw [hLm] at HW HR HPE
      rw [hlen] at HCF ⊢
      clear hLm HASK HL HQ
      go_wp2_with fail
      refine HCF.out.mono ?_
      clear HCF
      rintro e w2 ⟨rfl, hB2⟩
      have HST : Hid (GiveWay w0 (fun i => N i ∨ (w.heap.size ≤ i ∧ i < w1.heap.size)) w1 k hb bi st L 0 w2) := Lib.hid ⟨HW.out.1.then_bel hB2, HPE.out, Fr.of_bel hB2⟩
      clear hB2
      go_wp2_with fail
      go_loopw [22] (fun kk wr => ∃ i : Nat, i ≤ L.length ∧ kk = .int .i64 i ∧ Hid (GiveWay w0 (fun i => N i ∨ (w.heap.size ≤ i ∧ i < w1.heap.size)) w1 k hb bi st L i wr)) (fun kk wr => L.length - (intOf kk).toNat)
      case atStart => exact ⟨0, Nat.zero_le _, rfl, HST⟩
      case round =>
        clear HST
        obtain ⟨i, hi, rfl, HX⟩ := hrel
        by_cases hlt : i < L.length
        · obtain ⟨b, o, rfl, p0, p1, p2, p3⟩ := (HW.out.2.1.watched HX.out.2.2 (fun p hp => .inr (HUB.out p hp))).at i hlt
          have hkc := HX.out.2.2.cell (blk_cell HW.out.2.2.1 0) (fun h => h (.inr ⟨Nat.le_refl _, hbB⟩))
          have htk : L.take (i + 1) = L.take i ++ [L[i]] := List.take_succ_eq_append_getElem hlt
          have hdr : L.drop i = L[i] :: L.drop (i + 1) := List.drop_eq_getElem_cons hlt
          obtain ⟨x, hx⟩ : ∃ x, L[i] = x := ⟨_, rfl⟩
          rw [hx] at p0 p1 p2 p3 htk hdr
          obtain ⟨x1, ⟨x2, x3⟩, x4⟩ := x
          dsimp only at p0 p1 p2 p3
          obtain ⟨st1, hst1⟩ : ∃ st1, (L.take i).foldl KS.give1 st = st1 := ⟨_, rfl⟩
          have hX := HX.out
          unfold GiveWay at hX
          have hlast : st1.h.last ≤ 65536 := by rw [← hst1, gives_last]; exact hsm
          rw [hst1, hdr] at hX
          have hbx := (Bel.refl wr).alloc (.cells #[.int .i64 x1, .int .i64 x2, .int .i64 x3, .int .i64 x4] 33)
          have gx := blk_alloc wr (.cells #[.int .i64 x1, .int .i64 x2, .int .i64 x3, .int .i64 x4] 33)
          have hkw : w.heap.size < wr.heap.size := Nat.lt_of_lt_of_le hbB hX.2.2.size
          have HG := Lib.hid (large_give (hX.1.then_bel hbx) x1 x2 x3 x4 hX.2.1.one hlast)
          obtain ⟨r0, r1, r2, r3⟩ := four_cells gx
          have HF := Lib.hid (And.intro hbx (And.intro htk (And.intro hst1 hX.2)))
          clear hx htk hdr hst1 hX hbx gx HX
          go_wp2_with fail
          refine HG.out.mono ?_
          clear HG
          rintro e w3 ⟨rfl, hP⟩
          have HN : Hid (GiveWay w0 (fun i => N i ∨ (w.heap.size ≤ i ∧ i < w1.heap.size)) w1 k hb bi st L (i + 1) w3) := Lib.hid (by
            unfold GiveWay
            rw [HF.out.2.1, List.foldl_append, HF.out.2.2.1]
            exact ⟨hP.1, HF.out.2.2.2.1.give1, (HF.out.2.2.2.2.then_bel HF.out.1).trans' hP.2⟩)
          clear hP r0 r1 r2 r3 p0 p1 p2 p3 hkc
          go_wp2
          go_roundw
          case rel => exact ⟨i + 1, by omega, by go_num, HN⟩
          case measure => simp [intOf]; omega
        · obtain rfl : i = L.length := by omega
          have HE : Hid (LivePostK w0 N w k hb bi (L.foldl KS.give1 st) wr) := Lib.hid (by
            have := HX.out
            unfold GiveWay at this
            rw [List.take_length] at this
            exact ⟨this.1.forget (fun i hi => .inl hi), (Fr.of_bel (S := fun j => ¬ N j) HW.out.2.2.2).trans' (this.2.2.mono (fun j hj hN => hj (.inl hN)))⟩)
          clear HX
          go_wp2
          go_ret
          exact ⟨by rw [HR.out]; rfl, by rw [HR.out]; exact HE.out⟩
    · have HR : Hid (st.give l = (st, 9)) := Lib.hid (by unfold KS.give; rw [if_pos HL.out, if_pos HQ.out])
      go_wp2_with fail
      refine HCF.out.mono ?_
      rintro e w2 ⟨rfl, hB2⟩
      have HB2 := Lib.hid (HW.out.2.2.2.trans hB2)
      go_wp2
      go_ret
      exact ⟨by rw [HR.out]; rfl, by rw [HR.out]; exact LivePostK.same HH.out.1 HB2.out⟩
  · have HR : Hid (st.give l = (st, 6)) := Lib.hid (by unfold KS.give; rw [if_neg hL])
    have HB2 := Lib.hid (HH.out.2.1.trans hB1)
    clear hL hB1
    go_wp2
    go_ret
    exact ⟨by rw [HR.out]; rfl, by rw [HR.out]; exact LivePostK.same HH.out.1 HB2.out⟩
end Go.Proofs.YtbldidlbhahciaaGreat

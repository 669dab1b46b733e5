/- Layer 8: Push. -/
import Derived.Test.YtnehccndghkakaaWChain3
import Derived.Test.YtnehccndghkakaaPChain2
import Derived.Test.YtnehccndghkakaaWSlI
import Derived.Test.YtnehccndghkakaaRef03
namespace Go.Proofs.Ytnehccndghkakaa
open Go.RowKit

/-- What an act on a chain leaves. -/
def CPost (w : World) (ba bw : Nat) (r : CR) (e : Ending) (w' : World) : Prop :=
  e = .returned (.tuple #[.agg #[.int .i64 r.hd, .int .i64 r.ln], .int .i64 r.e]) ∧ ArenaAt w' ba bw r.ws ∧ Fr (fun k => k = bw) w w'

theorem inW_inB (ws : List Int) (x : Int) : inB ws.length x 1 = inW ws x := by
  rw [Bool.eq_iff_iff, inB_iff, inW_iff]; omega

/-- Whether an address is not there, asked by Push's own function. -/
theorem push_asks (p : Value) (ws at_ : List Int) (b : Nat) (w : World) (hP : ArenaP w p ws) (hb : w.heap[b]? = some (.cells #[p] 25 (0, 0))) (hx : ∀ x ∈ at_, I64 x) :
    AsksI (fun w w' => w = w') 31 #[.pointer (some ⟨b, 0, none⟩)] (fun x => !inW ws x) at_ w := by
  rintro W rfl x hxm
  have hc : w.cell? ⟨b, 0, none⟩ = some p := blk_cell hb 0
  have HX := Lib.hid (inW_inB ws x)
  go_enter Try.func31, Try.ntmps31
  go_wp2_with fail
  refine (arena_In p ws x 1 w hP (hx x hxm) ⟨by omega, by omega⟩).mono ?_
  rintro e w' ⟨rfl, rfl⟩
  rw [HX.out]
  go_wp2
  go_ret
  exact ⟨rfl, rfl⟩
theorem push_enters : Enters 31 := enters_of Try.func31 (by kernel_rfl) rfl

/-- A struct of two cells, written whole, is read so. -/
theorem two_set {w : World} {R T : Nat} {x0 y0 : Value} (g : w.heap[R]? = some (.cells #[x0, y0] T (0, 0))) (x y : Value) :
    (w.setCell ⟨R, 0, none⟩ x).cell? ⟨R, 0, none⟩ = some x ∧ ((w.setCell ⟨R, 0, none⟩ x).setCell ⟨R, 1, none⟩ y).cell? ⟨R, 1, none⟩ = some y ∧
    ((w.setCell ⟨R, 0, none⟩ x).setCell ⟨R, 1, none⟩ y).heap[R]? = some (.cells #[x, y] T (0, 0)) := by
  have h1 := blk_setCell g 0 x
  have h2 := blk_setCell h1 1 y
  exact ⟨cell_set_same (blk_cell g 0) x, cell_set_same (x := y0) (by rw [blk_cell h1]; rfl) y, by simpa using h2⟩
theorem two_cells {w : World} {R T : Nat} {x0 y0 : Value} (g : w.heap[R]? = some (.cells #[x0, y0] T (0, 0))) :
    w.cell? ⟨R, 0, none⟩ = some x0 ∧ w.cell? ⟨R, 1, none⟩ = some y0 ∧ w.frozen? ⟨R, 0, none⟩ = false ∧ w.frozen? ⟨R, 1, none⟩ = false :=
  ⟨blk_cell g 0, blk_cell g 1, blk_frozen g 0, blk_frozen g 1⟩
/-- Push's boxes. -/
structure PBox (w wr : World) (p : Value) (hd ln : Int) : Prop where
  a : wr.heap[w.heap.size]? = some (.cells #[p] 25 (0, 0))
  c : wr.heap[w.heap.size + 1]? = some (.cells #[.int .i64 hd, .int .i64 ln] 37 (0, 0))
  r : wr.heap[w.heap.size + 1 + 1]? = some (.cells #[.int .i64 0, .int .i64 0] 37 (0, 0))
theorem PBox.bel {w wr w' : World} {p : Value} {hd ln : Int} (h : PBox w wr p hd ln) (k : Bel wr w') : PBox w w' p hd ln :=
  ⟨(Fr.of_bel (S := fun _ => False) k).heap h.a (fun h => h), (Fr.of_bel (S := fun _ => False) k).heap h.c (fun h => h), (Fr.of_bel (S := fun _ => False) k).heap h.r (fun h => h)⟩
theorem PBox.fr {w wr w' : World} {p : Value} {hd ln : Int} {bw : Nat} (h : PBox w wr p hd ln) (k : Fr (fun k => k = bw) wr w') (hb : bw < w.heap.size) : PBox w w' p hd ln :=
  ⟨k.heap h.a (by omega), k.heap h.c (by omega), k.heap h.r (by omega)⟩
theorem PBox.size {w wr : World} {p : Value} {hd ln : Int} (h : PBox w wr p hd ln) : w.heap.size + 3 ≤ wr.heap.size := by
  have := heap_lt h.r; omega
theorem PBox.start (w : World) (p : Value) (hd ln : Int) :
    PBox w (((w.alloc (.cells #[p] 25)).alloc (.cells #[.int .i64 hd, .int .i64 ln] 37)).alloc (.cells #[.int .i64 0, .int .i64 0] 37)) p hd ln := by
  refine ⟨blk_alloc_old _ (blk_alloc_old _ (blk_alloc _ _)), ?_, ?_⟩
  · have := blk_alloc_old (.cells #[.int .i64 0, .int .i64 0] 37) (blk_alloc (w.alloc (.cells #[p] 25)) (.cells #[.int .i64 hd, .int .i64 ln] 37))
    rwa [World.size_alloc] at this
  · have := blk_alloc ((w.alloc (.cells #[p] 25)).alloc (.cells #[.int .i64 hd, .int .i64 ln] 37)) (.cells #[.int .i64 0, .int .i64 0] 37)
    rwa [World.size_alloc, World.size_alloc] at this
/-- A struct of two written where it was new. -/
theorem fr_two {S : Nat → Prop} {w w1 : World} (h : Fr S w w1) {R : Nat} (hR : w.heap.size ≤ R) (x y : Value) : Fr S w ((w1.setCell ⟨R, 0, none⟩ x).setCell ⟨R, 1, none⟩ y) :=
  (h.setCell (.inr hR) _).setCell (.inr hR) _
theorem nodup_take {l at_ : List Int} (i : Nat) (h : (l ++ at_).Nodup) : (l ++ at_.take i).Nodup := h.sublist ((List.Sublist.refl l).append (List.take_sublist i at_))

theorem arena_two {w : World} {ba bw : Nat} {ws : List Int} (h : ArenaAt w ba bw ws) {R : Nat} (h1 : ba ≠ R) (h2 : bw ≠ R) (x y : Value) : ArenaAt ((w.setCell ⟨R, 0, none⟩ x).setCell ⟨R, 1, none⟩ y) ba bw ws :=
  h.fr (S := fun k => k = R) (Fr.setCell (p := ⟨R, 1, none⟩) (Fr.setCell (p := ⟨R, 0, none⟩) (Fr.refl (fun k => k = R) w) (.inl rfl) x) (.inl rfl) y) h1 h2

theorem PBox.turn {w wr : World} {p : Value} {hd ln : Int} (h : PBox w wr p hd ln) (hd' ln' : Int) :
    PBox w ((wr.setCell ⟨w.heap.size + 1, 0, none⟩ (.int .i64 hd')).setCell ⟨w.heap.size + 1, 1, none⟩ (.int .i64 ln')) p hd' ln' := by
  refine ⟨?_, (two_set h.c _ _).2.2, ?_⟩
  · exact blk_setCell_other (blk_setCell_other h.a (show w.heap.size ≠ w.heap.size + 1 by omega) _) (show w.heap.size ≠ w.heap.size + 1 by omega) _
  · exact blk_setCell_other (blk_setCell_other h.r (show w.heap.size + 1 + 1 ≠ w.heap.size + 1 by omega) _) (show w.heap.size + 1 + 1 ≠ w.heap.size + 1 by omega) _
theorem stW_one {W : List Int} {x h : Int} (h0 : 0 ≤ x) (h1 : x < W.length) : stW W x [h] = setW W x h := by
  have hi : inB W.length x (([h] : List Int).length) = true := inB_iff.2 ⟨by simp, h0, by omega, by simp; omega⟩
  unfold stW putW
  rw [hi]
  exact splice_one (by omega)

set_option maxHeartbeats 2000000 in
set_option maxRecDepth 20000 in
theorem chain_Push (ba bw : Nat) (ws : List Int) (hd ln : Int) (a : Option Addr) (at_ : List Int) (c : Nat) (w : World) (hA : ArenaAt w ba bw ws) (hhd : I64 hd) (hhl : I64 ln) (hl : at_.length ≤ 65536)
    (hx : ∀ x ∈ at_, I64 x) (hrd : RdV w a (ints at_)) (hab : at_ ≠ [] → ∀ p, a = some p → p.block ≠ bw) :
    Calls Try.prog 13 #[.pointer (some ⟨ba, 0, none⟩), .agg #[.int .i64 hd, .int .i64 ln], .slice a at_.length c] w (CPost w ba bw (pushF ws hd ln at_)) := by
  have hP : ArenaP w (.pointer (some ⟨ba, 0, none⟩)) ws := .inr ⟨ba, bw, rfl, hA⟩
  have hbw := heap_lt hA.words
  have hba := heap_lt hA.hd
  have hsmall := hA.small
  have hG0 := PBox.start w (.pointer (some ⟨ba, 0, none⟩)) hd ln
  have hB0 : Bel w (((w.alloc (.cells #[.pointer (some ⟨ba, 0, none⟩)] 25)).alloc (.cells #[.int .i64 hd, .int .i64 ln] 37)).alloc (.cells #[.int .i64 0, .int .i64 0] 37)) :=
    (((Bel.refl _).alloc _).alloc _).alloc _
  obtain ⟨W0, hW0⟩ : ∃ W0, ((w.alloc (.cells #[.pointer (some ⟨ba, 0, none⟩)] 25)).alloc (.cells #[.int .i64 hd, .int .i64 ln] 37)).alloc (.cells #[.int .i64 0, .int .i64 0] 37) = W0 := ⟨_, rfl⟩
  rw [hW0] at hB0 hG0
  have hs0 := hG0.size
  have HW0 := Lib.hid hW0
  have HP := Lib.hid (hP.bel hB0)
  have HA := Lib.hid hA
  have HB := Lib.hid hB0
  have HG := Lib.hid hG0
  have HRD := Lib.hid hrd
  clear hW0 hP hA hB0 hG0 hrd
  rcases chL_or ws hd ln with ⟨l, hr, hch⟩ | ⟨hbad, hch⟩
  · have hll := hr.small
    have hhead := isCh_head hr.ch
    have hlen := hr.len
    have HR := Lib.hid hr
    have hml : at_.length ≤ maxLen := by unfold maxLen; omega
    clear hr hch
    go_enter Try.func13, Try.ntmps13
    go_wp2_with fail
    rw [HW0.out]
    refine (chain_List_ok _ ws hd ln l _ HP.out HR.out).mono ?_
    rintro e w1 ⟨v, rfl, hN, hB1⟩
    have hs1 := hB1.size
    have g := HG.out.bel hB1
    obtain ⟨q0, q1, q2, q3⟩ := two_cells g.c
    obtain ⟨t0, t1, t2, t3⟩ := two_cells g.r
    have qa : w1.cell? ⟨w.heap.size, 0, none⟩ = some (.pointer (some ⟨ba, 0, none⟩)) := blk_cell g.a 0
    have HN := Lib.hid hN
    clear hN
    go_wp2_with fail
    refine (containsFunc_int quiet_eq _ push_enters _ (fun x => !inW ws x) a at_ _ c w1 rfl hml (HRD.out.bel (HB.out.trans hB1)) (push_asks _ ws at_ w.heap.size w1 (HP.out.bel hB1) g.a hx)).mono ?_
    rintro e w2 ⟨rfl, rfl⟩
    cases hany : at_.any (fun x => !inW ws x)
    · have hin := not_any_inW hany
      have HANY := Lib.hid hany
      have HIN := Lib.hid hin
      clear hany hin
      go_wp2_with fail
      go_loopw [8, 30] (fun v k wr => ∃ i : Nat, i ≤ at_.length ∧ k = .int .i64 i ∧ NewI64 W0.heap.size (l ++ at_.take i) v wr ∧ (l ++ at_.take i).Nodup ∧ Bel W0 wr) (fun v k wr => at_.length - (intOf k).toNat)
      case atStart => exact ⟨0, Nat.zero_le _, rfl, by simpa using HN.out, by simpa using HR.out.nd, hB1⟩
      case round =>
        clear q0 q1 q2 q3 t0 t1 t2 t3 qa HN
        obtain ⟨i, hi, rfl, hN1, hnd, hB2⟩ := hrel
        have hs2 := hB2.size
        have g2 := HG.out.bel hB2
        obtain ⟨q0, q1, q2, q3⟩ := two_cells g2.c
        obtain ⟨t0, t1, t2, t3⟩ := two_cells g2.r
        by_cases hlt : i < at_.length
        · obtain ⟨b, o', rfl, hc⟩ := (HRD.out.bel (HB.out.trans hB2)).at (f := fun x => .int .i64 x) (xs := at_) i hlt
          obtain ⟨o, ho⟩ : ∃ o, l ++ at_.take i = o := ⟨_, rfl⟩
          have hol : o.length ≤ l.length + at_.length := by rw [← ho, List.length_append, List.length_take]; omega
          rw [ho] at hN1 hnd
          obtain ⟨a1, c1, rfl, hr1, hc1⟩ := own_slice hN1
          have hom : o.length ≤ maxLen := by unfold maxLen; omega
          have HO := Lib.hid ho
          have H1 := Lib.hid (And.intro hN1 (And.intro hnd hr1))
          obtain ⟨x, hxx⟩ : ∃ x, at_[i] = x := ⟨_, rfl⟩
          rw [hxx] at hc
          have HXX := Lib.hid hxx
          clear hN1 hnd hr1 ho hxx
          go_wp2_with fail
          refine (contains_int a1 o x _ c1 wr rfl hom H1.out.2.2).mono ?_
          rintro e w3 ⟨rfl, rfl⟩
          by_cases hm : x ∈ o
          · rw [decide_eq_true hm]
            have HF := Lib.hid (pushF_twice HR.out HANY.out (fun h => by
              have := nodup_take (i + 1) h
              rw [List.take_succ_eq_append_getElem hlt, ← List.append_assoc, HO.out, HXX.out] at this
              exact (List.nodup_append.1 this).2.2 x hm x (by simp) rfl))
            clear hm
            go_wp2
            obtain ⟨r0, r1, r2⟩ := two_set g2.r (.int .i64 hd) (.int .i64 ln)
            refine bodyPost_ret (v := .tuple #[.agg #[.int .i64 hd, .int .i64 ln], .int .i64 1]) (by simp [results, Try.results13, go_sem, r0, r1]) rfl ?_
            rw [HF.out]
            refine ⟨rfl, arena_two (HA.out.bel (HB.out.trans hB2)) (by omega) (by omega) _ _, fr_two (Fr.of_bel (HB.out.trans hB2)) (by omega) _ _⟩
          · rw [decide_eq_false hm]
            have HM := Lib.hid hm
            clear hm
            obtain ⟨i0, hi0, hz, hs, hby⟩ := info_parts info_int
            go_wp2_with (at_builtin; refine wpList_append_own _ rfl _ _ 33 rfl W0.heap.size 3 i0 (.int .i64 0) 1 8 Try.underlying33 hi0 hz hs hby rfl (by decide) _ _ _ rfl (H1.out.1.alloc _) ⟨wr.heap.size, 0, none⟩ 1 1 [.int .i64 x] rfl rfl ?d2 ?d3 ?d4 ?d5 ?d6 ?_)
            case d2 => exact cell_one_new _ _ _
            case d3 => simp [Value.oneCell']
            case d4 => unfold maxLen; omega
            case d5 => omega
            case d6 => first | omega | (simp; omega)
            intro v' w4 hown2 hgrow hnil
            have hF4 := own_grown (b := w.heap.size) H1.out.1 ((Bel.refl wr).alloc _) hgrow hs2 (by omega)
            have hB4 : Bel W0 w4 := Fr.bel ((Fr.of_bel (S := fun k => W0.heap.size ≤ k) hB2).trans hF4 (fun _ h => .inl h)) (fun k e => e)
            have hlist : o ++ [x] = l ++ at_.take (i + 1) := by
              rw [List.take_succ_eq_append_getElem hlt, ← List.append_assoc, HO.out, HXX.out]
            go_wp2
            go_roundw
            case rel =>
              refine ⟨i + 1, by omega, by go_num, ?_, ?_, hB4⟩
              · rw [← hlist]
                unfold NewI64
                rw [List.length_append]
                simpa [ints] using hown2
              · rw [← hlist, List.nodup_append]
                refine ⟨H1.out.2.1, by simp, fun y hy z hz e => ?_⟩
                simp at hz
                exact HM.out (by rw [← hz, ← e]; exact hy)
            case measure => simp [intOf]; omega
        · have hlast : i = at_.length := by omega
          subst hlast
          rw [List.take_length] at hnd hN1
          have HF := Lib.hid (pushF_ok HR.out HANY.out hnd)
          have HA2 := Lib.hid (HA.out.bel (HB.out.trans hB2))
          have HG2 := Lib.hid g2
          have HFr := Lib.hid (Fr.of_bel (S := fun k => k = bw) (HB.out.trans hB2))
          clear hN1 hnd g2 hB2
          go_wp2_with fail
          clear q0 q1 q2 q3 t0 t1 t2 t3
          go_loopw [45] (fun k wr2 => ∃ i : Nat, i ≤ at_.length ∧ k = .int .i64 i ∧ ArenaAt wr2 ba bw (pushW ws hd (at_.take i)).1 ∧ PBox w wr2 (.pointer (some ⟨ba, 0, none⟩)) (pushW ws hd (at_.take i)).2 (ln + i) ∧ Fr (fun k => k = bw) w wr2) (fun k wr2 => at_.length - (intOf k).toNat)
          case atStart => exact ⟨0, Nat.zero_le _, rfl, by simpa [pushW] using HA2.out, by simpa [pushW] using HG2.out, HFr.out⟩
          case round =>
            obtain ⟨i, hi, rfl, hA3, hG3, hFr3⟩ := hrel
            obtain ⟨q0, q1, q2, q3⟩ := two_cells hG3.c
            obtain ⟨t0, t1, t2, t3⟩ := two_cells hG3.r
            have qa : wr.cell? ⟨w.heap.size, 0, none⟩ = some (.pointer (some ⟨ba, 0, none⟩)) := blk_cell hG3.a 0
            by_cases hlt : i < at_.length
            · obtain ⟨b, o', rfl, hc⟩ := (HRD.out.fr hFr3 (hab (fun h => by rw [h] at hlt; simp at hlt))).at (f := fun x => .int .i64 x) (xs := at_) i hlt
              have hh := pushW_head hhead (at_.take i) (fun y hy => HIN.out y (List.mem_of_mem_take hy))
              have hxr := HIN.out at_[i] (List.getElem_mem _)
              have hxi := hx at_[i] (List.getElem_mem _)
              have hstep := pushW_step (ws := ws) (hd := hd) at_ i hlt
              have hWl : (pushW ws hd (at_.take i)).1.length = ws.length := pushW_length _ _ _
              generalize at_[i] = x at hc hxr hxi hstep
              generalize (pushW ws hd (at_.take i)).1 = W at hA3 hstep hWl
              generalize (pushW ws hd (at_.take i)).2 = h at hG3 q0 hh hstep
              have hst : stW W x [h] = setW W x h := stW_one hxr.1 (by omega)
              have hnew := RdV.new wr #[.int .u64 h] 30
              have HH := Lib.hid (And.intro hA3 (And.intro hG3 (And.intro hFr3 (And.intro hst hnew))))
              have HST := Lib.hid hstep
              obtain ⟨hh0, hh1⟩ := hh
              obtain ⟨hx0, hx1⟩ := hxr
              have hsz := hG3.size
              clear hA3 hG3 hFr3 hst hstep hnew
              go_wp2_with fail
              refine (arena_Store ba bw W [h] x (some ⟨wr.heap.size, 0, none⟩) 1 1 _ (HH.out.1.bel ((Bel.refl _).alloc _)) hxi rfl (by simp [maxLen]) HH.out.2.2.2.2 (by intro y hy; simp at hy; omega)).mono ?_
              rintro e w3 ⟨rfl, hA4, hF4⟩
              rw [HH.out.2.2.2.1] at hA4
              have g3 := (HH.out.2.1.bel ((Bel.refl wr).alloc (.cells #[.int .u64 h] 30))).fr hF4 hbw
              have hFr4 := (HH.out.2.2.1.then_bel ((Bel.refl wr).alloc (.cells #[.int .u64 h] 30))).trans' hF4
              clear q0 q1 q2 q3 t0 t1 t2 t3 qa
              obtain ⟨q0, q1, q2, q3⟩ := two_cells g3.c
              have HG4 := Lib.hid (And.intro hA4 (And.intro g3 hFr4))
              clear hA4 hF4 g3 hFr4
              go_wp2
              go_roundw
              case rel =>
                refine ⟨i + 1, by omega, by go_num, ?_, ?_, ?_⟩
                · rw [HST.out]
                  exact arena_two HG4.out.1 (by omega) (by omega) _ _
                · rw [HST.out]
                  have := HG4.out.2.1.turn (x + 1) (ln + i + 1)
                  rw [show ln + ((i + 1 : Nat) : Int) = ln + (i : Int) + 1 by omega]
                  exact this
                · exact fr_two HG4.out.2.2 (by omega) _ _
              case measure => simp [intOf]; omega
            · have hlast : i = at_.length := by omega
              subst hlast
              rw [List.take_length] at hA3 hG3 q0
              have HH := Lib.hid (And.intro hA3 (And.intro hG3 hFr3))
              have hsz := hG3.size
              obtain ⟨h, hh⟩ : ∃ h, (pushW ws hd at_).2 = h := ⟨_, rfl⟩
              rw [hh] at q0
              have HHH := Lib.hid hh
              clear hA3 hG3 hFr3 hh
              go_wp2
              obtain ⟨r0, r1, r2⟩ := two_set HH.out.2.1.r (.int .i64 h) (.int .i64 (ln + at_.length))
              refine bodyPost_ret (v := .tuple #[.agg #[.int .i64 h, .int .i64 (ln + at_.length)], .int .i64 0]) (by simp [results, Try.results13, go_sem, r0, r1]) rfl ?_
              rw [HF.out]
              refine ⟨by rw [HHH.out], arena_two HH.out.1 (by omega) (by omega) _ _, fr_two HH.out.2.2 (by omega) _ _⟩
    · have HF := Lib.hid (pushF_range HR.out hany)
      clear hany
      go_wp2
      obtain ⟨r0, r1, r2⟩ := two_set g.r (.int .i64 hd) (.int .i64 ln)
      refine bodyPost_ret (v := .tuple #[.agg #[.int .i64 hd, .int .i64 ln], .int .i64 2]) (by simp [results, Try.results13, go_sem, r0, r1]) rfl ?_
      rw [HF.out]
      refine ⟨rfl, arena_two (HA.out.bel (HB.out.trans hB1)) (by omega) (by omega) _ _, fr_two (Fr.of_bel (HB.out.trans hB1)) (by omega) _ _⟩
  · have HF := Lib.hid (pushF_bad at_ hbad)
    go_enter Try.func13, Try.ntmps13
    go_wp2_with fail
    rw [HW0.out]
    refine (chain_List_bad _ ws hd ln _ HP.out hhd hhl hbad).mono ?_
    rintro e w1 ⟨rfl, hB1⟩
    have hs1 := hB1.size
    have g := HG.out.bel hB1
    obtain ⟨q0, q1, q2, q3⟩ := two_cells g.c
    obtain ⟨t0, t1, t2, t3⟩ := two_cells g.r
    go_wp2
    obtain ⟨r0, r1, r2⟩ := two_set g.r (.int .i64 hd) (.int .i64 ln)
    refine bodyPost_ret (v := .tuple #[.agg #[.int .i64 hd, .int .i64 ln], .int .i64 9]) (by simp [results, Try.results13, go_sem, r0, r1]) rfl ?_
    rw [HF.out]
    refine ⟨rfl, arena_two (HA.out.bel (HB.out.trans hB1)) (by omega) (by omega) _ _, fr_two (Fr.of_bel (HB.out.trans hB1)) (by omega) _ _⟩
end Go.Proofs.Ytnehccndghkakaa

/- Package runs: joined. -/
import Derived.Test.YthkbhikiljlgoaaWRuns4
import Derived.Shelf.SlSortCmp.NoneTotal
namespace Go.Proofs.Ythkbhikiljlgoaa
open Go.RowKit Go.Shelf Go.Sort Go.Lib

/-- What joined answers to the runs of both. -/
def JoinPost (w : World) (b : Nat) (L l : List Rn) (e : Ending) (w' : World) : Prop :=
  (((L ++ l).Pairwise Apart ∧ ∃ v, e = .returned (.tuple #[v, .bool true]) ∧ w'.ownsRow w.heap.size 33 2 v (addF L l).length (cellsOf (addF L l))) ∨ (¬ (L ++ l).Pairwise Apart ∧ e = .returned (.tuple #[.slice none 0 0, .bool false]))) ∧ Fr (fun k => k = b) w w'
theorem bel_app2 {base : Nat} {w w1 w2 : World} {e size n : Nat} {v : Value} {xs : List Value} (hown : w1.ownsRow base e size v n xs) (hB : Below base w w1) (hg : w1.grownBy w2 v.ownBlock) (hb : base ≤ w1.heap.size) : Below base w w2 := by
  refine Below.grown hB hg hb (fun k hk => ?_)
  rcases hown.2 with ⟨h1, _⟩ | ⟨g, cap, cur, h1, h2, _⟩
  · rw [h1] at hk; simp [Value.ownBlock] at hk
  · rw [h1] at hk; simp [Value.ownBlock] at hk; omega
/-- How far it has come. -/
structure JoinAt (base : Nat) (w1 : World) (zs O : List Rn) (i : Nat) (v : Value) (wr : World) : Prop where
  eq : joinF [] zs = joinF O (zs.drop i)
  ok : Okr 1024 O
  len : O.length ≤ i
  own : wr.ownsRow base 33 2 v O.length (cellsOf O)
  bel : Below base w1 wr
theorem JoinAt.alloc {base : Nat} {w1 wr : World} {zs O : List Rn} {i : Nat} {v : Value} (h : JoinAt base w1 zs O i v wr) (hb : base ≤ wr.heap.size) (o : Obj) : JoinAt base w1 zs O i v (wr.alloc o) :=
  ⟨h.eq, h.ok, h.len, h.own.alloc o, h.bel.alloc hb o⟩
theorem JoinAt.drew {base : Nat} {w1 wr : World} {zs O : List Rn} {i : Nat} {v : Value} (h : JoinAt base w1 zs O i v wr) : JoinAt base w1 zs O i v wr.drew :=
  ⟨h.eq, h.ok, h.len, h.own.drew, h.bel.drew⟩
theorem Fr.then_below {S : Nat → Prop} {w w1 w2 : World} (h : Fr S w w1) (k : Below w.heap.size w1 w2) : Fr S w w2 :=
  ⟨k.os.trans h.os, k.tape.trans h.tape, k.output.trans h.output, Nat.le_trans h.size k.size, fun i hi hn => (k.block i hi).trans (h.block i hi hn)⟩
theorem runsIn_below {base : Nat} {w w' : World} {a : Option Addr} {rs : List Rn} (h : RunsIn w a rs) (k : Below base w w') (hb : ∀ p, a = some p → p.block < base) : RunsIn w' a rs := by
  rcases h with h | ⟨b, o, e, h⟩
  · exact .inl h
  · have := hb _ e
    exact .inr ⟨b, o, e, fun i hi => ⟨(k.cell (p := ⟨b, o + i * 2, none⟩) this).trans (h i hi).1, (k.cell (p := ⟨b, o + i * 2 + 1, none⟩) this).trans (h i hi).2⟩⟩

set_option maxHeartbeats 4000000 in
set_option maxRecDepth 20000 in
theorem runs_joined (b cap : Nat) (L l : List Rn) (w : World) (hL : Canon 1024 L) (hl : AllThere 1024 l) (hl1 : l.length ≤ 1024) (hne : l ≠ []) (base : Nat) (h : w.ownsRow base 33 2 (.slice (some ⟨b, 0, none⟩) (L ++ l).length cap) (L ++ l).length (cellsOf (L ++ l))) :
    Calls Try.prog 36 #[.slice (some ⟨b, 0, none⟩) (L ++ l).length cap] w (JoinPost w b L l) := by
  have hLl : L.length ≤ 1024 := hL.len (q := 1024)
  have hok : Okr 1024 (L ++ l) := by
    intro r hr
    rcases List.mem_append.1 hr with hr | hr
    · exact hL.ok r hr
    · have := there_iff.1 (hl r hr); omega
  obtain ⟨zs, hzs⟩ : ∃ zs, L ++ l = zs := ⟨_, rfl⟩
  have hzl : zs.length ≤ 2048 := by rw [← hzs, List.length_append]; omega
  rw [hzs] at h hok ⊢
  obtain ⟨cu, hg1, hsz, htk⟩ : ∃ cu : Array Value, w.heap[b]? = some (.cells cu 33 (0, 0)) ∧ zs.length ≤ cap ∧ cu.toList.take (zs.length * 2) = cellsOf zs := by
    rcases h.2 with ⟨h1, _⟩ | ⟨g, cap', cur, h1, h2, h3, h4, h5, h6, h7⟩
    · simp at h1
    · simp at h1; obtain ⟨rfl, rfl⟩ := h1
      exact ⟨cur, h3, h4, h7⟩
  have hcell : ∀ t, t < zs.length * 2 → w.cell? ⟨b, t, none⟩ = (cellsOf zs)[t]? := fun t ht => by
    rw [blk_cell hg1, ← htk, List.getElem?_take, if_pos ht]
    simp
  have hbw := heap_lt hg1
  have hcon := sort_runs ltS 53 byStart_enters b cap zs w (fun x hx => by have := hok x hx; omega) (by omega) byStart_cmp (fun i hi => ⟨by rw [hcell _ (by omega)]; exact (cellsOf_get zs i hi).1, by rw [hcell _ (by omega)]; exact (cellsOf_get zs i hi).2⟩) (fun i => blk_frozen hg1 i) hbw
  have HC := Lib.hid hcon
  have HOK := Lib.hid hok
  have HJ : Hid (∀ zs', SortedRuns zs zs' → (joinF [] zs' = some (addF L l) ∧ (L ++ l).Pairwise Apart) ∨ (joinF [] zs' = none ∧ ¬ (L ++ l).Pairwise Apart)) := Lib.hid (fun zs' hs => join_add hL hl (by rw [hzs]; exact hs.1) hs.2)
  clear hcon h hcell htk hg1 hsz hok hL hl hzs
  go_enter Try.func36, Try.ntmps36
  go_wp2_with fail
  refine HC.out.mono ?_
  rintro e w1 ⟨rfl, zs', hs, hr, hF⟩
  have hl' : zs'.length = zs.length := hs.1.length_eq
  have hJ := HJ.out zs' hs
  have HOK' : Hid (Okr 1024 zs') := Lib.hid (fun r hr => HOK.out r (hs.1.mem_iff.1 hr))
  have HR := Lib.hid (RunsIn.of_row hr)
  have HF := Lib.hid hF
  have HJ' := Lib.hid hJ
  have hsw := hF.size
  have hzl' : zs'.length ≤ 2048 := by omega
  rw [← hl']
  clear HC HJ HOK hs hr hF hJ hl' hzl hl1 hne hLl
  go_wp2_with fail
  go_loopw [4, 13] (fun v k wr => ∃ i : Nat, i ≤ zs'.length ∧ k = .int .i64 i ∧ Hid (∃ O, JoinAt w.heap.size w1 zs' O i v wr)) (fun _ k _ => zs'.length - (intOf k).toNat)
  case atStart => exact ⟨0, Nat.zero_le _, rfl, Lib.hid ⟨[], rfl, fun r hr => by simp at hr, Nat.le_refl _, World.ownsRow_nil _ _ _ _, Below.refl _ _⟩⟩
  case round =>
    obtain ⟨i, hi, rfl, HH⟩ := hrel
    obtain ⟨O, HO⟩ := HH.out
    have HO := Lib.hid HO
    clear HH
    have hwr := HO.out.bel.size
    obtain ⟨av, cv, rfl, hrv, _⟩ := own_slice HO.out.own
    by_cases hlt : i < zs'.length
    · obtain ⟨_, _, e9, p0, p1⟩ := (runsIn_below HR.out HO.out.bel (by rintro p ⟨⟩; exact hbw)).at i hlt
      cases e9
      have hdrop : zs'.drop i = zs'[i] :: zs'.drop (i + 1) := List.drop_eq_getElem_cons hlt
      have hxo := HOK'.out _ (List.getElem_mem hlt)
      obtain ⟨x, hx⟩ : ∃ x, zs'[i] = x := ⟨_, rfl⟩
      rw [hx] at p0 p1 hdrop hxo
      obtain ⟨x1, x2⟩ := x
      dsimp only at p0 p1 hxo
      simp only [Nat.zero_add] at p0 p1
      obtain ⟨x0, x0', x0''⟩ := hxo
      have hol := HO.out.len
      clear hx
      rcases List.eq_nil_or_concat O with rfl | ⟨O', y, rfl⟩
      · have HEQ : Hid (joinF [] zs' = joinF [(x1, x2)] (zs'.drop (i + 1))) := Lib.hid (by rw [HO.out.eq, hdrop]; rfl)
        clear hdrop hrv
        go_wp2_with (at_builtin; refine wpList_append_runs rfl _ _ rfl w.heap.size _ [] rfl ((HO.out.own.alloc _).alloc _) _ _ [(x1, x2)] rfl ?d1 ?d2 ?d3 ?d4 ?_)
        case d1 => exact RunsIn.of_row (RdV.newAt _ #[.int .i64 x1, .int .i64 x2] 33 _ (by simp))
        case d2 => rintro ⟨⟩
        case d3 => simp
        case d4 => simp; omega
        intro v' w4 hown4 hgrow
        have hbx := (HO.out.own.alloc (.cells #[.int .i64 x1, .int .i64 x2] 33)).alloc (.cells #[.int .i64 x1, .int .i64 x2] 33)
        have hB4 : Below w.heap.size w1 w4 := bel_app2 hbx ((HO.out.bel.alloc (by omega) _).alloc (by simp; omega) _) hgrow (by simp; omega)
        have HN : Hid (JoinAt w.heap.size w1 zs' [(x1, x2)] (i + 1) v' w4) := Lib.hid ⟨HEQ.out, by intro r hr; simp at hr; subst hr; exact ⟨x0, x0', x0''⟩, by simp, hown4, hB4⟩
        clear hown4 hgrow hB4 hbx
        go_wp2
        go_roundw
        case rel => exact ⟨i + 1, by omega, by go_num, Lib.hid ⟨_, HN.out⟩⟩
        case measure => simp [intOf]; omega
      · rw [List.concat_eq_append] at HO hol hrv ⊢
        obtain ⟨y1, y2⟩ := y
        have hyo := HO.out.ok (y1, y2) (by simp)
        have hown := HO.out.own
        have hll : (O' ++ [(y1, y2)]).length = O'.length + 1 := by simp
        rw [hll] at hown hol
        dsimp only at hyo
        obtain ⟨y0, y0', y0''⟩ := hyo
        obtain ⟨g, cap9, e9, hg, hcap, hcell, hfz, hset⟩ := own_set hown (t := O'.length * 2 + 1) (by omega)
        cases e9
        have hlast := cellsOf_last O' y1 y2
        rw [(hlast 0).2] at hcell
        obtain ⟨_, _, e9, _, _, hcell0, _, _⟩ := own_set hown (t := O'.length * 2) (by omega)
        cases e9
        have hc0 := (cellsOf_get (O' ++ [(y1, y2)]) O'.length (by simp)).1
        rw [List.getElem_append_right (Nat.le_refl _)] at hc0
        simp only [Nat.sub_self, List.getElem_cons_zero] at hc0
        rw [hc0] at hcell0
        have hgl : g < wr.heap.size := World.block_lt_of_cell? wr _ hcell0
        have c4 : IntKind.i64.wrap (y1 + y2) = y1 + y2 := IntWalk.i64_in _ (by omega)
        have c5 : (O'.length : Int) ≤ 4096 := by omega
        have HSET := Lib.hid hset
        have HOW2 : Hid (wr.ownsRow w.heap.size 33 2 (.slice (some ⟨g, 0, none⟩) (O'.length + 1) cv) (O' ++ [(y1, y2)]).length (cellsOf (O' ++ [(y1, y2)]))) := Lib.hid (by rw [hll]; exact hown)
        have HLAST := Lib.hid hlast
        have HDROP := Lib.hid hdrop
        have hOl : O'.length + 1 ≤ 65535 := by omega
        clear hset hlast hrv hown hc0 hdrop
        by_cases d1 : y1 + y2 > x1
        · have HNO : Hid (joinF [] zs' = none) := Lib.hid (by rw [HO.out.eq, HDROP.out, joinF_clash d1])
          go_wp2_with fail
          go_region
          go_wp2
          go_ret2
          rcases HJ'.out with ⟨h1, _⟩ | ⟨_, h1⟩
          · rw [HNO.out] at h1; cases h1
          · exact ⟨.inr ⟨h1, rfl⟩, HF.out.then_below (HO.out.bel.alloc (by omega) _).drew⟩
        by_cases d2 : y1 + y2 = x1
        · have HEQ : Hid (joinF [] zs' = joinF (O' ++ [(y1, y2 + x2)]) (zs'.drop (i + 1))) := Lib.hid (by rw [HO.out.eq, HDROP.out, joinF_touch d2])
          have c6 : IntKind.i64.wrap (y2 + x2) = y2 + x2 := IntWalk.i64_in _ (by omega)
          have HN : Hid (JoinAt w.heap.size w1 zs' (O' ++ [(y1, y2 + x2)]) (i + 1) (.slice (some ⟨g, 0, none⟩) (O'.length + 1) cv) (wr.setCell ⟨g, O'.length * 2 + 1, none⟩ (.int .i64 (y2 + x2)))) := Lib.hid ⟨HEQ.out, by
              intro r hr
              rcases List.mem_append.1 hr with hr | hr
              · exact HO.out.ok r (by simp [hr])
              · simp at hr; subst hr; dsimp only; omega, by simp; omega, by
              have h9 := HSET.out (.int .i64 (y2 + x2))
              rw [(HLAST.out (y2 + x2)).1] at h9
              simpa using h9, Below.setCell HO.out.bel hg _⟩
          have hgne : g ≠ wr.heap.size := by omega
          go_wp2_with fail
          go_region
          go_wp2_with fail
          go_region
          go_wp2
          go_roundw
          case rel => exact ⟨i + 1, by omega, by go_num, Lib.hid ⟨_, ((HN.out.alloc (by have := HN.out.bel.size; omega) _).drew).drew⟩⟩
          case measure => simp [intOf]; omega
        · have HEQ : Hid (joinF [] zs' = joinF (O' ++ [(y1, y2)] ++ [(x1, x2)]) (zs'.drop (i + 1))) := Lib.hid (by rw [HO.out.eq, HDROP.out, joinF_apart (by show y1 + y2 < x1; omega)])
          have d3 : ¬ y1 + y2 = x1 := d2
          go_wp2_with fail
          go_region
          go_wp2_with (at_builtin; refine wpList_append_runs rfl _ _ rfl w.heap.size _ (O' ++ [(y1, y2)]) rfl (((HOW2.out.alloc _).drew).alloc _) _ _ [(x1, x2)] rfl ?d1 ?d2 ?d3 ?d4 ?_)
          case d1 => exact RunsIn.of_row (RdV.newAt _ #[.int .i64 x1, .int .i64 x2] 33 _ (by simp))
          case d2 => rintro ⟨⟩
          case d3 => simp; omega
          case d4 => simp; omega
          intro v' w4 hown4 hgrow
          have hbx := ((HOW2.out.alloc (.cells #[.int .i64 x1, .int .i64 x2] 33)).alloc (.cells #[.int .i64 x1, .int .i64 x2] 33)).drew
          have hB4 : Below w.heap.size w1 w4 := bel_app2 hbx (((HO.out.bel.alloc (by omega) _).alloc (by simp; omega) _).drew) hgrow (by simp; omega)
          have HN : Hid (JoinAt w.heap.size w1 zs' (O' ++ [(y1, y2)] ++ [(x1, x2)]) (i + 1) v' w4) := Lib.hid ⟨HEQ.out, by
              intro r hr
              rcases List.mem_append.1 hr with hr | hr
              · exact HO.out.ok r hr
              · simp at hr; subst hr; exact ⟨x0, x0', x0''⟩, by simp; omega, by simpa using hown4, hB4⟩
          clear hown4 hgrow hB4 hbx
          go_wp2
          go_roundw
          case rel => exact ⟨i + 1, by omega, by go_num, Lib.hid ⟨_, HN.out⟩⟩
          case measure => simp [intOf]; omega
    · obtain rfl : i = zs'.length := by omega
      have HEQ : Hid (joinF [] zs' = some O) := Lib.hid (by rw [HO.out.eq, List.drop_length]; cases O <;> rfl)
      clear hrv
      go_wp2
      go_ret2
      rcases HJ'.out with ⟨h1, h2⟩ | ⟨h1, _⟩
      · rw [HEQ.out] at h1
        obtain rfl := Option.some.inj h1
        exact ⟨.inl ⟨h2, _, rfl, HO.out.own⟩, HF.out.then_below HO.out.bel⟩
      · rw [HEQ.out] at h1; cases h1
end Go.Proofs.Ythkbhikiljlgoaa

/- Layer 7: when all spans are freed, all pages are one free run. -/
import Derived.Test.YthkbhikiljlgoaaLaw07K
import Derived.OwnWalk
namespace Go.Proofs.Ythkbhikiljlgoaa
open Go.ChangeShapes Go.WideShapes Go.ChangeAt Go.RowKit Go.Deep

/-- No spans: all pages are one run. -/
theorem HInv.empty {ids : List Int} {L : List Rn} {last : Nat} (h : HInv ids L [] last) : L = [(0, (ids.length : Int))] := by
  have hlo := h.lo
  have hhi := h.hi
  refine canon_unique (q := 1024) L _ h.canon (HInv.start hlo hhi).canon (fun p => ?_)
  rw [h.free, inL_one]
  constructor
  · rintro ⟨a, b, _⟩; omega
  · rintro ⟨a, b⟩
    refine ⟨a, by omega, Classical.byContradiction fun hne => ?_⟩
    obtain ⟨s, hs, _⟩ := h.all p a (by omega) hne
    simp at hs
theorem FreeR.len {ids ids' : List Int} {L L' : List Rn} {S S' : List Sp} {last : Nat} {l : List Int} {en : Int} (h : FreeR ids L S last l en L' ids' S') : ids'.length = ids.length := by
  rcases h with ⟨_, _, h, _⟩ | ⟨_, _, _, h, _⟩
  · exact h.len
  · rw [h]
theorem MakeR.len {ids ids' : List Int} {L L' : List Rn} {S S' : List Sp} {last last' : Nat} {n ord en : Int} {s : Sp} (h : MakeR ids L S last n ord s en L' ids' S' last') : ids'.length = ids.length := by
  rcases h with ⟨_, _, _, _, h, _⟩ | ⟨_, _, _, _, _, _, _, h, _⟩ | ⟨_, _, _, t, h, _⟩
  · rw [h]
  · rw [h]
  · exact h.len
theorem fr_row {w w' : World} {row : Option Nat} (h : w.grownBy w' row) : Fr (fun k => row = some k) w w' :=
  ⟨h.os, h.tape, h.output, h.size, fun k hk hn => h.block k hk (fun e => hn e.symm)⟩
/-- What is left of spans when some have gone. -/
def leftS (S : List Sp) (T : List Int) : List Sp := S.filter fun s => !decide (s.1 ∈ T)
theorem leftS_nil (S : List Sp) : leftS S [] = S := by unfold leftS; simp
theorem leftS_step (S : List Sp) (T : List Int) (k : Int) : (leftS S T).filter (fun s => !decide (s.1 ∈ [k])) = leftS S (T ++ [k]) := by
  unfold leftS
  rw [List.filter_filter]
  refine List.filter_congr (fun s _ => ?_)
  simp only [List.mem_append, List.mem_cons, List.not_mem_nil, or_false]
  by_cases h1 : s.1 ∈ T <;> by_cases h2 : s.1 = k <;> simp [h1, h2]
theorem leftS_all {S : List Sp} {T : List Int} (h : ∀ s ∈ S, s.1 ∈ T) : leftS S T = [] := by
  unfold leftS
  rw [List.filter_eq_nil_iff]
  intro s hs; simp [h s hs]
/-- One that is there goes. -/
theorem free_one {ids ids' : List Int} {L L' : List Rn} {S S' : List Sp} {last : Nat} {T : List Int} {k en : Int} (h : FreeR ids L (leftS S T) last [k] en L' ids' S') (hk : ∃ s ∈ S, s.1 = k) (hT : k ∉ T) : en = 0 ∧ S' = leftS S (T ++ [k]) := by
  have hok : FreeOk (leftS S T) [k] := ⟨fun j hj => by
    simp at hj; subst hj
    cases hg : getS (leftS S T) j with
    | some _ => rfl
    | none =>
      obtain ⟨s, hs, rfl⟩ := hk
      exact absurd rfl (getS_none.1 hg s (List.mem_filter.2 ⟨hs, by simpa using hT⟩)), by simp⟩
  rcases h with ⟨_, h1, _, h3⟩ | ⟨h1, _⟩
  · exact ⟨h1, by rw [h3]; exact leftS_step S T k⟩
  · exact absurd hok h1
/-- All that are there go together. -/
theorem free_all {ids ids' : List Int} {L L' : List Rn} {S S' : List Sp} {last : Nat} {T : List Int} {en : Int} (h : FreeR ids L S last T en L' ids' S') (h1 : ∀ k ∈ T, ∃ s ∈ S, s.1 = k) (hn : T.Nodup) : en = 0 ∧ S' = leftS S T := by
  have hok : FreeOk S T := ⟨fun j hj => by
    cases hg : getS S j with
    | some _ => rfl
    | none =>
      obtain ⟨s, hs, he⟩ := h1 j hj
      exact absurd he (getS_none.1 hg s hs), hn⟩
  rcases h with ⟨_, h1, _, h3⟩ | ⟨h1, _⟩
  · exact ⟨h1, h3⟩
  · exact absurd hok h1
/-- The spans' numbers, from the last one on. -/
def idsR (zs : List Sp) : List Int := zs.reverse.map (·.1)
theorem idsR_length (zs : List Sp) : (idsR zs).length = zs.length := by simp [idsR]
theorem idsR_get (zs : List Sp) (i : Nat) (h : i < zs.length) : (idsR zs)[i]'(by rw [idsR_length]; exact h) = (zs[zs.length - 1 - i]'(by omega)).1 := by
  unfold idsR
  rw [List.getElem_map, List.getElem_reverse]
theorem idsR_mem {S zs : List Sp} (hp : zs.Perm S) (k : Int) : k ∈ idsR zs ↔ ∃ s ∈ S, s.1 = k := by
  unfold idsR
  rw [List.mem_map]
  constructor
  · rintro ⟨s, hs, rfl⟩; exact ⟨s, hp.mem_iff.1 (by simpa using hs), rfl⟩
  · rintro ⟨s, hs, rfl⟩; exact ⟨s, by simpa using hp.mem_iff.2 hs, rfl⟩
theorem idsR_nodup {S zs : List Sp} (hp : zs.Perm S) (h : (S.map (·.1)).Nodup) : (idsR zs).Nodup := by
  unfold idsR
  exact ((((List.reverse_perm zs).trans hp).map (·.1)).nodup_iff).2 h

/-- Numbers so far; spans so far. -/
def EndWay (w wi : World) (B P h bi : Nat) (S : List Sp) (last : Nat) (zs : List Sp) (d : Option Addr) (tg : Bool) (uv : Value) (i : Nat) : Prop :=
  wi.ownsRow B 3 1 uv ((idsR zs).take i).length (ints ((idsR zs).take i)) ∧ SpansIn wi d zs ∧ ∃ L' ids', LiveH w (fun i => False ∨ blkOf d i) wi h bi L' ids' (if tg then S else leftS S ((idsR zs).take i)) last ∧ ids'.length = P ∧ B ≤ wi.heap.size
set_option maxHeartbeats 4000000 in
set_option maxRecDepth 20000 in
theorem heapEnds_walk (pages : Int) (sa : Option Addr) (xs : List Act07) (m0 c0 : Nat) (tg : Bool) (w : World) (hp : I64 pages) (hA : Acts07 w sa m0 xs) :
    Calls Try.prog 4 #[.int .i64 pages, .slice sa m0 c0, .bool tg] w fun e w' => e = .returned (.bool true) ∧ Bel w w' := by
  obtain ⟨rfl, hl, hrd, hok⟩ := hA
  have hl2 : xs.length ≤ 9223372036854775807 := by unfold maxLen at hl; omega
  by_cases hpg : pages < 4 ∨ 1024 < pages
  · have HNB := Lib.hid (heap_New_bad pages w hp hpg)
    clear hrd hok hpg
    by_cases c1 : 100 < (xs.length : Int)
    all_goals
      go_enter Try.func4, Try.ntmps4
      go_wp2_with fail
      refine HNB.out.mono ?_; rintro e w1 ⟨rfl, rfl⟩
      go_wp2_with fail
      refine (awake07 _).mono ?_; rintro e w' ⟨rfl, hB⟩
      go_wp2
      go_ret
      exact ⟨rfl, hB⟩
  obtain ⟨P, rfl⟩ := Int.eq_ofNat_of_zero_le (show 0 ≤ pages by omega)
  have HNEW := Lib.hid (heap_New P w (by omega) (by omega))
  have HRD := Lib.hid hrd
  have HOK := Lib.hid hok
  clear hrd hok hpg
  by_cases c1 : 100 < (xs.length : Int)
  · go_enter Try.func4, Try.ntmps4
    go_wp2_with fail
    refine HNEW.out.mono ?_; rintro e w1 hN
    obtain ⟨h, bi, rfl, hL⟩ := liveH_new hN
    have HB := Lib.hid hL.bel
    clear hN hL
    go_wp2_with fail
    refine (awake07 _).mono ?_; rintro e w' ⟨rfl, hB⟩
    go_wp2
    go_ret
    exact ⟨rfl, HB.out.trans hB⟩
  have c2 : xs.length ≤ 100 := by omega
  go_enter Try.func4, Try.ntmps4
  go_wp2_with fail
  refine HNEW.out.mono ?_; rintro e w1 hN
  obtain ⟨h, bi, rfl, hL⟩ := liveH_new hN
  have HL0 := Lib.hid hL
  clear hN hL HNEW
  go_wp2_with fail
  go_loopw [9] (fun k wr => ∃ i : Nat, i ≤ xs.length ∧ k = .int .i64 i ∧ Hid (∃ L ids S last, LiveH w (fun _ => False) wr h bi L ids S last ∧ last ≤ i ∧ ids.length = P)) (fun k wr => xs.length - (intOf k).toNat)
  case atStart => exact ⟨0, Nat.zero_le _, rfl, Lib.hid ⟨_, _, _, _, HL0.out, Nat.le_refl _, by simp⟩⟩
  case round =>
    clear HL0
    obtain ⟨i, hi, rfl, HX⟩ := hrel
    obtain ⟨L, ids, S, last, hL, hlast, hids⟩ := HX.out
    have HL := Lib.hid hL
    clear HX hL
    by_cases hlt : i < xs.length
    · obtain ⟨b, o, rfl, hra⟩ := (HRD.out.bel HL.out.bel).at i hlt
      obtain ⟨b', o', e', hra0⟩ := HRD.out.at i hlt
      cases e'
      have hx := HOK.out xs[i] (List.getElem_mem _)
      generalize xs[i] = x at hra hra0 hx
      have q0 : wr.cell? ⟨b, o + i * 4, none⟩ = some (.bool x.free) := hra 0 _ rfl
      have q2 : wr.cell? ⟨b, o + i * 4 + 2, none⟩ = some (.int .i64 x.pages) := hra 2 _ rfl
      have q3 : wr.cell? ⟨b, o + i * 4 + 3, none⟩ = some (.int .i64 x.order) := hra 3 _ rfl
      have HX := Lib.hid hx
      have d0 : (i : Int) < xs.length := by omega
      have HKC : Hid (∀ V, Bel w V → V.cell? ⟨b, o + i * 4 + 2, none⟩ = some (.int .i64 x.pages) ∧ V.cell? ⟨b, o + i * 4 + 3, none⟩ = some (.int .i64 x.order)) := Lib.hid (fun V hV => ⟨hV.cell (hra0 2 _ rfl), hV.cell (hra0 3 _ rfl)⟩)
      clear hra hra0 hx
      obtain ⟨fr, hfr⟩ : ∃ fr, x.free = fr := ⟨_, rfl⟩
      rw [hfr] at q0
      clear hfr
      cases fr
      · obtain ⟨s, en, L', ids', S', last', hR, hC⟩ := liveH_Make HL.out x.pages x.order HX.out.pages HX.out.order (by omega)
        have HR := Lib.hid (And.intro hR.last (hR.len.trans hids))
        have HC : Hid (∀ V, Bel wr V → Calls Try.prog 9 #[.pointer (some ⟨h, 0, none⟩), .int .i64 x.pages, .int .i64 x.order] V fun e V' => e = .returned (.tuple #[spV s, .int .i64 en]) ∧ LivePostH w (fun _ => False) wr h bi L' ids' S' last' V' ∧ V'.cell? ⟨b, o + i * 4 + 2, none⟩ = some (.int .i64 x.pages) ∧ V'.cell? ⟨b, o + i * 4 + 3, none⟩ = some (.int .i64 x.order)) := Lib.hid (fun V hV => (hC V hV).mono fun e V' ⟨h1, h2⟩ => ⟨h1, h2, HKC.out V' h2.1.bel⟩)
        clear hC hR
        simp only [spV] at HC
        go_wp2_with fail
        go_region_held3 (fun w' => w'.cell? ⟨b, o + i * 4 + 2, none⟩ = some (.int .i64 x.pages) ∧ w'.cell? ⟨b, o + i * 4 + 3, none⟩ = some (.int .i64 x.order))
          (first | exact hS7 | go_keep)
          (first | (go_at_call 9; (with_reducible refine (HC.out _ ?b1).mono ?_); (case b1 => repeat (first | exact Bel.refl _ | apply Bel.drew | apply Bel.alloc)); rintro e w7 ⟨rfl, hL7, hS7⟩))
        have HL7 := Lib.hid hL7.1
        go_wp2
        go_roundw
        case rel => exact ⟨i + 1, by omega, by go_num, Lib.hid ⟨_, _, _, _, HL7.out, by have := HR.out.1; omega, HR.out.2⟩⟩
        case measure => simp [intOf]; omega
      · go_wp2
        go_roundw
        case rel => exact ⟨i + 1, by omega, by go_num, Lib.hid ⟨_, _, _, _, HL.out, by omega, hids⟩⟩
        case measure => simp [intOf]; omega
    · obtain rfl : i = xs.length := by omega
      have HINV := Lib.hid HL.out.inv
      go_wp2_with fail
      refine (liveH_Spans HL.out _ (Bel.refl _)).mono ?_
      rintro e w2 ⟨d, cd, zs, rfl, hz, hrz, hBz, hpz⟩
      have HLz := Lib.hid (HL.out.watch hBz (blkOf d) (fun i ⟨p, e, hi⟩ => by subst hi; exact hpz p e))
      have HZ := Lib.hid (And.intro hz (SpansIn.of_row hrz))
      have HDP := Lib.hid (fun p (hp : d = some p) => (hpz p hp).2)
      have hzl : zs.length ≤ 100 := by have := HINV.out.count; have := hz.1.length_eq; omega
      have hbi : bi < w2.heap.size := HLz.out.bi_lt
      have hq2 : (Instr.buildSlice 28 0 #[]).run Try.prog w2 = .ok (.slice (some ⟨w2.heap.size, 0, none⟩) 0 0) (w2.alloc (.cells #[] 3)) := by kernel_rfl
      have HOW0 : Hid ((w2.alloc (.cells #[] 3)).ownsRow w2.heap.size 3 1 (.slice (some ⟨w2.heap.size, 0, none⟩) 0 0) 0 []) := Lib.hid (World.ownsRow_made (e := 3) (size := 1) w2 #[] 0 (Nat.le_refl _) (by simp [maxLen]) (by simp))
      clear hz hrz hBz hpz
      go_wp2_with fail
      go_loopw [11, 12] (fun u k wi => ∃ i : Nat, i ≤ zs.length ∧ k = .int .i64 i ∧ ∃ uv, uv = u ∧ Hid (EndWay w wi w2.heap.size P h bi S last zs d tg uv i)) (fun u k wi => zs.length - (intOf k).toNat)
      case atStart => exact ⟨0, Nat.zero_le _, rfl, _, rfl, Lib.hid ⟨by simpa [ints] using HOW0.out, HZ.out.2.bel ((Bel.refl _).alloc _), L, ids, by
        rw [List.take_zero, leftS_nil]
        have := HLz.out.then_bel ((Bel.refl w2).alloc (.cells #[] 3))
        cases tg <;> exact this, hids, by simp⟩⟩
      case round =>
        clear HOW0 hq2
        obtain ⟨i, hi2, rfl, uv, rfl, HX⟩ := hrel
        obtain ⟨hown, hsp, L1, ids1, hL1, hids1, hszw⟩ := HX.out
        clear HX
        have hT : (idsR zs).length = zs.length := idsR_length zs
        by_cases hlt2 : i < zs.length
        · obtain ⟨j, hj⟩ : ∃ j, zs.length = j + 1 + i := ⟨zs.length - 1 - i, by omega⟩
          have hji : zs.length - 1 - i = j := by omega
          have hkg := idsR_get zs i hlt2
          obtain ⟨b, o, rfl, p0, _⟩ := hsp.at j (by omega)
          have htk : (idsR zs).take (i + 1) = (idsR zs).take i ++ [(idsR zs)[i]'(by omega)] := List.take_succ_eq_append_getElem (by omega)
          have z1 : IntKind.i64.wrap ((zs.length : Int) - 1) = (zs.length : Int) - 1 := IntWalk.i64_in _ (by omega)
          have z2 : IntKind.i64.wrap ((zs.length : Int) - 1 - i) = (j : Int) := by rw [show (zs.length : Int) - 1 - i = j by omega]; exact IntWalk.i64_in _ (by omega)
          obtain ⟨k, hk⟩ : ∃ k, zs[j].1 = k := ⟨_, rfl⟩
          have hkk : (idsR zs)[i]'(by omega) = k := by
            rw [hkg]
            have : ∀ m (hm : m < zs.length), m = j → zs[m].1 = k := by rintro m hm rfl; exact hk
            exact this _ _ hji
          rw [hk] at p0
          have HK := Lib.hid hk
          rw [hkk] at htk
          have hkS : ∃ s ∈ S, s.1 = k := (idsR_mem HZ.out.1.1 k).1 (by rw [← hkk]; exact List.getElem_mem _)
          have hnd := idsR_nodup HZ.out.1.1 HINV.out.nd
          have hkT : k ∉ (idsR zs).take i := fun h9 => by
            have h8 := hnd.sublist (List.take_sublist (i + 1) _)
            rw [htk, List.nodup_append] at h8
            exact h8.2.2 _ h9 _ (by simp) rfl
          obtain ⟨i0, hi0, hz0, hz1, hz2⟩ := info_parts info_int5
          have HOW := Lib.hid hown
          have HL1 := Lib.hid hL1
          have HSP := Lib.hid hsp
          have HTK := Lib.hid htk
          have HKS := Lib.hid (And.intro hkS hkT)
          clear hown hL1 hsp htk hkg hkk hkS hnd hkT hk
          go_wp2_with (at_builtin; refine wpList_append_own _ rfl _ _ 28 rfl w2.heap.size 3 i0 (.int .i64 0) 1 8 Try.underlying28 hi0 hz0 hz1 hz2 rfl (by decide) _ _ _ rfl (HOW.out.alloc _) ⟨wr.heap.size, 0, none⟩ 1 1 [.int .i64 k] rfl rfl ?d2 ?d3 ?d4 ?d5 ?d6 ?_)
          case d2 => exact cell_one_new _ _ _
          case d3 => simp [Value.oneCell']
          case d4 => unfold maxLen; first | omega | (simp; omega)
          case d5 => first | omega | (simp; omega)
          case d6 => first | omega | (simp; omega)
          intro v' w4 hown4 hgrow _
          have hf4 := fr_row hgrow
          have hL4 : LiveH w (fun i => False ∨ blkOf (some ⟨b, o, none⟩) i) w4 h bi L1 ids1 (if tg then S else leftS S ((idsR zs).take i)) last :=
            (((HL1.out.own_int HOW.out hbi).then_bel ((Bel.refl wr).alloc (.cells #[.int .i64 k] 3))).fr hf4 (fun j hj => ⟨.inr hj, Nat.le_trans HLz.out.bel.size (HOW.out.lt j hj).1⟩)).forget (fun j hj => .inl hj)
          have hS4 : SpansIn w4 (some ⟨b, o, none⟩) zs := by
            rcases HSP.out.bel ((Bel.refl wr).alloc (.cells #[.int .i64 k] 3)) with h9 | ⟨b', o', e', h9⟩
            · exact .inl h9
            · cases e'
              exact .inr ⟨b, o, rfl, fun m hm q v hv => hf4.cell (h9 m hm q v hv) (fun hq => by have h8 := (HOW.out.lt b hq).1; have h7 := HDP.out _ rfl; dsimp only at h7; omega)⟩
          have hsz4 : w2.heap.size ≤ w4.heap.size := Nat.le_trans hszw (Nat.le_trans ((Bel.refl wr).alloc (.cells #[.int .i64 k] 3)).size hf4.size)
          have HOW4 : Hid (w4.ownsRow w2.heap.size 3 1 v' ((idsR zs).take (i + 1)).length (ints ((idsR zs).take (i + 1)))) := Lib.hid (by
            have e9 : ((idsR zs).take (i + 1)).length = i + 1 := by rw [List.length_take]; omega
            rw [e9, HTK.out]; simpa [ints] using hown4)
          have HL4 := Lib.hid hL4
          have HS4 := Lib.hid hS4
          clear hown4 hgrow hf4 hL4 hS4 p0
          cases tg
          · simp only [Bool.false_eq_true, if_false] at HL4
            obtain ⟨_, _, e', p0, _⟩ := HS4.out.at j (by omega)
            cases e'
            rw [HK.out] at p0
            have hkw : (Lit.int .i64 k).wf = true := by
              obtain ⟨s, hs, rfl⟩ := HKS.out.1
              have := HINV.out.span s hs
              exact wf_i64 (by omega) (by omega)
            have HL5 := Lib.hid (HL4.out.own_int HOW4.out hbi)
            have HF := Lib.hid (liveH_Free HL5.out [k] (by simp) (by intro q hq; simp at hq; subst hq; exact hkw) (w4.alloc (.cells #[.int .i64 k] 3)) (some ⟨w4.heap.size, 0, none⟩) 1 ((Bel.refl _).alloc _) (RdV.new w4 #[.int .i64 k] 3))
            go_wp2_with fail
            refine HF.out.mono ?_
            clear HF
            rintro e w5 ⟨en, L2, ids2, S2, hFR, rfl, hL6, hF6⟩
            obtain ⟨rfl, rfl⟩ := free_one hFR HKS.out.1 HKS.out.2
            have HN : Hid (w5.ownsRow w2.heap.size 3 1 v' ((idsR zs).take (i + 1)).length (ints ((idsR zs).take (i + 1))) ∧ SpansIn w5 (some ⟨b, o, none⟩) zs ∧ LiveH w (fun i => False ∨ blkOf (some ⟨b, o, none⟩) i) w5 h bi L2 ids2 (leftS S ((idsR zs).take (i + 1))) last ∧ ids2.length = P ∧ w2.heap.size ≤ w5.heap.size) := Lib.hid
              ⟨own_fr HOW4.out hF6 (fun g _ hg h9 => h9 (.inr hg)), HS4.out.watched hF6 (fun p hp => .inl (.inr ⟨p, hp, rfl⟩)), by rw [HTK.out]; exact hL6.forget (fun q hq => .inl hq), hFR.len.trans hids1, Nat.le_trans hsz4 hF6.size⟩
            clear hFR hL6 hF6
            go_wp2
            go_roundw
            case rel =>
              (repeat (apply Exists.intro)); refine ⟨⟨i + 1, by omega, rfl, _, rfl, Lib.hid ⟨HN.out.1, HN.out.2.1, L2, ids2, HN.out.2.2.1, HN.out.2.2.2.1, HN.out.2.2.2.2⟩⟩, ?_⟩
              (repeat' apply And.intro) <;> first | rfl | (rw [hj]; rfl) | go_num
            case measure => simp [intOf]; omega
          · go_wp2
            go_roundw
            case rel =>
              (repeat (apply Exists.intro)); refine ⟨⟨i + 1, by omega, rfl, Lib.hid ⟨HOW4.out, HS4.out, L1, ids1, HL4.out, hids1, hsz4⟩⟩, ?_⟩
              (repeat' apply And.intro) <;> first | rfl | go_num
            case measure => simp [intOf]; omega
        · obtain rfl : i = zs.length := by omega
          have htl : (idsR zs).take zs.length = idsR zs := by rw [← hT, List.take_length]
          have hleft : leftS S ((idsR zs).take zs.length) = [] := by rw [htl]; exact leftS_all (fun s hs => (idsR_mem HZ.out.1.1 s.1).2 ⟨s, hs, rfl⟩)
          rw [htl] at hown
          rw [hT] at hown
          cases tg
          · obtain ⟨LL, rfl⟩ : ∃ LL, LL = L1 := ⟨_, rfl⟩
            obtain ⟨LI, hLI, hLE⟩ : ∃ LI : List Int, LI.length = P ∧ LiveH w (fun i => False ∨ blkOf d i) wr h bi LL LI [] last := ⟨ids1, hids1, by simpa [hleft] using hL1⟩
            clear hleft hL1 hids1 htl hlt2
            have HLE := Lib.hid hLE
            clear hLE hown hsp
            go_wp2_with fail
            refine (liveH_Spans HLE.out _ (Bel.refl _)).mono ?_
            rintro e w5 ⟨d5, c5, z5, rfl, hz5, hr5, hB5, _⟩
            have hz0 : z5 = [] := List.eq_nil_of_length_eq_zero (by simpa using hz5.1.length_eq)
            subst hz0
            have HL5 := Lib.hid (HLE.out.then_bel hB5)
            clear hz5 hr5 hB5 HLE
            go_wp2_with fail
            refine (liveH_Runs HL5.out _ (Bel.refl _)).mono ?_
            rintro e w6 hN
            obtain ⟨a6, c6, rfl, hr6, hB6, _⟩ := list_post (Bel.refl _) hN
            have hLL : LL = [(0, (P : Int))] := by rw [HL5.out.inv.empty, hLI]
            have HL6 := Lib.hid (HL5.out.then_bel hB6)
            subst hLL
            have HR6 := Lib.hid hr6
            clear hN hr6 hB6 HL5
            go_wp2_with fail
            refine (ref5_Same a6 (some ⟨w6.heap.size, 0, none⟩) [(0, (P : Int))] [(0, (P : Int))] _ c6 1 1 _ rfl rfl (by simp) (by simp) (HR6.out.bel ((Bel.refl _).alloc _)) (RunsIn.of_row (RdV.new w6 #[.int .i64 0, .int .i64 P] 33))).mono ?_
            rintro e w7 ⟨rfl, hB7⟩
            rw [dec_self6]
            have HB7 := Lib.hid (HL6.out.bel.trans (((Bel.refl _).alloc (.cells #[.int .i64 0, .int .i64 P] 33)).trans hB7))
            clear hB7 HL6 HR6
            go_wp2_with fail
            refine (awake07 _).mono ?_; rintro e w' ⟨rfl, hB⟩
            go_wp2
            go_ret
            exact ⟨rfl, HB7.out.trans hB⟩
          · have hL2 : LiveH w (fun i => False ∨ blkOf d i) wr h bi L1 ids1 S last := by simpa using hL1
            obtain ⟨ia, ic, rfl, hri, _, _⟩ := own_slice2 hown
            have hwf : ∀ k ∈ idsR zs, (Lit.int .i64 k).wf = true := fun k hk => by
              obtain ⟨s, hs, rfl⟩ := (idsR_mem HZ.out.1.1 k).1 hk
              have := HINV.out.span s hs
              exact wf_i64 (by omega) (by omega)
            have hfr := liveH_Free hL2 (idsR zs) (by omega) hwf wr ia ic (Bel.refl _) hri
            rw [hT] at hfr
            have HF := Lib.hid hfr
            clear hfr hleft hL1 hL2 htl hown hsp hri hwf
            go_wp2_with fail
            refine HF.out.mono ?_
            clear HF
            rintro e wq ⟨en, LL, LI, S2, hFR, rfl, hL6, hF6⟩
            have hLI : LI.length = P := hFR.len.trans hids1
            obtain ⟨rfl, rfl⟩ := free_all hFR (fun k hk => (idsR_mem HZ.out.1.1 k).1 hk) (idsR_nodup HZ.out.1.1 HINV.out.nd)
            have hLE : LiveH w (fun i => False ∨ blkOf d i) wq h bi LL LI [] last := by
              have h9 := hL6
              rw [leftS_all (fun s hs => (idsR_mem HZ.out.1.1 s.1).2 ⟨s, hs, rfl⟩)] at h9
              exact h9
            clear hFR hL6 hF6
            have HLE := Lib.hid hLE
            clear hLE
            go_wp2_with fail
            refine (liveH_Spans HLE.out _ (Bel.refl _)).mono ?_
            rintro e w5 ⟨d5, c5, z5, rfl, hz5, hr5, hB5, _⟩
            have hz0 : z5 = [] := List.eq_nil_of_length_eq_zero (by simpa using hz5.1.length_eq)
            subst hz0
            have HL5 := Lib.hid (HLE.out.then_bel hB5)
            clear hz5 hr5 hB5 HLE
            go_wp2_with fail
            refine (liveH_Runs HL5.out _ (Bel.refl _)).mono ?_
            rintro e w6 hN
            obtain ⟨a6, c6, rfl, hr6, hB6, _⟩ := list_post (Bel.refl _) hN
            have hLL : LL = [(0, (P : Int))] := by rw [HL5.out.inv.empty, hLI]
            have HL6 := Lib.hid (HL5.out.then_bel hB6)
            subst hLL
            have HR6 := Lib.hid hr6
            clear hN hr6 hB6 HL5
            go_wp2_with fail
            refine (ref5_Same a6 (some ⟨w6.heap.size, 0, none⟩) [(0, (P : Int))] [(0, (P : Int))] _ c6 1 1 _ rfl rfl (by simp) (by simp) (HR6.out.bel ((Bel.refl _).alloc _)) (RunsIn.of_row (RdV.new w6 #[.int .i64 0, .int .i64 P] 33))).mono ?_
            rintro e w7 ⟨rfl, hB7⟩
            rw [dec_self6]
            have HB7 := Lib.hid (HL6.out.bel.trans (((Bel.refl _).alloc (.cells #[.int .i64 0, .int .i64 P] 33)).trans hB7))
            clear hB7 HL6 HR6
            go_wp2_with fail
            refine (awake07 _).mono ?_; rintro e w' ⟨rfl, hB⟩
            go_wp2
            go_ret
            exact ⟨rfl, HB7.out.trans hB⟩
end Go.Proofs.Ythkbhikiljlgoaa

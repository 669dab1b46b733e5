/- Layer 5: what is set, and dropped, is as it was. -/
import Derived.Test.YtokefhplodbheaaLaw05
import Derived.Deep.RegionHeld3
namespace Go.Proofs.Ytokefhplodbheaa
open Go.ChangeShapes Go.WideShapes Go.ChangeAt Go.RowKit Go.Deep

structure Act05 where
  drop : Bool
  id : Int
  ra : Option Addr
  rs : List Rn
  rc : Nat
def c05 (x : Act05) : List Value := [.bool x.drop, .int .i64 x.id, .slice x.ra x.rs.length x.rc]
structure Ok05 (W : World) (x : Act05) : Prop where
  id : I64 x.id
  len : x.rs.length ≤ maxLen
  rd : RunsIn W x.ra x.rs
  ok : ∀ r ∈ x.rs, I64 r.1 ∧ I64 r.2
/-- The acts that came in. -/
structure Acts05 (W : World) (a : Option Addr) (n : Nat) (xs : List Act05) : Prop where
  len : n = xs.length
  max : xs.length ≤ maxLen
  rd : RdR W a 3 (xs.map c05)
  ok : ∀ x ∈ xs, Ok05 W x
def sh05 : Sh := .slice (.struct (.pair .bool (.pair (.int .i64) (.pair sh05r .unit))))
theorem acts05 {W : World} {a : Option Addr} {n c : Nat} (h : RdC W sh05 [.slice a n c]) : ∃ xs, Acts05 W a n xs := by
  obtain ⟨a', c', rows, he, hl, hr, hR, _⟩ := h
  simp only [List.cons.injEq, Value.slice.injEq, and_true] at he
  obtain ⟨rfl, rfl, rfl⟩ := he
  obtain ⟨xs, rfl, hx⟩ := choose_list (f := c05) (p := Ok05 W) rows (fun r hrm => by
    obtain ⟨_, _, rfl, ⟨d, rfl⟩, _, _, rfl, ⟨t, rfl, ht⟩, _, _, rfl, hs, rfl⟩ := hr r hrm
    have hs' := hs
    obtain ⟨wa, wc, ws, rfl, _⟩ := hs'
    obtain ⟨rs, hrs⟩ := runs05 hs
    obtain ⟨e1, e2, e3, e4⟩ := hrs
    refine ⟨⟨d, t, wa, rs, wc⟩, by show _ = [_, _, _]; rw [← e1]; rfl, ⟨i64_of_wf ht, e2, e3, e4⟩⟩)
  exact ⟨xs, by simp, by simpa using hl, hR, hx⟩
theorem sh05_is : sh05.isT Try.prog (.inl 22) :=
  ⟨_, Try.underlying22, by kernel_rfl, by decide, _, Try.underlying30, by kernel_rfl,
    rfl, by kernel_rfl, Try.underlying4, rfl, by kernel_rfl, Try.underlying3, rfl, by kernel_rfl, sh05r_is, trivial⟩
theorem arg_acts05 {H : Type} {enc : TypeId × Value → H} {W : World} {a : Option Addr} {len cap : Nat} {d : DataW H} {ps : List MemPlace}
    (h : DataW.Trod enc Try.prog W 0 (fun _ => true) true 22 (.slice a len cap) d ps) : ∃ xs, Acts05 W a len xs :=
  acts05 (arg_shape sh05 sh05_is h)

theorem putF_or (ids : List Int) (id : Int) (rs : List Rn) : (∃ e, putF ids id rs false = (ids, e) ∧ (e == 0) = false ∧ (e != 0) = true) ∨ (putF ids id rs false = (fillA ids id rs, 0) ∧ 1 ≤ id ∧ AllThere ids.length rs ∧ NoneSet ids rs) := by
  by_cases h1 : id < 1
  · exact .inl ⟨1, putF_arg h1, rfl, rfl⟩
  · by_cases h2 : AllThere ids.length rs
    · by_cases h3 : NoneSet ids rs ∧ rs.Pairwise Apart
      · exact .inr ⟨set_ok (by omega) h2 h3.1 h3.2, by omega, h2, h3.1⟩
      · exact .inl ⟨9, set_bad (by omega) h2 h3, rfl, rfl⟩
    · exact .inl ⟨2, putF_out (by rintro ⟨_, h⟩; exact h1 h) h2, rfl, rfl⟩
theorem fillA_back {ids : List Int} {id : Int} {rs : List Rn} (h : NoneSet ids rs) : fillA (fillA ids id rs) 0 rs = ids := by
  refine words_ext (by rw [fillA_length, fillA_length]) (fun x h0 h1 => ?_)
  rw [wd_fillA h0 (by rw [fillA_length]; exact h1), wd_fillA h0 h1]
  by_cases hc : rs.any (inR · x) = true
  · rw [if_pos hc, h x h0 h1 hc]
  · rw [if_neg hc, if_neg hc]
theorem drop_back {ids : List Int} {id : Int} {rs : List Rn} (h0 : 1 ≤ id) (ht : AllThere ids.length rs) (h : NoneSet ids rs) : putF (fillA ids id rs) 0 rs true = (ids, 0) := by
  rw [drop_ok (by rw [fillA_length]; exact ht) (fun p p0 p1 hc => by
    rw [fillA_length] at p1
    rw [wd_fillA p0 p1, if_pos hc]; omega), fillA_back h]
theorem IndexAt.len {w : World} {bx bi : Nat} {ids : List Int} (h : IndexAt w bx bi ids) (id : Int) : (runsF ids id).length ≤ 1024 := by
  have h1 : ∀ q, (runsP ids id q).length ≤ q := by
    intro q
    induction q with
    | zero => simp [runsP]
    | succ q ih =>
      by_cases hw : wd ids q = id
      · obtain ⟨L, s, n, e, _⟩ := runs_last hw
        by_cases h0 : q = 0 ∨ wd ids ((q : Int) - 1) ≠ id
        · rw [runs_start hw h0, List.length_append, List.length_singleton]; omega
        · have hq : q ≠ 0 ∧ wd ids ((q : Int) - 1) = id := by
            constructor
            · intro h; exact h0 (.inl h)
            · exact Classical.byContradiction (fun h => h0 (.inr h))
          obtain ⟨q', rfl⟩ : ∃ q', q = q' + 1 := ⟨q - 1, by omega⟩
          have e1 : (((q' + 1 : Nat) : Int) - 1) = q' := by omega
          have hq2 := hq.2
          rw [e1] at hq2
          obtain ⟨L2, s2, n2, e2, _⟩ := runs_last (p := q') hq2
          rw [runs_grow hw hq2 e2]
          rw [e2] at ih
          simp at ih ⊢; omega
      · rw [runs_skip hw]; omega
  have := h1 ids.length
  have := h.small
  unfold runsF
  omega

set_option maxHeartbeats 4000000 in
set_option maxRecDepth 20000 in
theorem indexBack_walk (pages : Int) (s : Option Addr) (xs : List Act05) (n c : Nat) (id : Int) (s2 : Option Addr) (rs : List Rn) (n2 c2 : Nat) (w : World) (hp : I64 pages) (hA : Acts05 w s n xs) (hid : I64 id) (hR : Runs05 w s2 n2 rs) :
    Calls Try.prog 6 #[.int .i64 pages, .slice s n c, .int .i64 id, .slice s2 n2 c2] w fun e w' => e = .returned (.bool true) ∧ Bel w w' := by
  obtain ⟨rfl, hl, hrd, hok⟩ := hA
  obtain ⟨rfl, hl2, hrr, hro⟩ := hR
  have hx1 : xs.length ≤ 9223372036854775807 := by unfold maxLen at hl; omega
  have hx2 : rs.length ≤ 9223372036854775807 := by unfold maxLen at hl2; omega
  by_cases c0 : 50 < (xs.length : Int) ∨ 20 < (rs.length : Int)
  · have c1 : 50 < (xs.length : Int) ∨ (¬ 50 < (xs.length : Int) ∧ 20 < (rs.length : Int)) := by omega
    clear c0 hrd hok hrr hro
    rcases c1 with c1 | ⟨c1, c2⟩
    all_goals
      go_enter Try.func6, Try.ntmps6
      go_wp2_with fail
      refine (awake05 _).mono ?_; rintro e w' ⟨rfl, hB⟩
      go_wp2
      go_ret
      exact ⟨rfl, hB⟩
  have c1 : xs.length ≤ 50 := by omega
  have c3 : rs.length ≤ 20 := by omega
  have HRD := Lib.hid hrd
  have HOK := Lib.hid hok
  have HRR := Lib.hid hrr
  have HRO := Lib.hid hro
  clear c0 hrd hok hrr hro hl hl2
  go_enter Try.func6, Try.ntmps6
  go_wp2_with fail
  refine (index_New pages w hp).mono ?_
  rintro e w1 ⟨bx, rfl, hlt, hI1, hB1⟩
  have HI1 := Lib.hid hI1
  have HB1 := Lib.hid hB1
  clear hI1 hB1
  go_wp2_with fail
  go_loopw [10] (fun k wr => ∃ i : Nat, i ≤ xs.length ∧ k = .int .i64 i ∧ ∃ ids, IndexAt wr bx w.heap.size ids ∧ Bel w wr) (fun k wr => xs.length - (intOf k).toNat)
  case atStart => exact ⟨0, Nat.zero_le _, rfl, _, HI1.out, HB1.out⟩
  case round =>
    clear HI1 HB1
    obtain ⟨i, hi, rfl, ids, hI, hB⟩ := hrel
    have HI := Lib.hid hI
    have HB := Lib.hid hB
    have hsz := heap_lt hI.nums
    by_cases hlt2 : i < xs.length
    · obtain ⟨b, o, rfl, hra⟩ := (HRD.out.bel hB).at i hlt2
      obtain ⟨b', o', e', hra0⟩ := HRD.out.at i hlt2
      cases e'
      have hx := HOK.out xs[i] (List.getElem_mem _)
      generalize xs[i] = x at hra hx hra0
      have q1 : wr.cell? ⟨b, o + i * 3 + 1, none⟩ = some (.int .i64 x.id) := hra 1 _ rfl
      have q2 : wr.cell? ⟨b, o + i * 3 + 2, none⟩ = some (.slice x.ra x.rs.length x.rc) := hra 2 _ rfl
      have hbb : b < w.heap.size := World.block_lt_of_cell? w ⟨b, o + i * 3 + 1, none⟩ (hra0 1 _ rfl)
      have hxl : x.rs.length ≤ 9223372036854775807 := by have := hx.len; unfold maxLen at this; omega
      have HX := Lib.hid hx
      clear hra hra0 hx hI hB
      by_cases c4 : 20 < (x.rs.length : Int)
      · go_wp2_with fail
        refine (awake05 _).mono ?_; rintro e w' ⟨rfl, hB9⟩
        go_wp2
        go_ret
        exact ⟨rfl, HB.out.trans hB9⟩
      have C : ∀ V, Bel wr V → Calls Try.prog 12 #[.pointer (some ⟨bx, 0, none⟩), .int .i64 x.id, .slice x.ra x.rs.length x.rc] V (fun e V' => (∃ en, e = .returned (.int .i64 en)) ∧ (∃ ids', IndexAt V' bx w.heap.size ids') ∧ Fr (fun k => k = w.heap.size) wr V') := fun V hb => by
        refine (index_Set bx w.heap.size ids x.id x.ra x.rs x.rs.length x.rc V (HI.out.bel hb) rfl (by omega) (HX.out.rd.bel (HB.out.trans hb)) HX.out.ok HX.out.id).mono ?_
        rintro e V' ⟨rfl, h1, h2⟩
        exact ⟨⟨_, rfl⟩, ⟨_, h1⟩, (Fr.of_bel hb).trans' h2⟩
      have HC := Lib.hid C
      have HK : Hid (∀ V, Fr (fun k => k = w.heap.size) wr V → V.cell? ⟨b, o + i * 3 + 1, none⟩ = some (.int .i64 x.id) ∧ V.cell? ⟨b, o + i * 3 + 2, none⟩ = some (.slice x.ra x.rs.length x.rc)) :=
        Lib.hid (fun V hF => ⟨hF.cell q1 (by show ¬ b = w.heap.size; omega), hF.cell q2 (by show ¬ b = w.heap.size; omega)⟩)
      clear C
      go_wp2_with fail
      go_region_held3 (fun w' => w'.cell? ⟨b, o + i * 3 + 1, none⟩ = some (.int .i64 x.id) ∧ w'.cell? ⟨b, o + i * 3 + 2, none⟩ = some (.slice x.ra x.rs.length x.rc))
        (first | exact HK.out _ hF7 | go_keep)
        (first | (go_at_call 12; (with_reducible refine (HC.out _ ?b1).mono ?_); (case b1 => repeat (first | exact Bel.refl _ | apply Bel.drew | apply Bel.alloc)); rintro e w7 ⟨⟨en, rfl⟩, ⟨ids7, hI7⟩, hF7⟩))
      go_wp2
      go_roundw
      case rel => exact ⟨i + 1, by omega, by go_num, ids7, hI7, Fr.bel ((Fr.of_bel (S := fun k => k = w.heap.size) HB.out).trans' hF7) (fun k e => by omega)⟩
      case measure => simp [intOf]; omega
    · obtain rfl : i = xs.length := by omega
      clear hI hB
      go_wp2_with fail
      refine (index_Runs bx w.heap.size ids 0 wr HI.out ⟨by omega, by omega⟩).mono ?_
      rintro e w2 ⟨v, rfl, hown, hB2⟩
      obtain ⟨av, cv, rfl, hr2, _, hpv⟩ := own_slice2 hown
      have hl9 := HI.out.len 0
      have HR2 := Lib.hid (RunsIn.of_row hr2)
      have HB2 := Lib.hid (HB.out.trans hB2)
      have HI2 := Lib.hid (HI.out.bel hB2)
      clear hown hr2 hB2
      have hset := index_Set bx w.heap.size ids id s2 rs rs.length c2 w2 HI2.out rfl (by omega) (HRR.out.bel HB2.out) HRO.out hid
      rcases putF_or ids id rs with ⟨en, he, e0, e1⟩ | ⟨he, hid1, hat, hno⟩
      · rw [he] at hset
        have HSET := Lib.hid hset
        clear hset he
        go_wp2_with fail
        refine HSET.out.mono ?_
        rintro e w3 ⟨rfl, hI3, hF3⟩
        have HI3 := Lib.hid hI3
        have HB3 := Lib.hid (Fr.bel ((Fr.of_bel (S := fun k => k = w.heap.size) HB2.out).trans' hF3) (fun k e => by omega) : Bel w w3)
        have HR3 : Hid (RunsIn w3 av (runsF ids 0)) := Lib.hid (HR2.out.fr hF3 (fun p hp => by have := hpv p hp; omega))
        clear hI3 hF3
        go_wp2_with fail
        refine (index_Runs bx w.heap.size ids 0 w3 HI3.out ⟨by omega, by omega⟩).mono ?_
        rintro e w4 ⟨v4, rfl, hown, hB4⟩
        obtain ⟨a4, c4', rfl, hr4, _⟩ := own_slice hown
        have HR4 := Lib.hid (RunsIn.of_row hr4)
        have HB4 := Lib.hid hB4
        clear hown hr4 hB4
        go_wp2_with fail
        refine (ref5_Same a4 av (runsF ids 0) (runsF ids 0) _ c4' _ cv w4 rfl rfl (by omega) (by omega) HR4.out (HR3.out.bel HB4.out)).mono ?_
        rintro e w5 ⟨rfl, hB5⟩
        rw [dec_selfR]
        go_wp2_with fail
        refine (awake05 _).mono ?_; rintro e w' ⟨rfl, hB9⟩
        go_wp2
        go_ret
        exact ⟨rfl, ((HB3.out.trans HB4.out).trans hB5).trans hB9⟩
      · rw [he] at hset
        have HSET := Lib.hid hset
        have HDB := Lib.hid (drop_back hid1 hat hno)
        clear hset he hat hno
        go_wp2_with fail
        refine HSET.out.mono ?_
        rintro e w3 ⟨rfl, hI3, hF3⟩
        have HB3 := Lib.hid (Fr.bel ((Fr.of_bel (S := fun k => k = w.heap.size) HB2.out).trans' hF3) (fun k e => by omega) : Bel w w3)
        have hdrop := index_Drop bx w.heap.size (fillA ids id rs) s2 rs rs.length c2 w3 hI3 rfl (by omega) (HRR.out.bel HB3.out) HRO.out
        rw [HDB.out] at hdrop
        have HDROP := Lib.hid hdrop
        have HR3 : Hid (RunsIn w3 av (runsF ids 0)) := Lib.hid (HR2.out.fr hF3 (fun p hp => by have := hpv p hp; omega))
        clear hI3 hF3 hdrop
        go_wp2_with fail
        refine HDROP.out.mono ?_
        rintro e w4 ⟨rfl, hI4, hF4⟩
        have HII := Lib.hid hI4
        have HBB := Lib.hid (Fr.bel ((Fr.of_bel (S := fun k => k = w.heap.size) HB3.out).trans' hF4) (fun k e => by omega) : Bel w w4)
        have HRR4 : Hid (RunsIn w4 av (runsF ids 0)) := Lib.hid (HR3.out.fr hF4 (fun p hp => by have := hpv p hp; omega))
        clear hI4 hF4
        go_wp2_with fail
        refine (index_Runs bx w.heap.size ids 0 w4 HII.out ⟨by omega, by omega⟩).mono ?_
        rintro e w5 ⟨v5, rfl, hown, hB5⟩
        obtain ⟨a5, c5', rfl, hr5, _⟩ := own_slice hown
        have HR5 := Lib.hid (RunsIn.of_row hr5)
        have HB5 := Lib.hid hB5
        clear hown hr5 hB5
        go_wp2_with fail
        refine (ref5_Same a5 av (runsF ids 0) (runsF ids 0) _ c5' _ cv w5 rfl rfl (by omega) (by omega) HR5.out (HRR4.out.bel HB5.out)).mono ?_
        rintro e w6 ⟨rfl, hB6⟩
        rw [dec_selfR]
        go_wp2_with fail
        refine (awake05 _).mono ?_; rintro e w' ⟨rfl, hB9⟩
        go_wp2
        go_ret
        exact ⟨rfl, ((HBB.out.trans HB5.out).trans hB6).trans hB9⟩
end Go.Proofs.Ytokefhplodbheaa

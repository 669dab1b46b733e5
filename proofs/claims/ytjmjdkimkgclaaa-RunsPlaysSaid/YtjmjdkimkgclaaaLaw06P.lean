/- Layer 6: any row of acts is answered as the document says. -/
import Derived.Test.YtjmjdkimkgclaaaLaw06K
import Derived.Deep.RegionHeld3
import Derived.Deep.DeepCutAuto
namespace Go.Proofs.Ytjmjdkimkgclaaa
open Go.ChangeShapes Go.WideShapes Go.ChangeAt Go.RowKit Go.Deep

structure Act06 where
  kind : Int
  n : Int
  x : Rn
  la : Option Addr
  l : List Rn
  lc : Nat
def c06 (x : Act06) : List Value := [.int .i64 x.kind, .int .i64 x.n, .int .i64 x.x.1, .int .i64 x.x.2, .slice x.la x.l.length x.lc]
structure Ok06 (W : World) (x : Act06) : Prop where
  n : I64 x.n
  x1 : I64 x.x.1
  x2 : I64 x.x.2
  len : x.l.length ≤ maxLen
  rd : RunsIn W x.la x.l
  ok : ∀ r ∈ x.l, I64 r.1 ∧ I64 r.2
/-- The acts that came in. -/
structure Acts06 (W : World) (a : Option Addr) (n : Nat) (xs : List Act06) : Prop where
  len : n = xs.length
  max : xs.length ≤ maxLen
  rd : RdR W a 5 (xs.map c06)
  ok : ∀ x ∈ xs, Ok06 W x
def sh06 : Sh := .slice (.struct (.pair (.int .i64) (.pair (.int .i64) (.pair (.struct (.pair (.int .i64) (.pair (.int .i64) .unit))) (.pair sh05r .unit)))))
theorem acts06 {W : World} {a : Option Addr} {n c : Nat} (h : RdC W sh06 [.slice a n c]) : ∃ xs, Acts06 W a n xs := by
  obtain ⟨a', c', rows, he, hl, hr, hR, _⟩ := h
  simp only [List.cons.injEq, Value.slice.injEq, and_true] at he
  obtain ⟨rfl, rfl, rfl⟩ := he
  obtain ⟨xs, rfl, hx⟩ := choose_list (f := c06) (p := Ok06 W) rows (fun r hrm => by
    obtain ⟨_, _, rfl, ⟨k, rfl, hk⟩, _, _, rfl, ⟨t, rfl, ht⟩, _, _, rfl, hst, _, _, rfl, hs, rfl⟩ := hr r hrm
    obtain ⟨_, _, rfl, ⟨y1, rfl, hy1⟩, _, _, rfl, ⟨y2, rfl, hy2⟩, rfl⟩ := hst
    have hs' := hs
    obtain ⟨wa, wc, ws, rfl, _⟩ := hs'
    obtain ⟨rs, hrs⟩ := runs05 hs
    obtain ⟨e1, e2, e3, e4⟩ := hrs
    refine ⟨⟨k, t, (y1, y2), wa, rs, wc⟩, by show _ = [_, _, _, _, _]; rw [← e1]; rfl, ⟨i64_of_wf ht, i64_of_wf hy1, i64_of_wf hy2, e2, e3, e4⟩⟩)
  exact ⟨xs, by simp, by simpa using hl, hR, hx⟩
theorem sh06_is : sh06.isT Try.prog (.inl 34) :=
  ⟨_, Try.underlying34, by kernel_rfl, by decide, _, Try.underlying40, by kernel_rfl,
    rfl, by kernel_rfl, Try.underlying3, rfl, by kernel_rfl, Try.underlying3, rfl, by kernel_rfl, ⟨_, Try.underlying29, by kernel_rfl, rfl, by kernel_rfl, Try.underlying3, rfl, by kernel_rfl, Try.underlying3, trivial⟩, rfl, by kernel_rfl, sh05r_is, trivial⟩
theorem arg_acts06 {H : Type} {enc : TypeId × Value → H} {W : World} {a : Option Addr} {len cap : Nat} {d : DataW H} {ps : List MemPlace}
    (h : DataW.Trod enc Try.prog W 0 (fun _ => true) true 34 (.slice a len cap) d ps) : ∃ xs, Acts06 W a len xs :=
  acts06 (arg_shape sh06 sh06_is h)

/-- An act in a box. -/
def Box6 (w : World) (g : Nat) (x : Act06) : Prop := w.heap[g]? = some (.cells #[.int .i64 x.kind, .int .i64 x.n, .int .i64 x.x.1, .int .i64 x.x.2, .slice x.la x.l.length x.lc] 40 (0, 0))
theorem Box6.bel {w w' : World} {g : Nat} {x : Act06} (h : Box6 w g x) (k : Bel w w') : Box6 w' g x := (Fr.of_bel (S := fun _ => False) k).heap h (fun h => h)
theorem Box6.kept {N : Nat → Prop} {w w' : World} {g : Nat} {x : Act06} (h : Box6 w g x) (k : Fr (fun i => ¬ N i) w w') (hN : N g) : Box6 w' g x := k.heap h (fun h9 => h9 hN)
theorem Box6.cells {w : World} {g : Nat} {x : Act06} (h : Box6 w g x) : w.cell? ⟨g, 0, none⟩ = some (.int .i64 x.kind) ∧ w.cell? ⟨g, 1, none⟩ = some (.int .i64 x.n) ∧ w.cell? ⟨g, 2, none⟩ = some (.int .i64 x.x.1) ∧ w.cell? ⟨g, 3, none⟩ = some (.int .i64 x.x.2) ∧ w.cell? ⟨g, 4, none⟩ = some (.slice x.la x.l.length x.lc) :=
  ⟨blk_cell h 0, blk_cell h 1, blk_cell h 2, blk_cell h 3, blk_cell h 4⟩
theorem LiveR.setCell {w0 : World} {N : Nat → Prop} {w : World} {b : Nat} {v : Value} {L : List Rn} (h : LiveR w0 N w b v L) {p : Addr} (hp : N p.block) (hb : w0.heap.size ≤ p.block) (y : Value) : LiveR w0 N (w.setCell p y) b v L := by
  have hF : Fr (fun k => k = p.block) w (w.setCell p y) := Fr.setCell (S := fun k => k = p.block) (p := p) (Fr.refl _ w) (.inl rfl) y
  refine ⟨h.free.fr hF (fun e => (h.keep _ hp).2 (.inl e.symm)) (fun g hg e => (h.keep _ hp).2 (.inr (by rw [← e]; exact hg))), h.old, h.own, Below.setCell h.bel hb y, fun i hi => ⟨by have := (h.keep i hi).1; simpa [World.setCell] using this, (h.keep i hi).2⟩⟩
theorem BitsO.setCell {w : World} {u : Value} {f : Int → Bool} (h : BitsO w u f) {p : Addr} {cs : Array Value} {T : Nat} (hp : w.heap[p.block]? = some (.cells cs T (0, 0))) (hT : T ≠ 4) (y : Value) : BitsO (w.setCell p y) u f :=
  h.fr (Fr.setCell (S := fun k => k = p.block) (p := p) (Fr.refl _ w) (.inl rfl) y) (fun g cur hg e => by subst e; rw [hp] at hg; simp at hg; exact hT hg.2)

theorem LiveR.forget {w0 : World} {N : Nat → Prop} {w : World} {b : Nat} {v : Value} {L : List Rn} (h : LiveR w0 N w b v L) : LiveR w0 (fun _ => False) w b v L :=
  ⟨h.free, h.old, h.own, h.bel, fun _ h => h.elim⟩

set_option maxHeartbeats 8000000 in
set_option maxRecDepth 20000 in
theorem runsPlays_walk (s : Option Addr) (l : List Rn) (m0 c : Nat) (s2 : Option Addr) (xs : List Act06) (m2 c2 : Nat) (n : Int) (w : World) (hR : Runs05 w s m0 l) (hA : Acts06 w s2 m2 xs) (hn : I64 n) :
    Calls Try.prog 4 #[.slice s m0 c, .slice s2 m2 c2, .int .i64 n] w fun e w' => e = .returned (.bool true) ∧ Bel w w' := by
  obtain ⟨rfl, hl, hrd, hok⟩ := hR
  obtain ⟨rfl, hxl, hxr, hxo⟩ := hA
  have hl2 : l.length ≤ 9223372036854775807 := by unfold maxLen at hl; omega
  have hl3 : xs.length ≤ 9223372036854775807 := by unfold maxLen at hxl; omega
  by_cases c0 : 20 < (l.length : Int) ∨ 100 < (xs.length : Int)
  · have c1 : 20 < (l.length : Int) ∨ (¬ 20 < (l.length : Int) ∧ 100 < (xs.length : Int)) := by omega
    clear c0 hrd hok hxr hxo
    rcases c1 with c1 | ⟨c1, c2⟩
    all_goals
      go_enter Try.func4, Try.ntmps4
      go_wp2_with fail
      refine (awake06 _).mono ?_; rintro e w' ⟨rfl, hB⟩
      go_wp2
      go_ret
      exact ⟨rfl, hB⟩
  have c1 : l.length ≤ 20 := by omega
  have c3 : xs.length ≤ 100 := by omega
  obtain ⟨L0, f0, en, hadd, hput, htw⟩ := twin_add (l := l) Twin.nil
  have HRD := Lib.hid hrd
  have HXR := Lib.hid hxr
  have HXO := Lib.hid hxo
  have HTW := Lib.hid htw
  have HPUT : Hid (∀ W v, BitsO W v (fun _ => false) → Bel w W → Calls Try.prog 13 #[v, .slice s l.length c, .bool true] W fun e W' => ∃ v', e = .returned (.tuple #[v', .int .i64 en]) ∧ BitsO W' v' f0 ∧ Bel W W') := Lib.hid (fun W v hv hB => by
    have := ref6_Put v _ s l l.length c true W rfl (by omega) hv (HRD.out.bel hB) hok
    rw [hput] at this; exact this)
  have HNEW : Hid (∀ W, Bel w W → Calls Try.prog 9 #[.slice s l.length c] W fun e W' => ∃ p, e = .returned (.tuple #[p, .int .i64 en]) ∧ Bel W W' ∧ ((en ≠ 0 ∧ p = .pointer none) ∨ (en = 0 ∧ ∃ b v, p = .pointer (some ⟨b, 0, none⟩) ∧ LiveR W (fun _ => False) W' b v L0))) := Lib.hid (fun W hB => by
    refine (runs_New s l l.length c W rfl (by omega) (HRD.out.bel hB) hok).mono ?_
    rintro e W' ⟨p, rfl, hB', hp⟩
    rw [hadd] at hp ⊢
    refine ⟨p, rfl, hB', ?_⟩
    rcases hp with hp | ⟨h, v, rfl, hF, hv⟩
    · exact .inl hp
    · exact .inr ⟨h, _, v, rfl, live_new hF hB' hv⟩)
  clear hrd hok hxr hxo htw hadd hput hl hxl c0
  go_enter Try.func4, Try.ntmps4
  go_wp2_with fail
  refine (ref6_New _).mono ?_; rintro e w1 ⟨v1, rfl, hO1, hB1⟩
  have HO1 := Lib.hid hO1
  have HB1 := Lib.hid hB1
  clear hO1 hB1
  go_wp2_with fail
  refine (HPUT.out _ _ HO1.out HB1.out).mono ?_; rintro e w2 ⟨v2, rfl, hO2, hB2⟩
  have HO2 := Lib.hid hO2
  have HB2 := Lib.hid (HB1.out.trans hB2)
  clear hO2 hB2 HPUT HO1 HB1
  go_wp2_with fail
  refine (HNEW.out _ HB2.out).mono ?_; rintro e w3 ⟨p, rfl, hB3, hp⟩
  have HB3 := Lib.hid hB3
  have HO3 := Lib.hid (HO2.out.bel hB3)
  clear hB3 HNEW HO2
  rcases hp with ⟨h9, rfl⟩ | ⟨rfl, b, v, rfl, hL⟩
  · have e1 : (en != 0) = true := by simpa using h9
    have e2 : (en == 0) = false := by simpa using h9
    have e3 : (en != en) = false := by simp
    go_wp2_with fail
    go_loopw [7, 11] (fun k1 k2 wr => k2 = .int .i64 0 ∧ wr = w3) (fun k1 k2 wr => 0)
    case atStart => exact ⟨rfl, rfl⟩
    case round =>
      obtain ⟨rfl, rfl⟩ := hrel
      by_cases hlt : (0 : Int) < xs.length
      · go_wp2_with fail
        refine (awake06 _).mono ?_; rintro e w' ⟨rfl, hB9⟩
        go_wp2
        go_ret
        exact ⟨rfl, (HB2.out.trans HB3.out).trans hB9⟩
      · go_wp2_with fail
        refine (awake06 _).mono ?_; rintro e w' ⟨rfl, hB9⟩
        go_wp2
        go_ret
        exact ⟨rfl, (HB2.out.trans HB3.out).trans hB9⟩
  have HL := Lib.hid hL
  clear hL
  go_wp2_with fail
  go_loopw [7, 11] (fun k1 k2 wr => ∃ i : Nat, i ≤ xs.length ∧ k2 = .int .i64 i ∧ ∃ mv, mv = k1 ∧ Hid (∃ v L f, LiveR w2 (fun _ => False) wr b v L ∧ BitsO wr mv f ∧ Twin L f)) (fun k1 k2 wr => xs.length - (intOf k2).toNat)
  case atStart => exact ⟨0, Nat.zero_le _, rfl, _, rfl, Lib.hid ⟨v, L0, f0, HL.out, HO3.out, HTW.out⟩⟩
  case round =>
    clear HL HO3 HTW
    obtain ⟨i, hi, rfl, mv, rfl, HH⟩ := hrel
    obtain ⟨v, L, f, hL, hO, hT⟩ := HH.out
    clear HH
    by_cases hlt : i < xs.length
    · obtain ⟨ba, oa, rfl, hra⟩ := (HXR.out.bel (HB2.out.trans hL.bel)).at i hlt
      have hx := HXO.out xs[i] (List.getElem_mem _)
      generalize xs[i] = x at hra hx
      have q0 : wr.cell? ⟨ba, oa + i * 5, none⟩ = some (.int .i64 x.kind) := hra 0 _ rfl
      have q1 : wr.cell? ⟨ba, oa + i * 5 + 1, none⟩ = some (.int .i64 x.n) := hra 1 _ rfl
      have q2 : wr.cell? ⟨ba, oa + i * 5 + 2, none⟩ = some (.int .i64 x.x.1) := hra 2 _ rfl
      have q3 : wr.cell? ⟨ba, oa + i * 5 + 3, none⟩ = some (.int .i64 x.x.2) := hra 3 _ rfl
      have q4 : wr.cell? ⟨ba, oa + i * 5 + 4, none⟩ = some (.slice x.la x.l.length x.lc) := hra 4 _ rfl
      have hxl : x.l.length ≤ 9223372036854775807 := by have := hx.len; unfold maxLen at this; omega
      have HX := Lib.hid hx
      have d0 : (i : Int) < xs.length := by omega
      have HT := Lib.hid hT
      have hal := (Bel.refl wr).alloc (.cells #[.int .i64 x.kind, .int .i64 x.n, .int .i64 x.x.1, .int .i64 x.x.2, .slice x.la x.l.length x.lc] 40)
      have HL1 := Lib.hid (hL.watch hal (fun i => i = wr.heap.size) (fun i hi => by subst hi; simp))
      have HO1 := Lib.hid (hO.bel hal)
      have hbx : Box6 (wr.alloc (.cells #[.int .i64 x.kind, .int .i64 x.n, .int .i64 x.x.1, .int .i64 x.x.2, .slice x.la x.l.length x.lc] 40)) wr.heap.size x := blk_alloc wr _
      have HBX := Lib.hid hbx
      obtain ⟨z0, z1, z2, z3, z4⟩ := hbx.cells
      have hRL := Lib.hid (hx.rd.bel ((HB2.out.trans hL.bel).trans hal))
      have hw2 := hL.bel.size
      have hsz : wr.heap.size < (wr.alloc (.cells #[.int .i64 x.kind, .int .i64 x.n, .int .i64 x.x.1, .int .i64 x.x.2, .slice x.la x.l.length x.lc] 40)).heap.size := by simp
      clear hra hx hL hO hT hal hbx
      by_cases c4 : 20 < (x.l.length : Int)
      · go_wp2_with fail
        refine (awake06 _).mono ?_; rintro e w' ⟨rfl, hB9⟩
        go_wp2
        go_ret
        exact ⟨rfl, (HB2.out.trans HL1.out.bel).trans hB9⟩
      have c5 : x.l.length ≤ 20 := by omega
      obtain ⟨g, hg⟩ : ∃ g, wr.heap.size = g := ⟨_, rfl⟩
      rw [hg] at HL1 HBX z0 z1 z2 z3 z4 hsz hw2
      by_cases hk0 : x.kind = 0
      · rw [hk0] at q0 z0
        obtain ⟨L', f', k, hadd, hput, htw⟩ := twin_add (l := x.l) HT.out
        have HTz := Lib.hid htw
        have e9 : (k != k) = false := by simp
        rw [hk0] at HL1 HBX z1 z2 z3 z4 hsz HO1 hRL
        go_wp2_with fail
        try rw [hg]
        generalize wr.alloc (.cells #[.int .i64 0, .int .i64 x.n, .int .i64 x.x.1, .int .i64 x.x.2, .slice x.la x.l.length x.lc] 40) = W1 at HL1 HBX z0 z1 z2 z3 z4 HO1 hRL hsz ⊢
        have hP := ref6_Put _ f x.la x.l x.l.length x.lc true W1 rfl (by omega) HO1.out hRL.out HX.out.ok
        rw [hput] at hP
        refine hP.mono ?_
        clear hP hput
        rintro e w5 ⟨m5, rfl, hO5, hB5⟩
        have HL5 := Lib.hid (HL1.out.then_bel hB5)
        have HO5 := Lib.hid hO5
        have HBX5 := Lib.hid (HBX.out.bel hB5)
        have HRL5 := Lib.hid (hRL.out.bel hB5)
        have HADD := Lib.hid (live_Add HL5.out hadd (by omega) HX.out.ok x.la x.lc _ (Bel.refl _) HRL5.out)
        clear hO5 hB5 z0 z1 z2 z3 z4 hadd htw
        obtain ⟨z0, z1, z2, z3, z4⟩ := HBX5.out.cells
        go_wp2_with fail
        refine HADD.out.mono ?_
        rintro e wz ⟨rfl, vz, hLz, hFz, hbits⟩
        have HLz := Lib.hid hLz
        have HOz := Lib.hid (hbits _ _ HO5.out)
        have HBz := Lib.hid (HBX5.out.kept hFz (.inr rfl))
        clear hLz hFz hbits z0 z1 z2 z3 z4 HADD HL5 HO5 HBX5 HRL5 HL1 HBX HO1 hRL hsz
        go_wp2_with fail
        refine (ref6_Best _ _ n wz HOz.out.1 hn).mono ?_
        rintro e wa ⟨rfl, hBa⟩
        rw [← HTz.out.eq]
        obtain ⟨y, hy⟩ : ∃ y, bestF L' n = y := ⟨_, rfl⟩
        obtain ⟨qy, hqy⟩ : ∃ qy, decide (0 < y.2) = qy := ⟨_, rfl⟩
        have HBE : Hid (∀ V, Bel wz V → Calls Try.prog 18 #[.pointer (some ⟨b, 0, none⟩), .int .i64 n] V fun e V' => e = .returned (.tuple #[.agg #[.int .i64 y.1, .int .i64 y.2], .bool qy]) ∧ Bel V V') := Lib.hid (fun V hV => by
          have := runs_Best _ _ n V (HLz.out.then_bel hV).p hn
          rw [hy, hqy] at this; exact this)
        rw [hy, hqy]
        have hg9 := blk_alloc wa (.cells #[.int .i64 y.1, .int .i64 y.2] 29)
        have hBa' : Bel wz (wa.alloc (.cells #[.int .i64 y.1, .int .i64 y.2] 29)) := hBa.alloc _
        have HG9 := Lib.hid hg9
        have HBa := Lib.hid hBa'
        clear hBa hBa' hg9 hy hqy
        go_wp2_with fail
        obtain ⟨ga, hga⟩ : ∃ ga, wa.heap.size = ga := ⟨_, rfl⟩
        rw [hga] at HG9 ⊢
        generalize wa.alloc (.cells #[.int .i64 y.1, .int .i64 y.2] 29) = Wa at HG9 HBa ⊢
        clear hga
        refine (HBE.out _ HBa.out).mono ?_
        rintro e wb ⟨rfl, hBb⟩
        have hgb := blk_alloc_old (.cells #[.int .i64 y.1, .int .i64 y.2] 29) ((Fr.of_bel (S := fun _ => False) hBb).heap HG9.out (fun h => h))
        have hgy := blk_alloc wb (.cells #[.int .i64 y.1, .int .i64 y.2] 29)
        have HB9 := Lib.hid ((HBa.out.trans hBb).alloc (.cells #[.int .i64 y.1, .int .i64 y.2] 29))
        have HGB := Lib.hid (And.intro hgb hgy)
        clear hBb hgb hgy HG9 HBa HBE
        go_wp2_with fail
        obtain ⟨gb, hgb⟩ : ∃ gb, wb.heap.size = gb := ⟨_, rfl⟩
        rw [hgb] at HGB ⊢
        generalize wb.alloc (.cells #[.int .i64 y.1, .int .i64 y.2] 29) = W9 at HGB HB9 ⊢
        clear hgb
        have HBX9 := Lib.hid (HBz.out.bel HB9.out)
        have HL9 := Lib.hid (HLz.out.then_bel HB9.out)
        have HO9 := Lib.hid (HOz.out.bel HB9.out)
        obtain ⟨x0, x1, _, _⟩ := two_cells HGB.out.1
        obtain ⟨y0, y1, _, _⟩ := two_cells HGB.out.2
        obtain ⟨_, _, z2, z3, _⟩ := HBX9.out.cells
        have HS1 : Hid (∀ V, Bel W9 V → V.cell? ⟨ga, 0, none⟩ = some (.int .i64 y.1) ∧ V.cell? ⟨ga, 1, none⟩ = some (.int .i64 y.2) ∧ V.cell? ⟨gb, 0, none⟩ = some (.int .i64 y.1) ∧ V.cell? ⟨gb, 1, none⟩ = some (.int .i64 y.2) ∧ V.cell? ⟨g, 2, none⟩ = some (.int .i64 x.x.1) ∧ V.cell? ⟨g, 3, none⟩ = some (.int .i64 x.x.2)) := Lib.hid (fun V hV => ⟨hV.cell x0, hV.cell x1, hV.cell y0, hV.cell y1, hV.cell z2, hV.cell z3⟩)
        have HLEN := Lib.hid (len_canon HL9.out.free.canon)
        obtain ⟨qh, hqh⟩ : ∃ qh, hasF L' x.x = qh := ⟨_, rfl⟩
        have C1 : Hid (∀ V, Bel W9 V → Calls Try.prog 12 #[.pointer (some ⟨b, 0, none⟩)] V fun e V' => ∃ aa cc, e = .returned (.slice aa L'.length cc) ∧ RunsIn V' aa L' ∧ Bel W9 V' ∧ V'.cell? ⟨ga, 0, none⟩ = some (.int .i64 y.1) ∧ V'.cell? ⟨ga, 1, none⟩ = some (.int .i64 y.2) ∧ V'.cell? ⟨gb, 0, none⟩ = some (.int .i64 y.1) ∧ V'.cell? ⟨gb, 1, none⟩ = some (.int .i64 y.2) ∧ V'.cell? ⟨g, 2, none⟩ = some (.int .i64 x.x.1) ∧ V'.cell? ⟨g, 3, none⟩ = some (.int .i64 x.x.2)) := Lib.hid (fun V hV => (live_List HL9.out V hV).mono fun e V' ⟨aa, cc, h1, h2, h3, _⟩ => ⟨aa, cc, h1, h2, h3, HS1.out V' h3⟩)
        have C2 : Hid (∀ U aa, RunsIn U aa L' → ∀ V, Bel U V → Bel W9 V → Calls Try.prog 19 #[m5] V fun e V' => ∃ ab cb, e = .returned (.slice ab L'.length cb) ∧ RunsIn V' ab L' ∧ RunsIn V' aa L' ∧ Bel W9 V' ∧ V'.cell? ⟨ga, 0, none⟩ = some (.int .i64 y.1) ∧ V'.cell? ⟨ga, 1, none⟩ = some (.int .i64 y.2) ∧ V'.cell? ⟨gb, 0, none⟩ = some (.int .i64 y.1) ∧ V'.cell? ⟨gb, 1, none⟩ = some (.int .i64 y.2) ∧ V'.cell? ⟨g, 2, none⟩ = some (.int .i64 x.x.1) ∧ V'.cell? ⟨g, 3, none⟩ = some (.int .i64 x.x.2)) := Lib.hid (fun U aa h1 V hU hV => by
          have h9 := ref6_List m5 f' V (HO9.out.bel hV).1
          rw [← HTz.out.eq] at h9
          refine h9.mono fun e V' hN => ?_
          obtain ⟨ab, cb, g1, g2, g3, _⟩ := list_post (Bel.refl _) hN
          exact ⟨ab, cb, g1, g2, h1.bel (hU.trans g3), hV.trans g3, HS1.out V' (hV.trans g3)⟩)
        have C3 : Hid (∀ U aa cc ab cb, RunsIn U aa L' → RunsIn U ab L' → Bel W9 U → ∀ V, Bel U V → Calls Try.prog 11 #[.slice aa L'.length cc, .slice ab L'.length cb] V fun e V' => e = .returned (.bool true) ∧ Bel W9 V' ∧ V'.cell? ⟨ga, 0, none⟩ = some (.int .i64 y.1) ∧ V'.cell? ⟨ga, 1, none⟩ = some (.int .i64 y.2) ∧ V'.cell? ⟨gb, 0, none⟩ = some (.int .i64 y.1) ∧ V'.cell? ⟨gb, 1, none⟩ = some (.int .i64 y.2) ∧ V'.cell? ⟨g, 2, none⟩ = some (.int .i64 x.x.1) ∧ V'.cell? ⟨g, 3, none⟩ = some (.int .i64 x.x.2)) := Lib.hid (fun U aa cc ab cb h1 h2 h3 V hV => (same_true HLEN.out (h1.bel hV) (h2.bel hV)).mono fun e V' h => ⟨h.1, h3.trans (hV.trans h.2), HS1.out V' (h3.trans (hV.trans h.2))⟩)
        have C4 : Hid (∀ V, Bel W9 V → Calls Try.prog 20 #[.pointer (some ⟨b, 0, none⟩), .agg #[.int .i64 x.x.1, .int .i64 x.x.2]] V fun e V' => e = .returned (.bool qh) ∧ Bel W9 V' ∧ V'.cell? ⟨ga, 0, none⟩ = some (.int .i64 y.1) ∧ V'.cell? ⟨ga, 1, none⟩ = some (.int .i64 y.2) ∧ V'.cell? ⟨gb, 0, none⟩ = some (.int .i64 y.1) ∧ V'.cell? ⟨gb, 1, none⟩ = some (.int .i64 y.2) ∧ V'.cell? ⟨g, 2, none⟩ = some (.int .i64 x.x.1) ∧ V'.cell? ⟨g, 3, none⟩ = some (.int .i64 x.x.2)) := Lib.hid (fun V hV => (live_Has HL9.out hqh HX.out.x1 HX.out.x2 V hV).mono fun e V' h => ⟨h.1, h.2, HS1.out V' h.2⟩)
        have C5 : Hid (∀ V, Bel W9 V → Calls Try.prog 21 #[m5, .agg #[.int .i64 x.x.1, .int .i64 x.x.2]] V fun e V' => e = .returned (.bool qh) ∧ Bel W9 V' ∧ V'.cell? ⟨ga, 0, none⟩ = some (.int .i64 y.1) ∧ V'.cell? ⟨ga, 1, none⟩ = some (.int .i64 y.2) ∧ V'.cell? ⟨gb, 0, none⟩ = some (.int .i64 y.1) ∧ V'.cell? ⟨gb, 1, none⟩ = some (.int .i64 y.2) ∧ V'.cell? ⟨g, 2, none⟩ = some (.int .i64 x.x.1) ∧ V'.cell? ⟨g, 3, none⟩ = some (.int .i64 x.x.2)) := Lib.hid (fun V hV => by
          have h9 := ref6_Has m5 f' x.x V (HO9.out.bel hV).1 HX.out.x1 HX.out.x2
          rw [← HTz.out.eq, hqh] at h9
          exact h9.mono fun e V' h => ⟨h.1, hV.trans h.2, HS1.out V' (hV.trans h.2)⟩)
        clear hqh
        go_wp2_with fail
        go_region_held3 (fun w' => w'.cell? ⟨ga, 0, none⟩ = some (.int .i64 y.1) ∧ w'.cell? ⟨ga, 1, none⟩ = some (.int .i64 y.2) ∧ w'.cell? ⟨gb, 0, none⟩ = some (.int .i64 y.1) ∧ w'.cell? ⟨gb, 1, none⟩ = some (.int .i64 y.2) ∧ w'.cell? ⟨g, 2, none⟩ = some (.int .i64 x.x.1) ∧ w'.cell? ⟨g, 3, none⟩ = some (.int .i64 x.x.2))
          (first | exact hS5 | exact hS4 | exact hS3 | exact hS2 | exact hS1 | go_keep)
          (first
          | (go_at_call 12; (with_reducible refine (C1.out _ ?b1).mono ?_); (case b1 => repeat (first | assumption | exact Bel.refl _ | apply Bel.drew | apply Bel.alloc)); rintro e u1 ⟨aa, cc, rfl, hra, hB1, hS1⟩)
          | (go_at_call 19; (with_reducible refine (C2.out u1 _ hra _ ?b1 ?b2).mono ?_); (case b1 => repeat (first | assumption | exact Bel.refl _ | apply Bel.drew | apply Bel.alloc)); (case b2 => repeat (first | assumption | exact Bel.refl _ | apply Bel.drew | apply Bel.alloc)); rintro e u2 ⟨ab, cb, rfl, hrb, hrc, hB2, hS2⟩)
          | (go_at_call 11; (with_reducible refine (C3.out u2 _ _ _ _ hrc hrb hB2 _ ?b1).mono ?_); (case b1 => repeat (first | assumption | exact Bel.refl _ | apply Bel.drew | apply Bel.alloc)); rintro e u3 ⟨rfl, hB3, hS3⟩)
          | (go_at_call 20; (with_reducible refine (C4.out _ ?b1).mono ?_); (case b1 => repeat (first | assumption | exact Bel.refl _ | apply Bel.drew | apply Bel.alloc)); rintro e u4 ⟨rfl, hB4, hS4⟩)
          | (go_at_call 21; (with_reducible refine (C5.out _ ?b1).mono ?_); (case b1 => repeat (first | assumption | exact Bel.refl _ | apply Bel.drew | apply Bel.alloc)); rintro e u5 ⟨rfl, hB5, hS5⟩))
        go_wp2
        go_roundw
        case rel => exact ⟨i + 1, by omega, by go_num, _, rfl, Lib.hid ⟨_, L', f', (HL9.out.then_bel hB5).forget, HO9.out.bel hB5, HTz.out⟩⟩
        case measure => simp [intOf]; omega
      · by_cases hk1 : x.kind = 1
        · rw [hk1] at q0 z0
          obtain ⟨L', f', k, hcut, hput, htw⟩ := twin_cut (x := x.x) HT.out
          have HTz := Lib.hid htw
          have e9 : (k != k) = false := by simp
          rw [hk1] at HL1 HBX z1 z2 z3 z4 hsz HO1 hRL
          have hP := ref6_Put _ f (some ⟨(wr.alloc (.cells #[.int .i64 1, .int .i64 x.n, .int .i64 x.x.1, .int .i64 x.x.2, .slice x.la x.l.length x.lc] 40)).heap.size, 0, none⟩) [x.x] 1 1 false _ rfl (by simp) (HO1.out.bel ((Bel.refl _).alloc (.cells #[.int .i64 x.x.1, .int .i64 x.x.2] 29))) (RunsIn.of_row (RdV.new _ #[.int .i64 x.x.1, .int .i64 x.x.2] 29)) (by intro r hr; simp at hr; subst hr; exact ⟨HX.out.x1, HX.out.x2⟩)
          rw [hput] at hP
          rw [World.size_alloc, hg] at hP
          have HPP := Lib.hid hP
          clear hP hput
          go_wp2_with fail
          try rw [hg]
          generalize wr.alloc (.cells #[.int .i64 1, .int .i64 x.n, .int .i64 x.x.1, .int .i64 x.x.2, .slice x.la x.l.length x.lc] 40) = W1 at HL1 HBX z0 z1 z2 z3 z4 HO1 hRL hsz HPP ⊢
          refine HPP.out.mono ?_
          clear HPP
          rintro e w5 ⟨m5, rfl, hO5, hB5⟩
          have hB5' := ((Bel.refl W1).alloc (.cells #[.int .i64 x.x.1, .int .i64 x.x.2] 29)).trans hB5
          have HL5 := Lib.hid (HL1.out.then_bel hB5')
          have HO5 := Lib.hid hO5
          have HBX5 := Lib.hid (HBX.out.bel hB5')
          have HCUT := Lib.hid (live_Cut HL5.out hcut HX.out.x1 HX.out.x2 _ (Bel.refl _))
          clear hO5 hB5 hB5' z0 z1 z2 z3 z4 hcut htw
          obtain ⟨z0, z1, z2, z3, z4⟩ := HBX5.out.cells
          go_wp2_with fail
          refine HCUT.out.mono ?_
          rintro e wz ⟨rfl, vz, hLz, hFz, hbits⟩
          have HLz := Lib.hid hLz
          have HOz := Lib.hid (hbits _ _ HO5.out)
          have HBz := Lib.hid (HBX5.out.kept hFz (.inr rfl))
          clear hLz hFz hbits z0 z1 z2 z3 z4 HCUT HL5 HO5 HBX5 HL1 HBX HO1 hRL hsz
          go_wp2_with fail
          refine (ref6_Best _ _ n wz HOz.out.1 hn).mono ?_
          rintro e wa ⟨rfl, hBa⟩
          rw [← HTz.out.eq]
          obtain ⟨y, hy⟩ : ∃ y, bestF L' n = y := ⟨_, rfl⟩
          obtain ⟨qy, hqy⟩ : ∃ qy, decide (0 < y.2) = qy := ⟨_, rfl⟩
          have HBE : Hid (∀ V, Bel wz V → Calls Try.prog 18 #[.pointer (some ⟨b, 0, none⟩), .int .i64 n] V fun e V' => e = .returned (.tuple #[.agg #[.int .i64 y.1, .int .i64 y.2], .bool qy]) ∧ Bel V V') := Lib.hid (fun V hV => by
            have := runs_Best _ _ n V (HLz.out.then_bel hV).p hn
            rw [hy, hqy] at this; exact this)
          rw [hy, hqy]
          have hg9 := blk_alloc wa (.cells #[.int .i64 y.1, .int .i64 y.2] 29)
          have hBa' : Bel wz (wa.alloc (.cells #[.int .i64 y.1, .int .i64 y.2] 29)) := hBa.alloc _
          have HG9 := Lib.hid hg9
          have HBa := Lib.hid hBa'
          clear hBa hBa' hg9 hy hqy
          go_wp2_with fail
          obtain ⟨ga, hga⟩ : ∃ ga, wa.heap.size = ga := ⟨_, rfl⟩
          rw [hga] at HG9 ⊢
          generalize wa.alloc (.cells #[.int .i64 y.1, .int .i64 y.2] 29) = Wa at HG9 HBa ⊢
          clear hga
          refine (HBE.out _ HBa.out).mono ?_
          rintro e wb ⟨rfl, hBb⟩
          have hgb := blk_alloc_old (.cells #[.int .i64 y.1, .int .i64 y.2] 29) ((Fr.of_bel (S := fun _ => False) hBb).heap HG9.out (fun h => h))
          have hgy := blk_alloc wb (.cells #[.int .i64 y.1, .int .i64 y.2] 29)
          have HB9 := Lib.hid ((HBa.out.trans hBb).alloc (.cells #[.int .i64 y.1, .int .i64 y.2] 29))
          have HGB := Lib.hid (And.intro hgb hgy)
          clear hBb hgb hgy HG9 HBa HBE
          go_wp2_with fail
          obtain ⟨gb, hgb⟩ : ∃ gb, wb.heap.size = gb := ⟨_, rfl⟩
          rw [hgb] at HGB ⊢
          generalize wb.alloc (.cells #[.int .i64 y.1, .int .i64 y.2] 29) = W9 at HGB HB9 ⊢
          clear hgb
          have HBX9 := Lib.hid (HBz.out.bel HB9.out)
          have HL9 := Lib.hid (HLz.out.then_bel HB9.out)
          have HO9 := Lib.hid (HOz.out.bel HB9.out)
          obtain ⟨x0, x1, _, _⟩ := two_cells HGB.out.1
          obtain ⟨y0, y1, _, _⟩ := two_cells HGB.out.2
          obtain ⟨_, _, z2, z3, _⟩ := HBX9.out.cells
          have HS1 : Hid (∀ V, Bel W9 V → V.cell? ⟨ga, 0, none⟩ = some (.int .i64 y.1) ∧ V.cell? ⟨ga, 1, none⟩ = some (.int .i64 y.2) ∧ V.cell? ⟨gb, 0, none⟩ = some (.int .i64 y.1) ∧ V.cell? ⟨gb, 1, none⟩ = some (.int .i64 y.2) ∧ V.cell? ⟨g, 2, none⟩ = some (.int .i64 x.x.1) ∧ V.cell? ⟨g, 3, none⟩ = some (.int .i64 x.x.2)) := Lib.hid (fun V hV => ⟨hV.cell x0, hV.cell x1, hV.cell y0, hV.cell y1, hV.cell z2, hV.cell z3⟩)
          have HLEN := Lib.hid (len_canon HL9.out.free.canon)
          obtain ⟨qh, hqh⟩ : ∃ qh, hasF L' x.x = qh := ⟨_, rfl⟩
          have C1 : Hid (∀ V, Bel W9 V → Calls Try.prog 12 #[.pointer (some ⟨b, 0, none⟩)] V fun e V' => ∃ aa cc, e = .returned (.slice aa L'.length cc) ∧ RunsIn V' aa L' ∧ Bel W9 V' ∧ V'.cell? ⟨ga, 0, none⟩ = some (.int .i64 y.1) ∧ V'.cell? ⟨ga, 1, none⟩ = some (.int .i64 y.2) ∧ V'.cell? ⟨gb, 0, none⟩ = some (.int .i64 y.1) ∧ V'.cell? ⟨gb, 1, none⟩ = some (.int .i64 y.2) ∧ V'.cell? ⟨g, 2, none⟩ = some (.int .i64 x.x.1) ∧ V'.cell? ⟨g, 3, none⟩ = some (.int .i64 x.x.2)) := Lib.hid (fun V hV => (live_List HL9.out V hV).mono fun e V' ⟨aa, cc, h1, h2, h3, _⟩ => ⟨aa, cc, h1, h2, h3, HS1.out V' h3⟩)
          have C2 : Hid (∀ U aa, RunsIn U aa L' → ∀ V, Bel U V → Bel W9 V → Calls Try.prog 19 #[m5] V fun e V' => ∃ ab cb, e = .returned (.slice ab L'.length cb) ∧ RunsIn V' ab L' ∧ RunsIn V' aa L' ∧ Bel W9 V' ∧ V'.cell? ⟨ga, 0, none⟩ = some (.int .i64 y.1) ∧ V'.cell? ⟨ga, 1, none⟩ = some (.int .i64 y.2) ∧ V'.cell? ⟨gb, 0, none⟩ = some (.int .i64 y.1) ∧ V'.cell? ⟨gb, 1, none⟩ = some (.int .i64 y.2) ∧ V'.cell? ⟨g, 2, none⟩ = some (.int .i64 x.x.1) ∧ V'.cell? ⟨g, 3, none⟩ = some (.int .i64 x.x.2)) := Lib.hid (fun U aa h1 V hU hV => by
            have h9 := ref6_List m5 f' V (HO9.out.bel hV).1
            rw [← HTz.out.eq] at h9
            refine h9.mono fun e V' hN => ?_
            obtain ⟨ab, cb, g1, g2, g3, _⟩ := list_post (Bel.refl _) hN
            exact ⟨ab, cb, g1, g2, h1.bel (hU.trans g3), hV.trans g3, HS1.out V' (hV.trans g3)⟩)
          have C3 : Hid (∀ U aa cc ab cb, RunsIn U aa L' → RunsIn U ab L' → Bel W9 U → ∀ V, Bel U V → Calls Try.prog 11 #[.slice aa L'.length cc, .slice ab L'.length cb] V fun e V' => e = .returned (.bool true) ∧ Bel W9 V' ∧ V'.cell? ⟨ga, 0, none⟩ = some (.int .i64 y.1) ∧ V'.cell? ⟨ga, 1, none⟩ = some (.int .i64 y.2) ∧ V'.cell? ⟨gb, 0, none⟩ = some (.int .i64 y.1) ∧ V'.cell? ⟨gb, 1, none⟩ = some (.int .i64 y.2) ∧ V'.cell? ⟨g, 2, none⟩ = some (.int .i64 x.x.1) ∧ V'.cell? ⟨g, 3, none⟩ = some (.int .i64 x.x.2)) := Lib.hid (fun U aa cc ab cb h1 h2 h3 V hV => (same_true HLEN.out (h1.bel hV) (h2.bel hV)).mono fun e V' h => ⟨h.1, h3.trans (hV.trans h.2), HS1.out V' (h3.trans (hV.trans h.2))⟩)
          have C4 : Hid (∀ V, Bel W9 V → Calls Try.prog 20 #[.pointer (some ⟨b, 0, none⟩), .agg #[.int .i64 x.x.1, .int .i64 x.x.2]] V fun e V' => e = .returned (.bool qh) ∧ Bel W9 V' ∧ V'.cell? ⟨ga, 0, none⟩ = some (.int .i64 y.1) ∧ V'.cell? ⟨ga, 1, none⟩ = some (.int .i64 y.2) ∧ V'.cell? ⟨gb, 0, none⟩ = some (.int .i64 y.1) ∧ V'.cell? ⟨gb, 1, none⟩ = some (.int .i64 y.2) ∧ V'.cell? ⟨g, 2, none⟩ = some (.int .i64 x.x.1) ∧ V'.cell? ⟨g, 3, none⟩ = some (.int .i64 x.x.2)) := Lib.hid (fun V hV => (live_Has HL9.out hqh HX.out.x1 HX.out.x2 V hV).mono fun e V' h => ⟨h.1, h.2, HS1.out V' h.2⟩)
          have C5 : Hid (∀ V, Bel W9 V → Calls Try.prog 21 #[m5, .agg #[.int .i64 x.x.1, .int .i64 x.x.2]] V fun e V' => e = .returned (.bool qh) ∧ Bel W9 V' ∧ V'.cell? ⟨ga, 0, none⟩ = some (.int .i64 y.1) ∧ V'.cell? ⟨ga, 1, none⟩ = some (.int .i64 y.2) ∧ V'.cell? ⟨gb, 0, none⟩ = some (.int .i64 y.1) ∧ V'.cell? ⟨gb, 1, none⟩ = some (.int .i64 y.2) ∧ V'.cell? ⟨g, 2, none⟩ = some (.int .i64 x.x.1) ∧ V'.cell? ⟨g, 3, none⟩ = some (.int .i64 x.x.2)) := Lib.hid (fun V hV => by
            have h9 := ref6_Has m5 f' x.x V (HO9.out.bel hV).1 HX.out.x1 HX.out.x2
            rw [← HTz.out.eq, hqh] at h9
            exact h9.mono fun e V' h => ⟨h.1, hV.trans h.2, HS1.out V' (hV.trans h.2)⟩)
          clear hqh
          go_wp2_with fail
          go_region_held3 (fun w' => w'.cell? ⟨ga, 0, none⟩ = some (.int .i64 y.1) ∧ w'.cell? ⟨ga, 1, none⟩ = some (.int .i64 y.2) ∧ w'.cell? ⟨gb, 0, none⟩ = some (.int .i64 y.1) ∧ w'.cell? ⟨gb, 1, none⟩ = some (.int .i64 y.2) ∧ w'.cell? ⟨g, 2, none⟩ = some (.int .i64 x.x.1) ∧ w'.cell? ⟨g, 3, none⟩ = some (.int .i64 x.x.2))
            (first | exact hS5 | exact hS4 | exact hS3 | exact hS2 | exact hS1 | go_keep)
            (first
            | (go_at_call 12; (with_reducible refine (C1.out _ ?b1).mono ?_); (case b1 => repeat (first | assumption | exact Bel.refl _ | apply Bel.drew | apply Bel.alloc)); rintro e u1 ⟨aa, cc, rfl, hra, hB1, hS1⟩)
            | (go_at_call 19; (with_reducible refine (C2.out u1 _ hra _ ?b1 ?b2).mono ?_); (case b1 => repeat (first | assumption | exact Bel.refl _ | apply Bel.drew | apply Bel.alloc)); (case b2 => repeat (first | assumption | exact Bel.refl _ | apply Bel.drew | apply Bel.alloc)); rintro e u2 ⟨ab, cb, rfl, hrb, hrc, hB2, hS2⟩)
            | (go_at_call 11; (with_reducible refine (C3.out u2 _ _ _ _ hrc hrb hB2 _ ?b1).mono ?_); (case b1 => repeat (first | assumption | exact Bel.refl _ | apply Bel.drew | apply Bel.alloc)); rintro e u3 ⟨rfl, hB3, hS3⟩)
            | (go_at_call 20; (with_reducible refine (C4.out _ ?b1).mono ?_); (case b1 => repeat (first | assumption | exact Bel.refl _ | apply Bel.drew | apply Bel.alloc)); rintro e u4 ⟨rfl, hB4, hS4⟩)
            | (go_at_call 21; (with_reducible refine (C5.out _ ?b1).mono ?_); (case b1 => repeat (first | assumption | exact Bel.refl _ | apply Bel.drew | apply Bel.alloc)); rintro e u5 ⟨rfl, hB5, hS5⟩))
          go_wp2
          go_roundw
          case rel => exact ⟨i + 1, by omega, by go_num, _, rfl, Lib.hid ⟨_, L', f', (HL9.out.then_bel hB5).forget, HO9.out.bel hB5, HTz.out⟩⟩
          case measure => simp [intOf]; omega
        · have e0 : (x.kind == 0) = false := by simpa using hk0
          have e1 : (x.kind == 1) = false := by simpa using hk1
          have hbe := ref6_Best _ f x.n _ HO1.out.1 HX.out.n
          rw [← HT.out.eq] at hbe
          have hbb := twin_take (n := x.n) HT.out
          obtain ⟨y, hy⟩ : ∃ y, bestF L x.n = y := ⟨_, rfl⟩
          rw [hy] at hbe hbb
          have HBE := Lib.hid hbe
          clear hbe hy
          rcases hbb with ⟨rfl, htk⟩ | ⟨hn1, hpos, t0, t1, hn2, L', f', htk, hput, htw⟩
          · have HTz := Lib.hid HT.out
            go_wp2_with fail
            try rw [hg]
            generalize wr.alloc (.cells #[.int .i64 x.kind, .int .i64 x.n, .int .i64 x.x.1, .int .i64 x.x.2, .slice x.la x.l.length x.lc] 40) = W1 at HL1 HBX z0 z1 z2 z3 z4 HO1 hRL hsz HBE ⊢
            refine HBE.out.mono ?_
            rintro e w5 ⟨rfl, hB5⟩
            have hal := (Bel.refl w5).alloc (.cells #[.int .i64 0, .int .i64 0] 29)
            have HL5 := Lib.hid ((HL1.out.then_bel hB5).watch hal (fun i => i = w5.heap.size) (fun i hi => by subst hi; simp))
            have HO5 := Lib.hid ((HO1.out.bel hB5).bel hal)
            have HBX5 := Lib.hid ((HBX.out.bel hB5).bel hal)
            have HGX := Lib.hid (blk_alloc w5 (.cells #[.int .i64 0, .int .i64 0] 29))
            have HTK := Lib.hid (live_Take HL5.out htk HX.out.n _ (Bel.refl _))
            obtain ⟨z0, z1, z2, z3, z4⟩ := HBX5.out.cells
            clear hB5 hal htk
            go_wp2_with fail
            refine HTK.out.mono ?_
            rintro e w6 ⟨rfl, vz, hL6, hF6, hbits⟩
            have hgx := hF6.heap HGX.out (fun h9 => h9 (.inr rfl))
            have hal := (Bel.refl w6).alloc (.cells #[.int .i64 0, .int .i64 0] 29)
            have HLz := Lib.hid (hL6.then_bel hal)
            have HOz := Lib.hid ((hbits _ _ HO5.out).bel hal)
            have HBz := Lib.hid ((HBX5.out.kept hF6 (.inl (.inr rfl))).bel hal)
            obtain ⟨x0, x1, _, _⟩ := two_cells (blk_alloc_old (.cells #[.int .i64 0, .int .i64 0] 29) hgx)
            obtain ⟨y0, y1, _, _⟩ := two_cells (blk_alloc w6 (.cells #[.int .i64 0, .int .i64 0] 29))
            clear hL6 hF6 hbits hgx hal HTK HGX HL5 HO5 HBX5 HL1 HBX HO1 hRL hsz z0 z1 z2 z3 z4
            go_wp2_with fail
            generalize w6.alloc (.cells #[.int .i64 0, .int .i64 0] 29) = wz at HLz HOz HBz x0 x1 y0 y1 ⊢
            clear x0 x1 y0 y1
            refine (ref6_Best _ _ n wz HOz.out.1 hn).mono ?_
            rintro e wa ⟨rfl, hBa⟩
            rw [← HTz.out.eq]
            obtain ⟨y, hy⟩ : ∃ y, bestF L n = y := ⟨_, rfl⟩
            obtain ⟨qy, hqy⟩ : ∃ qy, decide (0 < y.2) = qy := ⟨_, rfl⟩
            have HBE : Hid (∀ V, Bel wz V → Calls Try.prog 18 #[.pointer (some ⟨b, 0, none⟩), .int .i64 n] V fun e V' => e = .returned (.tuple #[.agg #[.int .i64 y.1, .int .i64 y.2], .bool qy]) ∧ Bel V V') := Lib.hid (fun V hV => by
              have := runs_Best _ _ n V (HLz.out.then_bel hV).p hn
              rw [hy, hqy] at this; exact this)
            rw [hy, hqy]
            have hg9 := blk_alloc wa (.cells #[.int .i64 y.1, .int .i64 y.2] 29)
            have hBa' : Bel wz (wa.alloc (.cells #[.int .i64 y.1, .int .i64 y.2] 29)) := hBa.alloc _
            have HG9 := Lib.hid hg9
            have HBa := Lib.hid hBa'
            clear hBa hBa' hg9 hy hqy
            go_wp2_with fail
            obtain ⟨ga, hga⟩ : ∃ ga, wa.heap.size = ga := ⟨_, rfl⟩
            rw [hga] at HG9 ⊢
            generalize wa.alloc (.cells #[.int .i64 y.1, .int .i64 y.2] 29) = Wa at HG9 HBa ⊢
            clear hga
            refine (HBE.out _ HBa.out).mono ?_
            rintro e wb ⟨rfl, hBb⟩
            have hgb := blk_alloc_old (.cells #[.int .i64 y.1, .int .i64 y.2] 29) ((Fr.of_bel (S := fun _ => False) hBb).heap HG9.out (fun h => h))
            have hgy := blk_alloc wb (.cells #[.int .i64 y.1, .int .i64 y.2] 29)
            have HB9 := Lib.hid ((HBa.out.trans hBb).alloc (.cells #[.int .i64 y.1, .int .i64 y.2] 29))
            have HGB := Lib.hid (And.intro hgb hgy)
            clear hBb hgb hgy HG9 HBa HBE
            go_wp2_with fail
            obtain ⟨gb, hgb⟩ : ∃ gb, wb.heap.size = gb := ⟨_, rfl⟩
            rw [hgb] at HGB ⊢
            generalize wb.alloc (.cells #[.int .i64 y.1, .int .i64 y.2] 29) = W9 at HGB HB9 ⊢
            clear hgb
            have HBX9 := Lib.hid (HBz.out.bel HB9.out)
            have HL9 := Lib.hid (HLz.out.then_bel HB9.out)
            have HO9 := Lib.hid (HOz.out.bel HB9.out)
            obtain ⟨x0, x1, _, _⟩ := two_cells HGB.out.1
            obtain ⟨y0, y1, _, _⟩ := two_cells HGB.out.2
            obtain ⟨_, _, z2, z3, _⟩ := HBX9.out.cells
            have HS1 : Hid (∀ V, Bel W9 V → V.cell? ⟨ga, 0, none⟩ = some (.int .i64 y.1) ∧ V.cell? ⟨ga, 1, none⟩ = some (.int .i64 y.2) ∧ V.cell? ⟨gb, 0, none⟩ = some (.int .i64 y.1) ∧ V.cell? ⟨gb, 1, none⟩ = some (.int .i64 y.2) ∧ V.cell? ⟨g, 2, none⟩ = some (.int .i64 x.x.1) ∧ V.cell? ⟨g, 3, none⟩ = some (.int .i64 x.x.2)) := Lib.hid (fun V hV => ⟨hV.cell x0, hV.cell x1, hV.cell y0, hV.cell y1, hV.cell z2, hV.cell z3⟩)
            have HLEN := Lib.hid (len_canon HL9.out.free.canon)
            obtain ⟨qh, hqh⟩ : ∃ qh, hasF L x.x = qh := ⟨_, rfl⟩
            have C1 : Hid (∀ V, Bel W9 V → Calls Try.prog 12 #[.pointer (some ⟨b, 0, none⟩)] V fun e V' => ∃ aa cc, e = .returned (.slice aa L.length cc) ∧ RunsIn V' aa L ∧ Bel W9 V' ∧ V'.cell? ⟨ga, 0, none⟩ = some (.int .i64 y.1) ∧ V'.cell? ⟨ga, 1, none⟩ = some (.int .i64 y.2) ∧ V'.cell? ⟨gb, 0, none⟩ = some (.int .i64 y.1) ∧ V'.cell? ⟨gb, 1, none⟩ = some (.int .i64 y.2) ∧ V'.cell? ⟨g, 2, none⟩ = some (.int .i64 x.x.1) ∧ V'.cell? ⟨g, 3, none⟩ = some (.int .i64 x.x.2)) := Lib.hid (fun V hV => (live_List HL9.out V hV).mono fun e V' ⟨aa, cc, h1, h2, h3, _⟩ => ⟨aa, cc, h1, h2, h3, HS1.out V' h3⟩)
            have C2 : Hid (∀ U aa, RunsIn U aa L → ∀ V, Bel U V → Bel W9 V → Calls Try.prog 19 #[mv] V fun e V' => ∃ ab cb, e = .returned (.slice ab L.length cb) ∧ RunsIn V' ab L ∧ RunsIn V' aa L ∧ Bel W9 V' ∧ V'.cell? ⟨ga, 0, none⟩ = some (.int .i64 y.1) ∧ V'.cell? ⟨ga, 1, none⟩ = some (.int .i64 y.2) ∧ V'.cell? ⟨gb, 0, none⟩ = some (.int .i64 y.1) ∧ V'.cell? ⟨gb, 1, none⟩ = some (.int .i64 y.2) ∧ V'.cell? ⟨g, 2, none⟩ = some (.int .i64 x.x.1) ∧ V'.cell? ⟨g, 3, none⟩ = some (.int .i64 x.x.2)) := Lib.hid (fun U aa h1 V hU hV => by
              have h9 := ref6_List mv f V (HO9.out.bel hV).1
              rw [← HTz.out.eq] at h9
              refine h9.mono fun e V' hN => ?_
              obtain ⟨ab, cb, g1, g2, g3, _⟩ := list_post (Bel.refl _) hN
              exact ⟨ab, cb, g1, g2, h1.bel (hU.trans g3), hV.trans g3, HS1.out V' (hV.trans g3)⟩)
            have C3 : Hid (∀ U aa cc ab cb, RunsIn U aa L → RunsIn U ab L → Bel W9 U → ∀ V, Bel U V → Calls Try.prog 11 #[.slice aa L.length cc, .slice ab L.length cb] V fun e V' => e = .returned (.bool true) ∧ Bel W9 V' ∧ V'.cell? ⟨ga, 0, none⟩ = some (.int .i64 y.1) ∧ V'.cell? ⟨ga, 1, none⟩ = some (.int .i64 y.2) ∧ V'.cell? ⟨gb, 0, none⟩ = some (.int .i64 y.1) ∧ V'.cell? ⟨gb, 1, none⟩ = some (.int .i64 y.2) ∧ V'.cell? ⟨g, 2, none⟩ = some (.int .i64 x.x.1) ∧ V'.cell? ⟨g, 3, none⟩ = some (.int .i64 x.x.2)) := Lib.hid (fun U aa cc ab cb h1 h2 h3 V hV => (same_true HLEN.out (h1.bel hV) (h2.bel hV)).mono fun e V' h => ⟨h.1, h3.trans (hV.trans h.2), HS1.out V' (h3.trans (hV.trans h.2))⟩)
            have C4 : Hid (∀ V, Bel W9 V → Calls Try.prog 20 #[.pointer (some ⟨b, 0, none⟩), .agg #[.int .i64 x.x.1, .int .i64 x.x.2]] V fun e V' => e = .returned (.bool qh) ∧ Bel W9 V' ∧ V'.cell? ⟨ga, 0, none⟩ = some (.int .i64 y.1) ∧ V'.cell? ⟨ga, 1, none⟩ = some (.int .i64 y.2) ∧ V'.cell? ⟨gb, 0, none⟩ = some (.int .i64 y.1) ∧ V'.cell? ⟨gb, 1, none⟩ = some (.int .i64 y.2) ∧ V'.cell? ⟨g, 2, none⟩ = some (.int .i64 x.x.1) ∧ V'.cell? ⟨g, 3, none⟩ = some (.int .i64 x.x.2)) := Lib.hid (fun V hV => (live_Has HL9.out hqh HX.out.x1 HX.out.x2 V hV).mono fun e V' h => ⟨h.1, h.2, HS1.out V' h.2⟩)
            have C5 : Hid (∀ V, Bel W9 V → Calls Try.prog 21 #[mv, .agg #[.int .i64 x.x.1, .int .i64 x.x.2]] V fun e V' => e = .returned (.bool qh) ∧ Bel W9 V' ∧ V'.cell? ⟨ga, 0, none⟩ = some (.int .i64 y.1) ∧ V'.cell? ⟨ga, 1, none⟩ = some (.int .i64 y.2) ∧ V'.cell? ⟨gb, 0, none⟩ = some (.int .i64 y.1) ∧ V'.cell? ⟨gb, 1, none⟩ = some (.int .i64 y.2) ∧ V'.cell? ⟨g, 2, none⟩ = some (.int .i64 x.x.1) ∧ V'.cell? ⟨g, 3, none⟩ = some (.int .i64 x.x.2)) := Lib.hid (fun V hV => by
              have h9 := ref6_Has mv f x.x V (HO9.out.bel hV).1 HX.out.x1 HX.out.x2
              rw [← HTz.out.eq, hqh] at h9
              exact h9.mono fun e V' h => ⟨h.1, hV.trans h.2, HS1.out V' (hV.trans h.2)⟩)
            clear hqh
            go_wp2_with fail
            go_region_held3 (fun w' => w'.cell? ⟨ga, 0, none⟩ = some (.int .i64 y.1) ∧ w'.cell? ⟨ga, 1, none⟩ = some (.int .i64 y.2) ∧ w'.cell? ⟨gb, 0, none⟩ = some (.int .i64 y.1) ∧ w'.cell? ⟨gb, 1, none⟩ = some (.int .i64 y.2) ∧ w'.cell? ⟨g, 2, none⟩ = some (.int .i64 x.x.1) ∧ w'.cell? ⟨g, 3, none⟩ = some (.int .i64 x.x.2))
              (first | exact hS5 | exact hS4 | exact hS3 | exact hS2 | exact hS1 | go_keep)
              (first
              | (go_at_call 12; (with_reducible refine (C1.out _ ?b1).mono ?_); (case b1 => repeat (first | assumption | exact Bel.refl _ | apply Bel.drew | apply Bel.alloc)); rintro e u1 ⟨aa, cc, rfl, hra, hB1, hS1⟩)
              | (go_at_call 19; (with_reducible refine (C2.out u1 _ hra _ ?b1 ?b2).mono ?_); (case b1 => repeat (first | assumption | exact Bel.refl _ | apply Bel.drew | apply Bel.alloc)); (case b2 => repeat (first | assumption | exact Bel.refl _ | apply Bel.drew | apply Bel.alloc)); rintro e u2 ⟨ab, cb, rfl, hrb, hrc, hB2, hS2⟩)
              | (go_at_call 11; (with_reducible refine (C3.out u2 _ _ _ _ hrc hrb hB2 _ ?b1).mono ?_); (case b1 => repeat (first | assumption | exact Bel.refl _ | apply Bel.drew | apply Bel.alloc)); rintro e u3 ⟨rfl, hB3, hS3⟩)
              | (go_at_call 20; (with_reducible refine (C4.out _ ?b1).mono ?_); (case b1 => repeat (first | assumption | exact Bel.refl _ | apply Bel.drew | apply Bel.alloc)); rintro e u4 ⟨rfl, hB4, hS4⟩)
              | (go_at_call 21; (with_reducible refine (C5.out _ ?b1).mono ?_); (case b1 => repeat (first | assumption | exact Bel.refl _ | apply Bel.drew | apply Bel.alloc)); rintro e u5 ⟨rfl, hB5, hS5⟩))
            go_wp2
            go_roundw
            case rel => exact ⟨i + 1, by omega, by go_num, _, rfl, Lib.hid ⟨_, L, f, (HL9.out.then_bel hB5).forget, HO9.out.bel hB5, HTz.out⟩⟩
            case measure => simp [intOf]; omega
          · have HTz := Lib.hid htw
            obtain ⟨t, y2⟩ := y
            dsimp only at HBE hpos t0 t1 htk hput
            have dp : decide (0 < y2) = true := decide_eq_true hpos
            rw [dp] at HBE
            have HPUT : Hid (∀ V q, V.heap.size = q → BitsO V mv f → Calls Try.prog 13 #[mv, .slice (some ⟨q, 0, none⟩) 1 1, .bool false] (V.alloc (.cells #[.int .i64 t, .int .i64 x.n] 29)) fun e V' => ∃ v', e = .returned (.tuple #[v', .int .i64 0]) ∧ BitsO V' v' f' ∧ Bel V V') := Lib.hid (fun V q hq hO => by
              subst hq
              have h9 := ref6_Put mv f (some ⟨V.heap.size, 0, none⟩) [(t, x.n)] 1 1 false _ rfl (by simp) (hO.bel ((Bel.refl _).alloc (.cells #[.int .i64 t, .int .i64 x.n] 29))) (RunsIn.of_row (RdV.new V #[.int .i64 t, .int .i64 x.n] 29)) (by intro r hr; simp at hr; subst hr; exact ⟨⟨by omega, by omega⟩, HX.out.n⟩)
              rw [hput] at h9
              exact h9.mono fun e V' ⟨v', h1, h2, h3⟩ => ⟨v', h1, h2, ((Bel.refl _).alloc _).trans h3⟩)
            clear hput htw dp
            go_wp2_with fail
            try rw [hg]
            generalize wr.alloc (.cells #[.int .i64 x.kind, .int .i64 x.n, .int .i64 x.x.1, .int .i64 x.x.2, .slice x.la x.l.length x.lc] 40) = W1 at HL1 HBX z0 z1 z2 z3 z4 HO1 hRL hsz HBE ⊢
            refine HBE.out.mono ?_
            rintro e w5 ⟨rfl, hB5⟩
            have hal := (Bel.refl w5).alloc (.cells #[.int .i64 t, .int .i64 y2] 29)
            have hgl : g < w5.heap.size := heap_lt (HBX.out.bel hB5)
            have hwl : w2.heap.size ≤ w5.heap.size := (HL1.out.then_bel hB5).bel.size
            have hL5 := (HL1.out.then_bel hB5).watch hal (fun i => i = w5.heap.size) (fun i hi => by subst hi; simp)
            have HO5 := Lib.hid ((HO1.out.bel hB5).bel hal)
            have HBX5 := Lib.hid ((HBX.out.bel hB5).bel hal)
            have hgx := blk_alloc w5 (.cells #[.int .i64 t, .int .i64 y2] 29)
            obtain ⟨z0, z1, z2, z3, z4⟩ := HBX5.out.cells
            obtain ⟨gX, hgX⟩ : ∃ gX, w5.heap.size = gX := ⟨_, rfl⟩
            rw [hgX] at hL5 hgx hgl hwl
            have HGX := Lib.hid hgx
            have HL5 := Lib.hid hL5
            have HTK := Lib.hid (live_Take HL5.out htk HX.out.n _ (Bel.refl _))
            clear hB5 hal htk hL5 hgx
            go_wp2_with fail
            try rw [hgX]
            clear hgX
            refine HTK.out.mono ?_
            rintro e w6 ⟨rfl, vz, hL6, hF6, hbits⟩
            have hgx := hF6.heap HGX.out (fun h9 => h9 (.inr rfl))
            have hal := (Bel.refl w6).alloc (.cells #[.int .i64 t, .int .i64 x.n] 29)
            have hgx2 := blk_alloc_old (.cells #[.int .i64 t, .int .i64 x.n] 29) hgx
            have hgy := blk_alloc w6 (.cells #[.int .i64 t, .int .i64 x.n] 29)
            have hxy : gX < w6.heap.size := heap_lt hgx
            have hL7 := hL6.then_bel hal
            have hO7 := (hbits _ _ HO5.out).bel hal
            have hB7 := (HBX5.out.kept hF6 (.inl (.inr rfl))).bel hal
            have HR7 := Lib.hid (And.intro hgx2 (And.intro hgy (And.intro hL7 (And.intro hO7 hB7))))
            clear hL6 hF6 hbits hgx hal HTK HGX HL5 HO5 HBX5 HL1 HBX HO1 hRL hsz z0 z1 z2 z3 z4 hgx2 hgy hL7 hO7 hB7
            go_upto_region 16 with fail
            obtain ⟨gY, hgY⟩ : ∃ gY, w6.heap.size = gY := ⟨_, rfl⟩
            rw [hgY] at HR7 hxy ⊢
            clear hgY
            generalize w6.alloc (.cells #[.int .i64 t, .int .i64 x.n] 29) = wy at HR7 ⊢
            obtain ⟨x0, x1, f0, f1⟩ := two_cells HR7.out.1
            obtain ⟨z0, z1, z2, z3, z4⟩ := HR7.out.2.2.2.2.cells
            have hgx3 := blk_setCell HR7.out.1 1 (.int .i64 x.n)
            have HR8 : Hid ((wy.setCell ⟨gX, 1, none⟩ (.int .i64 x.n)).heap[gX]? = some (.cells #[.int .i64 t, .int .i64 x.n] 29 (0, 0)) ∧ (wy.setCell ⟨gX, 1, none⟩ (.int .i64 x.n)).heap[gY]? = some (.cells #[.int .i64 t, .int .i64 x.n] 29 (0, 0)) ∧ LiveR w2 (fun i => (False ∨ i = g) ∨ i = gX) (wy.setCell ⟨gX, 1, none⟩ (.int .i64 x.n)) b vz L' ∧ BitsO (wy.setCell ⟨gX, 1, none⟩ (.int .i64 x.n)) mv f ∧ Box6 (wy.setCell ⟨gX, 1, none⟩ (.int .i64 x.n)) g x) := Lib.hid
              ⟨hgx3, blk_setCell_other HR7.out.2.1 (show gY ≠ gX by omega) _, HR7.out.2.2.1.setCell (p := ⟨gX, 1, none⟩) (.inr rfl) hwl _, HR7.out.2.2.2.1.setCell (p := ⟨gX, 1, none⟩) HR7.out.1 (by decide) _, blk_setCell_other HR7.out.2.2.2.2 (show g ≠ gX by omega) _⟩
            clear hgx3
            go_wp2_with fail
            refine (HPUT.out (wy.setCell ⟨gX, 1, none⟩ (.int .i64 x.n)) _ (by simp [World.setCell]) HR8.out.2.2.2.1).mono ?_
            rintro e wz ⟨m9, rfl, hOz, hBz⟩
            have HLz := Lib.hid (HR8.out.2.2.1.then_bel hBz)
            have HOz := Lib.hid hOz
            have HBz := Lib.hid (HR8.out.2.2.2.2.bel hBz)
            have hx9 := (Fr.of_bel (S := fun _ => False) hBz).heap HR8.out.1 (fun h => h)
            have hy9 := (Fr.of_bel (S := fun _ => False) hBz).heap HR8.out.2.1 (fun h => h)
            clear x0 x1 f0 f1 z0 z1 z2 z3 z4 HR7 HR8 HPUT hOz hBz
            obtain ⟨x0, x1, _, _⟩ := two_cells hx9
            obtain ⟨y0, y1, _, _⟩ := two_cells hy9
            clear hx9 hy9
            go_wp2_with fail
            refine (ref6_Best _ _ n wz HOz.out.1 hn).mono ?_
            rintro e wa ⟨rfl, hBa⟩
            rw [← HTz.out.eq]
            obtain ⟨y, hy⟩ : ∃ y, bestF L' n = y := ⟨_, rfl⟩
            obtain ⟨qy, hqy⟩ : ∃ qy, decide (0 < y.2) = qy := ⟨_, rfl⟩
            have HBE : Hid (∀ V, Bel wz V → Calls Try.prog 18 #[.pointer (some ⟨b, 0, none⟩), .int .i64 n] V fun e V' => e = .returned (.tuple #[.agg #[.int .i64 y.1, .int .i64 y.2], .bool qy]) ∧ Bel V V') := Lib.hid (fun V hV => by
              have := runs_Best _ _ n V (HLz.out.then_bel hV).p hn
              rw [hy, hqy] at this; exact this)
            rw [hy, hqy]
            have hg9 := blk_alloc wa (.cells #[.int .i64 y.1, .int .i64 y.2] 29)
            have hBa' : Bel wz (wa.alloc (.cells #[.int .i64 y.1, .int .i64 y.2] 29)) := hBa.alloc _
            have HG9 := Lib.hid hg9
            have HBa := Lib.hid hBa'
            clear hBa hBa' hg9 hy hqy
            go_wp2_with fail
            obtain ⟨ga, hga⟩ : ∃ ga, wa.heap.size = ga := ⟨_, rfl⟩
            rw [hga] at HG9 ⊢
            generalize wa.alloc (.cells #[.int .i64 y.1, .int .i64 y.2] 29) = Wa at HG9 HBa ⊢
            clear hga
            refine (HBE.out _ HBa.out).mono ?_
            rintro e wb ⟨rfl, hBb⟩
            have hgb := blk_alloc_old (.cells #[.int .i64 y.1, .int .i64 y.2] 29) ((Fr.of_bel (S := fun _ => False) hBb).heap HG9.out (fun h => h))
            have hgy := blk_alloc wb (.cells #[.int .i64 y.1, .int .i64 y.2] 29)
            have HB9 := Lib.hid ((HBa.out.trans hBb).alloc (.cells #[.int .i64 y.1, .int .i64 y.2] 29))
            have HGB := Lib.hid (And.intro hgb hgy)
            clear hBb hgb hgy HG9 HBa HBE
            go_wp2_with fail
            obtain ⟨gb, hgb⟩ : ∃ gb, wb.heap.size = gb := ⟨_, rfl⟩
            rw [hgb] at HGB ⊢
            generalize wb.alloc (.cells #[.int .i64 y.1, .int .i64 y.2] 29) = W9 at HGB HB9 ⊢
            clear hgb
            have HBX9 := Lib.hid (HBz.out.bel HB9.out)
            have HL9 := Lib.hid (HLz.out.then_bel HB9.out)
            have HO9 := Lib.hid (HOz.out.bel HB9.out)
            obtain ⟨x0, x1, _, _⟩ := two_cells HGB.out.1
            obtain ⟨y0, y1, _, _⟩ := two_cells HGB.out.2
            obtain ⟨_, _, z2, z3, _⟩ := HBX9.out.cells
            have HS1 : Hid (∀ V, Bel W9 V → V.cell? ⟨ga, 0, none⟩ = some (.int .i64 y.1) ∧ V.cell? ⟨ga, 1, none⟩ = some (.int .i64 y.2) ∧ V.cell? ⟨gb, 0, none⟩ = some (.int .i64 y.1) ∧ V.cell? ⟨gb, 1, none⟩ = some (.int .i64 y.2) ∧ V.cell? ⟨g, 2, none⟩ = some (.int .i64 x.x.1) ∧ V.cell? ⟨g, 3, none⟩ = some (.int .i64 x.x.2)) := Lib.hid (fun V hV => ⟨hV.cell x0, hV.cell x1, hV.cell y0, hV.cell y1, hV.cell z2, hV.cell z3⟩)
            have HLEN := Lib.hid (len_canon HL9.out.free.canon)
            obtain ⟨qh, hqh⟩ : ∃ qh, hasF L' x.x = qh := ⟨_, rfl⟩
            have C1 : Hid (∀ V, Bel W9 V → Calls Try.prog 12 #[.pointer (some ⟨b, 0, none⟩)] V fun e V' => ∃ aa cc, e = .returned (.slice aa L'.length cc) ∧ RunsIn V' aa L' ∧ Bel W9 V' ∧ V'.cell? ⟨ga, 0, none⟩ = some (.int .i64 y.1) ∧ V'.cell? ⟨ga, 1, none⟩ = some (.int .i64 y.2) ∧ V'.cell? ⟨gb, 0, none⟩ = some (.int .i64 y.1) ∧ V'.cell? ⟨gb, 1, none⟩ = some (.int .i64 y.2) ∧ V'.cell? ⟨g, 2, none⟩ = some (.int .i64 x.x.1) ∧ V'.cell? ⟨g, 3, none⟩ = some (.int .i64 x.x.2)) := Lib.hid (fun V hV => (live_List HL9.out V hV).mono fun e V' ⟨aa, cc, h1, h2, h3, _⟩ => ⟨aa, cc, h1, h2, h3, HS1.out V' h3⟩)
            have C2 : Hid (∀ U aa, RunsIn U aa L' → ∀ V, Bel U V → Bel W9 V → Calls Try.prog 19 #[m9] V fun e V' => ∃ ab cb, e = .returned (.slice ab L'.length cb) ∧ RunsIn V' ab L' ∧ RunsIn V' aa L' ∧ Bel W9 V' ∧ V'.cell? ⟨ga, 0, none⟩ = some (.int .i64 y.1) ∧ V'.cell? ⟨ga, 1, none⟩ = some (.int .i64 y.2) ∧ V'.cell? ⟨gb, 0, none⟩ = some (.int .i64 y.1) ∧ V'.cell? ⟨gb, 1, none⟩ = some (.int .i64 y.2) ∧ V'.cell? ⟨g, 2, none⟩ = some (.int .i64 x.x.1) ∧ V'.cell? ⟨g, 3, none⟩ = some (.int .i64 x.x.2)) := Lib.hid (fun U aa h1 V hU hV => by
              have h9 := ref6_List m9 f' V (HO9.out.bel hV).1
              rw [← HTz.out.eq] at h9
              refine h9.mono fun e V' hN => ?_
              obtain ⟨ab, cb, g1, g2, g3, _⟩ := list_post (Bel.refl _) hN
              exact ⟨ab, cb, g1, g2, h1.bel (hU.trans g3), hV.trans g3, HS1.out V' (hV.trans g3)⟩)
            have C3 : Hid (∀ U aa cc ab cb, RunsIn U aa L' → RunsIn U ab L' → Bel W9 U → ∀ V, Bel U V → Calls Try.prog 11 #[.slice aa L'.length cc, .slice ab L'.length cb] V fun e V' => e = .returned (.bool true) ∧ Bel W9 V' ∧ V'.cell? ⟨ga, 0, none⟩ = some (.int .i64 y.1) ∧ V'.cell? ⟨ga, 1, none⟩ = some (.int .i64 y.2) ∧ V'.cell? ⟨gb, 0, none⟩ = some (.int .i64 y.1) ∧ V'.cell? ⟨gb, 1, none⟩ = some (.int .i64 y.2) ∧ V'.cell? ⟨g, 2, none⟩ = some (.int .i64 x.x.1) ∧ V'.cell? ⟨g, 3, none⟩ = some (.int .i64 x.x.2)) := Lib.hid (fun U aa cc ab cb h1 h2 h3 V hV => (same_true HLEN.out (h1.bel hV) (h2.bel hV)).mono fun e V' h => ⟨h.1, h3.trans (hV.trans h.2), HS1.out V' (h3.trans (hV.trans h.2))⟩)
            have C4 : Hid (∀ V, Bel W9 V → Calls Try.prog 20 #[.pointer (some ⟨b, 0, none⟩), .agg #[.int .i64 x.x.1, .int .i64 x.x.2]] V fun e V' => e = .returned (.bool qh) ∧ Bel W9 V' ∧ V'.cell? ⟨ga, 0, none⟩ = some (.int .i64 y.1) ∧ V'.cell? ⟨ga, 1, none⟩ = some (.int .i64 y.2) ∧ V'.cell? ⟨gb, 0, none⟩ = some (.int .i64 y.1) ∧ V'.cell? ⟨gb, 1, none⟩ = some (.int .i64 y.2) ∧ V'.cell? ⟨g, 2, none⟩ = some (.int .i64 x.x.1) ∧ V'.cell? ⟨g, 3, none⟩ = some (.int .i64 x.x.2)) := Lib.hid (fun V hV => (live_Has HL9.out hqh HX.out.x1 HX.out.x2 V hV).mono fun e V' h => ⟨h.1, h.2, HS1.out V' h.2⟩)
            have C5 : Hid (∀ V, Bel W9 V → Calls Try.prog 21 #[m9, .agg #[.int .i64 x.x.1, .int .i64 x.x.2]] V fun e V' => e = .returned (.bool qh) ∧ Bel W9 V' ∧ V'.cell? ⟨ga, 0, none⟩ = some (.int .i64 y.1) ∧ V'.cell? ⟨ga, 1, none⟩ = some (.int .i64 y.2) ∧ V'.cell? ⟨gb, 0, none⟩ = some (.int .i64 y.1) ∧ V'.cell? ⟨gb, 1, none⟩ = some (.int .i64 y.2) ∧ V'.cell? ⟨g, 2, none⟩ = some (.int .i64 x.x.1) ∧ V'.cell? ⟨g, 3, none⟩ = some (.int .i64 x.x.2)) := Lib.hid (fun V hV => by
              have h9 := ref6_Has m9 f' x.x V (HO9.out.bel hV).1 HX.out.x1 HX.out.x2
              rw [← HTz.out.eq, hqh] at h9
              exact h9.mono fun e V' h => ⟨h.1, hV.trans h.2, HS1.out V' (hV.trans h.2)⟩)
            clear hqh
            go_wp2_with fail
            go_region_held3 (fun w' => w'.cell? ⟨ga, 0, none⟩ = some (.int .i64 y.1) ∧ w'.cell? ⟨ga, 1, none⟩ = some (.int .i64 y.2) ∧ w'.cell? ⟨gb, 0, none⟩ = some (.int .i64 y.1) ∧ w'.cell? ⟨gb, 1, none⟩ = some (.int .i64 y.2) ∧ w'.cell? ⟨g, 2, none⟩ = some (.int .i64 x.x.1) ∧ w'.cell? ⟨g, 3, none⟩ = some (.int .i64 x.x.2))
              (first | exact hS5 | exact hS4 | exact hS3 | exact hS2 | exact hS1 | go_keep)
              (first
              | (go_at_call 12; (with_reducible refine (C1.out _ ?b1).mono ?_); (case b1 => repeat (first | assumption | exact Bel.refl _ | apply Bel.drew | apply Bel.alloc)); rintro e u1 ⟨aa, cc, rfl, hra, hB1, hS1⟩)
              | (go_at_call 19; (with_reducible refine (C2.out u1 _ hra _ ?b1 ?b2).mono ?_); (case b1 => repeat (first | assumption | exact Bel.refl _ | apply Bel.drew | apply Bel.alloc)); (case b2 => repeat (first | assumption | exact Bel.refl _ | apply Bel.drew | apply Bel.alloc)); rintro e u2 ⟨ab, cb, rfl, hrb, hrc, hB2, hS2⟩)
              | (go_at_call 11; (with_reducible refine (C3.out u2 _ _ _ _ hrc hrb hB2 _ ?b1).mono ?_); (case b1 => repeat (first | assumption | exact Bel.refl _ | apply Bel.drew | apply Bel.alloc)); rintro e u3 ⟨rfl, hB3, hS3⟩)
              | (go_at_call 20; (with_reducible refine (C4.out _ ?b1).mono ?_); (case b1 => repeat (first | assumption | exact Bel.refl _ | apply Bel.drew | apply Bel.alloc)); rintro e u4 ⟨rfl, hB4, hS4⟩)
              | (go_at_call 21; (with_reducible refine (C5.out _ ?b1).mono ?_); (case b1 => repeat (first | assumption | exact Bel.refl _ | apply Bel.drew | apply Bel.alloc)); rintro e u5 ⟨rfl, hB5, hS5⟩))
            go_wp2
            go_roundw
            case rel => exact ⟨i + 1, by omega, by go_num, _, rfl, Lib.hid ⟨_, L', f', (HL9.out.then_bel hB5).forget, HO9.out.bel hB5, HTz.out⟩⟩
            case measure => simp [intOf]; omega
    · obtain rfl : i = xs.length := by omega
      have HL := Lib.hid hL
      have HO := Lib.hid hO
      have hps := ref6_Pages mv f
      rw [← hT.eq] at hps
      have HPS := Lib.hid hps
      clear hL hO hT hps
      go_wp2_with fail
      refine (live_Pages HL.out rfl _ (Bel.refl _)).mono ?_
      rintro e w5 ⟨rfl, hB5⟩
      have HO5 := Lib.hid (HO.out.bel hB5)
      have HL5 := Lib.hid (HL.out.then_bel hB5)
      clear hB5
      go_wp2_with fail
      refine (HPS.out _ HO5.out.1).mono ?_
      rintro e w6 ⟨rfl, rfl⟩
      go_wp2_with fail
      refine (awake06 _).mono ?_; rintro e w' ⟨rfl, hB9⟩
      go_wp2
      go_ret
      exact ⟨rfl, (HB2.out.trans HL5.out.bel).trans hB9⟩
end Go.Proofs.Ytjmjdkimkgclaaa

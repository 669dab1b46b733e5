/- Any row of acts on an arena (layer 4). -/
import Derived.Test.YtgpegcbhmobdhaaLaw04M
import Derived.Test.YtgpegcbhmobdhaaRef04R
import Derived.Test.YtgpegcbhmobdhaaOpen
import Derived.StillTailTactics
import Derived.Deep.MidRow
import Derived.Deep.QuietTactic
import Derived.BigQuiet
import Derived.Deep.RegionHeld3
namespace Go.Proofs.Ytgpegcbhmobdhaa
open Go.RowKit Go.Deep

structure Act04 where
  kind : Int
  at_ : Int
  from_ : Int
  n : Int
  wa : Option Addr
  ws : List Int
  wc : Nat
def c04 (x : Act04) : List Value := [.int .i64 x.kind, .int .i64 x.at_, .int .i64 x.from_, .int .i64 x.n, .slice x.wa x.ws.length x.wc]
structure Ok04 (W : World) (x : Act04) : Prop where
  kind : I64 x.kind
  at_ : I64 x.at_
  from_ : I64 x.from_
  n : I64 x.n
  len : x.ws.length ≤ maxLen
  rd : RdV W x.wa (u64s x.ws)
  wf : ∀ y ∈ x.ws, 0 ≤ y ∧ y ≤ 18446744073709551615

/-- The rows of acts that came in. -/
structure Acts04 (W : World) (a : Option Addr) (n : Nat) (xs : List Act04) : Prop where
  len : n = xs.length
  max : xs.length ≤ maxLen
  rd : RdR W a 5 (xs.map c04)
  ok : ∀ x ∈ xs, Ok04 W x

def sh04 : Sh := .slice (.struct (.pair (.int .i64) (.pair (.int .i64) (.pair (.int .i64) (.pair (.int .i64) (.pair (.slice (.int .u64)) .unit))))))
theorem acts04 {W : World} {a : Option Addr} {n c : Nat} (h : RdC W sh04 [.slice a n c]) : ∃ xs, Acts04 W a n xs := by
  obtain ⟨a', c', rows, he, hl, hr, hR⟩ := h
  simp only [List.cons.injEq, Value.slice.injEq, and_true] at he
  obtain ⟨rfl, rfl, rfl⟩ := he
  obtain ⟨xs, rfl, hx⟩ := choose_list (f := c04) (p := Ok04 W) rows (fun r hrm => by
    obtain ⟨_, _, rfl, ⟨k, rfl, hk⟩, _, _, rfl, ⟨t, rfl, ht⟩, _, _, rfl, ⟨f, rfl, hf⟩, _, _, rfl, ⟨n, rfl, hn⟩, _, _, rfl, hs, rfl⟩ := hr r hrm
    obtain ⟨wa, wc, ws, rfl, h1, h2, h3⟩ := rd_nums hs
    exact ⟨⟨k, t, f, n, wa, ws, wc⟩, rfl, ⟨i64_of_wf hk, i64_of_wf ht, i64_of_wf hf, i64_of_wf hn, h1, h2, fun y hy => bounds_u64 (h3 y hy)⟩⟩)
  exact ⟨xs, by simp, by simpa using hl, hR, hx⟩

/-- An act's own copy. -/
def XA04 (w : World) (b : Nat) (x : Act04) : Prop := w.heap[b]? = some (.cells (c04 x).toArray 52 (0, 0))
theorem XA04.cs {w : World} {b : Nat} {x : Act04} (h : XA04 w b x) : w.cell? ⟨b, 0, none⟩ = some (.int .i64 x.kind) ∧ w.cell? ⟨b, 1, none⟩ = some (.int .i64 x.at_) ∧ w.cell? ⟨b, 2, none⟩ = some (.int .i64 x.from_) ∧
    w.cell? ⟨b, 3, none⟩ = some (.int .i64 x.n) ∧ w.cell? ⟨b, 4, none⟩ = some (.slice x.wa x.ws.length x.wc) :=
  ⟨blk_cell h 0, blk_cell h 1, blk_cell h 2, blk_cell h 3, blk_cell h 4⟩

/-- Words stored anew, whatever was made besides. -/
def GotZ (W0 : World) (bw L : Nat) (ws : List Int) (e : Ending) (W2 : World) : Prop :=
  ∃ am' cm', e = .returned (.tuple #[.slice am' L cm', .int .i64 0]) ∧ RdV W2 am' (u64s ws) ∧ (∀ p, am' = some p → p.block ≠ bw) ∧ Bel W0 W2
/-- THE STATE -/
structure St04 (w wr : World) (ba bw n : Nat) (m : Value) (ws : List Int) : Prop where
  len : ws.length = 64 * n
  ar : ArenaAt wr ba bw ws
  m : ∃ am cm, m = .slice am ws.length cm ∧ RdV wr am (u64s ws) ∧ ∀ p, am = some p → p.block ≠ bw
  bel : Bel w wr
  hb : w.heap.size ≤ bw

theorem Calls.quiet_eq {P : Program} {f : FuncId} {args : Array Value} {w : World} {n : Nat} {v : Value}
    (h : Calls P f args (w.drewN n) fun e w' => e = .returned v ∧ w.drewN n = w') : Calls P f args (w.drewN n) fun e w'' => e = .returned v ∧ ∃ m, w'' = w.drewN m :=
  h.mono fun _ _ ⟨he, hm⟩ => ⟨he, n, hm.symm⟩
theorem St04.then {w wr w' : World} {ba bw n : Nat} {m : Value} {ws : List Int} (h : St04 w wr ba bw n m ws) (k : Bel wr w') : St04 w w' ba bw n m ws := by
  obtain ⟨am, cm, e, h1, h2⟩ := h.m
  exact ⟨h.len, h.ar.bel k, ⟨am, cm, e, h1.bel k, h2⟩, h.bel.trans k, h.hb⟩
theorem XA04.bel {w w' : World} {b : Nat} {x : Act04} (h : XA04 w b x) (k : Bel w w') : XA04 w' b x := (Fr.of_bel (S := fun _ => False) k).heap h (fun h => h)
theorem XA04.fr {S : Nat → Prop} {w w' : World} {b : Nat} {x : Act04} (h : XA04 w b x) (k : Fr S w w') (hn : ¬ S b) : XA04 w' b x := k.heap h hn
theorem mv_in {ws : List Int} {to from_ n : Int} (h : inB ws.length from_ n = true) : inB ws.length to (rowW ws from_ n).length = mvB ws.length to from_ n ∧ stW ws to (rowW ws from_ n) = mvW ws to from_ n := by
  obtain ⟨h0, h1, h2, h3⟩ := inB_iff.1 h
  have e1 : rowW ws from_ n = (ws.drop from_.toNat).take n.toNat := by unfold rowW; rw [h]; rfl
  have e2 : ((rowW ws from_ n).length : Int) = n := by rw [e1]; simp; omega
  unfold mvB mvW stW
  rw [e2]
  unfold mvB
  rw [h, e1]
  simp
theorem mv_out {ws : List Int} {to from_ n : Int} (h : inB ws.length from_ n = false) : mvB ws.length to from_ n = false ∧ mvW ws to from_ n = ws := by
  unfold mvW mvB
  rw [h]
  simp
theorem mvW_length (ws : List Int) (to from_ n : Int) : (mvW ws to from_ n).length = ws.length := by
  cases h : inB ws.length from_ n
  · rw [(mv_out h).2]
  · rw [← (mv_in h).2, stW_length]
theorem row_one {ws : List Int} {at_ : Int} (h : inB ws.length at_ 1 = true) : rowW ws at_ 1 = [ldW ws at_] := by
  obtain ⟨h0, h1, h2, h3⟩ := inB_iff.1 h
  unfold rowW ldW
  rw [h]
  simp only [if_true]
  have hlt : at_.toNat < ws.length := by omega
  rw [List.drop_eq_getElem_cons hlt, show (1 : Int).toNat = 0 + 1 from rfl, List.take_succ_cons, List.take_zero]
  simp [List.getD_eq_getElem?_getD, hlt]
theorem bne_self (r : Int) : (r != r) = false := by simp
theorem bne_selfB (r : Bool) : (r != r) = false := by simp

set_option maxHeartbeats 8000000 in
set_option maxRecDepth 20000 in
theorem arenaPlays_walk (pages : Int) (a : Option Addr) (xs : List Act04) (ln c : Nat) (w : World) (hp : I64 pages) (hA : Acts04 w a ln xs) :
    Calls Try.prog 11 #[.int .i64 pages, .slice a ln c] w fun e w' => e = .returned (.bool true) ∧ Bel w w' := by
  obtain ⟨rfl, hl, hrd, hok⟩ := hA
  have hl2 : xs.length ≤ 9223372036854775807 := by unfold maxLen at hl; omega
  have hhp := hp
  obtain ⟨p0, p1⟩ := hp
  have HRD := Lib.hid hrd
  have HOK := Lib.hid hok
  clear hrd hok hl
  by_cases c1 : 20 < pages
  · go_enter Try.func11, Try.ntmps11
    go_wp2_with fail
    refine (awake04 _).mono ?_; rintro e w' ⟨rfl, hB⟩
    go_wp2
    go_ret
    exact ⟨rfl, hB⟩
  by_cases c2 : 100 < (xs.length : Int)
  · go_enter Try.func11, Try.ntmps11
    go_wp2_with fail
    refine (awake04 _).mono ?_; rintro e w' ⟨rfl, hB⟩
    go_wp2
    go_ret
    exact ⟨rfl, hB⟩
  by_cases c3 : pages < 4 ∨ 1024 < pages
  · have HC := Lib.hid c3
    clear c3
    go_enter Try.func11, Try.ntmps11
    go_wp2_with fail
    refine (arena_New_out pages _ hhp HC.out).mono ?_; rintro e w1 ⟨rfl, rfl⟩
    go_wp2_with fail
    refine (ref_New_out pages _ HC.out hhp).mono ?_; rintro e w1 ⟨v, rfl, hB1⟩
    go_wp2_with fail
    refine (arena_Words _ [] _ (.inl ⟨rfl, rfl⟩)).mono ?_; rintro e w2 ⟨rfl, rfl⟩
    go_wp2_with fail
    refine (awake04 _).mono ?_; rintro e w' ⟨rfl, hB⟩
    go_wp2
    go_ret
    exact ⟨rfl, hB1.trans hB⟩
  obtain ⟨n, rfl⟩ := Int.eq_ofNat_of_zero_le (show 0 ≤ pages by omega)
  have c3' : 4 ≤ n ∧ n ≤ 1024 := by omega
  have HC := Lib.hid c3'
  have E1 : Hid (((List.replicate (64 * n) (0 : Int)).length : Int) = 64 * (n : Int)) := Lib.hid (by simp)
  have E2 : ((64 * n : Nat) : Int) = 64 * (n : Int) := by omega
  clear c3 c3' p0 p1
  go_enter Try.func11, Try.ntmps11
  go_wp2_with fail
  refine (arena_New_ok n _ HC.out.1 HC.out.2).mono ?_
  rintro e w1 ⟨ba, rfl, hlt, hA1, hB1⟩
  have hbw := heap_lt hA1.words
  go_wp2_with fail
  refine (ref_New_ok n _ HC.out.1 HC.out.2).mono ?_
  rintro e w2 ⟨rfl, hr2, hB2, hs2⟩
  have hA2 := hA1.bel hB2
  go_wp2_with fail
  refine (arena_Words _ _ _ (.inr ⟨ba, _, rfl, hA2⟩)).mono ?_; rintro e w3 ⟨rfl, rfl⟩
  rw [E1.out]
  have hS : St04 w w2 ba w.heap.size n (.slice (some ⟨w1.heap.size, 0, none⟩) (64 * n) (64 * n)) (List.replicate (64 * n) 0) :=
    ⟨by simp, hA2, ⟨_, _, by rw [List.length_replicate], hr2, fun p hp => by cases hp; show w1.heap.size ≠ w.heap.size; omega⟩, hB1.trans hB2, Nat.le_refl _⟩
  have HS := Lib.hid hS
  clear hS hA1 hA2 hr2 hB1 hB2 hs2 hbw E1
  go_wp2_with fail
  clear E2
  go_loopw [7, 9] (fun m k wr => ∃ i : Nat, i ≤ xs.length ∧ k = .int .i64 i ∧ ∃ ws, St04 w wr ba w.heap.size n m ws) (fun m k wr => xs.length - (intOf k).toNat)
  case atStart => exact ⟨0, Nat.zero_le _, rfl, _, HS.out⟩
  case round =>
    clear HS
    obtain ⟨i, hi, rfl, ws, hT⟩ := hrel
    obtain ⟨am, cm, rfl, hrm, hnb⟩ := hT.m
    have hlen := hT.len
    have hsm : ws.length ≤ 65536 := by have := HC.out; omega
    have hne : ws ≠ [] := by intro h; subst h; have := HC.out; simp at hlen; omega
    have HLN := Lib.hid hlen
    have hbx : w.heap.size < wr.heap.size := heap_lt hT.ar.words
    clear hlen
    by_cases hlt2 : i < xs.length
    · obtain ⟨b, o, rfl, hra⟩ := (HRD.out.bel hT.bel).at i hlt2
      have hx := HOK.out xs[i] (List.getElem_mem _)
      generalize xs[i] = x at hra hx
      have q0 : wr.cell? ⟨b, o + i * 5, none⟩ = some (.int .i64 x.kind) := hra 0 _ rfl
      have q1 : wr.cell? ⟨b, o + i * 5 + 1, none⟩ = some (.int .i64 x.at_) := hra 1 _ rfl
      have q2 : wr.cell? ⟨b, o + i * 5 + 2, none⟩ = some (.int .i64 x.from_) := hra 2 _ rfl
      have q3 : wr.cell? ⟨b, o + i * 5 + 3, none⟩ = some (.int .i64 x.n) := hra 3 _ rfl
      have q4 : wr.cell? ⟨b, o + i * 5 + 4, none⟩ = some (.slice x.wa x.ws.length x.wc) := hra 4 _ rfl
      have hX : XA04 (wr.alloc (.cells (c04 x).toArray 52)) wr.heap.size x := blk_alloc _ _
      have hB0 : Bel wr (wr.alloc (.cells (c04 x).toArray 52)) := (Bel.refl _).alloc _
      obtain ⟨W0, hW0⟩ : ∃ W0, wr.alloc (.cells #[.int .i64 x.kind, .int .i64 x.at_, .int .i64 x.from_, .int .i64 x.n, .slice x.wa x.ws.length x.wc] 52) = W0 := ⟨_, rfl⟩
      have hW0' : wr.alloc (.cells (c04 x).toArray 52) = W0 := hW0
      rw [hW0'] at hX hB0
      have HW0 := Lib.hid hW0
      have hBw0 := hT.bel.trans hB0
      have hT0 := hT.then hB0
      have hA0 := hT0.ar
      have hrm0 := hrm.bel hB0
      have hs0 := hB0.size
      have hat := hx.at_
      have hfr := hx.from_
      have hnn := hx.n
      have hxl := hx.len
      have hxr := hx.rd.bel hBw0
      have hxw := hx.wf
      have XHS : I64 1 := ⟨by omega, by omega⟩
      have G := Lib.hid (And.intro hX (And.intro hBw0 (And.intro hA0 (And.intro hrm0 (And.intro hxr hxw)))))
      clear hX hB0 hBw0 hA0 hrm0 hxr hxw hT hT0 hx hra hW0 hW0' hrm
      by_cases c4 : 100 < (x.ws.length : Int)
      · go_wp2_with fail
        rw [HW0.out]
        refine (awake04 _).mono ?_; rintro e w' ⟨rfl, hB⟩
        go_wp2
        go_ret
        exact ⟨rfl, G.out.2.1.trans hB⟩
      by_cases k0 : x.kind = 0
      · have kk0 : (x.kind == 0) = true := by simpa using k0
        clear k0
        as_aux_lemma =>
          go_wp2_with fail
          rw [HW0.out]
          refine (ref_Store am x.wa ws x.ws x.at_ cm x.wc _ hsm hxl hat G.out.2.2.2.1 G.out.2.2.2.2.1 hne).mono ?_
          rintro e W1 ⟨am', cm', rfl, hr1, hnb1, hB1⟩
          have hX1 := G.out.1.bel hB1
          obtain ⟨q0, q1, q2, q3, q4⟩ := hX1.cs
          have hs1 := hB1.size
          go_wp2_with fail
          refine (arena_Store ba w.heap.size ws x.ws x.at_ x.wa _ x.wc _ (G.out.2.2.1.bel hB1) hat rfl hxl (G.out.2.2.2.2.1.bel hB1) G.out.2.2.2.2.2).mono ?_
          rintro e W2 ⟨rfl, hA2, hF2⟩
          have hr2 := hr1.fr hF2 (fun p hp h => by rcases hnb1 p hp with h1 | h1; exact hnb p (h1 ▸ hp) h; omega)
          have hXt := hX1.fr hF2 (by omega)
          have hBt : Bel w W2 := (G.out.2.1.trans hB1).fr hF2 (Nat.le_refl _)
          have hnb2 : ∀ p, am' = some p → p.block ≠ w.heap.size := fun p hp h => by rcases hnb1 p hp with h1 | h1; exact hnb p (h1 ▸ hp) h; omega
          obtain ⟨ws', hws'⟩ : ∃ l, stW ws x.at_ x.ws = l := ⟨_, rfl⟩
          rw [hws'] at hA2 hr2
          have HL' : Hid (ws'.length = ws.length) := Lib.hid (by rw [← hws', stW_length])
          generalize okE (inB ws.length x.at_ x.ws.length) = r
          rw [← HL'.out]
          have hTt : St04 w W2 ba w.heap.size n (.slice am' ws'.length cm') ws' := ⟨by rw [HL'.out]; exact HLN.out, hA2, ⟨am', cm', rfl, hr2, hnb2⟩, hBt, Nat.le_refl _⟩
          have hrr := bne_self r
          clear hA2 hF2 hr1 hr2 hBt hX1 hB1 q0 q1 q2 q3 q4 hws' hnb1 hnb2
          have hsm' : ws'.length ≤ 65536 := by rw [HL'.out]; exact hsm
          obtain ⟨y0, y1, y2, y3, y4⟩ := hXt.cs
          have HTT := Lib.hid hTt
          clear hTt hXt
          go_wp2_with fail
          go_quiet (first | (go_at_call 45; refine Calls.quiet_eq (arena_In _ ws' x.at_ x.n _ (.inr ⟨ba, _, rfl, HTT.out.ar.bel (Bel.drewN (Bel.refl _) _)⟩) hat hnn)) | (go_at_call 43; refine Calls.quiet_eq (ref_In am' ws'.length x.at_ x.n cm' _ hsm' hat hnn)))
          go_wp2
          go_roundw
          case rel => exact ⟨i + 1, by omega, by go_num, ws', HTT.out.then (Bel.drewN (Bel.refl _) _)⟩
          case measure => simp [intOf]; omega
      have kk0 : (x.kind == 0) = false := by rw [beq_eq_false_iff_ne]; exact k0
      by_cases k1 : x.kind = 1
      · have kk1 : (x.kind == 1) = true := by simpa using k1
        clear k0 k1
        cases hbf : inB ws.length x.from_ x.n
        · as_aux_lemma =>
            have HBF := Lib.hid hbf
            clear hbf
            go_wp2_with fail
            rw [HW0.out]
            refine (ref_Row am ws x.from_ x.n cm _ hsm G.out.2.2.2.1 hfr hnn).mono ?_
            rintro e W1 ⟨v, rfl, hN, hB1⟩
            rw [HBF.out, okE_false]
            obtain ⟨a1, c1', rfl, hr1, _, hp1⟩ := own_slice2 hN
            have hX1 := G.out.1.bel hB1
            obtain ⟨q0, q1, q2, q3, q4⟩ := hX1.cs
            have hs1 := hB1.size
            clear hr1 hp1 hN
            go_wp2_with fail
            refine (arena_Move ba w.heap.size ws x.at_ x.from_ x.n _ (G.out.2.2.1.bel hB1) hat hfr hnn).mono ?_
            rintro e W2 ⟨rfl, hA2, hF2⟩
            rw [(mv_out HBF.out).1, okE_false]
            rw [(mv_out HBF.out).2] at hA2
            have hr2 := (G.out.2.2.2.1.bel hB1).fr hF2 hnb
            have hXt := hX1.fr hF2 (by omega)
            have hBt : Bel w W2 := (G.out.2.1.trans hB1).fr hF2 (Nat.le_refl _)
            have HL' : Hid (ws.length = ws.length) := Lib.hid rfl
            have hTt : St04 w W2 ba w.heap.size n (.slice am ws.length cm) ws := ⟨HLN.out, hA2, ⟨am, cm, rfl, hr2, hnb⟩, hBt, Nat.le_refl _⟩
            clear hA2 hF2 hr2 hBt hX1 hB1 q0 q1 q2 q3 q4
            have hsm' : ws.length ≤ 65536 := hsm
            obtain ⟨y0, y1, y2, y3, y4⟩ := hXt.cs
            have HTT := Lib.hid hTt
            clear hTt hXt
            go_wp2_with fail
            go_quiet (first | (go_at_call 45; refine Calls.quiet_eq (arena_In _ ws x.at_ x.n _ (.inr ⟨ba, _, rfl, HTT.out.ar.bel (Bel.drewN (Bel.refl _) _)⟩) hat hnn)) | (go_at_call 43; refine Calls.quiet_eq (ref_In am ws.length x.at_ x.n cm _ hsm' hat hnn)))
            go_wp2
            go_roundw
            case rel => exact ⟨i + 1, by omega, by go_num, ws, HTT.out.then (Bel.drewN (Bel.refl _) _)⟩
            case measure => simp [intOf]; omega
        · as_aux_lemma =>
            have HBF := Lib.hid hbf
            have hrl : (rowW ws x.from_ x.n).length ≤ maxLen := by
              have : (rowW ws x.from_ x.n).length ≤ ws.length := by unfold rowW; rw [hbf]; simp; omega
              unfold maxLen; omega
            clear hbf
            go_wp2_with fail
            rw [HW0.out]
            refine (ref_Row am ws x.from_ x.n cm _ hsm G.out.2.2.2.1 hfr hnn).mono ?_
            rintro e W1 ⟨v, rfl, hN, hB1⟩
            rw [HBF.out, okE_true]
            obtain ⟨a1, c1', rfl, hr1, _, hp1⟩ := own_slice2 hN
            have hX1 := G.out.1.bel hB1
            obtain ⟨q0, q1, q2, q3, q4⟩ := hX1.cs
            have hs1 := hB1.size
            clear hp1 hN
            go_wp2_with fail
            refine (ref_Store am a1 ws (rowW ws x.from_ x.n) x.at_ cm c1' _ hsm hrl hat (G.out.2.2.2.1.bel hB1) hr1 hne).mono ?_
            rintro e W2 ⟨am', cm', rfl, hr2, hnb1, hB2⟩
            rw [(mv_in HBF.out).1]
            rw [(mv_in HBF.out).2] at hr2
            have hX2 := hX1.bel hB2
            have hs2 := hB2.size
            clear q0 q1 q2 q3 q4
            obtain ⟨q0, q1, q2, q3, q4⟩ := hX2.cs
            go_wp2_with fail
            refine (arena_Move ba w.heap.size ws x.at_ x.from_ x.n _ (G.out.2.2.1.bel (hB1.trans hB2)) hat hfr hnn).mono ?_
            rintro e W3 ⟨rfl, hA2, hF2⟩
            have hr3 := hr2.fr hF2 (fun p hp h => by rcases hnb1 p hp with h1 | h1; exact hnb p (h1 ▸ hp) h; omega)
            have hXt := hX2.fr hF2 (by omega)
            have hBt : Bel w W3 := ((G.out.2.1.trans hB1).trans hB2).fr hF2 (Nat.le_refl _)
            have hnb2 : ∀ p, am' = some p → p.block ≠ w.heap.size := fun p hp h => by rcases hnb1 p hp with h1 | h1; exact hnb p (h1 ▸ hp) h; omega
            obtain ⟨ws', hws'⟩ : ∃ l, mvW ws x.at_ x.from_ x.n = l := ⟨_, rfl⟩
            rw [hws'] at hA2 hr3
            have HL' : Hid (ws'.length = ws.length) := Lib.hid (by rw [← hws', mvW_length])
            generalize okE (mvB ws.length x.at_ x.from_ x.n) = r
            rw [← HL'.out]
            have hTt : St04 w W3 ba w.heap.size n (.slice am' ws'.length cm') ws' := ⟨by rw [HL'.out]; exact HLN.out, hA2, ⟨am', cm', rfl, hr3, hnb2⟩, hBt, Nat.le_refl _⟩
            have hrr := bne_self r
            clear hA2 hF2 hr1 hr2 hr3 hBt hX1 hX2 hB1 hB2 q0 q1 q2 q3 q4 hws' hnb1 hnb2 hrl
            have hsm' : ws'.length ≤ 65536 := by rw [HL'.out]; exact hsm
            obtain ⟨y0, y1, y2, y3, y4⟩ := hXt.cs
            have HTT := Lib.hid hTt
            clear hTt hXt
            go_wp2_with fail
            go_quiet (first | (go_at_call 45; refine Calls.quiet_eq (arena_In _ ws' x.at_ x.n _ (.inr ⟨ba, _, rfl, HTT.out.ar.bel (Bel.drewN (Bel.refl _) _)⟩) hat hnn)) | (go_at_call 43; refine Calls.quiet_eq (ref_In am' ws'.length x.at_ x.n cm' _ hsm' hat hnn)))
            go_wp2
            go_roundw
            case rel => exact ⟨i + 1, by omega, by go_num, ws', HTT.out.then (Bel.drewN (Bel.refl _) _)⟩
            case measure => simp [intOf]; omega
      have kk1 : (x.kind == 1) = false := by rw [beq_eq_false_iff_ne]; exact k1
      by_cases k2 : x.kind = 2
      · have kk2 : (x.kind == 2) = true := by simpa using k2
        clear k0 k1 k2
        cases hbf : inB ws.length x.at_ x.n
        · as_aux_lemma =>
            have HBF := Lib.hid hbf
            clear hbf
            go_wp2_with fail
            rw [HW0.out]
            refine (ref_In am ws.length x.at_ x.n cm _ hsm hat hnn).mono ?_; rintro e W1 ⟨rfl, rfl⟩
            rw [HBF.out]
            obtain ⟨q0, q1, q2, q3, q4⟩ := G.out.1.cs
            go_wp2_with fail
            refine (arena_Zero _ ws x.at_ x.n ba w.heap.size _ rfl G.out.2.2.1 hat hnn).mono ?_
            rintro e W2 ⟨rfl, hA2, hF2⟩
            rw [HBF.out, okE_false]
            rw [HBF.out] at hA2
            simp only [Bool.false_eq_true, if_false] at hA2
            have hr2 := G.out.2.2.2.1.fr hF2 hnb
            have hXt := G.out.1.fr hF2 (by omega)
            have hBt : Bel w W2 := G.out.2.1.fr hF2 (Nat.le_refl _)
            have HL' : Hid (ws.length = ws.length) := Lib.hid rfl
            have hTt : St04 w W2 ba w.heap.size n (.slice am ws.length cm) ws := ⟨HLN.out, hA2, ⟨am, cm, rfl, hr2, hnb⟩, hBt, Nat.le_refl _⟩
            clear hA2 hF2 hr2 hBt q0 q1 q2 q3 q4
            have hsm' : ws.length ≤ 65536 := hsm
            obtain ⟨y0, y1, y2, y3, y4⟩ := hXt.cs
            have HTT := Lib.hid hTt
            clear hTt hXt
            go_wp2_with fail
            go_quiet (first | (go_at_call 45; refine Calls.quiet_eq (arena_In _ ws x.at_ x.n _ (.inr ⟨ba, _, rfl, HTT.out.ar.bel (Bel.drewN (Bel.refl _) _)⟩) hat hnn)) | (go_at_call 43; refine Calls.quiet_eq (ref_In am ws.length x.at_ x.n cm _ hsm' hat hnn)))
            go_wp2
            go_roundw
            case rel => exact ⟨i + 1, by omega, by go_num, ws, HTT.out.then (Bel.drewN (Bel.refl _) _)⟩
            case measure => simp [intOf]; omega
        · as_aux_lemma =>
            obtain ⟨b0, b1, b2, b3⟩ := inB_iff.1 hbf
            obtain ⟨k, hk⟩ : ∃ k : Nat, (k : Int) = x.n := ⟨x.n.toNat, by omega⟩
            have hks : k ≤ 65536 := by omega
            have hkt : x.n.toNat = k := by omega
            have HBF := Lib.hid hbf
            have HST : Hid (stW ws x.at_ (List.replicate k 0) = putW ws x.at_ (List.replicate k 0)) := Lib.hid (by unfold stW; rw [List.length_replicate, hk, hbf]; rfl)
            have HPL : Hid ((putW ws x.at_ (List.replicate k 0)).length = ws.length) := Lib.hid (putW_length (by rw [List.length_replicate, hk]; exact hbf))
            clear hbf b0 b1 b2 b3
            go_wp2_with fail
            rw [HW0.out]
            refine (ref_In am ws.length x.at_ x.n cm _ hsm hat hnn).mono ?_; rintro e W1 ⟨rfl, rfl⟩
            rw [HBF.out]
            obtain ⟨q0, q1, q2, q3, q4⟩ := G.out.1.cs
            have hmk : ∀ W, (Instr.makeSlice 30 (.int .i64 x.n) (.int .i64 x.n)).run Try.prog W = .ok (.slice (some ⟨W.heap.size, 0, none⟩) k k) (W.alloc (.cells (u64s (List.replicate k 0)).toArray 33)) := fun W => by
              have := run_make_u64 k W hks
              rwa [hk] at this
            obtain ⟨zs, hzs⟩ : ∃ zs, (u64s (List.replicate k 0)).toArray = zs := ⟨_, rfl⟩
            have hnw : ∀ W : World, RdV (W.alloc (.cells zs 33)) (some ⟨W.heap.size, 0, none⟩) (u64s (List.replicate k 0)) := fun W => by
              have := RdV.new W zs 33
              rw [← hzs] at this ⊢
              simpa using this
            rw [hzs] at hmk
            have HNW := Lib.hid hnw
            have C : ∀ W g, Bel W0 W → RdV W (some ⟨g, 0, none⟩) (u64s (List.replicate k 0)) → Calls Try.prog 41 #[.slice am ws.length cm, .int .i64 x.at_, .slice (some ⟨g, 0, none⟩) k k] W (GotZ W0 w.heap.size ws.length (putW ws x.at_ (List.replicate k 0))) := fun W g hb hr => by
              have := ref_Store am (some ⟨g, 0, none⟩) ws (List.replicate k 0) x.at_ cm k W hsm (by simp [maxLen]; omega) hat (G.out.2.2.2.1.bel hb) hr hne
              rw [List.length_replicate] at this
              refine this.mono ?_
              rintro e W2 ⟨am', cm', rfl, hr2, hnb1, hB2⟩
              have hs1 := hb.size
              rw [List.length_replicate, hk, HBF.out, okE_true]
              rw [HST.out] at hr2
              exact ⟨am', cm', rfl, hr2, fun p hp h => by rcases hnb1 p hp with h1 | h1; exact hnb p (h1 ▸ hp) h; omega, hb.trans hB2⟩
            have HCC := Lib.hid C
            have hbx1 : wr.heap.size < W0.heap.size := heap_lt G.out.1
            clear hnw hzs C
            go_wp2_with fail
            go_region_held3 (fun w' => w'.cell? ⟨wr.heap.size, 1, none⟩ = some (.int .i64 x.at_) ∧ w'.cell? ⟨wr.heap.size, 3, none⟩ = some (.int .i64 x.n)) (first | go_keep | exact ⟨(G.out.1.bel hB2).cs.2.1, (G.out.1.bel hB2).cs.2.2.2.1⟩)
              (first | (go_at_call 41; refine (HCC.out _ _ ?b1 ?b2).mono ?_; (case b1 => repeat (first | exact Bel.refl _ | apply Bel.drew | apply Bel.alloc)); (case b2 => first | exact HNW.out _ | exact (HNW.out _).bel (Bel.refl _).drew); rintro e W2 ⟨am', cm', rfl, hr2, hnb2, hB2⟩))
            have hX2 := G.out.1.bel hB2
            have hs2 := hB2.size
            clear q0 q1 q2 q3 q4 hmk
            obtain ⟨q0, q1, q2, q3, q4⟩ := hX2.cs
            go_wp2_with fail
            refine (arena_Zero _ ws x.at_ x.n ba w.heap.size _ rfl (G.out.2.2.1.bel hB2) hat hnn).mono ?_
            rintro e W3 ⟨rfl, hA2, hF2⟩
            rw [HBF.out, okE_true]
            rw [HBF.out] at hA2
            simp only [if_true] at hA2
            rw [hkt] at hA2
            have hr3 := hr2.fr hF2 hnb2
            have hXt := hX2.fr hF2 (by omega)
            have hBt : Bel w W3 := (G.out.2.1.trans hB2).fr hF2 (Nat.le_refl _)
            obtain ⟨ws', hws'⟩ : ∃ l, putW ws x.at_ (List.replicate k 0) = l := ⟨_, rfl⟩
            rw [hws'] at hA2 hr3
            have HL' : Hid (ws'.length = ws.length) := Lib.hid (by rw [← hws']; exact HPL.out)
            rw [← HL'.out]
            have hTt : St04 w W3 ba w.heap.size n (.slice am' ws'.length cm') ws' := ⟨by rw [HL'.out]; exact HLN.out, hA2, ⟨am', cm', rfl, hr3, hnb2⟩, hBt, Nat.le_refl _⟩
            clear hA2 hF2 hr2 hr3 hBt hX2 hB2 q0 q1 q2 q3 q4 hws' hnb2 hk hkt hks
            have hsm' : ws'.length ≤ 65536 := by rw [HL'.out]; exact hsm
            obtain ⟨y0, y1, y2, y3, y4⟩ := hXt.cs
            have HTT := Lib.hid hTt
            clear hTt hXt
            go_wp2_with fail
            go_quiet (first | (go_at_call 45; refine Calls.quiet_eq (arena_In _ ws' x.at_ x.n _ (.inr ⟨ba, _, rfl, HTT.out.ar.bel (Bel.drewN (Bel.refl _) _)⟩) hat hnn)) | (go_at_call 43; refine Calls.quiet_eq (ref_In am' ws'.length x.at_ x.n cm' _ hsm' hat hnn)))
            go_wp2
            go_roundw
            case rel => exact ⟨i + 1, by omega, by go_num, ws', HTT.out.then (Bel.drewN (Bel.refl _) _)⟩
            case measure => simp [intOf]; omega
      have kk2 : (x.kind == 2) = false := by rw [beq_eq_false_iff_ne]; exact k2
      by_cases k3 : x.kind = 3
      · have kk3 : (x.kind == 3) = true := by simpa using k3
        clear k0 k1 k2 k3
        cases hbf : inB ws.length x.at_ 1
        · as_aux_lemma =>
            have HBF := Lib.hid hbf
            have HL0 : Hid (ldW ws x.at_ = 0) := Lib.hid (by unfold ldW; rw [hbf]; rfl)
            clear hbf
            go_wp2_with fail
            rw [HW0.out]
            refine (ref_Row am ws x.at_ 1 cm _ hsm G.out.2.2.2.1 hat XHS).mono ?_
            rintro e W1 ⟨v, rfl, hN, hB1⟩
            rw [HBF.out, okE_false]
            obtain ⟨a1, c1', rfl, hr1, _, hp1⟩ := own_slice2 hN
            have hX1 := G.out.1.bel hB1
            obtain ⟨q0, q1, q2, q3, q4⟩ := hX1.cs
            have hs1 := hB1.size
            clear hr1 hp1 hN
            go_wp2_with fail
            refine (arena_Load _ ws x.at_ _ (.inr ⟨ba, _, rfl, G.out.2.2.1.bel hB1⟩) hat).mono ?_
            rintro e W2 ⟨rfl, hB2⟩
            rw [HBF.out, okE_false, HL0.out]
            have hr2 := (G.out.2.2.2.1.bel hB1).bel hB2
            have hXt := hX1.bel hB2
            have hBt : Bel w W2 := (G.out.2.1.trans hB1).trans hB2
            have HL' : Hid (ws.length = ws.length) := Lib.hid rfl
            have hTt : St04 w W2 ba w.heap.size n (.slice am ws.length cm) ws := ⟨HLN.out, (G.out.2.2.1.bel hB1).bel hB2, ⟨am, cm, rfl, hr2, hnb⟩, hBt, Nat.le_refl _⟩
            clear hr2 hBt hX1 hB1 hB2 q0 q1 q2 q3 q4
            have hsm' : ws.length ≤ 65536 := hsm
            obtain ⟨y0, y1, y2, y3, y4⟩ := hXt.cs
            have HTT := Lib.hid hTt
            clear hTt hXt
            go_wp2_with fail
            go_quiet (first | (go_at_call 45; refine Calls.quiet_eq (arena_In _ ws x.at_ x.n _ (.inr ⟨ba, _, rfl, HTT.out.ar.bel (Bel.drewN (Bel.refl _) _)⟩) hat hnn)) | (go_at_call 43; refine Calls.quiet_eq (ref_In am ws.length x.at_ x.n cm _ hsm' hat hnn)))
            go_wp2
            go_roundw
            case rel => exact ⟨i + 1, by omega, by go_num, ws, HTT.out.then (Bel.drewN (Bel.refl _) _)⟩
            case measure => simp [intOf]; omega
        · as_aux_lemma =>
            have HBF := Lib.hid hbf
            have HR1 := Lib.hid (row_one hbf)
            clear hbf
            go_wp2_with fail
            rw [HW0.out]
            refine (ref_Row am ws x.at_ 1 cm _ hsm G.out.2.2.2.1 hat XHS).mono ?_
            rintro e W1 ⟨v, rfl, hN, hB1⟩
            rw [HBF.out, okE_true]
            rw [HR1.out] at hN
            obtain ⟨a1, c1', rfl, hr1, _, hp1⟩ := own_slice2 hN
            have hX1 := G.out.1.bel hB1
            obtain ⟨q0, q1, q2, q3, q4⟩ := hX1.cs
            have hs1 := hB1.size
            clear hp1 hN
            go_wp2_with fail
            refine (arena_Load _ ws x.at_ _ (.inr ⟨ba, _, rfl, G.out.2.2.1.bel hB1⟩) hat).mono ?_
            rintro e W2 ⟨rfl, hB2⟩
            rw [HBF.out, okE_true]
            have hr2 := (G.out.2.2.2.1.bel hB1).bel hB2
            have hXt := hX1.bel hB2
            have hBt : Bel w W2 := (G.out.2.1.trans hB1).trans hB2
            have HL' : Hid (ws.length = ws.length) := Lib.hid rfl
            have hTt : St04 w W2 ba w.heap.size n (.slice am ws.length cm) ws := ⟨HLN.out, (G.out.2.2.1.bel hB1).bel hB2, ⟨am, cm, rfl, hr2, hnb⟩, hBt, Nat.le_refl _⟩
            obtain ⟨b1, o1, rfl, hc1⟩ := (hr1.bel hB2).at (f := fun x => .int .u64 x) (xs := [ldW ws x.at_]) 0 (by simp)
            simp only [List.getElem_cons_zero, Nat.add_zero] at hc1
            generalize ldW ws x.at_ = lw at hc1 ⊢
            have hlw := bne_self lw
            clear hr1 hr2 hBt hX1 hB1 hB2 q0 q1 q2 q3 q4
            have hsm' : ws.length ≤ 65536 := hsm
            obtain ⟨y0, y1, y2, y3, y4⟩ := hXt.cs
            have HTT := Lib.hid hTt
            clear hTt hXt
            go_wp2_with fail
            go_quiet (first | (go_at_call 45; refine Calls.quiet_eq (arena_In _ ws x.at_ x.n _ (.inr ⟨ba, _, rfl, HTT.out.ar.bel (Bel.drewN (Bel.refl _) _)⟩) hat hnn)) | (go_at_call 43; refine Calls.quiet_eq (ref_In am ws.length x.at_ x.n cm _ hsm' hat hnn)))
            go_wp2
            go_roundw
            case rel => exact ⟨i + 1, by omega, by go_num, ws, HTT.out.then (Bel.drewN (Bel.refl _) _)⟩
            case measure => simp [intOf]; omega
      have kk3 : (x.kind == 3) = false := by rw [beq_eq_false_iff_ne]; exact k3
      clear k0 k1 k2 k3
      as_aux_lemma =>
        have hbx1 : wr.heap.size < W0.heap.size := heap_lt G.out.1
        have hrl : (rowW ws x.at_ x.n).length ≤ 65536 := by
          have : (rowW ws x.at_ x.n).length ≤ ws.length := by unfold rowW; split <;> simp; omega
          omega
        have hrm2 : (rowW ws x.at_ x.n).length ≤ maxLen := by unfold maxLen; omega
        obtain ⟨rw_, hrw⟩ : ∃ l, rowW ws x.at_ x.n = l := ⟨_, rfl⟩
        rw [hrw] at hrl hrm2
        have HRW := Lib.hid hrw
        have HML := Lib.hid hrm2
        clear hrw hrm2
        go_wp2_with fail
        rw [HW0.out]
        refine (ref_Row am ws x.at_ x.n cm _ hsm G.out.2.2.2.1 hat hnn).mono ?_
        rintro e W1 ⟨v, rfl, hN, hB1⟩
        rw [HRW.out] at hN
        obtain ⟨a1, c1', rfl, hr1, _, hp1⟩ := own_slice2 hN
        have hX1 := G.out.1.bel hB1
        have hs1 := hB1.size
        clear hp1 hN
        obtain ⟨q0, q1, q2, q3, q4⟩ := hX1.cs
        go_wp2_with fail
        refine (arena_Row _ ws x.at_ x.n _ (.inr ⟨ba, _, rfl, G.out.2.2.1.bel hB1⟩) hat hnn).mono ?_
        rintro e W2 ⟨v2, rfl, hN2, hB2⟩
        rw [HRW.out] at hN2
        obtain ⟨g, hg⟩ : ∃ g, W1.heap.size ≤ g ∧ ∃ a2 c2, v2 = .slice a2 rw_.length c2 ∧ RdV W2 a2 (u64s rw_) ∧ (0 < rw_.length → a2 = some ⟨g, 0, none⟩ ∧ ∃ cur, W2.heap[g]? = some (.cells cur 33 (0, 0)) ∧ ∀ i, i < rw_.length → ∃ y, 0 ≤ y ∧ y ≤ 18446744073709551615 ∧ cur[i]? = some (.int .u64 y)) := by
          have hwf : ∀ y ∈ rw_, 0 ≤ y ∧ y ≤ 18446744073709551615 := by
            intro y hy
            refine G.out.2.2.1.wf y ?_
            rw [← HRW.out] at hy
            unfold rowW at hy
            split at hy
            · exact List.mem_of_mem_drop (List.mem_of_mem_take hy)
            · simp at hy
          obtain ⟨a2, c2, rfl, hr2, _, _⟩ := own_slice2 hN2
          rcases hN2.2 with ⟨h1, h2⟩ | ⟨g, cap, cur, h1, h2, h3, h4, h5, h6, h7⟩
          · refine ⟨_, Nat.le_refl _, a2, c2, rfl, hr2, fun h => ?_⟩
            exfalso
            simp at h1
            omega
          · refine ⟨g, h2, a2, c2, rfl, hr2, fun _ => ⟨by simpa using (Value.slice.inj h1).1, cur, h3, fun i hi => ?_⟩⟩
            have hri := hr2
            rcases hri with h8 | ⟨b8, o8, h8, h9⟩
            · simp [u64s] at h8; subst h8; simp at hi
            · have h10 := h9 i (by simpa [u64s] using hi)
              have h11 : some (⟨b8, o8, none⟩ : Addr) = some ⟨g, 0, none⟩ := h8.symm.trans (Value.slice.inj h1).1
              cases h11
              rw [Nat.zero_add, blk_cell h3] at h10
              have h12 := hwf rw_[i] (List.getElem_mem _)
              exact ⟨rw_[i], h12.1, h12.2, by rw [h10]; simp [u64s]⟩
        obtain ⟨hgs, a2, c2, rfl, hr2, hcur⟩ := hg
        have hX2 := hX1.bel hB2
        have hs2 := hB2.size
        clear q0 q1 q2 q3 q4 hN2
        go_wp2_with fail
        refine (ref_Same a1 a2 rw_ rw_ _ c1' _ c2 _ rfl rfl HML.out HML.out (hr1.bel hB2) hr2).mono ?_
        rintro e W3 ⟨rfl, hB3⟩
        rw [same_self]
        have hX3 := hX2.bel hB3
        have hs3 := hB3.size
        have hcur3 : 0 < rw_.length → a2 = some ⟨g, 0, none⟩ ∧ ∃ cur, W3.heap[g]? = some (.cells cur 33 (0, 0)) ∧ ∀ i, i < rw_.length → ∃ y, 0 ≤ y ∧ y ≤ 18446744073709551615 ∧ cur[i]? = some (.int .u64 y) := fun h => by
          obtain ⟨h1, cur, h2, h3⟩ := hcur h
          exact ⟨h1, cur, (Fr.of_bel (S := fun _ => False) hB3).heap h2 (fun h => h), h3⟩
        have HC3 := Lib.hid hcur3
        have hB13 : Bel W0 W3 := (hB1.trans hB2).trans hB3
        have hA3 := G.out.2.2.1.bel hB13
        have hr13 := G.out.2.2.2.1.bel hB13
        have hBw3 := G.out.2.1.trans hB13
        have hmlt : ∀ p, am = some p → p.block ≠ g := fun p hp h => by
          rcases G.out.2.2.2.1.bel hB1 with h8 | ⟨b8, o8, h8, h9⟩
          · simp [u64s] at h8; exact hne h8
          · have h10 := World.block_lt_of_cell? W1 _ (h9 0 (by simp [u64s]; exact List.length_pos_iff.2 hne))
            rw [h8] at hp
            cases hp
            simp at h10 h
            omega
        have G3 := Lib.hid (And.intro hX3 (And.intro hA3 (And.intro hr13 (And.intro hBw3 hmlt))))
        clear hX3 hA3 hr13 hBw3 hmlt hB13 hcur3 hcur hX1 hX2 hB1 hB2 hB3 hr1 hr2
        go_wp2_with fail
        have hzz : rw_.length ≤ 65536 := hrl
        go_loopw [23] (fun k wk => ∃ j : Nat, j ≤ rw_.length ∧ k = .int .i64 j ∧ (0 < rw_.length → ∃ cur, wk.heap[g]? = some (.cells cur 33 (0, 0)) ∧ ∀ i, i < rw_.length → ∃ y, 0 ≤ y ∧ y ≤ 18446744073709551615 ∧ cur[i]? = some (.int .u64 y)) ∧ Fr (fun k => k = g) W3 wk) (fun k wk => rw_.length - (intOf k).toNat)
        case atStart => exact ⟨0, Nat.zero_le _, rfl, fun h => (HC3.out h).2, Fr.refl _ _⟩
        case round =>
          obtain ⟨j, hj, rfl, hcu, hFr⟩ := hrel
          by_cases hjl : j < rw_.length
          · obtain ⟨cur, hcur, hy⟩ := hcu (by omega)
            obtain ⟨y, y0, y1, hyc⟩ := hy j hjl
            obtain ⟨rfl, _⟩ := HC3.out (by omega)
            have hc1 : wr.cell? ⟨g, j, none⟩ = some (.int .u64 y) := (blk_cell hcur j).trans hyc
            have hz1 : wr.frozen? ⟨g, j, none⟩ = false := blk_frozen hcur j
            have HCUR := Lib.hid hcur
            have HY := Lib.hid hy
            have HF := Lib.hid hFr
            clear hcu hcur hy hyc hFr
            go_wp2
            go_roundw
            case rel =>
              refine ⟨j + 1, by omega, by go_num, fun _ => ⟨_, blk_setCell HCUR.out j _, fun i hi => ?_⟩, HF.out.setCell (.inl rfl) _⟩
              obtain ⟨z, z0, z1, hz⟩ := HY.out i hi
              by_cases hij : i = j
              · subst hij
                exact ⟨_, (bounds_u64 (wf_wrap .u64 _)).1, (bounds_u64 (wf_wrap .u64 _)).2, by rw [Array.getElem?_setIfInBounds_self]; rw [if_pos (Array.getElem?_eq_some_iff.1 hz).1]⟩
              · exact ⟨z, z0, z1, by rw [Array.getElem?_setIfInBounds_ne (by omega)]; exact hz⟩
            case measure => simp [intOf]; omega
          · have hXt := G3.out.1.fr hFr (by omega)
            have hA4 := G3.out.2.1.fr hFr (by have := heap_lt G.out.2.2.1.hd; omega) (by omega)
            have hr4 := G3.out.2.2.1.fr hFr G3.out.2.2.2.2
            have hBt : Bel w wr := G3.out.2.2.2.1.fr hFr (by omega)
            have HL' : Hid (ws.length = ws.length) := Lib.hid rfl
            have hTt : St04 w wr ba w.heap.size n (.slice am ws.length cm) ws := ⟨HLN.out, hA4, ⟨am, cm, rfl, hr4, hnb⟩, hBt, Nat.le_refl _⟩
            generalize okE (inB ws.length x.at_ x.n) = r
            have hrr := bne_self r
            clear hcu hFr hA4 hr4 hBt
            have hsm' : ws.length ≤ 65536 := hsm
            obtain ⟨y0, y1, y2, y3, y4⟩ := hXt.cs
            have HTT := Lib.hid hTt
            clear hTt hXt
            go_wp2_with fail
            go_quiet (first | (go_at_call 45; refine Calls.quiet_eq (arena_In _ ws x.at_ x.n _ (.inr ⟨ba, _, rfl, HTT.out.ar.bel (Bel.drewN (Bel.refl _) _)⟩) hat hnn)) | (go_at_call 43; refine Calls.quiet_eq (ref_In am ws.length x.at_ x.n cm _ hsm' hat hnn)))
            go_wp2
            go_roundw
            case rel => exact ⟨i + 1, by omega, by go_num, ws, HTT.out.then (Bel.drewN (Bel.refl _) _)⟩
            case measure => simp [intOf]; omega
    · as_aux_lemma =>
        have hlast : i = xs.length := by omega
        subst hlast
        have hIA : inB ws.length 0 ws.length = true := inB_iff.2 ⟨by omega, by omega, by omega, by omega⟩
        have HIA := Lib.hid hIA
        have HRA : Hid (rowW ws 0 ws.length = ws) := Lib.hid (by unfold rowW; rw [hIA]; simp)
        have HT := Lib.hid hT
        have HRM := Lib.hid hrm
        have hml : ws.length ≤ maxLen := by unfold maxLen; omega
        clear hIA hT hrm
        go_wp2_with fail
        refine (arena_Words _ ws _ (.inr ⟨ba, _, rfl, HT.out.ar⟩)).mono ?_; rintro e W1 ⟨rfl, rfl⟩
        go_wp2_with fail
        refine (arena_Row _ ws 0 ws.length _ (.inr ⟨ba, _, rfl, HT.out.ar⟩) ⟨by omega, by omega⟩ ⟨by omega, by omega⟩).mono ?_
        rintro e W1 ⟨v, rfl, hN, hB1⟩
        rw [HIA.out, okE_true]
        rw [HRA.out] at hN
        obtain ⟨a1, c1', rfl, hr1, _, hp1⟩ := own_slice2 hN
        clear hp1 hN
        go_wp2_with fail
        refine (ref_Same a1 am ws ws _ c1' _ cm _ rfl rfl hml hml hr1 (HRM.out.bel hB1)).mono ?_
        rintro e W2 ⟨rfl, hB2⟩
        rw [same_self]
        go_wp2_with fail
        refine (awake04 _).mono ?_; rintro e w' ⟨rfl, hB⟩
        go_wp2
        go_ret
        exact ⟨rfl, ((HT.out.bel.trans hB1).trans hB2).trans hB⟩
end Go.Proofs.Ytgpegcbhmobdhaa

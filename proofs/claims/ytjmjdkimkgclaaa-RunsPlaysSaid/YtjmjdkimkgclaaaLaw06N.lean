/- Layer 6: nil free runs have none. -/
import Derived.Test.YtjmjdkimkgclaaaLaw06
namespace Go.Proofs.Ytjmjdkimkgclaaa
open Go.ChangeShapes Go.WideShapes Go.ChangeAt Go.RowKit Go.Deep

theorem bestF_nil (n : Int) : bestF [] n = (0, 0) := by unfold bestF; split <;> rfl
theorem arg_run06 {H : Type} {enc : TypeId × Value → H} {W : World} {v : Value} {base : Nat} {d : DataW H} {ps : List MemPlace}
    (h0 : Value.okWide Try.prog W .any base 29 v) (h : DataW.Trod enc Try.prog W 0 (fun _ => true) true 29 v d ps) : ∃ x : Rn, v = .agg #[.int .i64 x.1, .int .i64 x.2] ∧ I64 x.1 ∧ I64 x.2 := by
  have hs := arg_shape (.struct (.pair (.int .i64) (.pair (.int .i64) .unit))) ⟨_, Try.underlying29, by kernel_rfl,
    rfl, by kernel_rfl, Try.underlying3, rfl, by kernel_rfl, Try.underlying3, trivial⟩ h
  obtain ⟨cs, rfl, _⟩ := okWide_struct Try.underlying29 h0
  obtain ⟨_, _, he, ⟨k, rfl, hk⟩, _, _, rfl, ⟨t, rfl, ht⟩, rfl⟩ := hs
  have e : cs = #[.int .i64 k, .int .i64 t] := by
    have he2 : cs.toList = _ := he
    exact Array.toList_inj.1 (by simpa using he2)
  exact ⟨(k, t), by rw [e], i64_of_wf hk, i64_of_wf ht⟩

set_option maxHeartbeats 4000000 in
set_option maxRecDepth 20000 in
theorem runsNil_walk (x : Rn) (n : Int) (s : Option Addr) (l : List Rn) (m c : Nat) (w : World) (hx : I64 x.1 ∧ I64 x.2) (hn : I64 n) (hR : Runs05 w s m l) :
    Calls Try.prog 6 #[.agg #[.int .i64 x.1, .int .i64 x.2], .int .i64 n, .slice s m c] w fun e w' => e = .returned (.bool true) ∧ Bel w w' := by
  obtain ⟨rfl, hl, hrd, hok⟩ := hR
  have hl2 : l.length ≤ 9223372036854775807 := by unfold maxLen at hl; omega
  obtain ⟨hx1, hx2⟩ := hx
  by_cases c0 : 5 < (l.length : Int)
  · go_enter Try.func6, Try.ntmps6
    go_wp2_with fail
    refine (awake06 _).mono ?_; rintro e w' ⟨rfl, hB⟩
    go_wp2
    go_ret
    exact ⟨rfl, ((Bel.refl w).alloc _).trans hB⟩
  have c1 : l.length ≤ 1024 := by omega
  have HX : Hid (∀ W, Bel (w.alloc (.cells #[.int .i64 x.1, .int .i64 x.2] 29)) W → W.cell? ⟨w.heap.size, 0, none⟩ = some (.int .i64 x.1) ∧ W.cell? ⟨w.heap.size, 1, none⟩ = some (.int .i64 x.2)) := Lib.hid (fun W hB => by
    obtain ⟨q0, q1, _, _⟩ := two_cells ((Fr.of_bel (S := fun _ => False) hB).heap (blk_alloc w _) (fun h => h))
    exact ⟨q0, q1⟩)
  have HRD := Lib.hid hrd
  have HOK := Lib.hid hok
  clear hrd hok
  have HW0 : Hid (Bel w (w.alloc (.cells #[.int .i64 x.1, .int .i64 x.2] 29))) := Lib.hid ((Bel.refl w).alloc _)
  obtain ⟨k, hk⟩ : ∃ k, (putB (fun _ => false) l true).2 = k := ⟨_, rfl⟩
  obtain ⟨r, hr⟩ : ∃ r, nilR l = r := ⟨_, rfl⟩
  have hr2 := nil_add l
  rw [hk, hr] at hr2
  obtain ⟨q, hq⟩ : ∃ q, there 1024 x = q := ⟨_, rfl⟩
  obtain ⟨z, hz⟩ : ∃ z, (cutR [] x).2 = z := ⟨_, rfl⟩
  have hz2 := nil_cut x
  rw [hq, hz] at hz2
  have HPUT : Hid (∀ W v, BitsO W v (fun _ => false) → Bel w W → Calls Try.prog 13 #[v, .slice s l.length c, .bool true] W fun e W' => ∃ v', e = .returned (.tuple #[v', .int .i64 k]) ∧ Bel W W') := Lib.hid (fun W v hv hB => by
    refine (ref6_Put v _ s l l.length c true W rfl c1 hv (HRD.out.bel hB) HOK.out).mono ?_
    rintro e W' ⟨v', rfl, _, h⟩
    exact ⟨v', by rw [hk], h⟩)
  have HMAY : Hid (∀ W, Calls Try.prog 24 #[.agg #[.int .i64 x.1, .int .i64 x.2]] W fun e W' => e = .returned (.bool q) ∧ Bel W W') := Lib.hid (fun W => by have := ref6_May x W hx1 hx2; rw [hq] at this; exact this)
  have HBEST : Hid (∀ W, Calls Try.prog 18 #[.pointer none, .int .i64 n] W fun e W' => e = .returned (.tuple #[.agg #[.int .i64 0, .int .i64 0], .bool false]) ∧ Bel W W') := Lib.hid (fun W => by have := runs_Best (.pointer none) [] n W (.inl ⟨rfl, rfl⟩) hn; rw [bestF_nil] at this; exact this)
  have HADD : Hid (∀ W, Bel w W → Calls Try.prog 10 #[.pointer none, .slice s l.length c] W fun e W' => e = .returned (.int .i64 r) ∧ Bel W W') := Lib.hid (fun W hB => by have := runs_Add_nil s l l.length c W rfl c1 (HRD.out.bel hB) HOK.out; rw [hr] at this; exact this)
  have HCUT : Hid (∀ W, Calls Try.prog 15 #[.pointer none, .agg #[.int .i64 x.1, .int .i64 x.2]] W fun e W' => e = .returned (.int .i64 z) ∧ Bel W W') := Lib.hid (fun W => by have := runs_Cut_nil x W hx1 hx2; rw [hz] at this; exact this)
  have HHAS : Hid (∀ W, Calls Try.prog 20 #[.pointer none, .agg #[.int .i64 x.1, .int .i64 x.2]] W fun e W' => e = .returned (.bool false) ∧ Bel W W') := Lib.hid (fun W => by have := runs_Has (.pointer none) [] x W (.inl ⟨rfl, rfl⟩) hx1 hx2; rw [show hasF [] x = false by simp [hasF]] at this; exact this)
  have hk1 : (0 < (l.length : Int) ∧ k = 2 ∧ r = 2) ∨ (0 < (l.length : Int) ∧ ¬ k = 2 ∧ r = 9) ∨ (¬ 0 < (l.length : Int) ∧ r = 0) := by
    by_cases h1 : 0 < l.length
    · rw [if_pos h1] at hr2
      by_cases h2 : k = 2
      · rw [if_pos h2] at hr2; exact .inl ⟨by omega, h2, hr2⟩
      · rw [if_neg h2] at hr2; exact .inr (.inl ⟨by omega, h2, hr2⟩)
    · rw [if_neg h1] at hr2; exact .inr (.inr ⟨by omega, hr2⟩)
  have hz1 : (q = true ∧ z = 9) ∨ (q = false ∧ z = 2) := by
    cases q
    · exact .inr ⟨rfl, by simpa using hz2⟩
    · exact .inl ⟨rfl, by simpa using hz2⟩
  clear hk hr hr2 hq hz hz2
  have tail : ∀ (k r z : Int) (q : Bool), True := fun _ _ _ _ => trivial
  clear tail
  rcases hz1 with ⟨rfl, rfl⟩ | ⟨rfl, rfl⟩
  all_goals
    rcases hk1 with ⟨hp, rfl, rfl⟩ | ⟨hp, h2, rfl⟩ | ⟨hp, rfl⟩
    all_goals
      go_enter Try.func6, Try.ntmps6
      go_wp2_with fail
      refine (ref6_New _).mono ?_; rintro e w1 ⟨v1, rfl, hO1, hB1⟩
      have HO1 := Lib.hid hO1
      have HB1 := Lib.hid hB1
      clear hO1 hB1
      go_wp2_with fail
      refine (HPUT.out _ _ HO1.out (HW0.out.trans HB1.out)).mono ?_; rintro e w2 ⟨v2, rfl, hB2⟩
      have HB2 := Lib.hid (HB1.out.trans hB2)
      obtain ⟨x0, x1⟩ := HX.out w2 HB2.out
      clear hB2
      go_wp2_with fail
      refine (HMAY.out _).mono ?_; rintro e w3 ⟨rfl, hB3⟩
      have HB3 := Lib.hid (HB2.out.trans hB3)
      clear hB3 x0 x1
      go_wp2_with fail
      refine (HBEST.out _).mono ?_; rintro e w4 ⟨rfl, hB4⟩
      have HB4 := Lib.hid ((HB3.out.trans hB4).alloc (.cells #[.int .i64 0, .int .i64 0] 29))
      have HG4 := Lib.hid (blk_alloc w4 (.cells #[.int .i64 0, .int .i64 0] 29))
      clear hB4
      go_wp2_with fail
      refine (runs_Take_nil n _ hn).mono ?_; rintro e w5 ⟨rfl, hB5⟩
      have hg5 := (Fr.of_bel (S := fun _ => False) hB5).heap HG4.out (fun h => h)
      have HB5 := Lib.hid ((HB4.out.trans hB5).alloc (.cells #[.int .i64 0, .int .i64 0] 29))
      obtain ⟨y0, y1, _, _⟩ := two_cells (blk_alloc_old (.cells #[.int .i64 0, .int .i64 0] 29) hg5)
      obtain ⟨z0, z1, _, _⟩ := two_cells (blk_alloc w5 (.cells #[.int .i64 0, .int .i64 0] 29))
      clear hB5 hg5
      go_wp2_with fail
      refine (HADD.out _ (HW0.out.trans HB5.out)).mono ?_; rintro e w6 ⟨rfl, hB6⟩
      have HB6 := Lib.hid (HB5.out.trans hB6)
      obtain ⟨x0, x1⟩ := HX.out w6 HB6.out
      clear hB6 y0 y1 z0 z1
      go_wp2_with fail
      refine (HCUT.out _).mono ?_; rintro e w7 ⟨rfl, hB7⟩
      have HB7 := Lib.hid (HB6.out.trans hB7)
      obtain ⟨x0, x1⟩ := HX.out w7 HB7.out
      clear hB7
      go_wp2_with fail
      refine (HHAS.out _).mono ?_; rintro e w8 ⟨rfl, hB8⟩
      have HB8 := Lib.hid (HB7.out.trans hB8)
      clear hB8
      go_wp2_with fail
      refine (runs_List (.pointer none) [] w8 (.inl ⟨rfl, rfl⟩)).mono ?_; rintro e w9 hN
      obtain ⟨a9, c9, rfl, _, hB9⟩ := runsIn_new hN
      have HB9 := Lib.hid (HB8.out.trans hB9)
      clear hN hB9
      go_wp2_with fail
      refine (runs_Pages (.pointer none) [] w9 (.inl ⟨rfl, rfl⟩)).mono ?_; rintro e wa ⟨rfl, hBa⟩
      have HBa := Lib.hid (HB9.out.trans hBa)
      have es : sumR [] = 0 := rfl
      rw [es]
      clear hBa
      go_wp2_with fail
      refine (awake06 _).mono ?_; rintro e w' ⟨rfl, hB⟩
      go_wp2
      go_ret
      exact ⟨rfl, (HW0.out.trans HBa.out).trans hB⟩
end Go.Proofs.Ytjmjdkimkgclaaa

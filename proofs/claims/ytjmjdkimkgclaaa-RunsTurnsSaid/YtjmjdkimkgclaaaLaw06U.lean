/- Layer 6: in which order pages become free plays no part. -/
import Derived.Test.YtjmjdkimkgclaaaLaw06K
namespace Go.Proofs.Ytjmjdkimkgclaaa
open Go.ChangeShapes Go.WideShapes Go.ChangeAt Go.RowKit Go.Deep

set_option maxHeartbeats 4000000 in
set_option maxRecDepth 20000 in
theorem runsTurns_walk (s : Option Addr) (l : List Rn) (m c : Nat) (w : World) (hR : Runs05 w s m l) :
    Calls Try.prog 3 #[.slice s m c] w fun e w' => e = .returned (.bool true) ∧ Bel w w' := by
  obtain ⟨rfl, hl, hrd, hok⟩ := hR
  have hl2 : l.length ≤ 9223372036854775807 := by unfold maxLen at hl; omega
  by_cases c0 : 20 < (l.length : Int)
  · go_enter Try.func3, Try.ntmps3
    go_wp2_with fail
    refine (awake06 _).mono ?_; rintro e w' ⟨rfl, hB⟩
    go_wp2
    go_ret
    exact ⟨rfl, hB⟩
  have c1 : l.length ≤ 20 := by omega
  have HNEW := Lib.hid (runs_New s l l.length c w rfl (by omega) hrd hok)
  have HRD := Lib.hid hrd
  have HOK := Lib.hid hok
  clear hrd hok
  go_enter Try.func3, Try.ntmps3
  go_wp2_with fail
  refine HNEW.out.mono ?_
  clear HNEW
  rintro e w1 ⟨p, rfl, hB, hp⟩
  obtain ⟨en, hen⟩ : ∃ en, (addR [] l).2 = en := ⟨_, rfl⟩
  obtain ⟨L, hL⟩ : ∃ L, (addR [] l).1 = L := ⟨_, rfl⟩
  have hp2 : en ≠ 0 ∨ en = 0 ∧ FreeP w1 p L := by
    rw [hen, hL] at hp
    rcases hp with ⟨h, _⟩ | ⟨h, v, hp, hF, _⟩
    · exact .inl h
    · exact .inr ⟨h, .inr ⟨_, v, hp, hF⟩⟩
  have HP := Lib.hid hp2
  have HEN := Lib.hid (And.intro hen hL)
  have HB1 := Lib.hid hB
  rw [hen]
  have hq2 : (Instr.buildSlice 22 0 #[]).run Try.prog w1 = .ok (.slice (some ⟨w1.heap.size, 0, none⟩) 0 0) (w1.alloc (.cells #[] 29)) := by kernel_rfl
  have HOW0 : Hid ((w1.alloc (.cells #[] 29)).ownsRow w1.heap.size 29 2 (.slice (some ⟨w1.heap.size, 0, none⟩) 0 0) 0 []) := Lib.hid (World.ownsRow_made (e := 29) (size := 2) w1 #[] 0 (Nat.le_refl _) (by simp [maxLen]) (by simp))
  clear hB hp hp2 hen hL
  have z0 : IntKind.i64.wrap ((l.length : Int) - 1) = (l.length : Int) - 1 := IntWalk.i64_in _ (by omega)
  go_wp2_with fail
  go_loopw [5, 6] (fun k1 k2 wr => ∃ j : Nat, j ≤ l.length ∧ k2 = .int .i64 ((j : Int) - 1) ∧ Hid (wr.ownsRow w1.heap.size 29 2 k1 (l.drop j).reverse.length (cellsOf (l.drop j).reverse) ∧ Bel w1 wr)) (fun k1 k2 wr => (intOf k2 + 1).toNat)
  case atStart => exact ⟨l.length, Nat.le_refl _, by first | rfl | go_num, Lib.hid ⟨by rw [List.drop_length]; exact HOW0.out, (Bel.refl _).alloc _⟩⟩
  case round =>
    obtain ⟨j, hj, hk, HH⟩ := hrel
    clear HOW0 hq2
    cases j with
    | succ j =>
      have hk2 : ∀ x, ((((j + 1 : Nat) : Int) - 1) = x) → (j : Int) = x := by intro x hx; omega
      have e0 : (((j + 1 : Nat) : Int) - 1) = (j : Int) := by omega
      rw [e0] at hk
      subst hk
      obtain ⟨g, o, rfl, p0, p1⟩ := (HRD.out.bel (HB1.out.trans HH.out.2)).at j (by omega)
      have HDR : Hid ((l.drop j).reverse = (l.drop (j + 1)).reverse ++ [l[j]]) := Lib.hid (by
        rw [List.drop_eq_getElem_cons (show j < l.length by omega)]; simp)
      obtain ⟨x, hx⟩ : ∃ x, l[j] = x := ⟨_, rfl⟩
      rw [hx] at p0 p1 HDR
      have HOW := Lib.hid HH.out.1
      have HB := Lib.hid HH.out.2
      have d0 : (j : Int) < l.length := by omega
      have hdl : (l.drop (j + 1)).reverse.length ≤ 20 := by simp; omega
      clear HH hx
      obtain ⟨D, hD⟩ : ∃ D, (l.drop (j + 1)).reverse = D := ⟨_, rfl⟩
      rw [hD] at HOW HDR hdl
      clear hD
      go_wp2_with (at_builtin; refine wpList_append_runs rfl _ _ rfl w1.heap.size _ D rfl (HOW.out.alloc _) _ _ [x] rfl ?d1 ?d2 ?d3 ?d4 ?_)
      case d1 => exact RunsIn.of_row (RdV.newAt _ #[.int .i64 x.1, .int .i64 x.2] 29 _ (by simp))
      try (case d2 => rintro ⟨⟩)
      case d3 => first | omega | (simp; done) | (simp; omega)
      case d4 => have := HB.out.size; first | omega | (simp; done) | (simp; omega)
      intro v' w4 hown4 hgrow
      have HN : Hid (w4.ownsRow w1.heap.size 29 2 v' (l.drop j).reverse.length (cellsOf (l.drop j).reverse) ∧ Bel w1 w4) := Lib.hid (by
        rw [HDR.out]
        exact ⟨by simpa using hown4, bel_app HOW.out HB.out hgrow⟩)
      clear hown4 hgrow
      go_wp2
      go_roundw
      case rel => exact ⟨j, by omega, by go_num, HN⟩
      case measure => first | (simp [intOf]; done) | (simp [intOf]; omega)
    | zero =>
      have e0 : (((0 : Nat) : Int) - 1) = -1 := by omega
      rw [e0] at hk
      subst hk
      have hown := HH.out.1
      rw [List.drop_zero] at hown
      obtain ⟨ab, cb, rfl, hrb, _⟩ := own_slice hown
      have HRB := Lib.hid (RunsIn.of_row hrb)
      have HB := Lib.hid HH.out.2
      have HNB := Lib.hid (runs_New none [] 0 0 wr rfl (by simp) (.inl rfl) (by intro r hr; simp at hr))
      clear hown hrb HH
      have hrl : l.reverse.length = l.length := List.length_reverse
      obtain ⟨R, hR⟩ : ∃ R, l.reverse = R := ⟨_, rfl⟩
      rw [hR] at HRB hrl ⊢
      have HRR := Lib.hid hR
      have HOKR : Hid (∀ r ∈ R, I64 r.1 ∧ I64 r.2) := Lib.hid (fun r hr => HOK.out r (by rw [← hR] at hr; simpa using hr))
      clear hR
      go_wp2_with fail
      refine HNB.out.mono ?_
      clear HNB
      rintro e w3 ⟨q, rfl, hB3, hq⟩
      rw [addR_none] at hq ⊢
      rcases hq with ⟨h9, _⟩ | ⟨_, v, rfl, hF, hv⟩
      · exact absurd rfl h9
      have HL := Lib.hid (live_new hF hB3 hv)
      have hbs : wr.heap.size < w3.heap.size := heap_lt hF.hd
      clear hF hB3 hv
      obtain ⟨b, hb⟩ : ∃ b, wr.heap.size = b := ⟨_, rfl⟩
      rw [hb] at HL hbs ⊢
      clear hb
      go_wp2_with fail
      go_loopw [8, 9] (fun k1 k2 wi => ∃ i : Nat, i ≤ R.length ∧ k2 = .int .i64 i ∧ ∃ f, k1 = .int .i64 f ∧ Hid (∃ v2 L2, LiveR wr (fun _ => False) wi b v2 L2 ∧ ((f = 0 ∧ Each L2 (R.take i)) ∨ (f ≠ 0 ∧ ¬ (AllThere 1024 R ∧ R.Pairwise Apart))))) (fun k1 k2 wi => R.length - (intOf k2).toNat)
      case atStart => exact ⟨0, Nat.zero_le _, rfl, _, rfl, Lib.hid ⟨v, [], HL.out, .inl ⟨rfl, Each.nil⟩⟩⟩
      case round =>
        obtain ⟨i, hi, rfl, f, rfl, HH⟩ := hrel
        obtain ⟨v2, L2, hL2, hcs⟩ := HH.out
        have HL2 := Lib.hid hL2
        clear hL2 HH
        have leave : f ≠ 0 ∨ i = R.length → True := fun _ => trivial
        rcases hcs with ⟨rfl, hE⟩ | ⟨hf, hbad⟩
        · by_cases hlt : i < R.length
          · obtain ⟨g, o, rfl, p0, p1⟩ := (HRB.out.bel HL2.out.bel).at i hlt
            have hx := HOKR.out _ (List.getElem_mem hlt)
            have hst := hE.step R[i]
            have htk : R.take (i + 1) = R.take i ++ [R[i]] := List.take_succ_eq_append_getElem hlt
            have hsp : R = R.take i ++ [R[i]] ++ R.drop (i + 1) := by rw [← htk, List.take_append_drop]
            have d0 : (i : Int) < R.length := by omega
            obtain ⟨x, hx9⟩ : ∃ x, R[i] = x := ⟨_, rfl⟩
            rw [hx9] at p0 p1 hx hst htk hsp
            obtain ⟨k, hk⟩ : ∃ k, (addR L2 [x]).2 = k := ⟨_, rfl⟩
            obtain ⟨M, hM⟩ : ∃ M, (addR L2 [x]).1 = M := ⟨_, rfl⟩
            rw [hk, hM] at hst
            have HN : Hid ((k = 0 ∧ Each M (R.take (i + 1))) ∨ (k ≠ 0 ∧ ¬ (AllThere 1024 R ∧ R.Pairwise Apart))) := Lib.hid (by
              rcases hst with ⟨h1, h2⟩ | ⟨h1, h2⟩
              · exact .inl ⟨h1, by rw [htk]; exact h2⟩
              · refine .inr ⟨h1, ?_⟩
                have h3 := h2 (R.drop (i + 1))
                rw [← hsp] at h3
                exact h3)
            have HADD := Lib.hid (live_Add1 HL2.out (show addR L2 [x] = (M, k) from Prod.ext hM hk) hx.1 hx.2 wr _ rfl (Bel.refl _))
            clear hst htk hsp hx9 hk hM hE hx leave
            go_wp2_with fail
            refine HADD.out.mono ?_
            rintro e w5 ⟨rfl, v5, hL5, _, _⟩
            have HL5 := Lib.hid hL5
            clear hL5
            go_wp2
            go_roundw
            case rel => exact ⟨i + 1, by omega, by go_num, k, rfl, Lib.hid ⟨v5, M, HL5.out, HN.out⟩⟩
            case measure => simp [intOf]; omega
          · obtain rfl : i = R.length := by omega
            rw [List.take_length, ← HRR.out] at hE
            have hall := hE.all_at_once
            have hz : en = 0 ∧ L = L2 := by rw [← HEN.out.1, ← HEN.out.2, hall]; exact ⟨rfl, rfl⟩
            obtain ⟨rfl, rfl⟩ := hz
            have HPP : Hid (FreeP w1 p L) := Lib.hid (by rcases HP.out with h | h; exact absurd rfl h; exact h.2)
            have HBW := Lib.hid (HB.out.trans HL2.out.bel)
            have HLEN := Lib.hid (len_canon HPP.out.canon)
            clear hall hE leave
            go_wp2_with fail
            refine (runs_List p L wr (HPP.out.bel HBW.out)).mono ?_
            rintro e w5 hN
            obtain ⟨a5, c5, rfl, hr5, hB5, _⟩ := list_post (Bel.refl _) hN
            have HR5 := Lib.hid hr5
            have HL5 := Lib.hid (HL2.out.then_bel hB5)
            clear hN hr5 hB5
            go_wp2_with fail
            refine (live_List HL5.out _ (Bel.refl _)).mono ?_
            rintro e w6 ⟨a6, c6, rfl, hr6, hB6, _⟩
            have HR6 := Lib.hid hr6
            have HA6 := Lib.hid (HR5.out.bel hB6)
            have HL6 := Lib.hid (HL5.out.then_bel hB6)
            clear hr6 hB6
            go_wp2_with fail
            refine (same_true HLEN.out HA6.out HR6.out).mono ?_
            rintro e w7 ⟨rfl, hB7⟩
            have HL7 := Lib.hid (HL6.out.then_bel hB7)
            clear hB7
            go_wp2_with fail
            refine (awake06 _).mono ?_; rintro e w' ⟨rfl, hB9⟩
            go_wp2
            go_ret
            exact ⟨rfl, ((HB1.out.trans HB.out).trans HL7.out.bel).trans hB9⟩
        · have hbd : en ≠ 0 := by rw [← HEN.out.1]; exact each_bad (by rw [HRR.out]; exact hbad)
          have e1 : (en != 0) = true := by simpa using hbd
          have e2 : (f != 0) = true := by simpa using hf
          have e3 : (f == 0) = false := by simpa using hf
          have HBW := Lib.hid ((HB1.out.trans HB.out).trans HL2.out.bel)
          clear hbad leave
          by_cases hlt : (i : Int) < R.length
          · go_wp2_with fail
            refine (awake06 _).mono ?_; rintro e w' ⟨rfl, hB9⟩
            go_wp2
            go_ret
            exact ⟨rfl, HBW.out.trans hB9⟩
          · go_wp2_with fail
            refine (awake06 _).mono ?_; rintro e w' ⟨rfl, hB9⟩
            go_wp2
            go_ret
            exact ⟨rfl, HBW.out.trans hB9⟩
end Go.Proofs.Ytjmjdkimkgclaaa

/- The reference's Parse, walked. No condition but those that it bears. -/
import Derived.Test.YtahbnpkhkhdmaaaDoorFlRefP
import Derived.Test.YtahbnpkhkhdmaaaDoorFlTells
import Derived.Deep.RegionWith
set_option linter.unusedVariables false
set_option linter.unusedSimpArgs false
namespace Go.Proofs.YtahbnpkhkhdmaaaDoor
open Go.RowKit Go.Shelf PFl Go.Proofs.YtahbnpkhkhdmaaaDoorW.PrintWords Go.Proofs.YtahbnpkhkhdmaaaDoorW.PrintLast Go.Proofs.YtahbnpkhkhdmaaaDoorW.PrintMore
theorem refNamesB_any (w : World) : Calls Tryd.prog 14 #[] w fun e w' => ∃ b o c, e = .returned (.slice (some ⟨b, o, none⟩) 5 c) ∧ Hd (∀ i : Nat, i < 5 → w'.cell? ⟨b, o + i, none⟩ = some (.string (name5 i))) ∧ Hd (Below w.heap.size w w') :=
  (refNames_any w).mono fun _ _ ⟨b, o, c, h1, h2, h3⟩ => ⟨b, o, c, h1, ⟨h2⟩, h3⟩
set_option maxRecDepth 100000 in
set_option maxHeartbeats 2000000 in
theorem refParse_any (s : ByteArray) (w : World) (hs : s.size ≤ 300) :
    Calls Tryd.prog 10 #[.string s] w fun e w' => e = .returned (.tuple #[.int .u8 (parseS s).1, .int .i64 (parseS s).2]) ∧ Below w.heap.size w w' := by
  by_cases h2 : s.size < 2
  · have hp := parseS_short h2
    rw [hp]
    have c0 : (s.size : Int) < 2 := by omega
    clear hp
    go_enter Tryd.func10, Tryd.ntmps10
    go_wp2_with fail
    go_ret2
    exact ⟨rfl, Below.refl _ _⟩
  · have c0 : ¬ (s.size : Int) < 2 := by omega
    have c1 : (0 : Int) < s.size := by omega
    obtain ⟨x0, hb0⟩ : ∃ x, bt s 0 = x := ⟨_, rfl⟩
    have hx0 : ∀ h : 0 < s.size, ((s[0]'h).toNat : Int) = x0 := fun h => (bt_at s 0 h).trans hb0
    by_cases h40 : x0 = 40
    · subst h40
      obtain ⟨x1, hb1⟩ : ∃ x, bt s ((s.size : Int) - 1) = x := ⟨_, rfl⟩
      have e1 : ((s.size : Int) - 1).toNat = s.size - 1 := by omega
      have hx1 : ∀ h : s.size - 1 < s.size, ((s[s.size - 1]'h).toNat : Int) = x1 := fun h => by
        have := (bt_at s ((s.size : Int) - 1) (by rw [e1]; exact h)).trans hb1
        simp only [e1] at this
        exact this
      have c2 : (0 : Int) ≤ (s.size : Int) - 1 := by omega
      have c3 : (s.size : Int) - 1 < s.size := by omega
      by_cases h41 : x1 = 41
      · subst h41
        have hp := parseS_in (by omega) hb0 hb1
        obtain ⟨⟨r1, r2⟩, hr⟩ : ∃ r, parseS s = r := ⟨_, rfl⟩
        rw [hr] at hp ⊢
        dsimp only
        have HP := Hd.mk hp
        clear hp hr
        have c4 : (1 : Int) ≤ (s.size : Int) - 1 := by omega
        have c5 : (s.size : Int) - 1 ≤ s.size := by omega
        clear hb0 hb1
        go_enter Tryd.func10, Tryd.ntmps10
        go_upto_region 4 with fail
        have htl : (s.extract 1 (s.size - 1)).size ≤ 300 := by rw [ByteArray.size_extract]; omega
        generalize s.extract 1 (s.size - 1) = t at HP htl ⊢
        have hl : t.data.toList.length = t.size := by simp
        by_cases hz : t.size = 0
        · have hte : (t.toList == ([] : List UInt8)) = true := by rw [ByteArray.toList_eq]; exact beq_iff_eq.2 (List.eq_nil_of_length_eq_zero (by omega))
          obtain ⟨rfl, rfl⟩ := Prod.mk.inj (HP.out.trans (if_pos hz))
          clear HP hz hl
          go_wp2_with fail
          go_ret2
          exact ⟨rfl, Below.refl _ _⟩
        · have hte : (t.toList == ([] : List UInt8)) = false := by rw [ByteArray.toList_eq]; exact beq_eq_false_iff_ne.2 (fun e => hz (by rw [← hl, e]; rfl))
          have HPZ := Hd.mk (HP.out.trans (if_neg hz))
          clear HP hz hl
          go_wp2_with fail
          go_loopw [4, 5, 6] (fun o f i wr => ∃ (ov : Int) (fn ik : Nat), o = .int .u8 ov ∧ f = .int .i64 fn ∧ i = .int .i64 ik ∧ Hd (Below w.heap.size w wr) ∧ Hd (Scan t ov fn ik ∨ (ik = t.size + 1 ∧ orAll (parts 32 t) 0 = some ov))) (fun o f i _ => t.size + 2 - (intOf i).toNat)
          case atStart => exact ⟨0, 0, 0, rfl, rfl, rfl, ⟨Below.refl _ _⟩, ⟨.inl (Scan.start t)⟩⟩
          case round =>
            obtain ⟨ov, fn, ik, rfl, rfl, rfl, HB, HS⟩ := hrel
            by_cases hi : ik ≤ t.size
            · have hsc : Scan t ov fn ik := by
                rcases HS.out with h | ⟨h, _⟩
                · exact h
                · omega
              have hfi := hsc.fi
              have d0 : (ik : Int) ≤ t.size := by omega
              have d1 : (0 : Int) ≤ ik := by omega
              have d2 : (0 : Int) ≤ fn := by omega
              have d3 : (fn : Int) ≤ ik := by omega
              have HSc := Hd.mk hsc
              clear HS hsc
              obtain ⟨b, hb⟩ : ∃ b, (decide (ik < t.size) && (bt t (ik : Int) != 32)) = b := ⟨_, rfl⟩
              have HBb := Hd.mk hb
              go_upto_region 11 with fail
              go_cut [47] (fun v wc => v = .bool b ∧ wc = wr)
              case first =>
                by_cases hlt : ik < t.size
                · have d4 : (ik : Int) < t.size := by omega
                  obtain ⟨xb, hxb⟩ : ∃ x, bt t (ik : Int) = x := ⟨_, rfl⟩
                  have hx : ∀ h : ik < t.size, ((t[ik]'h).toNat : Int) = xb := fun h => (bt_at t (ik : Int) (by simpa using h)).trans hxb
                  rw [hxb, decide_eq_true hlt, Bool.true_and] at hb
                  subst hb
                  clear hxb HBb
                  go_wp2_with fail
                  go_meet
                  exact ⟨rfl, rfl⟩
                · have d4 : ¬ (ik : Int) < t.size := by omega
                  rw [decide_eq_false hlt, Bool.false_and] at hb
                  subst hb
                  clear HBb
                  go_wp2_with fail
                  go_meet
                  exact ⟨rfl, rfl⟩
              case rest =>
                obtain ⟨rfl, rfl⟩ := hcut
                clear hb
                cases b with
                | true =>
                  have h3 : ik < t.size ∧ bt t (ik : Int) ≠ 32 := by
                    have := HBb.out
                    rw [Bool.and_eq_true, decide_eq_true_eq, bne_iff_ne] at this
                    exact this
                  have HS2 := Hd.mk (HSc.out.on h3.1 h3.2)
                  clear h3
                  go_wp2_with fail
                  go_roundw
                  case rel => exact ⟨ov, fn, ik + 1, rfl, rfl, by go_num, HB, ⟨.inl HS2.out⟩⟩
                  case measure => simp [intOf]; omega
                | false =>
                  have h3 : ik = t.size ∨ (ik < t.size ∧ bt t (ik : Int) = 32) := by
                    have := HBb.out
                    rw [Bool.and_eq_false_iff] at this
                    rcases this with h | h
                    · have := of_decide_eq_false h; exact .inl (by omega)
                    · by_cases e : ik < t.size
                      · exact .inr ⟨e, by simpa using h⟩
                      · exact .inl (by omega)
                  have H3 := Hd.mk h3
                  clear h3 HBb
                  go_wp2_with fail
                  have hxs : (t.extract fn ik).size ≤ 300 := by rw [ByteArray.size_extract]; omega
                  have hex : ∃ x, t.extract fn ik = x := ⟨_, rfl⟩
                  obtain ⟨x, hx⟩ := hex
                  have HX := Hd.mk hx
                  rw [hx] at hxs
                  go_loopw [7, 8] (fun r k wx => ∃ (rv : Int) (kn : Nat), r = .int .i64 rv ∧ k = .int .i64 kn ∧ kn ≤ 5 ∧ Hd (found5 x kn rv) ∧ Hd (Below w.heap.size w wx)) (fun r k _ => 5 - (intOf k).toNat)
                  case atStart => exact ⟨-1, 0, rfl, rfl, by omega, ⟨found5_zero x⟩, HB⟩
                  case round =>
                    obtain ⟨rv, kn, rfl, rfl, hk5, HF, HB2⟩ := hrel
                    by_cases hk : kn < 5
                    · have k0 : (kn : Int) < 5 := by omega
                      have k1 : (0 : Int) ≤ kn := by omega
                      have hn9 := name5_size kn
                      obtain ⟨nm, hnm⟩ : ∃ nm, name5 kn = nm := ⟨_, rfl⟩
                      have HNm := Hd.mk hnm
                      rw [hnm] at hn9
                      have hB0 := HB2.out.drew
                      have B0 := Hd.mk hB0
                      clear hB0 hnm
                      cases hh : hit x kn with
                      | true =>
                        have h1 : ((lowS nm).toList == (lowS x).toList) = true := by rw [← HNm.out]; exact hh
                        have HH := Hd.mk hh
                        clear hh
                        go_upto_region 16 with fail
                        go_region_with
                          (first
                            | (go_at_call 14; have hq := refNamesB_any wr.drew; (with_reducible refine hq.mono ?_); clear hq; rintro e w1 ⟨bb, oo, cc, rfl, N1, B1⟩; have n1 := N1.out kn hk; rw [HNm.out] at n1)
                            | (go_at_call 36; have hq := refLower_any nm w1 (by omega); (with_reducible refine hq.mono ?_); clear hq; rintro e w2 ⟨rfl, B2⟩)
                            | (go_at_call 36; have hq := refLower_any x w2 (by omega); (with_reducible refine hq.mono ?_); clear hq; rintro e w3 ⟨rfl, B3⟩))
                        all_goals go_wp2_with fail
                        all_goals go_roundw
                        case rel => exact ⟨(kn : Int), kn + 1, rfl, by go_num, by omega, ⟨found5_yes HH.out⟩, ⟨(HB2.out.drew.trans ((B1.out.mono (show w.heap.size ≤ wr.drew.heap.size from HB2.out.size)).trans ((B2.out.mono (Nat.le_trans HB2.out.size B1.out.size)).trans (B3.out.mono (Nat.le_trans (Nat.le_trans HB2.out.size B1.out.size) B2.out.size)))))⟩⟩
                        case measure => simp [intOf]; omega
                      | false =>
                        have h1 : ((lowS nm).toList == (lowS x).toList) = false := by rw [← HNm.out]; exact hh
                        have HH := Hd.mk hh
                        clear hh
                        go_upto_region 16 with fail
                        go_region_with
                          (first
                            | (go_at_call 14; have hq := refNamesB_any wr.drew; (with_reducible refine hq.mono ?_); clear hq; rintro e w1 ⟨bb, oo, cc, rfl, N1, B1⟩; have n1 := N1.out kn hk; rw [HNm.out] at n1)
                            | (go_at_call 36; have hq := refLower_any nm w1 (by omega); (with_reducible refine hq.mono ?_); clear hq; rintro e w2 ⟨rfl, B2⟩)
                            | (go_at_call 36; have hq := refLower_any x w2 (by omega); (with_reducible refine hq.mono ?_); clear hq; rintro e w3 ⟨rfl, B3⟩))
                        all_goals go_wp2_with fail
                        all_goals go_roundw
                        case rel => exact ⟨rv, kn + 1, rfl, by go_num, by omega, ⟨found5_no HF.out HH.out⟩, ⟨(HB2.out.drew.trans ((B1.out.mono (show w.heap.size ≤ wr.drew.heap.size from HB2.out.size)).trans ((B2.out.mono (Nat.le_trans HB2.out.size B1.out.size)).trans (B3.out.mono (Nat.le_trans (Nat.le_trans HB2.out.size B1.out.size) B2.out.size)))))⟩⟩
                        case measure => simp [intOf]; omega
                    · obtain rfl : kn = 5 := by omega
                      rcases found5_end HF.out with ⟨rfl, hfl⟩ | ⟨j, hj, rfl, hfl⟩
                      · have hn : orAll (parts 32 t) 0 = none := HSc.out.fails H3.out (HX.out ▸ hfl)
                        obtain ⟨rfl, rfl⟩ := Prod.mk.inj (HPZ.out.trans (by rw [hn]))
                        clear hn hfl
                        go_wp2_with fail
                        go_ret2
                        exact ⟨rfl, HB2.out⟩
                      · obtain ⟨o1, o2, o3⟩ := or_at HSc.out.o0 HSc.out.o1 hj
                        have HBit := Hd.mk (bit_both HSc.out.o0 HSc.out.o1 hj).2
                        have HFl := Hd.mk hfl
                        have O1 := Hd.mk o1
                        have O2 := Hd.mk o2
                        have O3 := Hd.mk o3
                        have j0 : (0 : Int) ≤ j := by omega
                        have hS : Hd (Scan t (Go.bits .or .u8 ov (2 ^ j % 256)) (ik + 1) (ik + 1) ∨ (ik + 1 = t.size + 1 ∧ orAll (parts 32 t) 0 = some (Go.bits .or .u8 ov (2 ^ j % 256)))) := by
                          rcases H3.out with h | ⟨h, hb⟩
                          · exact ⟨.inr ⟨by rw [h], by subst h; exact HSc.out.finish (HX.out ▸ hfl)⟩⟩
                          · exact ⟨.inl (HSc.out.next h hb (HX.out ▸ hfl) o2 o3)⟩
                        clear o1 o2 o3 hfl
                        obtain ⟨bj, hbj⟩ : ∃ b, bitAt ov j = b := ⟨_, rfl⟩
                        have HO : Hd ((if bj then ov else (ov + 2 ^ j % 256) % 256) = Go.bits .or .u8 ov (2 ^ j % 256)) := ⟨by rw [← hbj]; exact O1.out⟩
                        have HBit : Hd (postchaiseref01_Bit.f ov (j : Int) = some bj) := ⟨by rw [HBit.out, hbj]⟩
                        clear hbj
                        cases bj with
                        | true =>
                          go_wp2_with (first
                            | (go_at_call 13; have hq := postchaiseref01_Bit.calls ov j true wr HBit.out; (with_reducible refine hq.mono ?_); clear hq; rintro e w1 ⟨rfl, nd, rfl⟩))
                          go_roundw
                          case rel => exact ⟨ov, ik + 1, ik + 1, rfl, by go_num, by go_num, ⟨pw_below_drewN HB2.out nd⟩, ⟨by rw [show ov = Go.bits .or .u8 ov (2 ^ j % 256) from HO.out]; exact hS.out⟩⟩
                          case measure => simp [intOf]; omega
                        | false =>
                          go_wp2_with (first
                            | (go_at_call 13; have hq := postchaiseref01_Bit.calls ov j false wr HBit.out; (with_reducible refine hq.mono ?_); clear hq; rintro e w1 ⟨rfl, nd, rfl⟩))
                          go_roundw
                          case rel => exact ⟨_, ik + 1, ik + 1, rfl, by go_num, by go_num, ⟨pw_below_drewN HB2.out nd⟩, ⟨by rw [show (ov + 2 ^ j % 256) % 256 = Go.bits .or .u8 ov (2 ^ j % 256) from HO.out]; exact hS.out⟩⟩
                          case measure => simp [intOf]; omega
            · have h3 : orAll (parts 32 t) 0 = some ov := by
                rcases HS.out with h | ⟨_, h⟩
                · exact absurd h.it hi
                · exact h
              have d0 : ¬ (ik : Int) ≤ t.size := by omega
              obtain ⟨rfl, rfl⟩ := Prod.mk.inj (HPZ.out.trans (by rw [h3]))
              clear h3 HS
              go_wp2_with fail
              go_ret2
              exact ⟨rfl, HB.out⟩
      · have hp := parseS_last (by omega) (fun h => h41 (hb1.symm.trans h))
        rw [hp]
        have b1 : (x1 != 41) = true := bne_iff_ne.2 h41
        clear hp hb0 hb1
        go_enter Tryd.func10, Tryd.ntmps10
        go_wp2_with fail
        go_ret2
        exact ⟨rfl, Below.refl _ _⟩
    · have hp := parseS_first (by omega) (fun h => h40 (hb0.symm.trans h))
      rw [hp]
      have b1 : (x0 != 40) = true := bne_iff_ne.2 h40
      clear hp hb0
      go_enter Tryd.func10, Tryd.ntmps10
      go_wp2_with fail
      go_ret2
      exact ⟨rfl, Below.refl _ _⟩
set_option maxRecDepth 100000 in
set_option maxHeartbeats 1000000 in
theorem flagsParses_any (s : ByteArray) (w : World) (hs : s.size ≤ 140737488351232) {bn on cn : Nat} (hN : NamesAt w bn on cn) :
    Calls Tryd.prog 3 #[.string s] w fun e w' => e = .returned (.bool true) ∧ Below w.heap.size w w' := by
  have HN : Hd _ := ⟨hN⟩
  clear hN
  by_cases h : s.size ≤ 300
  · have h0 : ¬ (300 : Int) < s.size := by omega
    obtain ⟨⟨r1, r2⟩, hr⟩ : ∃ r, parseS s = r := ⟨_, rfl⟩
    have HP : Hd (∀ w : World, NamesAt w bn on cn → Calls Tryd.prog 9 #[.string s] w fun x w' => x = .returned (.tuple #[.int .u8 r1, .int .i64 r2]) ∧ Hd (Below w.heap.size w w')) := ⟨fun w h => parse_calls s w hs h hr⟩
    have HR : Hd (∀ w : World, Calls Tryd.prog 10 #[.string s] w fun x w' => x = .returned (.tuple #[.int .u8 r1, .int .i64 r2]) ∧ Hd (Below w.heap.size w w')) := ⟨fun w => by
      have := refParse_any s w h
      rw [hr] at this
      exact this.mono fun _ _ g => ⟨g.1, ⟨g.2⟩⟩⟩
    have HA : Hd (∀ w : World, NamesAt w bn on cn → Calls Tryd.prog 11 #[] w fun e w' => e = .returned (.bool true) ∧ Hd (Below w.heap.size w w')) := ⟨fun w h => (awake_any w h).mono (fun _ _ h => ⟨h.1, ⟨h.2⟩⟩)⟩
    clear hr
    go_enter Tryd.func3, Tryd.ntmps3
    go_wp2_with (first
      | (go_at_call 9; have hq := HP.out w HN.out; (with_reducible refine hq.mono ?_); clear hq; rintro e w1 ⟨rfl, B1⟩)
      | (go_at_call 10; have hq := HR.out w1; (with_reducible refine hq.mono ?_); clear hq; rintro e w2 ⟨rfl, B2⟩; have C2 := Hd.mk (B1.out.trans (B2.out.mono B1.out.size)))
      | (go_at_call 11; have hq := HA.out w2 (HN.out.on C2.out); (with_reducible refine hq.mono ?_); clear hq; rintro e w3 ⟨rfl, B3⟩))
    go_ret
    exact ⟨rfl, C2.out.trans (B3.out.mono C2.out.size)⟩
  · have h0 : (300 : Int) < s.size := by omega
    go_enter Tryd.func3, Tryd.ntmps3
    go_wp2_with fail
    go_ret
    exact ⟨rfl, Below.refl _ _⟩
end Go.Proofs.YtahbnpkhkhdmaaaDoor

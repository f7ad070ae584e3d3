/- The law TokenReads, walked. The premise says what package variables hold. -/
import Derived.Test.YtphaemaccdddfaaDoorTkReads
import Derived.Test.YtphaemaccdddfaaDoorOpen
import Derived.Deep.DeepCutAuto
import Derived.Deep.RegionHeld3
set_option linter.unusedVariables false
set_option linter.unusedSimpArgs false
namespace Go.Proofs.YtphaemaccdddfaaDoor
/-- Something that a reader is asked. -/
def RAsk (p : Int × ByteArray) (cs : List Value) : Prop := cs = [.int .u8 p.1, .string p.2] ∧ (Lit.int .u8 p.1).wf = true ∧ p.2.size ≤ maxLen
end Go.Proofs.YtphaemaccdddfaaDoor
namespace Go.Proofs.YtphaemaccdddfaaDoor.PTk
open Go.RowKit Go.Shelf Go.Proofs.YtphaemaccdddfaaDoorW.PrintWords Go.Proofs.YtphaemaccdddfaaDoorW.PrintLast Go.Proofs.YtphaemaccdddfaaDoorW.PrintMore
def askN (l : List (Int × ByteArray)) (k : Nat) : Int × ByteArray := l.getD k (0, ⟨#[]⟩)
theorem u8_wf {a : Int} (h : (Lit.int .u8 a).wf = true) : 0 ≤ a ∧ a < 256 := by
  have e : (Lit.int .u8 a).wf = (decide (IntKind.u8.min ≤ a) && decide (a ≤ IntKind.u8.max)) := rfl
  rw [e, Bool.and_eq_true, decide_eq_true_eq, decide_eq_true_eq] at h
  have h1 : IntKind.u8.min = 0 := rfl
  have h2 : IntKind.u8.max = 255 := rfl
  omega
theorem recs_asks {w : World} {A : Option Addr} {n : Nat} {l : List (Int × ByteArray)} (h : Recs RAsk 2 w A n l) (hn : 0 < n) :
    ∃ bx ox, A = some ⟨bx, ox, none⟩ ∧ bx < w.heap.size ∧ ∀ i, i < l.length → w.cell? ⟨bx, ox + i * 2, none⟩ = some (.int .u8 (askN l i).1) ∧ w.cell? ⟨bx, ox + i * 2 + 1, none⟩ = some (.string (askN l i).2) ∧ 0 ≤ (askN l i).1 := by
  obtain ⟨hl, _, h⟩ := h
  obtain ⟨ad, rfl, hc⟩ := h hn
  have each : ∀ i, i < l.length → ∀ j u, [Value.int .u8 (askN l i).1, .string (askN l i).2][j]? = some u → w.cell? (ad.add (i * 2 + j)) = some u := by
    intro i hi j u hu
    obtain ⟨c, _, ⟨rfl, _⟩, hcell⟩ := hc i _ (List.getElem?_eq_getElem hi)
    refine hcell j u ?_
    unfold askN at hu
    rwa [List.getD_eq_getElem?_getD, List.getElem?_eq_getElem hi] at hu
  have h0 := each 0 (by omega) 0 _ rfl
  have hp := plain_of_cell (a := ad) (by simpa [Addr.add] using h0)
  have hb : ad.block < w.heap.size := lt_of_cell (a := ad) (by simpa [Addr.add] using h0)
  refine ⟨ad.block, ad.off, congrArg some hp, hb, fun i hi => ?_⟩
  have hw : (Lit.int .u8 (askN l i).1).wf = true := by
    obtain ⟨c, _, ⟨rfl, hw, _⟩, hcell⟩ := hc i _ (List.getElem?_eq_getElem hi)
    unfold askN
    rwa [List.getD_eq_getElem?_getD, List.getElem?_eq_getElem hi]
  have hw := u8_wf hw
  have e : ∀ j, (⟨ad.block, ad.off + i * 2 + j, none⟩ : Addr) = ad.add (i * 2 + j) := fun j => by rw [hp, add_off, Nat.add_assoc]
  exact ⟨(e 0) ▸ each i hi 0 _ rfl, (e 1) ▸ each i hi 1 _ rfl, hw.1⟩
section
variable {w W : World} {g1 g2 : Nat} {S : ByteArray} {a b : Nat} {fl gl : Bool} (h : Two w W g1 g2 S a fl b gl)
include h
theorem t_left1 : Calls Tryd.prog 12 #[.pointer (some ⟨g1, 0, none⟩)] W fun e W' => e = .returned (.int .i64 ((restOf S a fl).size : Int)) ∧ Hd (Step2 w W g1 g2 S a fl b gl W') :=
  (rd_left h.r).mono fun _ _ ⟨h1, h2⟩ => ⟨h1, ⟨h.of1 h2.out, .of1 h2.out.2⟩⟩
theorem t_ok1 : Calls Tryd.prog 10 #[.pointer (some ⟨g1, 0, none⟩)] W fun e W' => e = .returned (.bool (!fl)) ∧ Hd (Step2 w W g1 g2 S a fl b gl W') :=
  (rd_ok h.r).mono fun _ _ ⟨h1, h2⟩ => ⟨h1, ⟨h.of1 h2.out, .of1 h2.out.2⟩⟩
theorem t_end1 : Calls Tryd.prog 11 #[.pointer (some ⟨g1, 0, none⟩)] W fun e W' => e = .returned (.bool (!fl && (restOf S a fl).toList == ([] : List UInt8))) ∧ Hd (Step2 w W g1 g2 S a fl b gl W') :=
  (rd_end h.r).mono fun _ _ ⟨h1, h2⟩ => ⟨h1, ⟨h.of1 h2.out, .of1 h2.out.2⟩⟩
end
theorem gu_atom' : token_Reader_Atom.f ⟨#[]⟩ true = some (⟨#[]⟩, ⟨#[]⟩, true) := by decide +kernel
theorem gu_number' : token_Reader_Number.f ⟨#[]⟩ true = some (0, ⟨#[]⟩, true) := by decide +kernel
theorem gu_string' : token_Reader_String.f ⟨#[]⟩ true = some (⟨#[]⟩, ⟨#[]⟩, true) := by decide +kernel
theorem gu_literal' : token_Reader_Literal.f ⟨#[]⟩ true = some (⟨#[]⟩, ⟨#[]⟩, true) := by decide +kernel
/-- Who gave up stays so. -/
theorem ask_mono {S : ByteArray} {a : Nat} {fl : Bool} {d : Int} {x : ByteArray} {a' : Nat} {fl' : Bool} (h : AskSpec S a fl d x a' fl') : (fl = false ∧ fl' = false) ∨ fl' = true := by
  cases fl with
  | false => cases fl' with
    | false => exact .inl ⟨rfl, rfl⟩
    | true => exact .inr rfl
  | true =>
    cases fl' with
    | true => exact .inr rfl
    | false =>
      exfalso
      have e : restOf S a true = ⟨#[]⟩ := rfl
      by_cases h0 : d = 0
      · obtain ⟨r, hp, _⟩ := h.d0 h0
        rw [e, gu_atom'] at hp; simp at hp
      by_cases h1 : d = 1
      · obtain ⟨r, hp, _⟩ := h.d1 h1
        rw [e, gu_number'] at hp; simp at hp
      by_cases h2 : d = 2
      · obtain ⟨r, hp, _⟩ := h.d2 h2
        rw [e, gu_string'] at hp; simp at hp
      by_cases h3 : d = 3
      · obtain ⟨r, hp, _⟩ := h.d3 h3
        rw [e, gu_literal'] at hp; simp at hp
      by_cases h4 : d = 4
      · have := (h.d4 h4).2
        have e2 : mustF S a true ⟨#[32]⟩ = true := rfl
        rw [e2] at this; cases this
      by_cases h5 : d = 5
      · cases (h.d5 h5).2
      by_cases h6 : d = 6
      · cases (h.d6 h6).2
      by_cases h7 : d = 7
      · cases (h.d7 h7).2
      by_cases h8 : d = 8
      · cases (h.d8 h8).2
      · cases (h.d9 ⟨h0, h1, h2, h3, h4, h5, h6, h7, h8⟩).2
theorem k_left {W : World} {g : Nat} {y : ByteArray} {fl : Bool} (h : W.heap[g]? = some (.cells #[.string y, .bool fl] 54 (0, 0))) : Calls Tryd.prog 12 #[.pointer (some ⟨g, 0, none⟩)] W fun e W' => e = .returned (.int .i64 (y.size : Int)) ∧ W = W' := by
  have c0 := cellS54_0 h
  clear h
  go_enter Tryd.func12, Tryd.ntmps12
  go_wp2
  go_ret
  exact ⟨rfl, rfl⟩
theorem k_ok {W : World} {g : Nat} {y : ByteArray} {fl : Bool} (h : W.heap[g]? = some (.cells #[.string y, .bool fl] 54 (0, 0))) : Calls Tryd.prog 10 #[.pointer (some ⟨g, 0, none⟩)] W fun e W' => e = .returned (.bool (!fl)) ∧ W = W' := by
  have c0 := cellS54_1 h
  clear h
  go_enter Tryd.func10, Tryd.ntmps10
  go_wp2
  go_ret
  exact ⟨rfl, rfl⟩
theorem k_end {W : World} {g : Nat} {y : ByteArray} {fl : Bool} (h : W.heap[g]? = some (.cells #[.string y, .bool fl] 54 (0, 0))) : Calls Tryd.prog 11 #[.pointer (some ⟨g, 0, none⟩)] W fun e W' => e = .returned (.bool (!fl && y.toList.isEmpty)) ∧ W = W' := by
  have c0 := cellS54_0 h
  have c1 := cellS54_1 h
  clear h
  cases fl with
  | true =>
    go_enter Tryd.func11, Tryd.ntmps11
    go_wp2
    go_ret
    exact ⟨rfl, rfl⟩
  | false =>
    obtain ⟨b, hb⟩ : ∃ b, y.toList.isEmpty = b := ⟨_, rfl⟩
    rw [hb]
    have hb2 : (y.toList == ([] : List UInt8)) = b := by rw [← hb]; cases y.toList <;> rfl
    go_enter Tryd.func11, Tryd.ntmps11
    go_wp2
    go_ret
    exact ⟨rfl, rfl⟩
theorem k_rest {W : World} {g : Nat} {S : ByteArray} {b : Nat} {gl : Bool} (h : W.heap[g]? = some (.cells #[.string S, .int .i64 (b : Int), .bool gl] 34 (0, 0))) (hb : b ≤ S.size) (hS : S.size ≤ 100000) : Calls Tryd.prog 21 #[.pointer (some ⟨g, 0, none⟩)] W fun e W' => e = .returned (.string (restOf S b gl)) ∧ ∃ k, W' = W.drewN k := by
  have c0 := cellS34_0 h
  have c1 := cellS34_1 h
  have c2 := cellS34_2 h
  clear h
  cases gl with
  | true =>
    go_enter Tryd.func21, Tryd.ntmps21
    go_wp2
    go_ret
    exact ⟨rfl, 0, rfl⟩
  | false =>
    have e : restOf S b false = S.extract b S.size := rfl
    rw [e]
    have h0 : (0 : Int) ≤ (b : Int) := by omega
    have h1 : (b : Int) ≤ (S.size : Int) := by omega
    clear e
    go_enter Tryd.func21, Tryd.ntmps21
    go_wp2
    go_quiet (fail)
    go_wp2
    go_ret
    exact ⟨rfl, _, rfl⟩
set_option maxHeartbeats 40000000 in
set_option maxRecDepth 100000 in
theorem tokenReads_any (w : World) (hG : GlobOk w) (s : ByteArray) (_ : s.size ≤ 140737488351232) (A : Option Addr) (len cap : Nat) (l : List (Int × ByteArray)) (h : Recs RAsk 2 w A len l) (hc : len ≤ cap) (_ : len * 24 ≤ 140737488351232) :
    Calls Tryd.prog 4 #[.string s, .slice A len cap] w fun e w' => e = .returned (.bool true) ∧ Hd (Below w.heap.size w w') := by
  have HG := Hd.mk hG
  have hl : l.length = len := h.1
  have HR := Hd.mk (fun hn => recs_asks h hn)
  clear hG h
  by_cases hs : (s.size : Int) ≤ 2000
  · by_cases hln : (len : Int) ≤ 40
    · have HL := Hd.mk hl
      clear hl
      have hln2 : decide ((40 : Int) < (len : Int)) = false := decide_eq_false (by omega)
      have hbb : ∀ b : Bool, ((!b) == b) = false := by decide
      go_enter Tryd.func4, Tryd.ntmps4
      go_wp2_with (go_at_call 8; have hx := rd_read w w s (Below.refl _ _); (with_reducible refine hx.mono ?_); clear hx; rintro e w1 ⟨g1, rfl, HR1⟩)
      have HT : Hd (Two w (w1.alloc (.cells #[.string s, .int .i64 0, .bool false] 34)) g1 w1.heap.size s 0 false 0 false) := ⟨by
        obtain ⟨k1, k2, k3⟩ := HR1.out
        have e : restOf s 0 false = s := by apply tk_bytes_ext; rw [rest_list]; rfl
        refine ⟨?_, ⟨by simpa using heap_alloc_new w1 _, k1.below.size⟩, ?_⟩
        · rw [e]
          exact k1.on (below_alloc (Below.refl _ _) _)
        · have := k1.is.lt; omega⟩
      obtain ⟨g2, hg2⟩ : ∃ g, w1.heap.size = g := ⟨_, rfl⟩
      obtain ⟨W0, hW0⟩ : ∃ W0, w1.alloc (.cells #[.string s, .int .i64 0, .bool false] 34) = W0 := ⟨_, rfl⟩
      rw [hg2, hW0] at HT
      simp only [hg2, hW0]
      clear hg2 hW0 HR1
      go_loopw [7] (fun i wr => ∃ (k a : Nat) (fl : Bool), k ≤ len ∧ i = .int .i64 k ∧ Hd (Two w wr g1 g2 s a fl a fl ∧ a ≤ s.size)) (fun i _ => len - (intOf i).toNat)
      case atStart => exact ⟨0, 0, false, Nat.zero_le _, rfl, ⟨HT.out, Nat.zero_le _⟩⟩
      case round =>
        obtain ⟨k, a, fl, hk, rfl, HJ⟩ := hrel
        clear HT
        by_cases hlt : k < len
        · obtain ⟨bx, ox, rfl, hbx, hcell⟩ := HR.out (by omega)
          obtain ⟨q0, q1, q2⟩ := hcell k (by rw [HL.out]; exact hlt)
          obtain ⟨x, hx⟩ : ∃ x, (askN l k).2 = x := ⟨_, rfl⟩
          obtain ⟨d, hd⟩ : ∃ d, (askN l k).1 = d := ⟨_, rfl⟩
          rw [hd] at q0 q2
          rw [hx] at q1
          have HQ : Hd (∀ X, Below w.heap.size w X → X.cell? ⟨bx, ox + k * 2, none⟩ = some (.int .u8 d) ∧ X.cell? ⟨bx, ox + k * 2 + 1, none⟩ = some (.string x)) := ⟨fun X hX => ⟨(hX.cell (p := ⟨bx, ox + k * 2, none⟩) hbx).trans q0, (hX.cell (p := ⟨bx, ox + k * 2 + 1, none⟩) hbx).trans q1⟩⟩
          obtain ⟨c0, c1⟩ := HQ.out wr HJ.out.1.r.below
          clear hcell hd hx q0 q1 hbx
          by_cases hx20 : (x.size : Int) ≤ 20
          · have hx20b : decide ((20 : Int) < (x.size : Int)) = false := decide_eq_false (by omega)
            have HX : Hd (Two w wr.drew g1 g2 s a fl a fl) := ⟨HJ.out.1.on (below_drew1 (Below.refl _ _))⟩
            obtain ⟨a', fl', hsp⟩ := ask_ex s a fl d x (by omega) HJ.out.2
            have HLE := Hd.mk hsp.le
            have hff : (fl = false ∧ fl' = false) ∨ fl' = true := ask_mono hsp
            have HAS := Hd.mk (asked_any HG.out HX.out (by omega) HJ.out.2 d x (by omega) a' fl' hsp)
            have hsz0 : s.size ≤ 100000 := by omega
            clear hsp
            rcases hff with ⟨rfl, rfl⟩ | rfl
            · skip
              have c2 := (cellS34_2 HX.out.q.1)
              go_wp2_with fail
              first
              | (go_region_held3 (fun w' => w'.cell? ⟨bx, ox + k * 2, none⟩ = some (.int .u8 d) ∧ w'.cell? ⟨bx, ox + k * 2 + 1, none⟩ = some (.string x) ∧ w'.cell? ⟨g2, 2, none⟩ = some (.bool false))
                (first | (simp [go_sem, *]; done))
                (first
                  | (go_at_call 20; have hx := HAS.out; (with_reducible refine hx.mono ?_); clear hx; rintro e w1 ⟨rfl, K1⟩; have m3 := cellS34_2 K1.out.1.q.1; have m1 := (HQ.out w1 K1.out.1.r.below).1; have m2 := (HQ.out w1 K1.out.1.r.below).2)
                  | (go_at_call 12; have hx := k_left K1.out.1.r.is.1; (with_reducible refine hx.mono ?_); clear hx; rintro e w2 ⟨rfl, rfl⟩)
                  | (go_at_call 21; have hx := k_rest K1.out.1.q.1 HLE.out hsz0; (with_reducible refine hx.mono ?_); clear hx; rintro e w2 ⟨rfl, kk, rfl⟩)
                  | (go_at_call 10; have hx := k_ok (W := w1.drewN kk) K1.out.1.r.is.1; (with_reducible refine hx.mono ?_); clear hx; rintro e w2 ⟨rfl, rfl⟩)
                  | (go_at_call 11; have hx := k_end (W := w1.drewN kk) K1.out.1.r.is.1; (with_reducible refine hx.mono ?_); clear hx; rintro e w2 ⟨rfl, rfl⟩)
                  | (go_at_call 21; have hx := k_rest (W := w1.drewN kk) K1.out.1.q.1 HLE.out hsz0; (with_reducible refine hx.mono ?_); clear hx; rintro e w2 ⟨rfl, kk2, rfl⟩)))
              | fail
              all_goals
                go_wp2_with fail
                go_roundw
                case rel => exact ⟨k + 1, a', false, by omega, by go_num, ⟨Two.on K1.out.1 ⟨rfl, rfl, rfl, Nat.le_refl _, fun _ _ => rfl⟩, HLE.out⟩⟩
                case measure => simp [intOf]; omega
            · skip
              go_wp2_with fail
              first
              | (go_region_with (first
                  | (go_at_call 20; have hx := HAS.out; (with_reducible refine hx.mono ?_); clear hx; rintro e w1 ⟨rfl, K1⟩; have m3 := cellS34_2 K1.out.1.q.1)
                  | (go_at_call 12; have hx := k_left K1.out.1.r.is.1; (with_reducible refine hx.mono ?_); clear hx; rintro e w2 ⟨rfl, rfl⟩)
                  | (go_at_call 21; have hx := k_rest K1.out.1.q.1 HLE.out hsz0; (with_reducible refine hx.mono ?_); clear hx; rintro e w2 ⟨rfl, kk, rfl⟩)
                  | (go_at_call 10; have hx := k_ok (W := w1.drewN kk) K1.out.1.r.is.1; (with_reducible refine hx.mono ?_); clear hx; rintro e w2 ⟨rfl, rfl⟩)
                  | (go_at_call 11; have hx := k_end (W := w1.drewN kk) K1.out.1.r.is.1; (with_reducible refine hx.mono ?_); clear hx; rintro e w2 ⟨rfl, rfl⟩)
                  | (go_at_call 21; have hx := k_rest (W := w1.drewN kk) K1.out.1.q.1 HLE.out hsz0; (with_reducible refine hx.mono ?_); clear hx; rintro e w2 ⟨rfl, kk2, rfl⟩)))
              | fail
              all_goals
                go_wp2_with fail
                go_roundw
                case rel => exact ⟨k + 1, a', true, by omega, by go_num, ⟨Two.on K1.out.1 ⟨rfl, rfl, rfl, Nat.le_refl _, fun _ _ => rfl⟩, HLE.out⟩⟩
                case measure => simp [intOf]; omega
          · go_wp2_with fail
            go_ret
            exact ⟨rfl, ⟨HJ.out.1.r.below⟩⟩
        · obtain rfl : k = len := by omega
          go_wp2_with (go_at_call 19; have hx := tk_awake wr (HG.out.on HJ.out.1.r.below); (with_reducible refine hx.mono ?_); clear hx; rintro e w13 ⟨rfl, HR13⟩)
          go_ret
          exact ⟨rfl, ⟨HJ.out.1.r.below.trans (HR13.out.mono HJ.out.1.r.below.size)⟩⟩
    · have hln2 : decide ((40 : Int) < (len : Int)) = true := decide_eq_true (by omega)
      clear hl
      go_enter Tryd.func4, Tryd.ntmps4
      go_wp2_with fail
      all_goals go_ret
      all_goals exact ⟨rfl, ⟨Below.refl _ _⟩⟩
  · go_enter Tryd.func4, Tryd.ntmps4
    go_wp2_with fail
    go_ret
    exact ⟨rfl, ⟨Below.refl _ _⟩⟩
end Go.Proofs.YtphaemaccdddfaaDoor.PTk

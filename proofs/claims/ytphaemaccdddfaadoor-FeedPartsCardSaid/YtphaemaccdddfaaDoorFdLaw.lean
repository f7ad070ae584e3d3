/- The law FeedParts, walked. The premise says what package variables hold. -/
import Derived.Test.YtphaemaccdddfaaDoorFdBack
import Derived.Laws.AppendOwnNone
import Derived.Deep.DeepCutAuto
set_option linter.unusedVariables false
set_option linter.unusedSimpArgs false
namespace Go.Proofs.YtphaemaccdddfaaDoor.PTk
open Go.RowKit Go.Shelf Go.Proofs.YtphaemaccdddfaaDoorW.PrintWords Go.Proofs.YtphaemaccdddfaaDoorW.PrintLast Go.Proofs.YtphaemaccdddfaaDoorW.PrintMore
def bytesOf (zs : List Int) : List UInt8 := zs.map fun z => UInt8.ofNat z.toNat
theorem wf8 {a : Int} (h : (Lit.int .u8 a).wf = true) : 0 ≤ a ∧ a < 256 := by
  have e : (Lit.int .u8 a).wf = (decide (IntKind.u8.min ≤ a) && decide (a ≤ IntKind.u8.max)) := rfl
  rw [e, Bool.and_eq_true, decide_eq_true_eq, decide_eq_true_eq] at h
  have h1 : IntKind.u8.min = 0 := rfl
  have h2 : IntKind.u8.max = 255 := rfl
  omega
theorem wf16 {a : Int} (h : (Lit.int .u16 a).wf = true) : 0 ≤ a ∧ a < 65536 := by
  have e : (Lit.int .u16 a).wf = (decide (IntKind.u16.min ≤ a) && decide (a ≤ IntKind.u16.max)) := rfl
  rw [e, Bool.and_eq_true, decide_eq_true_eq, decide_eq_true_eq] at h
  have h1 : IntKind.u16.min = 0 := rfl
  have h2 : IntKind.u16.max = 65535 := rfl
  omega
theorem recs_wf {k : IntKind} {w : World} {A : Option Addr} {n : Nat} {zs : List Int} (h : Recs (RInt k) 1 w A n zs) (i : Nat) (hi : i < zs.length) : (Lit.int k zs[i]).wf = true := by
  obtain ⟨hl, _, h⟩ := h
  obtain ⟨ad, rfl, hc⟩ := h (by omega)
  obtain ⟨c, _, ⟨_, hw⟩, _⟩ := hc i _ (List.getElem?_eq_getElem hi)
  exact hw
theorem recs_bytes {w : World} {A : Option Addr} {n : Nat} {zs : List Int} (h : Recs (RInt .u8) 1 w A n zs) (hn : 0 < n) :
    ∃ bx ox, A = some ⟨bx, ox, none⟩ ∧ bx < w.heap.size ∧ ∀ i (hi : i < (bytesOf zs).length), w.cell? ⟨bx, ox + i, none⟩ = some (.int .u8 (((bytesOf zs)[i].toNat : Nat) : Int)) := by
  obtain ⟨bx, ox, h1, h2, h3⟩ := recs_ints h hn
  refine ⟨bx, ox, h1, h2, fun i hi => ?_⟩
  have hi2 : i < zs.length := by unfold bytesOf at hi; rwa [List.length_map] at hi
  have hw := wf8 (recs_wf h i hi2)
  rw [h3 i hi2]
  have e1 : nth zs i = zs[i] := by unfold nth; rw [List.getD_eq_getElem?_getD, List.getElem?_eq_getElem hi2]; rfl
  have e2 : (bytesOf zs)[i] = UInt8.ofNat zs[i].toNat := List.getElem_map _
  rw [e1, e2, UInt8.toNat_ofNat']
  congr 2
  omega
theorem recs_u16 {w : World} {A : Option Addr} {n : Nat} {zs : List Int} (h : Recs (RInt .u16) 1 w A n zs) (hn : 0 < n) :
    ∃ bx ox, A = some ⟨bx, ox, none⟩ ∧ bx < w.heap.size ∧ ∀ i, i < zs.length → ∃ z : Nat, z < 65536 ∧ w.cell? ⟨bx, ox + i, none⟩ = some (.int .u16 (z : Int)) := by
  obtain ⟨bx, ox, h1, h2, h3⟩ := recs_ints h hn
  refine ⟨bx, ox, h1, h2, fun i hi => ?_⟩
  have hw := wf16 (recs_wf h i hi)
  have e1 : nth zs i = zs[i] := by unfold nth; rw [List.getD_eq_getElem?_getD, List.getElem?_eq_getElem hi]; rfl
  refine ⟨zs[i].toNat, by omega, ?_⟩
  rw [h3 i hi, e1]
  congr 2
  omega
theorem kept_blk {b : Nat} {A : Option Addr} {n c : Nat} {F : FS} {W : World} (h : W.heap[b]? = some (.cells (fcells (.slice A n c) F b) 68 (0, 0))) :
    Calls Tryd.prog 26 #[.pointer (some ⟨b, 0, none⟩)] W fun e w' => e = .returned (.int .i64 (n : Int)) ∧ w' = W := by
  have c0 : W.cell? ⟨b, 0, none⟩ = some (.slice A n c) := (blk_cell h 0).trans rfl
  clear h
  go_enter Tryd.func26, Tryd.ntmps26
  go_wp2
  go_ret
  exact ⟨rfl, rfl⟩
theorem kept_g {base b : Nat} {F : FS} {W W' : World} (h : ∃ sv, FdAt base b F sv W) (hb : Below W.heap.size W W') :
    Calls Tryd.prog 26 #[.pointer (some ⟨b, 0, none⟩)] W' fun e w' => e = .returned (.int .i64 (F.s.length : Int)) ∧ w' = W' := by
  obtain ⟨sv, h⟩ := h
  exact kept_any (h.on hb)
theorem pcells_one : ∀ (l : List (Int × ByteArray)), ∀ u ∈ pcells l, u.oneCell' = true
  | [], u, h => by cases h
  | p :: l, u, h => by
    rcases List.mem_cons.1 (show u ∈ Value.int .i64 p.1 :: Value.string p.2 :: pcells l from h) with rfl | h
    · rfl
    · rcases List.mem_cons.1 h with rfl | h
      · rfl
      · exact pcells_one l u h
set_option maxRecDepth 100000 in
set_option maxHeartbeats 4000000 in
theorem feedParts_any (w : World) (hG : GlobOk w) (A1 : Option Addr) (N cap1 : Nat) (l1 : List Int) (h1 : Recs (RInt .u8) 1 w A1 N l1) (hc1 : N ≤ cap1) (_ : N * 1 ≤ 140737488351232)
    (A2 : Option Addr) (M cap2 : Nat) (l2 : List Int) (h2 : Recs (RInt .u16) 1 w A2 M l2) (hc2 : M ≤ cap2) (_ : M * 2 ≤ 140737488351232) :
    Calls Tryd.prog 5 #[.slice A1 N cap1, .slice A2 M cap2] w fun e w' => e = .returned (.bool true) ∧ Hd (Below w.heap.size w w') := by
  by_cases hN : N ≤ 20000
  · by_cases hM : M ≤ 40
    · have q1 : decide ((20000 : Int) < (N : Int)) = false := decide_eq_false (by omega)
      have q2 : decide ((40 : Int) < (M : Int)) = false := decide_eq_false (by omega)
      have HG := Hd.mk hG
      obtain ⟨L, hL⟩ : ∃ L, bytesOf l1 = L := ⟨_, rfl⟩
      have HLn : Hd (L.length = N) := ⟨by rw [← hL]; unfold bytesOf; rw [List.length_map]; exact h1.1⟩
      have HB1 : Hd (0 < N → ∃ bx ox, A1 = some ⟨bx, ox, none⟩ ∧ bx < w.heap.size ∧ ∀ i (hi : i < L.length), w.cell? ⟨bx, ox + i, none⟩ = some (.int .u8 ((L[i].toNat : Nat) : Int))) := ⟨fun hn => by
        have := recs_bytes h1 hn
        subst hL
        exact this⟩
      have HB2 : Hd (0 < M → ∃ bx ox, A2 = some ⟨bx, ox, none⟩ ∧ bx < w.heap.size ∧ ∀ i, i < M → ∃ z : Nat, z < 65536 ∧ w.cell? ⟨bx, ox + i, none⟩ = some (.int .u16 (z : Int))) := ⟨fun hn => by
        have := recs_u16 h2 hn
        rwa [h2.1] at this⟩
      have HN1 := Hd.mk (new_any w)
      obtain ⟨i0, hi, hz0, hz1, hz2⟩ := inf_parts info_piece
      clear hG h1 h2 hL
      go_enter Tryd.func5, Tryd.ntmps5
      go_wp2_with (first
        | (go_at_call 22; have hx := HN1.out; (with_reducible refine hx.mono ?_); clear hx HN1; rintro e w1 ⟨rfl, HW1⟩; have HN2 := Hd.mk (new_any w1))
        | (go_at_call 22; have hx := HN2.out; (with_reducible refine hx.mono ?_); clear hx HN2; rintro e w2 ⟨rfl, HW2⟩))
      have H0 : Hd (LoopAt w w.heap.size w1.heap.size w2.heap.size L 0 (.slice none 0 0) w2) := ⟨by
        obtain ⟨s1, b1, f1⟩ := HW1.out
        obtain ⟨s2, b2, f2⟩ := HW2.out
        exact ⟨⟨_, FdAt.new (by omega) (Nat.le_refl _) ((b2.block _ (by omega)).trans f1)⟩, FdAt.new (by omega) (Nat.le_refl _) f2, World.ownsRow_nil _ _ _ _, b1.trans (b2.mono b1.size)⟩⟩
      have HSz : Hd (w1.heap.size = w.heap.size + 1 ∧ w2.heap.size = w.heap.size + 2) := ⟨HW1.out.1, by rw [HW2.out.1, HW1.out.1]⟩
      clear HW1 HW2
      have HTk : Hd (∀ (X : World) (v : Value) (a t : Nat) (A' : Option Addr) (c' : Nat), LoopAt w w.heap.size w1.heap.size w2.heap.size L a v X → a ≤ t → t ≤ N →
          (a < t → ∃ bx ox, A' = some ⟨bx, ox + a, none⟩ ∧ bx < w.heap.size ∧ ∀ i (hi : i < L.length), w.cell? ⟨bx, ox + i, none⟩ = some (.int .u8 ((L[i].toNat : Nat) : Int))) →
          Calls Tryd.prog 23 #[.pointer (some ⟨w.heap.size, 0, none⟩), .slice A' (t - a) c'] X fun e w' => ∃ v', e = .returned v' ∧ Hd (TkAt w2.heap.size w.heap.size X (FS.zero.run (L.take a)).1 ((L.take t).drop a) v' w')) := ⟨fun X v a t A' c' h hat htN hA => by
        obtain ⟨sv, hF⟩ := h.fd
        have hl : ((L.take t).drop a).length = t - a := by have := HLn.out; rw [List.length_drop, List.length_take]; omega
        have hok := FS.run_ok (L.take a) FS.zero 0 (FS.zero_ok 0)
        rw [List.length_take] at hok
        have hLn := HLn.out
        have hSz := HSz.out
        by_cases hne : a < t
        · obtain ⟨bx, ox, rfl, hbx, hcb⟩ := hA hne
          have := take_any HG.out h.below (Nat.le_refl _) hF _ hok ((L.take t).drop a) (by omega) (some ⟨bx, ox + a, none⟩) c' bx (ox + a) (fun _ => ⟨rfl, by omega, by omega, by have := h.below.size; omega⟩) (fun i hi => by
            have hiL : a + i < L.length := by omega
            rw [Nat.add_assoc]
            refine (h.below.cell (p := ⟨bx, ox + (a + i), none⟩) hbx).trans ((hcb (a + i) hiL).trans ?_)
            congr 4
            rw [List.getElem_drop, List.getElem_take])
          rwa [hl] at this
        · have := take_any HG.out h.below (Nat.le_refl _) hF _ hok ((L.take t).drop a) (by omega) A' c' 0 0 (fun h => by omega) (fun i hi => by omega)
          rwa [hl] at this⟩
      go_loopw [7, 8, 9] (fun v at_ i wr => ∃ k a : Nat, k ≤ M + 1 ∧ a ≤ N ∧ at_ = .int .i64 a ∧ i = .int .i64 k ∧ Hd (LoopAt w w.heap.size w1.heap.size w2.heap.size L a v wr) ∧ Hd (k = M + 1 → a = N)) (fun _ _ i _ => M + 1 - (intOf i).toNat)
      case atStart => exact ⟨0, 0, Nat.zero_le _, Nat.zero_le _, rfl, rfl, H0, ⟨fun h => by omega⟩⟩
      case round =>
        clear H0
        obtain ⟨k, a, hk, ha, rfl, rfl, HR, HE⟩ := hrel
        obtain ⟨A5, cap5, hv5, hc5⟩ := row_slice HR.out.row
        subst hv5
        by_cases hlt : k ≤ M
        · by_cases hkM : k < M
-- WAYS
-- WAYS
-- WAYS
-- WAYS
-- WAYS
-- WAYS
          · obtain ⟨px, po, rfl, hpx, hcp⟩ := HB2.out (by omega)
            obtain ⟨z, hz, hzc⟩ := hcp k hkM
            have cz := (HR.out.below.cell (p := ⟨px, po + k, none⟩) hpx).trans hzc
            clear hcp hzc
            have k0 : (0 : Int) ≤ (k : Int) := by omega
            have k1 : (k : Int) < (M : Int) := by omega
            obtain ⟨t, hmn, hat, htN⟩ : ∃ t : Nat, min (N : Int) ((a : Int) + (z : Int)) = (t : Int) ∧ a ≤ t ∧ t ≤ N := ⟨min N (a + z), by omega, by omega, by omega⟩
            by_cases hne : a < t
            · obtain ⟨bx, ox, rfl, hbx, hcb⟩ := HB1.out (by omega)
              have a0 : (0 : Int) ≤ (a : Int) := by omega
              have a1 : (a : Int) ≤ (t : Int) := by omega
              have a2 : (t : Int) ≤ (cap1 : Int) := by omega
              have hca : (cap1 = a) = False := eq_false (by omega)
              have HX := Hd.mk (HTk.out wr _ a t (some ⟨bx, ox + a, none⟩) (cap1 - a) HR.out (by omega) (by omega) (fun _ => ⟨bx, ox, rfl, hbx, hcb⟩))
              obtain ⟨m5, hm5⟩ : ∃ m, (FS.zero.run (L.take a)).2.length = m := ⟨_, rfl⟩
              have HM5 := Hd.mk hm5
              have hm5b : m5 ≤ 20000 := by rw [← hm5]; have := FS.run_len (L.take a) FS.zero; rw [List.length_take] at this; omega
              simp only [hm5]
              have HR5 : Hd (LoopAt w w.heap.size w1.heap.size w2.heap.size L a (.slice A5 m5 cap5) wr) := ⟨by rw [← hm5]; exact HR.out⟩
              clear hcb hm5 HR
              by_cases hp : ((FS.zero.run (L.take a)).1.run ((L.take t).drop a)).2 = []
              · have HP := Hd.mk hp
                replace HX : Hd (Calls Tryd.prog 23 #[.pointer (some ⟨w.heap.size, 0, none⟩), .slice (some ⟨bx, ox + a, none⟩) (t - a) (cap1 - a)] wr fun e w' => e = .returned (.slice none 0 0) ∧ Hd (TkAt w2.heap.size w.heap.size wr (FS.zero.run (L.take a)).1 ((L.take t).drop a) (.slice none 0 0) w')) :=
                  ⟨HX.out.mono fun e w' ⟨v, h1, h2⟩ => by
                    have hv := h2.out.nil hp
                    rw [hv] at h1 h2
                    exact ⟨h1, h2⟩⟩
                clear hp
                go_wp2_with (first
                  | (go_at_call 23; refine Calls.mono (HX.out) ?_; rintro e w3 ⟨rfl, HT⟩; obtain ⟨sv, hF⟩ := HR5.out.fd; have hrow := HR5.out.row; rw [HM5.out] at hrow; have HRw := Hd.mk (HT.out.keep.row hF hrow (by decide) (by decide)); clear hF hrow)
                  | (at_builtin; (
                     refine wpList_append_own_none rfl _ _ 43 rfl w2.heap.size 70 i0 2 Tryd.underlying43 hi (.slice A5 m5 cap5) m5 (pcells (FS.zero.run (L.take a)).2) rfl HRw.out rfl ?_)))
                go_roundw
                case rel => exact ⟨k + 1, t, by omega, by omega, by go_num, by go_num, ⟨LoopAt.none HR5.out (by omega) (Nat.le_refl _) (by have := HSz.out; omega) HT.out HP.out⟩, ⟨fun h => by omega⟩⟩
                case measure => first | (simp [intOf]; done) | (simp [intOf]; omega)
              · replace HX : Hd (Calls Tryd.prog 23 #[.pointer (some ⟨w.heap.size, 0, none⟩), .slice (some ⟨bx, ox + a, none⟩) (t - a) (cap1 - a)] wr fun e w' => ∃ g c m, e = .returned (.slice (some ⟨g, 0, none⟩) m c) ∧ Hd (TkAt w2.heap.size w.heap.size wr (FS.zero.run (L.take a)).1 ((L.take t).drop a) (.slice (some ⟨g, 0, none⟩) m c) w' ∧ m = ((FS.zero.run (L.take a)).1.run ((L.take t).drop a)).2.length)) :=
                  ⟨HX.out.mono fun e w' ⟨v, h1, h2⟩ => by
                    obtain ⟨g, c, hv, _⟩ := row_at h2.out.row (List.length_pos_iff.2 hp)
                    rw [hv] at h1 h2
                    exact ⟨g, c, _, h1, ⟨h2.out, rfl⟩⟩⟩
                have HPL : Hd (((FS.zero.run (L.take a)).1.run ((L.take t).drop a)).2.length ≤ 20000) := ⟨by have := FS.run_len ((L.take t).drop a) (FS.zero.run (L.take a)).1; rw [List.length_drop, List.length_take] at this; omega⟩
                clear hp
                go_wp2_with (first
                  | (go_at_call 23; have hx := HX.out; (with_reducible refine hx.mono ?_); clear hx; rintro e w3 ⟨g, c, m, rfl, HT⟩; obtain ⟨sv, hF⟩ := HR5.out.fd; have hrow := HR5.out.row; rw [HM5.out] at hrow; have HRw := Hd.mk (HT.out.1.keep.row hF hrow (by decide) (by decide)); have hm2 : m ≤ 20000 := (by rw [HT.out.2]; exact HPL.out); clear hF hrow)
                  | (at_builtin; (
                     refine wpList_append_own _ rfl _ _ 43 rfl w2.heap.size 70 i0 (.agg #[.int .i64 0, .string ⟨#[]⟩]) 2 24 Tryd.underlying43 hi hz0 hz1 hz2 rfl (by decide) (.slice A5 m5 cap5) m5 (pcells (FS.zero.run (L.take a)).2) rfl HRw.out ⟨g, 0, none⟩ m c (pcells ((FS.zero.run (L.take a)).1.run ((L.take t).drop a)).2) rfl (by rw [pcells_length, HT.out.2]) ?news (pcells_one _) (by unfold maxLen; omega) (by omega) (Nat.le_trans (by obtain ⟨sv, hF⟩ := HR5.out.fd; exact hF.le) HT.out.1.keep.size) ?_
                     case news =>
                       intro j u hu
                       have hr := HT.out.1.row
                       rw [← HT.out.2] at hr
                       rw [add_off, Nat.zero_add, hr.cellAt j (by rw [HT.out.2, ← pcells_length]; exact (List.getElem?_eq_some_iff.1 hu).1)]
                       exact hu
                     intro v4 w4 hown4 hg4 hnil4
                     have HO4 := Hd.mk hown4
                     have HG4 := Hd.mk hg4
                     clear hown4 hg4 hnil4)))
                go_roundw
                case rel =>
                  have ho := HO4.out
                  rw [← HM5.out, HT.out.2] at ho
                  exact ⟨k + 1, t, by omega, by omega, by go_num, by go_num, ⟨LoopAt.some HR5.out (by omega) (Nat.le_refl _) (by have := HSz.out; omega) HT.out.1 ho HG4.out⟩, ⟨fun h => by omega⟩⟩
                case measure => first | (simp [intOf]; done) | (simp [intOf]; omega)
            · obtain rfl : a = t := by omega
              have a0 : (0 : Int) ≤ (a : Int) := by omega
              have a2 : (a : Int) ≤ (cap1 : Int) := by omega
              obtain ⟨m5, hm5⟩ : ∃ m, (FS.zero.run (L.take a)).2.length = m := ⟨_, rfl⟩
              have HM5 := Hd.mk hm5
              simp only [hm5]
              have HR5 : Hd (LoopAt w w.heap.size w1.heap.size w2.heap.size L a (.slice A5 m5 cap5) wr) := ⟨by rw [← hm5]; exact HR.out⟩
              have hnil : (L.take a).drop a = [] := List.drop_eq_nil_of_le (by rw [List.length_take]; omega)
              have HP : Hd (((FS.zero.run (L.take a)).1.run ((L.take a).drop a)).2 = []) := ⟨by rw [hnil]; rfl⟩
              have HX0 : Hd (∀ A' c', Calls Tryd.prog 23 #[.pointer (some ⟨w.heap.size, 0, none⟩), .slice A' 0 c'] wr fun e w' => e = .returned (.slice none 0 0) ∧ Hd (TkAt w2.heap.size w.heap.size wr (FS.zero.run (L.take a)).1 ((L.take a).drop a) (.slice none 0 0) w')) := ⟨fun A' c' => by
                have := HTk.out wr _ a a A' c' HR.out (Nat.le_refl _) (by omega) (fun h => absurd h (Nat.lt_irrefl _))
                rw [Nat.sub_self] at this
                exact this.mono fun e w' ⟨v, h1, h2⟩ => by
                  have hv := h2.out.nil HP.out
                  rw [hv] at h1 h2
                  exact ⟨h1, h2⟩⟩
              clear hm5 hnil HR
              rcases A1 with _ | ad
              · by_cases hca : cap1 = a
                · replace hca := eq_true hca
                  go_wp2_with (first
                    | (go_at_call 23; refine Calls.mono (HX0.out _ _) ?_; rintro e w3 ⟨rfl, HT⟩; obtain ⟨sv, hF⟩ := HR5.out.fd; have hrow := HR5.out.row; rw [HM5.out] at hrow; have HRw := Hd.mk (HT.out.keep.row hF hrow (by decide) (by decide)); clear hF hrow)
                    | (at_builtin; (
                       refine wpList_append_own_none rfl _ _ 43 rfl w2.heap.size 70 i0 2 Tryd.underlying43 hi (.slice A5 m5 cap5) m5 (pcells (FS.zero.run (L.take a)).2) rfl HRw.out rfl ?_)))
                  go_roundw
                  case rel => exact ⟨k + 1, a, by omega, by omega, by go_num, by go_num, ⟨LoopAt.none HR5.out (by omega) (Nat.le_refl _) (by have := HSz.out; omega) HT.out HP.out⟩, ⟨fun h => by omega⟩⟩
                  case measure => first | (simp [intOf]; done) | (simp [intOf]; omega)
                · replace hca := eq_false hca
                  go_wp2_with (first
                    | (go_at_call 23; refine Calls.mono (HX0.out _ _) ?_; rintro e w3 ⟨rfl, HT⟩; obtain ⟨sv, hF⟩ := HR5.out.fd; have hrow := HR5.out.row; rw [HM5.out] at hrow; have HRw := Hd.mk (HT.out.keep.row hF hrow (by decide) (by decide)); clear hF hrow)
                    | (at_builtin; (
                       refine wpList_append_own_none rfl _ _ 43 rfl w2.heap.size 70 i0 2 Tryd.underlying43 hi (.slice A5 m5 cap5) m5 (pcells (FS.zero.run (L.take a)).2) rfl HRw.out rfl ?_)))
                  go_roundw
                  case rel => exact ⟨k + 1, a, by omega, by omega, by go_num, by go_num, ⟨LoopAt.none HR5.out (by omega) (Nat.le_refl _) (by have := HSz.out; omega) HT.out HP.out⟩, ⟨fun h => by omega⟩⟩
                  case measure => first | (simp [intOf]; done) | (simp [intOf]; omega)
              · by_cases hca : cap1 = a
                · replace hca := eq_true hca
                  go_wp2_with (first
                    | (go_at_call 23; refine Calls.mono (HX0.out _ _) ?_; rintro e w3 ⟨rfl, HT⟩; obtain ⟨sv, hF⟩ := HR5.out.fd; have hrow := HR5.out.row; rw [HM5.out] at hrow; have HRw := Hd.mk (HT.out.keep.row hF hrow (by decide) (by decide)); clear hF hrow)
                    | (at_builtin; (
                       refine wpList_append_own_none rfl _ _ 43 rfl w2.heap.size 70 i0 2 Tryd.underlying43 hi (.slice A5 m5 cap5) m5 (pcells (FS.zero.run (L.take a)).2) rfl HRw.out rfl ?_)))
                  go_roundw
                  case rel => exact ⟨k + 1, a, by omega, by omega, by go_num, by go_num, ⟨LoopAt.none HR5.out (by omega) (Nat.le_refl _) (by have := HSz.out; omega) HT.out HP.out⟩, ⟨fun h => by omega⟩⟩
                  case measure => first | (simp [intOf]; done) | (simp [intOf]; omega)
                · replace hca := eq_false hca
                  go_wp2_with (first
                    | (go_at_call 23; refine Calls.mono (HX0.out _ _) ?_; rintro e w3 ⟨rfl, HT⟩; obtain ⟨sv, hF⟩ := HR5.out.fd; have hrow := HR5.out.row; rw [HM5.out] at hrow; have HRw := Hd.mk (HT.out.keep.row hF hrow (by decide) (by decide)); clear hF hrow)
                    | (at_builtin; (
                       refine wpList_append_own_none rfl _ _ 43 rfl w2.heap.size 70 i0 2 Tryd.underlying43 hi (.slice A5 m5 cap5) m5 (pcells (FS.zero.run (L.take a)).2) rfl HRw.out rfl ?_)))
                  go_roundw
                  case rel => exact ⟨k + 1, a, by omega, by omega, by go_num, by go_num, ⟨LoopAt.none HR5.out (by omega) (Nat.le_refl _) (by have := HSz.out; omega) HT.out HP.out⟩, ⟨fun h => by omega⟩⟩
                  case measure => first | (simp [intOf]; done) | (simp [intOf]; omega)
          · obtain rfl : k = M := by omega
            by_cases hne : a < N
            · obtain ⟨bx, ox, rfl, hbx, hcb⟩ := HB1.out (by omega)
              have a0 : (0 : Int) ≤ (a : Int) := by omega
              have a1 : (a : Int) ≤ (N : Int) := by omega
              have a2 : (N : Int) ≤ (cap1 : Int) := by omega
              have hca : (cap1 = a) = False := eq_false (by omega)
              have HX := Hd.mk (HTk.out wr _ a N (some ⟨bx, ox + a, none⟩) (cap1 - a) HR.out (by omega) (by omega) (fun _ => ⟨bx, ox, rfl, hbx, hcb⟩))
              obtain ⟨m5, hm5⟩ : ∃ m, (FS.zero.run (L.take a)).2.length = m := ⟨_, rfl⟩
              have HM5 := Hd.mk hm5
              have hm5b : m5 ≤ 20000 := by rw [← hm5]; have := FS.run_len (L.take a) FS.zero; rw [List.length_take] at this; omega
              simp only [hm5]
              have HR5 : Hd (LoopAt w w.heap.size w1.heap.size w2.heap.size L a (.slice A5 m5 cap5) wr) := ⟨by rw [← hm5]; exact HR.out⟩
              clear hcb hm5 HR
              by_cases hp : ((FS.zero.run (L.take a)).1.run ((L.take N).drop a)).2 = []
              · have HP := Hd.mk hp
                replace HX : Hd (Calls Tryd.prog 23 #[.pointer (some ⟨w.heap.size, 0, none⟩), .slice (some ⟨bx, ox + a, none⟩) (N - a) (cap1 - a)] wr fun e w' => e = .returned (.slice none 0 0) ∧ Hd (TkAt w2.heap.size w.heap.size wr (FS.zero.run (L.take a)).1 ((L.take N).drop a) (.slice none 0 0) w')) :=
                  ⟨HX.out.mono fun e w' ⟨v, h1, h2⟩ => by
                    have hv := h2.out.nil hp
                    rw [hv] at h1 h2
                    exact ⟨h1, h2⟩⟩
                clear hp
                go_wp2_with (first
                  | (go_at_call 23; refine Calls.mono (HX.out) ?_; rintro e w3 ⟨rfl, HT⟩; obtain ⟨sv, hF⟩ := HR5.out.fd; have hrow := HR5.out.row; rw [HM5.out] at hrow; have HRw := Hd.mk (HT.out.keep.row hF hrow (by decide) (by decide)); clear hF hrow)
                  | (at_builtin; (
                     refine wpList_append_own_none rfl _ _ 43 rfl w2.heap.size 70 i0 2 Tryd.underlying43 hi (.slice A5 m5 cap5) m5 (pcells (FS.zero.run (L.take a)).2) rfl HRw.out rfl ?_)))
                go_roundw
                case rel => exact ⟨k + 1, N, by omega, by omega, by go_num, by go_num, ⟨LoopAt.none HR5.out (by omega) (Nat.le_refl _) (by have := HSz.out; omega) HT.out HP.out⟩, ⟨fun _ => rfl⟩⟩
                case measure => first | (simp [intOf]; done) | (simp [intOf]; omega)
              · replace HX : Hd (Calls Tryd.prog 23 #[.pointer (some ⟨w.heap.size, 0, none⟩), .slice (some ⟨bx, ox + a, none⟩) (N - a) (cap1 - a)] wr fun e w' => ∃ g c m, e = .returned (.slice (some ⟨g, 0, none⟩) m c) ∧ Hd (TkAt w2.heap.size w.heap.size wr (FS.zero.run (L.take a)).1 ((L.take N).drop a) (.slice (some ⟨g, 0, none⟩) m c) w' ∧ m = ((FS.zero.run (L.take a)).1.run ((L.take N).drop a)).2.length)) :=
                  ⟨HX.out.mono fun e w' ⟨v, h1, h2⟩ => by
                    obtain ⟨g, c, hv, _⟩ := row_at h2.out.row (List.length_pos_iff.2 hp)
                    rw [hv] at h1 h2
                    exact ⟨g, c, _, h1, ⟨h2.out, rfl⟩⟩⟩
                have HPL : Hd (((FS.zero.run (L.take a)).1.run ((L.take N).drop a)).2.length ≤ 20000) := ⟨by have := FS.run_len ((L.take N).drop a) (FS.zero.run (L.take a)).1; rw [List.length_drop, List.length_take] at this; omega⟩
                clear hp
                go_wp2_with (first
                  | (go_at_call 23; have hx := HX.out; (with_reducible refine hx.mono ?_); clear hx; rintro e w3 ⟨g, c, m, rfl, HT⟩; obtain ⟨sv, hF⟩ := HR5.out.fd; have hrow := HR5.out.row; rw [HM5.out] at hrow; have HRw := Hd.mk (HT.out.1.keep.row hF hrow (by decide) (by decide)); have hm2 : m ≤ 20000 := (by rw [HT.out.2]; exact HPL.out); clear hF hrow)
                  | (at_builtin; (
                     refine wpList_append_own _ rfl _ _ 43 rfl w2.heap.size 70 i0 (.agg #[.int .i64 0, .string ⟨#[]⟩]) 2 24 Tryd.underlying43 hi hz0 hz1 hz2 rfl (by decide) (.slice A5 m5 cap5) m5 (pcells (FS.zero.run (L.take a)).2) rfl HRw.out ⟨g, 0, none⟩ m c (pcells ((FS.zero.run (L.take a)).1.run ((L.take N).drop a)).2) rfl (by rw [pcells_length, HT.out.2]) ?news (pcells_one _) (by unfold maxLen; omega) (by omega) (Nat.le_trans (by obtain ⟨sv, hF⟩ := HR5.out.fd; exact hF.le) HT.out.1.keep.size) ?_
                     case news =>
                       intro j u hu
                       have hr := HT.out.1.row
                       rw [← HT.out.2] at hr
                       rw [add_off, Nat.zero_add, hr.cellAt j (by rw [HT.out.2, ← pcells_length]; exact (List.getElem?_eq_some_iff.1 hu).1)]
                       exact hu
                     intro v4 w4 hown4 hg4 hnil4
                     have HO4 := Hd.mk hown4
                     have HG4 := Hd.mk hg4
                     clear hown4 hg4 hnil4)))
                go_roundw
                case rel =>
                  have ho := HO4.out
                  rw [← HM5.out, HT.out.2] at ho
                  exact ⟨k + 1, N, by omega, by omega, by go_num, by go_num, ⟨LoopAt.some HR5.out (by omega) (Nat.le_refl _) (by have := HSz.out; omega) HT.out.1 ho HG4.out⟩, ⟨fun _ => rfl⟩⟩
                case measure => first | (simp [intOf]; done) | (simp [intOf]; omega)
            · obtain rfl : a = N := by omega
              have a0 : (0 : Int) ≤ (a : Int) := by omega
              have a2 : (a : Int) ≤ (cap1 : Int) := by omega
              obtain ⟨m5, hm5⟩ : ∃ m, (FS.zero.run (L.take a)).2.length = m := ⟨_, rfl⟩
              have HM5 := Hd.mk hm5
              simp only [hm5]
              have HR5 : Hd (LoopAt w w.heap.size w1.heap.size w2.heap.size L a (.slice A5 m5 cap5) wr) := ⟨by rw [← hm5]; exact HR.out⟩
              have hnil : (L.take a).drop a = [] := List.drop_eq_nil_of_le (by rw [List.length_take]; omega)
              have HP : Hd (((FS.zero.run (L.take a)).1.run ((L.take a).drop a)).2 = []) := ⟨by rw [hnil]; rfl⟩
              have HX0 : Hd (∀ A' c', Calls Tryd.prog 23 #[.pointer (some ⟨w.heap.size, 0, none⟩), .slice A' 0 c'] wr fun e w' => e = .returned (.slice none 0 0) ∧ Hd (TkAt w2.heap.size w.heap.size wr (FS.zero.run (L.take a)).1 ((L.take a).drop a) (.slice none 0 0) w')) := ⟨fun A' c' => by
                have := HTk.out wr _ a a A' c' HR.out (Nat.le_refl _) (by omega) (fun h => absurd h (Nat.lt_irrefl _))
                rw [Nat.sub_self] at this
                exact this.mono fun e w' ⟨v, h1, h2⟩ => by
                  have hv := h2.out.nil HP.out
                  rw [hv] at h1 h2
                  exact ⟨h1, h2⟩⟩
              clear hm5 hnil HR
              rcases A1 with _ | ad
              · by_cases hca : cap1 = a
                · replace hca := eq_true hca
                  go_wp2_with (first
                    | (go_at_call 23; refine Calls.mono (HX0.out _ _) ?_; rintro e w3 ⟨rfl, HT⟩; obtain ⟨sv, hF⟩ := HR5.out.fd; have hrow := HR5.out.row; rw [HM5.out] at hrow; have HRw := Hd.mk (HT.out.keep.row hF hrow (by decide) (by decide)); clear hF hrow)
                    | (at_builtin; (
                       refine wpList_append_own_none rfl _ _ 43 rfl w2.heap.size 70 i0 2 Tryd.underlying43 hi (.slice A5 m5 cap5) m5 (pcells (FS.zero.run (L.take a)).2) rfl HRw.out rfl ?_)))
                  go_roundw
                  case rel => exact ⟨k + 1, a, by omega, by omega, by go_num, by go_num, ⟨LoopAt.none HR5.out (by omega) (Nat.le_refl _) (by have := HSz.out; omega) HT.out HP.out⟩, ⟨fun _ => rfl⟩⟩
                  case measure => first | (simp [intOf]; done) | (simp [intOf]; omega)
                · replace hca := eq_false hca
                  go_wp2_with (first
                    | (go_at_call 23; refine Calls.mono (HX0.out _ _) ?_; rintro e w3 ⟨rfl, HT⟩; obtain ⟨sv, hF⟩ := HR5.out.fd; have hrow := HR5.out.row; rw [HM5.out] at hrow; have HRw := Hd.mk (HT.out.keep.row hF hrow (by decide) (by decide)); clear hF hrow)
                    | (at_builtin; (
                       refine wpList_append_own_none rfl _ _ 43 rfl w2.heap.size 70 i0 2 Tryd.underlying43 hi (.slice A5 m5 cap5) m5 (pcells (FS.zero.run (L.take a)).2) rfl HRw.out rfl ?_)))
                  go_roundw
                  case rel => exact ⟨k + 1, a, by omega, by omega, by go_num, by go_num, ⟨LoopAt.none HR5.out (by omega) (Nat.le_refl _) (by have := HSz.out; omega) HT.out HP.out⟩, ⟨fun _ => rfl⟩⟩
                  case measure => first | (simp [intOf]; done) | (simp [intOf]; omega)
              · by_cases hca : cap1 = a
                · replace hca := eq_true hca
                  go_wp2_with (first
                    | (go_at_call 23; refine Calls.mono (HX0.out _ _) ?_; rintro e w3 ⟨rfl, HT⟩; obtain ⟨sv, hF⟩ := HR5.out.fd; have hrow := HR5.out.row; rw [HM5.out] at hrow; have HRw := Hd.mk (HT.out.keep.row hF hrow (by decide) (by decide)); clear hF hrow)
                    | (at_builtin; (
                       refine wpList_append_own_none rfl _ _ 43 rfl w2.heap.size 70 i0 2 Tryd.underlying43 hi (.slice A5 m5 cap5) m5 (pcells (FS.zero.run (L.take a)).2) rfl HRw.out rfl ?_)))
                  go_roundw
                  case rel => exact ⟨k + 1, a, by omega, by omega, by go_num, by go_num, ⟨LoopAt.none HR5.out (by omega) (Nat.le_refl _) (by have := HSz.out; omega) HT.out HP.out⟩, ⟨fun _ => rfl⟩⟩
                  case measure => first | (simp [intOf]; done) | (simp [intOf]; omega)
                · replace hca := eq_false hca
                  go_wp2_with (first
                    | (go_at_call 23; refine Calls.mono (HX0.out _ _) ?_; rintro e w3 ⟨rfl, HT⟩; obtain ⟨sv, hF⟩ := HR5.out.fd; have hrow := HR5.out.row; rw [HM5.out] at hrow; have HRw := Hd.mk (HT.out.keep.row hF hrow (by decide) (by decide)); clear hF hrow)
                    | (at_builtin; (
                       refine wpList_append_own_none rfl _ _ 43 rfl w2.heap.size 70 i0 2 Tryd.underlying43 hi (.slice A5 m5 cap5) m5 (pcells (FS.zero.run (L.take a)).2) rfl HRw.out rfl ?_)))
                  go_roundw
                  case rel => exact ⟨k + 1, a, by omega, by omega, by go_num, by go_num, ⟨LoopAt.none HR5.out (by omega) (Nat.le_refl _) (by have := HSz.out; omega) HT.out HP.out⟩, ⟨fun _ => rfl⟩⟩
                  case measure => first | (simp [intOf]; done) | (simp [intOf]; omega)
        · obtain rfl : k = M + 1 := by omega
          obtain rfl : a = N := HE.out rfl
          have htk : L.take a = L := by rw [← HLn.out, List.take_length]
          have HR' : Hd (LoopAt w w.heap.size w1.heap.size w2.heap.size L a (.slice A5 (FS.zero.run L).2.length cap5) wr) := ⟨by have := HR.out; rw [htk] at this; exact this⟩
          rw [htk]
          have hPl : (FS.zero.run L).2.length ≤ 20000 := by have := FS.run_len L FS.zero; have := HLn.out; omega
          have HTg : Hd (∀ X : World, FdAt w2.heap.size w1.heap.size FS.zero (.slice none 0 0) X → Below w.heap.size w X →
              Calls Tryd.prog 23 #[.pointer (some ⟨w1.heap.size, 0, none⟩), .slice A1 a cap1] X fun e w' => ∃ v', e = .returned v' ∧ Hd (TkAt w2.heap.size w1.heap.size X FS.zero L v' w')) := ⟨fun X hF hB => by
            have hLn := HLn.out
            have hSz := HSz.out
            by_cases hne : 0 < a
            · obtain ⟨bx, ox, rfl, hbx, hcb⟩ := HB1.out hne
              have := take_any HG.out hB (by omega) hF 0 (FS.zero_ok 0) L (by omega) (some ⟨bx, ox, none⟩) cap1 bx ox (fun _ => ⟨rfl, by omega, by omega, by have := hB.size; omega⟩) (fun i hi => (hB.cell (p := ⟨bx, ox + i, none⟩) hbx).trans (hcb i hi))
              rwa [hLn] at this
            · have := take_any HG.out hB (by omega) hF 0 (FS.zero_ok 0) L (by omega) A1 cap1 0 0 (fun h => by omega) (fun i hi => by omega)
              rwa [hLn] at this⟩
          obtain ⟨P, hP⟩ : ∃ P, FS.zero.run L = P := ⟨_, rfl⟩
          have HPe := Hd.mk hP
          rw [hP] at HR' hPl
          simp only [hP]
          obtain ⟨m, hm⟩ : ∃ m, P.2.length = m := ⟨_, rfl⟩
          have HMe := Hd.mk hm
          rw [hm] at HR' hPl
          simp only [hm]
          have HBk : Hd (∀ (X : World) (base : Nat) (v : Value), X.ownsRow base 70 2 v m (pcells P.2) →
              Calls Tryd.prog 25 #[v] X fun e w' => ∃ A c, e = .returned (.slice A m c) ∧ Hd (m ≤ c ∧ Kd.R PFd.k72 72 w' X.heap.size (fun _ => True) (.slice A m c) (P.2.map toQ) ∧ Below X.heap.size X w')) := ⟨fun X base v hrow => by
            subst hm
            obtain ⟨A, c, rfl, hc, hC⟩ := c_pieces hrow (by omega)
            refine (PFd.postchaiselaw16_back.calls 30000 A c _ _ X hC hc (back_f P.2 (by omega) 30000 (by omega))).mono ?_
            rintro e w' ⟨v, rfl, hR, hB⟩
            obtain ⟨A', c', rfl, hc', _⟩ := Kd.R_reads hR
            rw [List.length_map] at hR hc' ⊢
            exact ⟨A', c', rfl, ⟨hc', hR, hB⟩⟩⟩
          have HSm : Hd (∀ (X : World) (A A' : Option Addr) (c c' b1 b2 : Nat), m ≤ c → m ≤ c' → Kd.R PFd.k72 72 X b1 (fun _ => True) (.slice A m c) (P.2.map toQ) → Kd.R PFd.k72 72 X b2 (fun _ => True) (.slice A' m c') (P.2.map toQ) →
              Calls Tryd.prog 24 #[.slice A m c, .slice A' m c'] X fun e w' => e = .returned (.bool true) ∧ ∃ nd, w' = X.drewN nd) := ⟨fun X A A' c c' b1 b2 h1 h2 k1 k2 => by
            have e1 := (Kd.R_reads' k1).2.2
            have e2 := (Kd.R_reads' k2).2.2
            have := PFd.postchaiseref16_Same.calls 30000 A c (P.2.map toQ) A' c' (P.2.map toQ) true X e1 (by rw [List.length_map, hm]; exact h1) e2 (by rw [List.length_map, hm]; exact h2) (same_f _ (by rw [List.length_map]; omega) 30000 (by rw [List.length_map]; omega))
            rw [List.length_map, hm] at this
            exact this.mono fun e w' ⟨h1, h2⟩ => ⟨h1, h2.out⟩⟩
          have HAw : Hd (∀ X, Below w.heap.size w X → Calls Tryd.prog 27 #[] X fun e w' => e = .returned (.bool true) ∧ Hd (Below X.heap.size X w')) := ⟨fun X hX => fd_awake X (HG.out.on hX)⟩
          have hrow0 := HR'.out.row
          rw [htk, HPe.out, HMe.out] at hrow0
          have HRow := Hd.mk hrow0
          obtain ⟨svf, hff⟩ := HR'.out.fd
          rw [htk, HPe.out] at hff
          have HFf := Hd.mk hff
          obtain ⟨Af, cf, hsf⟩ := hff.slice
          have hbf : wr.heap[w.heap.size]? = some (.cells (fcells (.slice Af P.1.s.length cf) P.1 w.heap.size) 68 (0, 0)) := by rw [← hsf]; exact hff.blk
          have HBf := Hd.mk hbf
          clear hff hrow0 HR hP hm htk hbf hsf
          have HWr := Hd.mk HR'.out.below
          have HGd := Hd.mk HR'.out.gd
          go_wp2_with (first
            | (go_at_call 25; have hx := HBk.out wr w2.heap.size _ HRow.out; (with_reducible refine hx.mono ?_); clear hx; rintro e x1 ⟨B1, d1, rfl, HA1⟩; have HG1 := Hd.mk (HGd.out.on HA1.out.2.2); have HW1 := Hd.mk (HWr.out.trans (HA1.out.2.2.mono HWr.out.size)))
            | (go_at_call 23; have hx := HTg.out x1 HG1.out HW1.out; (with_reducible refine hx.mono ?_); clear hx; rintro e x2 ⟨v2, rfl, HT2⟩; have hr2 := HT2.out.row; rw [HPe.out, HMe.out] at hr2; have HRow2 := Hd.mk hr2; have HW2 := Hd.mk (HW1.out.trans (HT2.out.keep.below HW1.out.size (by have := HSz.out; omega) (by have := HSz.out; omega))); have HRa := Hd.mk (HT2.out.keep.keepR HG1.out HA1.out.2.1); have HBf2 := Hd.mk ((HT2.out.keep.block w.heap.size (by have := HW1.out.size; have := HSz.out; have := HG1.out.le; omega) (by have := HSz.out; omega) (.inl (by have := HSz.out; omega))).trans ((HA1.out.2.2.block _ (by have := HWr.out.size; have := HSz.out; have := HGd.out.le; omega)).trans HBf.out)); clear hr2)
            | (go_at_call 25; have hx := HBk.out x2 x1.heap.size v2 HRow2.out; (with_reducible refine hx.mono ?_); clear hx; rintro e x3 ⟨B2, d2, rfl, HA3⟩; have HW3 := Hd.mk (HW2.out.trans (HA3.out.2.2.mono HW2.out.size)))
            | (go_at_call 24; have hx := HSm.out x3 B1 B2 d1 d2 _ _ HA1.out.1 HA3.out.1 (Kd.R_below HRa.out HA3.out.2.2) HA3.out.2.1; (with_reducible refine hx.mono ?_); clear hx; rintro e x4 ⟨rfl, nd, rfl⟩)
            | (go_at_call 26; have hx := kept_blk (W := x3.drewN nd) (b := w.heap.size) ((HA3.out.2.2.block _ (Array.getElem?_eq_some_iff.1 HBf2.out).1).trans HBf2.out); (with_reducible refine hx.mono ?_); clear hx; rintro e x5 ⟨rfl, rfl⟩)
            | (go_at_call 26; have hx := kept_g (W := x2) (W' := x3.drewN nd) (F := P.1) (by have := HT2.out.fd; rw [HPe.out] at this; exact this) (HA3.out.2.2.trans (pw_below_drewN (Below.refl _ _) nd |>.mono HA3.out.2.2.size)); (with_reducible refine hx.mono ?_); clear hx; rintro e x5 ⟨rfl, rfl⟩)
            | (go_at_call 27; have hx := HAw.out (x3.drewN nd) (HW3.out.trans (pw_below_drewN (Below.refl _ _) nd |>.mono HW3.out.size)); (with_reducible refine hx.mono ?_); clear hx; rintro e x6 ⟨rfl, HB6⟩))
          go_ret
          exact ⟨rfl, ⟨(HW3.out.trans (pw_below_drewN (Below.refl _ _) nd |>.mono HW3.out.size)).trans (HB6.out.mono HW3.out.size)⟩⟩
    · have q1 : decide ((20000 : Int) < (N : Int)) = false := decide_eq_false (by omega)
      have q2 : decide ((40 : Int) < (M : Int)) = true := decide_eq_true (by omega)
      clear hG h1 h2
      go_enter Tryd.func5, Tryd.ntmps5
      go_wp2_with fail
      all_goals go_ret
      all_goals exact ⟨rfl, ⟨Below.refl _ _⟩⟩
  · have q1 : decide ((20000 : Int) < (N : Int)) = true := decide_eq_true (by omega)
    clear hG h1 h2
    go_enter Tryd.func5, Tryd.ntmps5
    go_wp2_with fail
    all_goals go_ret
    all_goals exact ⟨rfl, ⟨Below.refl _ _⟩⟩
end Go.Proofs.YtphaemaccdddfaaDoor.PTk

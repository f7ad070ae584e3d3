/- Package feed: one byte, whatever the state; Take, walked. The premise says what package variables hold. -/
import Derived.Test.YtphaemaccdddfaaDoorFdLong
set_option linter.unusedVariables false
set_option linter.unusedSimpArgs false
namespace Go.Proofs.YtphaemaccdddfaaDoor.PTk
open Go.RowKit Go.Shelf Go.Proofs.YtphaemaccdddfaaDoorW.PrintWords Go.Proofs.YtphaemaccdddfaaDoorW.PrintLast Go.Proofs.YtphaemaccdddfaaDoorW.PrintMore
def modeF (md : Nat) : Nat := if md = 0 then 50 else if md = 1 then 81 else 63
theorem mv_eq (md b : Nat) : mv md b = .func (.func (modeF md)) #[.pointer (some ⟨b, 0, none⟩)] #[] := rfl
theorem enter_mode (md : Nat) (args : Array Value) (w : World) : (callFunc (modeF md) args).run Tryd.prog w = .ok (.enter (modeF md) args) w := by
  unfold modeF
  split
  · kernel_rfl
  · split
    · kernel_rfl
    · kernel_rfl
theorem step_any {w0 : World} {base b : Nat} {F : FS} {sv : Value} {W : World} (hG : GlobOk w0) (hB : Below w0.heap.size w0 W) (hwb : w0.heap.size ≤ b) (h : FdAt base b F sv W) (n : Nat) (hok : F.Ok n) (hn : n ≤ 800000) (x : UInt8) :
    Calls Tryd.prog (modeF F.md) #[.pointer (some ⟨b, 0, none⟩), .int .u8 ((x.toNat : Nat) : Int)] W (StepPost base b W (F.step x)) := by
  have h1 := hok.len
  have h2 := hok.own0
  have h3 := hok.own
  have h4 := hok.md
  unfold modeF FS.step
  by_cases m0 : F.md = 0
  · rw [if_pos m0, if_pos m0]
    obtain ⟨k1, k2⟩ := hok.md0 m0
    by_cases h13 : F.last = 13
    · by_cases h10 : x = 10
      · exact line_ends hG hB hwb h m0 (by omega) h2 (by omega) x h13 h10 hok.fr0 (k2 h13) hok.all0 hok.all
      · by_cases h8 : 8192 < F.own + 1
        · exact line_long_b h m0 (by omega) h2 (by omega) x h13 h10 h8
        · exact line_fits_b h m0 (by omega) h2 (by omega) x h13 h10 (by omega)
    · by_cases h8 : 8192 < F.own + 1
      · exact line_long_a h m0 (by omega) h2 (by omega) x h13 h8
      · exact line_fits_a h m0 (by omega) h2 (by omega) x h13 (by omega)
  · rw [if_neg m0, if_neg m0]
    by_cases m1 : F.md = 1
    · rw [if_pos m1, if_pos m1]
      exact literal_any h m1 (by omega) (hok.md1 m1).2.1 hok.lft x
    · rw [if_neg m1, if_neg m1]
      exact skip_any h x
def pcells (l : List (Int × ByteArray)) : List Value := l.flatMap fun p => [.int .i64 p.1, .string p.2]
theorem pcells_append (l m : List (Int × ByteArray)) : pcells (l ++ m) = pcells l ++ pcells m := by unfold pcells; rw [List.flatMap_append]
theorem pcells_length : ∀ (l : List (Int × ByteArray)), (pcells l).length = l.length * 2
  | [] => rfl
  | p :: l => by
    show ((Value.int .i64 p.1) :: (Value.string p.2) :: pcells l).length = _
    simp only [List.length_cons, pcells_length l]
    omega
/-- A row of pieces grows: the feed stands. -/
theorem FdAt.grownP {base b : Nat} {F : FS} {sv : Value} {X Y : World} (h : FdAt base b F sv X) {base' : Nat} {v : Value} {n : Nat} {xs : List Value} (hr : X.ownsRow base' 70 2 v n xs) (hg : X.grownBy Y v.ownBlock) : FdAt base b F sv Y := by
  have hne : ∀ (k : Nat) (cur : Array Value) (t : TypeId), X.heap[k]? = some (Obj.cells cur t (0, 0)) → t ≠ 70 → Y.heap[k]? = X.heap[k]? := fun k cur t hk ht => hg.block k (Array.getElem?_eq_some_iff.1 hk).1 (fun e => by
    obtain ⟨_, cur2, h2⟩ := fd_row_at hr e.symm
    rw [hk] at h2
    injection h2 with h2
    injection h2 with _ h2
    exact ht h2)
  exact ⟨h.lt, Nat.le_trans h.le hg.size, (hne b _ _ h.blk (by decide)).trans h.blk, fd_row_move h.row fun g cur _ _ hc => hne g _ _ hc (by decide)⟩
theorem Kp.grownNew {base b : Nat} {W X Y : World} {row : Option Nat} (h : Kp base b W X) (hg : X.grownBy Y row) (hr : ∀ k, row = some k → W.heap.size ≤ k) : Kp base b W Y :=
  ⟨hg.os.trans h.os, hg.tape.trans h.tape, hg.output.trans h.output, Nat.le_trans h.size hg.size, fun k hk hb hn => (hg.block k (Nat.lt_of_lt_of_le hk h.size) (fun e => by have := hr k e.symm; omega)).trans (h.block k hk hb hn)⟩
theorem info_piece : (Tryd.prog.info? 70).map (fun i => (i.zero, i.size, i.bytes)) = some (some (.agg #[.int .i64 0, .string ⟨#[]⟩]), 2, 24) := by kernel_rfl
theorem row_slice {W : World} {base : Nat} {e : TypeId} {sz : Nat} {v : Value} {n : Nat} {xs : List Value} (h : W.ownsRow base e sz v n xs) : ∃ A c, v = .slice A n c ∧ n ≤ c := by
  rcases h.2 with ⟨rfl, h0⟩ | ⟨g, cap, cur, rfl, _, _, hc, _⟩
  · exact ⟨none, 0, by rw [h0], by omega⟩
  · exact ⟨_, _, rfl, hc⟩
theorem own_on {X Y : World} {base : Nat} {e : TypeId} {sz : Nat} {v : Value} {n : Nat} {xs : List Value} (h : X.ownsRow base e sz v n xs) (hb : Below X.heap.size X Y) : Y.ownsRow base e sz v n xs :=
  fd_row_move h fun g cur _ _ hc => hb.block g (Array.getElem?_eq_some_iff.1 hc).1
/-- What Take has come to. -/
structure TkAt (base b : Nat) (W : World) (F : FS) (l : List UInt8) (v : Value) (X : World) : Prop where
  fd : ∃ sv, FdAt base b (F.run l).1 sv X
  keep : Kp base b W X
  row : X.ownsRow W.heap.size 70 2 v (F.run l).2.length (pcells (F.run l).2)
  nil : (F.run l).2 = [] → v = .slice none 0 0
set_option maxRecDepth 100000 in
set_option maxHeartbeats 4000000 in
theorem take_any {w0 : World} {base b : Nat} {F : FS} {sv : Value} {W : World} (hG : GlobOk w0) (hB : Below w0.heap.size w0 W) (hwb : w0.heap.size ≤ b) (h : FdAt base b F sv W) (n : Nat) (hok : F.Ok n)
    (l : List UInt8) (hn : n + l.length ≤ 700000) (A : Option Addr) (cap : Nat) (bb ob : Nat) (hA : 0 < l.length → A = some ⟨bb, ob, none⟩ ∧ bb < base ∧ bb ≠ b ∧ bb < W.heap.size) (hc : ∀ i (hi : i < l.length), W.cell? ⟨bb, ob + i, none⟩ = some (.int .u8 ((l[i].toNat : Nat) : Int))) :
    Calls Tryd.prog 23 #[.pointer (some ⟨b, 0, none⟩), .slice A l.length cap] W fun e w' => ∃ v, e = .returned v ∧ Hd (TkAt base b W F l v w') := by
  have HA := Hd.mk hA
  have HC := Hd.mk hc
  have H0 : Hd (TkAt base b W F [] (.slice none 0 0) W) := ⟨⟨⟨_, h⟩, Kp.refl _ _ _, World.ownsRow_nil _ _ _ _, fun _ => rfl⟩⟩
  have HSt : Hd (∀ (k : Nat) (x : UInt8) (v : Value) (X : World) (sv : Value), k < l.length → TkAt base b W F (l.take k) v X → FdAt base b (F.run (l.take k)).1 sv X →
      Calls Tryd.prog (modeF (F.run (l.take k)).1.md) #[.pointer (some ⟨b, 0, none⟩), .int .u8 ((x.toNat : Nat) : Int)] X (StepPost base b X ((F.run (l.take k)).1.step x))) := ⟨fun k x v X sv hk hX hF => by
    have h1 := FS.run_ok (l.take k) F n hok
    rw [List.length_take] at h1
    exact step_any hG (hB.trans (hX.keep.below hB.size hwb (by have := h.lt; omega))) hwb hF _ h1 (by omega) x⟩
  have HLen : Hd (∀ k, (F.run (l.take k)).2.length ≤ k) := ⟨fun k => Nat.le_trans (FS.run_len _ _) (by rw [List.length_take]; omega)⟩
  clear hA hc h hok hB hG
  have EM := enter_mode
  obtain ⟨i0, hi, hz0, hz1, hz2⟩ := inf_parts info_piece
  obtain ⟨N, hN⟩ : ∃ N, l.length = N := ⟨_, rfl⟩
  rw [hN] at hn
  have HN := Hd.mk hN
  simp only [hN]
  clear hN
  go_enter Tryd.func23, Tryd.ntmps23
  go_wp2
  go_loopw [5, 12] (fun o i wr => ∃ k : Nat, k ≤ N ∧ i = .int .i64 k ∧ Hd (TkAt base b W F (l.take k) o wr)) (fun _ i _ => N - (intOf i).toNat)
  case atStart => exact ⟨0, Nat.zero_le _, rfl, H0⟩
  case round =>
    obtain ⟨k, hk, rfl, HR⟩ := hrel
    by_cases hlt : k < N
    · have hkl : k < l.length := by rw [HN.out]; exact hlt
      obtain ⟨rfl, hb1, hb2, hb3⟩ := HA.out (by omega)
      obtain ⟨sv1, hF1⟩ := HR.out.fd
      have c6 := hF1.c6
      rw [mv_eq] at c6
      have cx : wr.cell? ⟨bb, ob + k, none⟩ = some (.int .u8 ((l[k].toNat : Nat) : Int)) := (World.cell?_of_block (a := ⟨bb, ob + k, none⟩) (HR.out.keep.block bb hb3 hb2 (.inl hb1))).trans (HC.out k hkl)
      have HX := Hd.mk (HSt.out k l[k] _ wr sv1 hkl HR.out hF1)
      have htk : l.take (k + 1) = l.take k ++ [l[k]] := by rw [List.take_add_one, List.getElem?_eq_getElem hkl]; rfl
      have HT := Hd.mk htk
      have HRn := Hd.mk (FS.run_snoc (l.take k) l[k] F)
      have HL := Hd.mk (HLen.out k)
      obtain ⟨x, hx⟩ : ∃ x, l[k] = x := ⟨_, rfl⟩
      rw [hx] at cx HX HT HRn
      have HF1 := Hd.mk hF1
      obtain ⟨P, hP⟩ : ∃ P, F.run (l.take k) = P := ⟨_, rfl⟩
      rw [hP] at c6 HX HRn HL
      rw [hP] at HF1
      have HPd := Hd.mk hP
      obtain ⟨A5, cap5, hv5, hc5⟩ := row_slice HR.out.row
      rw [hP] at hv5 hc5
      subst hv5
      have hlo : (0 : Int) ≤ (k : Int) := by omega
      have hhi : (k : Int) < (N : Int) := by omega
      clear hF1 hx hP htk
      have HR2 := Hd.mk HR.out.row
      have HNil := Hd.mk HR.out.nil
      rw [HPd.out] at HNil
      have HK1 := Hd.mk HR.out.keep
      rw [HPd.out] at HR2
      obtain ⟨⟨G, op⟩, hG⟩ : ∃ r, P.1.step x = r := ⟨_, rfl⟩
      rw [hG] at HX HRn
      obtain ⟨m, hm⟩ : ∃ m, P.2.length = m := ⟨_, rfl⟩
      rw [hm] at HR2 HL HNil
      simp only [hm]
      have HM5 := Hd.mk hm
      clear hm hG HPd
      have hm7 : m ≤ 700000 := by have := HL.out; omega
      cases op with
      | none =>
        replace HX : Hd (Calls Tryd.prog (modeF P.1.md) #[.pointer (some ⟨b, 0, none⟩), .int .u8 ((x.toNat : Nat) : Int)] wr fun e w' => e = .returned (.tuple #[.agg #[.int .i64 0, .string ⟨#[]⟩], .bool false]) ∧ Hd (∃ sv, FdAt base b G sv w' ∧ Kp base b wr w')) := HX
        go_wp2
        refine HX.out.mono ?_
        rintro e w1 ⟨rfl, HS⟩
        obtain ⟨sv2, hF2, hK2⟩ := HS.out
        have HF2 := Hd.mk hF2
        have HK2 := Hd.mk hK2
        clear hF2 hK2
        go_wp2
        go_roundw
        case rel =>
          refine ⟨k + 1, by omega, by go_num, ⟨⟨sv2, ?_⟩, ?_, ?_, ?_⟩⟩
          · rw [HT.out, HRn.out]
            exact HF2.out.on (below_alloc (Below.refl _ _) _)
          · exact (HK1.out.trans HK2.out).alloc _
          · rw [HT.out, HRn.out]
            show World.ownsRow _ _ _ _ _ (P.2 ++ []).length (pcells (P.2 ++ []))
            rw [List.append_nil]
            rw [HM5.out]
            exact own_on (HK2.out.row HF1.out HR2.out (by decide) (by decide)) (below_alloc (Below.refl _ _) _)
          · rw [HT.out, HRn.out]
            intro h
            exact HNil.out (by simpa using h)
        case measure => simp [intOf]; omega
      | some p =>
        obtain ⟨kd, tx⟩ := p
        replace HX : Hd (Calls Tryd.prog (modeF P.1.md) #[.pointer (some ⟨b, 0, none⟩), .int .u8 ((x.toNat : Nat) : Int)] wr fun e w' => e = .returned (.tuple #[.agg #[.int .i64 kd, .string tx], .bool true]) ∧ Hd (∃ sv, FdAt base b G sv w' ∧ Kp base b wr w')) := HX
        go_wp2
        refine HX.out.mono ?_
        rintro e w1 ⟨rfl, HS⟩
        obtain ⟨sv2, hF2, hK2⟩ := HS.out
        have HF2 := Hd.mk hF2
        have HK2 := Hd.mk hK2
        have HRw := Hd.mk (hK2.row HF1.out HR2.out (by decide) (by decide))
        clear hF2 hK2
        go_wp2_with (first
          | (at_builtin; (
             refine wpList_append_own _ rfl _ _ 43 rfl W.heap.size 70 i0 (.agg #[.int .i64 0, .string ⟨#[]⟩]) 2 24 Tryd.underlying43 hi hz0 hz1 hz2 rfl (by decide) (.slice A5 m cap5) m (pcells P.2) rfl (own_on (own_on HRw.out (below_alloc (Below.refl _ _) _)) (below_alloc (Below.refl _ _) _)) ⟨w1.heap.size + 1, 0, none⟩ 1 1 [.int .i64 kd, .string tx] rfl rfl (World.news_of_block (cs := #[.int .i64 kd, .string tx]) (t := 70) (fr := (0, 0)) (fd_new_at _ _ (by simp))) (by simp [Value.oneCell']) (by unfold maxLen; omega) (by omega) (by have := HK1.out.size; have := HK2.out.size; simp; omega) ?_
             intro v3 w3 hown3 hg3 hnil3
             have HO3 := Hd.mk hown3
             have HG3 := Hd.mk hg3
             clear hown3 hg3 hnil3)))
        go_roundw
        case rel =>
          refine ⟨k + 1, by omega, by go_num, ⟨⟨sv2, ?_⟩, ?_, ?_, ?_⟩⟩
          · rw [HT.out, HRn.out]
            exact ((HF2.out.on (below_alloc (Below.refl _ _) _)).on (below_alloc (Below.refl _ _) _)).grownP (own_on (own_on HRw.out (below_alloc (Below.refl _ _) _)) (below_alloc (Below.refl _ _) _)) HG3.out
          · exact (((HK1.out.trans HK2.out).alloc _).alloc _).grownNew HG3.out (fun g e => (fd_row_at HRw.out e).1)
          · rw [HT.out, HRn.out]
            show World.ownsRow _ _ _ _ _ (P.2 ++ [(kd, tx)]).length (pcells (P.2 ++ [(kd, tx)]))
            rw [List.length_append, pcells_append, HM5.out]
            exact HO3.out
          · rw [HT.out, HRn.out]
            intro h
            simp at h
        case measure => simp [intOf]; omega
    · obtain rfl : k = N := by omega
      have htk : l.take k = l := by rw [← HN.out, List.take_length]
      rw [htk] at HR
      have HR' := HR
      obtain ⟨A5, cap5, hv5, hc5⟩ := row_slice HR.out.row
      subst hv5
      clear htk
      go_wp2
      go_ret
      exact ⟨_, rfl, HR'⟩
end Go.Proofs.YtphaemaccdddfaaDoor.PTk

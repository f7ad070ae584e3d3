/- The walk of TokenBack: several quoted texts, read one behind the other. The premise says what package variables hold. -/
import Derived.Test.YtphaemaccdddfaaDoorTkBack
import Derived.Test.YtphaemaccdddfaaDoorTkQuoW
import Derived.Test.YtphaemaccdddfaaDoorOpen
set_option linter.unusedVariables false
set_option linter.unusedSimpArgs false
namespace Go.Proofs.YtphaemaccdddfaaDoor.PTk
open Go.RowKit Go.Shelf Go.Lib Go.Proofs.YtphaemaccdddfaaDoorW.PrintWords Go.Proofs.YtphaemaccdddfaaDoorW.PrintLast Go.Proofs.YtphaemaccdddfaaDoorW.PrintMore
def tx (l : List ByteArray) (k : Nat) : ByteArray := l.getD k ⟨#[]⟩
theorem recs_strs {w : World} {A : Option Addr} {n : Nat} {zs : List ByteArray} (h : Recs RStr 1 w A n zs) (hn : 0 < n) :
    ∃ bx ox, A = some ⟨bx, ox, none⟩ ∧ bx < w.heap.size ∧ ∀ i, i < zs.length → w.cell? ⟨bx, ox + i, none⟩ = some (.string (tx zs i)) := by
  obtain ⟨hl, _, h⟩ := h
  obtain ⟨ad, rfl, hc⟩ := h hn
  have each : ∀ i, i < zs.length → w.cell? (ad.add i) = some (.string (tx zs i)) := by
    intro i hi
    obtain ⟨c, _, ⟨rfl, _⟩, hcell⟩ := hc i _ (List.getElem?_eq_getElem hi)
    have := hcell 0 _ rfl
    rw [Nat.mul_one, Nat.add_zero] at this
    rw [this]; unfold tx; rw [List.getD_eq_getElem?_getD, List.getElem?_eq_getElem hi]; rfl
  have h0 := each 0 (by omega)
  have hp := plain_of_cell (a := ad) (by simpa [Addr.add] using h0)
  have hb : ad.block < w.heap.size := lt_of_cell (a := ad) (by simpa [Addr.add] using h0)
  refine ⟨ad.block, ad.off, congrArg some hp, hb, fun i hi => ?_⟩
  rw [← add_off, ← hp]
  exact each i hi
def qb (l : List ByteArray) : List UInt8 := l.flatMap fun x => (quoteOf x).data.toList ++ [32]
def qT (l : List ByteArray) : ByteArray := ⟨(qb l).toArray⟩
theorem qb_cons (x : ByteArray) (l : List ByteArray) : qb (x :: l) = (quoteOf x).data.toList ++ 32 :: qb l := by unfold qb; rw [List.flatMap_cons, List.append_assoc]; rfl
theorem escB_len : ∀ l : List UInt8, (escB l).length ≤ 2 * l.length
  | [] => by simp [escB]
  | c :: l => by
    rw [escB_cons, List.length_append, List.length_cons]
    have := escB_len l
    split <;> simp <;> omega
theorem quoteOf_size (x : ByteArray) (hx : x.size ≤ 1000) : (quoteOf x).size ≤ 2010 := by
  have hl : x.data.toList.length = x.size := by simp
  unfold quoteOf
  split
  · omega
  · split
    · unfold braced
      rw [ByteArray.size_append, ByteArray.size_append, ByteArray.size_append]
      have h1 : (⟨#[123]⟩ : ByteArray).size = 1 := rfl
      have h2 : (⟨#[125, 13, 10]⟩ : ByteArray).size = 3 := rfl
      have h3 : (⟨(decDigits x.size).toArray⟩ : ByteArray).size = (decDigits x.size).length := by show (decDigits x.size).toArray.size = _; simp
      have h4 := dec_len 9 x.size (by have : (10 : Nat) ^ (9 + 1) = 10000000000 := by decide
                                      omega)
      omega
    · have h3 : (⟨(34 :: (escB x.data.toList ++ [34])).toArray⟩ : ByteArray).size = (escB x.data.toList).length + 2 := by show (34 :: (escB x.data.toList ++ [34])).toArray.size = _; simp
      have := escB_len x.data.toList
      omega
theorem qb_len : ∀ l : List ByteArray, (∀ x ∈ l, x.size ≤ 1000) → (qb l).length ≤ 2011 * l.length
  | [], _ => by simp [qb]
  | x :: l, h => by
    rw [qb_cons, List.length_append, List.length_cons, List.length_cons]
    have h1 := quoteOf_size x (h x List.mem_cons_self)
    have h2 := qb_len l fun y hy => h y (List.mem_cons_of_mem _ hy)
    have h3 : (quoteOf x).data.toList.length = (quoteOf x).size := by simp
    omega
theorem qT_size (l : List ByteArray) : (qT l).size = (qb l).length := by show (qb l).toArray.size = _; simp
theorem qT_step (l : List ByteArray) (k : Nat) (hk : k < l.length) : qT (l.take (k + 1)) = qT (l.take k) ++ (quoteOf (tx l k) ++ ⟨#[32]⟩) := by
  apply tk_bytes_ext
  rw [append_list, append_list]
  show qb _ = qb _ ++ _
  have e : tx l k = l[k] := by unfold tx; rw [List.getD_eq_getElem?_getD, List.getElem?_eq_getElem hk]; rfl
  rw [List.take_add_one, List.getElem?_eq_getElem hk, e]
  unfold qb
  rw [List.flatMap_append]
  simp
theorem qb_drop (l : List ByteArray) (k : Nat) (hk : k < l.length) : qb (l.drop k) = (quoteOf (tx l k)).data.toList ++ 32 :: qb (l.drop (k + 1)) := by
  have e : tx l k = l[k] := by unfold tx; rw [List.getD_eq_getElem?_getD, List.getElem?_eq_getElem hk]; rfl
  rw [List.drop_eq_getElem_cons hk, qb_cons, e]
/-- How the k-th is read. -/
theorem read_f (l : List ByteArray) (hs : ∀ k, k < l.length → (tx l k).size ≤ 1000) (hl : l.length ≤ 20) (k : Nat) (hk : k < l.length) :
    ∃ y, token_Reader_String.f (qT (l.drop k)) false = some (tx l k, y, false) ∧ token_Reader_Blank.f y false = some (qT (l.drop (k + 1)), false) := by
  have hall : ∀ j, ∀ x ∈ l.drop j, x.size ≤ 1000 := fun j x hx => by
    obtain ⟨i, hi, rfl⟩ := List.getElem_of_mem hx
    rw [List.getElem_drop]
    rw [List.length_drop] at hi
    have := hs (j + i) (by omega)
    unfold tx at this
    rw [List.getD_eq_getElem?_getD, List.getElem?_eq_getElem (by omega : j + i < l.length)] at this
    exact this
  have h1 := qb_len _ (hall k)
  have h2 := qb_len _ (hall (k + 1))
  rw [List.length_drop] at h1 h2
  refine ⟨⟨(32 :: qb (l.drop (k + 1))).toArray⟩, string_quote _ _ (hs k hk) (by omega) _ (qb_drop l k hk) (by rw [qT_size]; omega), blank_f _ (by omega)⟩
theorem qT_nil (l : List ByteArray) : ((qT (l.drop l.length)).toList == ([] : List UInt8)) = true := by
  rw [List.drop_length, ByteArray.toList_eq]; rfl
set_option maxHeartbeats 2000000 in
theorem tokenBack_any (w : World) (hG : GlobOk w) (A : Option Addr) (len cap : Nat) (l : List ByteArray) (h : Recs RStr 1 w A len l) (_ : len ≤ cap) (_ : len * 16 ≤ 140737488351232) :
    Calls Tryd.prog 7 #[.slice A len cap] w fun e w' => e = .returned (.bool true) ∧ Hd (Below w.heap.size w w') := by
  have HG := Hd.mk hG
  clear hG
  obtain rfl := h.1
  obtain ⟨bx, ox, HC⟩ : ∃ bx ox, Hd (0 < l.length → A = some ⟨bx, ox, none⟩ ∧ bx < w.heap.size ∧ ∀ i, i < l.length → w.cell? ⟨bx, ox + i, none⟩ = some (.string (tx l i))) := by
    rcases Nat.eq_zero_or_pos l.length with h0 | h0
    · exact ⟨0, 0, ⟨fun h => by omega⟩⟩
    · obtain ⟨bx, ox, h1, h2, h3⟩ := recs_strs h h0
      exact ⟨bx, ox, ⟨fun _ => ⟨h1, h2, h3⟩⟩⟩
  clear h
  by_cases h20 : l.length ≤ 20
  · have q20 : decide ((20 : Int) < (l.length : Int)) = false := decide_eq_false (by omega)
    go_enter Tryd.func7, Tryd.ntmps7
    go_wp2_with fail
    go_loopw [3, 4] (fun s i wr => ∃ k : Nat, k ≤ l.length ∧ s = .string (qT (l.take k)) ∧ i = .int .i64 k ∧ Hd (∀ j, j < k → (tx l j).size ≤ 1000) ∧ Hd (Below w.heap.size w wr)) (fun _ i _ => l.length - (intOf i).toNat)
    case atStart => exact ⟨0, Nat.zero_le _, rfl, rfl, ⟨fun j hj => absurd hj (Nat.not_lt_zero _)⟩, ⟨Below.refl _ _⟩⟩
    case round =>
      obtain ⟨k, hk, rfl, rfl, HS, HB⟩ := hrel
      by_cases hlt : k < l.length
      · obtain ⟨rfl, hbx, hcell⟩ := HC.out (by omega)
        have hc : wr.cell? ⟨bx, ox + k, none⟩ = some (.string (tx l k)) := (HB.out.cell (p := ⟨bx, ox + k, none⟩) hbx).trans (hcell k hlt)
        have hlo : (0 : Int) ≤ (k : Int) := by omega
        have hhi : (k : Int) < (l.length : Int) := by omega
        clear hcell
        by_cases hsz : (tx l k).size ≤ 1000
        · have q : decide ((1000 : Int) < ((tx l k).size : Int)) = false := decide_eq_false (by omega)
          have H1 := Hd.mk (c_quote (tx l k) (by omega) w wr HG.out HB.out)
          have hz := quoteOf_size _ hsz
          have hst := qT_step l k hlt
          have hz2 : (qT (l.take k)).size ≤ 2011 * k := by
            rw [qT_size]
            have := qb_len (l.take k) (fun x hx => by
              obtain ⟨i, hi, rfl⟩ := List.getElem_of_mem hx
              rw [List.length_take] at hi
              have := HS.out i (by omega)
              unfold tx at this
              rw [List.getD_eq_getElem?_getD, List.getElem?_eq_getElem (by omega : i < l.length)] at this
              rw [List.getElem_take]
              exact this)
            rw [List.length_take] at this
            omega
          have HS2 : Hd (∀ j, j < k + 1 → (tx l j).size ≤ 1000) := ⟨fun j hj => by
            by_cases e : j = k
            · subst e; exact hsz
            · exact HS.out j (by omega)⟩
          obtain ⟨Q, hQ⟩ : ∃ Q, quoteOf (tx l k) = Q := ⟨_, rfl⟩
          obtain ⟨T, hT⟩ : ∃ T, qT (l.take k) = T := ⟨_, rfl⟩
          rw [hQ] at H1 hz hst
          rw [hT] at hz2 hst
          have HST := Hd.mk hst
          simp only [hT]
          clear hst hQ hT HS
          have q1 : (9223372036854775807 < Q.size + 1) = False := eq_false (by omega)
          have q2 : (9223372036854775807 < T.size + (Q.size + 1)) = False := eq_false (by omega)
          go_wp2_with (go_at_call 28; have hx := H1.out; (with_reducible refine hx.mono ?_); clear hx; rintro e w1 ⟨rfl, B1⟩)
          go_roundw
          case rel => exact ⟨k + 1, by omega, by rw [HST.out], by go_num, HS2, B1⟩
          case measure => simp [intOf]; omega
        · have q : decide ((1000 : Int) < ((tx l k).size : Int)) = true := decide_eq_true (by omega)
          go_wp2_with fail
          all_goals (try simp only [Exit.noGoto])
          all_goals go_ret
          all_goals exact ⟨rfl, HB⟩
      · obtain rfl : k = l.length := by omega
        obtain ⟨T, hT, hT2⟩ : ∃ T, qT (l.take l.length) = T ∧ Hd (T = qT (l.drop 0)) := ⟨_, rfl, ⟨by rw [List.take_length, List.drop_zero]⟩⟩
        simp only [hT]
        clear hT
        go_wp2_with (go_at_call 8; have hx := rd_read w wr T HB.out; (with_reducible refine hx.mono ?_); clear hx; rintro e w1 ⟨g, rfl, HR⟩)
        go_loopw [6] (fun i W => ∃ k : Nat, k ≤ l.length ∧ i = .int .i64 k ∧ Hd (Rd w W g (qT (l.drop k)) false)) (fun i _ => l.length - (intOf i).toNat)
        case atStart => exact ⟨0, Nat.zero_le _, rfl, ⟨hT2.out ▸ HR.out.1⟩⟩
        case round =>
          clear HR HB hT2
          obtain ⟨k, hk, rfl, HR⟩ := hrel
          by_cases hlt : k < l.length
          · obtain ⟨rfl, hbx, hcell⟩ := HC.out (by omega)
            have hlo : (0 : Int) ≤ (k : Int) := by omega
            have hhi : (k : Int) < (l.length : Int) := by omega
            obtain ⟨y, hy1, hy2⟩ := read_f l HS.out h20 k hlt
            have hc2 : ∀ W, Below w.heap.size w W → W.cell? ⟨bx, ox + k, none⟩ = some (.string (tx l k)) := fun W hB => (hB.cell (p := ⟨bx, ox + k, none⟩) hbx).trans (hcell k hlt)
            have hc := hc2 _ HR.out.below
            have HC2 := Hd.mk hc2
            have H1 := Hd.mk (fun W' hb => rd_string (W := W') (HR.out.on hb) HG.out (tx l k) y false hy1)
            have HY := Hd.mk hy2
            clear hy1 hy2 hcell hc2
            obtain ⟨X, hX⟩ : ∃ X, tx l k = X := ⟨_, rfl⟩
            rw [hX] at H1 hc HC2
            clear hX
            go_upto_region 16 with fail
            go_region_held3 (fun w' => w'.cell? ⟨bx, ox + k, none⟩ = some (.string X))
              (simp [go_sem, *])
              (first
                | (go_at_call 15; refine (H1.out _ ?_).mono ?_; (exact (Below.refl _ _).drew); rintro e w2 ⟨rfl, HR2⟩; have hc3 := HC2.out w2 HR2.out.1.below))
            go_wp2_with (first
              | (go_at_call 32; have hx := rd_blank HR2.out.1 _ _ HY.out; (with_reducible refine hx.mono ?_); clear hx; rintro e w3 ⟨rfl, HR3⟩))
            go_roundw
            case rel => exact ⟨k + 1, by omega, by go_num, ⟨HR3.out.1⟩⟩
            case measure => simp [intOf]; omega
          · obtain rfl : k = l.length := by omega
            have H1 := Hd.mk (rd_end HR.out)
            rw [qT_nil] at H1
            go_wp2_with (first
              | (go_at_call 11; have hx := H1.out; (with_reducible refine hx.mono ?_); clear hx; rintro e w2 ⟨rfl, HR2⟩)
              | (go_at_call 19; have hx := tk_awake w2 (HG.out.on HR2.out.1.below); (with_reducible refine hx.mono ?_); clear hx; rintro e w3 ⟨rfl, B3⟩))
            go_ret
            exact ⟨rfl, ⟨HR2.out.1.below.trans (B3.out.mono HR2.out.1.below.size)⟩⟩
  · have q20 : decide ((20 : Int) < (l.length : Int)) = true := decide_eq_true (by omega)
    go_enter Tryd.func7, Tryd.ntmps7
    go_wp2_with fail
    all_goals go_ret
    all_goals exact ⟨rfl, ⟨Below.refl _ _⟩⟩
end Go.Proofs.YtphaemaccdddfaaDoor.PTk

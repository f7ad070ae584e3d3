/- strings.ContainsAny at a text's line ends, of any bytes; strconv.Itoa; in the print's forms. No condition but those that each contract bears. -/
import Derived.Test.YtphaemaccdddfaaDoorTkQuot
import Derived.Test.YtphaemaccdddfaaDoorTkShelf
import Derived.Laws.RangeAny
import Derived.Laws.Runes
import Derived.Lib.DecodeN
import Derived.Lib.OthersKept
import Derived.Lib.TrimU
import Derived.Deep.LoopGhost
set_option linter.unusedVariables false
set_option linter.unusedSimpArgs false
namespace Go.Proofs.YtphaemaccdddfaaDoor
open Go.RowKit Go.Shelf
/-- The bytes of a rune that is no single byte are none of ASCII's. -/
theorem width_high (s : ByteArray) (pos : Nat) (h : pos < s.size) (ha : 128 ≤ (s[pos]'h).toNat) : ∀ j, j < (Utf8.decode s pos).2 → pos + j < s.size ∧ 128 ≤ (s.get! (pos + j)).toNat := by
  have h0 : (s.get! pos).toNat = (s[pos]'h).toNat := by
    have := get_at s pos h
    rw [Nat.add_zero] at this
    rw [this]
  rw [Lib.decode_at]
  intro j hj
  unfold Lib.decodeN at hj
  rw [h0] at hj
  rw [if_neg (by omega)] at hj
  have key : j = 0 → pos + j < s.size ∧ 128 ≤ (s.get! (pos + j)).toNat := fun e => by subst e; rw [Nat.add_zero]; exact ⟨h, by omega⟩
  split at hj
  · next hc =>
    split at hj
    · rcases j with _ | _ | j
      · exact key rfl
      · exact ⟨by omega, by show 128 ≤ (s.get! (pos + 1)).toNat; omega⟩
      · simp only at hj; omega
    · exact key (by simp only at hj; omega)
  · split at hj
    · next hc =>
      split at hj
      · rcases j with _ | _ | _ | j
        · exact key rfl
        · exact ⟨by omega, by show 128 ≤ (s.get! (pos + 1)).toNat; omega⟩
        · exact ⟨by omega, by show 128 ≤ (s.get! (pos + 2)).toNat; omega⟩
        · simp only at hj; omega
      · exact key (by simp only at hj; omega)
    · split at hj
      · next hc =>
        split at hj
        · rcases j with _ | _ | _ | _ | j
          · exact key rfl
          · exact ⟨by omega, by show 128 ≤ (s.get! (pos + 1)).toNat; omega⟩
          · exact ⟨by omega, by show 128 ≤ (s.get! (pos + 2)).toNat; omega⟩
          · exact ⟨by omega, by show 128 ≤ (s.get! (pos + 3)).toNat; omega⟩
          · simp only at hj; omega
        · exact key (by simp only at hj; omega)
      · exact key (by simp only at hj; omega)
theorem enc_cases (r : Int) (h : 128 ≤ r) (hv : Utf8.valid r = true) : (∃ a b, Utf8.encode r = ⟨#[a, b]⟩ ∧ 128 ≤ b.toNat) ∨ 3 ≤ (Utf8.encode r).size := by
  unfold Utf8.encode
  rw [hv]
  simp only [if_true]
  have h1 : ¬ r.toNat < 128 := by omega
  rw [if_neg h1]
  by_cases h2 : r.toNat < 2048
  · rw [if_pos h2]
    refine .inl ⟨_, _, rfl, ?_⟩
    rw [UInt8.toNat_ofNat']; omega
  · rw [if_neg h2]
    right
    split
    · exact Nat.le_refl _
    · exact Nat.le_succ 3
theorem quiet_add_same {P : Program} {f : FuncId} {args : Array Value} {w : World} {a n : Nat} {v : Value}
    (h : Calls P f args (w.drewN (a + n)) fun e w' => e = .returned v ∧ w' = w.drewN (a + n)) :
    Calls P f args (w.drewN (a + n)) fun e w'' => e = .returned v ∧ ∃ m, w'' = w.drewN (a + m) :=
  h.mono fun _ _ ⟨he, hm⟩ => ⟨he, n, hm⟩
theorem pw_below_drewN' {B : Nat} {w W : World} (h : Below B w W) (n : Nat) : Below B w (W.drewN n) := ⟨h.os, h.tape, h.output, h.size, h.block⟩
set_option maxHeartbeats 2000000 in
set_option maxRecDepth 100000 in
theorem indexRune_crlf (r : Int) (h : 128 ≤ r) (h2 : r ≤ 1114111) (w : World) :
    Calls Tryd.prog 83 #[.string ⟨#[13, 10]⟩, .int .i32 r] w fun e w' => e = .returned (.int .i64 (-1)) ∧ Hd (Below w.heap.size w w') := by
  by_cases he : r = 65533
  · subst he
    have n0 := fun ty => run_next_ascii (P := Tryd.prog) w ⟨#[13, 10]⟩ 0 ty (by decide) (by decide)
    have n1 := fun ty => run_next_ascii (P := Tryd.prog) w ⟨#[13, 10]⟩ 1 ty (by decide) (by decide)
    have n2 := fun ty => run_next_end (P := Tryd.prog) w ⟨#[13, 10]⟩ 2 ty (by decide)
    clear h h2
    go_enter Tryd.func83, Tryd.ntmps83
    go_wp2_with fail
    go_loopg [5, 6] 2 (fun g _ _ wx => ∃ i : Nat, i + g = 2 ∧ wx = w.iter ⟨#[13, 10]⟩ i)
    case atStart => exact ⟨0, by omega, rfl⟩
    case round =>
      obtain ⟨i, hig, rfl⟩ := hrel
      rcases gk with _ | _ | _ | gk
      · obtain rfl : i = 2 := by omega
        go_wp2
        go_ret
        exact ⟨rfl, ⟨(Below.refl _ _).alloc (Nat.le_refl _) _⟩⟩
      · obtain rfl : i = 1 := by omega
        go_wp2
        go_roundg 0
        case measure => omega
        case rel => exact ⟨2, rfl, rfl⟩
      · obtain rfl : i = 0 := by omega
        go_wp2
        go_roundg 1
        case measure => omega
        case rel => exact ⟨1, rfl, rfl⟩
      · omega
  · by_cases hv : Utf8.valid r = true
    · obtain ⟨k1, k2, k3⟩ := encode_facts r hv h
      have hvr : Lib.validRune r = true := by
        unfold Lib.validRune
        unfold Utf8.valid at hv
        simp only [Bool.or_eq_true, Bool.and_eq_true, decide_eq_true_eq] at hv ⊢
        omega
      obtain ⟨x, hx⟩ : ∃ x, Utf8.encode r = x := ⟨_, rfl⟩
      rw [hx] at k1 k2 k3
      have h0 : (0 : Int) ≤ r := by omega
      have h128 : decide (r < 128) = false := decide_eq_false (by omega)
      have hne : (r == 65533) = false := beq_eq_false_iff_ne.2 he
      have HV : Hd (∀ W, Calls Tryd.prog 99 #[.int .i32 r] W fun e w' => e = .returned (.bool (Lib.validRune r)) ∧ W = w') := ⟨fun W => (Tryd.utf8_ValidRune r W).mono fun _ _ ⟨h1, h2⟩ => ⟨h1, h2.symm⟩⟩
      rw [hvr] at HV
      clear hvr hv he
      by_cases hs2 : x.size = 2
      · have hb1 : 1 < x.size := by omega
        have h3 : 128 ≤ (x[1]'hb1).toNat := by
          have h4 := k3 (by omega)
          simpa [hs2] using h4
        obtain ⟨z, hz⟩ : ∃ z : Int, ((x[1]'hb1).toNat : Int) = z := ⟨_, rfl⟩
        have hl1 : (((⟨#[13, 10]⟩ : ByteArray)[1]'(by decide)).toNat : Int) = 10 := rfl
        have hz1 : ((10 : Int) == z) = false := beq_eq_false_iff_ne.2 (by omega)
        have hz2 : ((10 : Int) != z) = true := bne_iff_ne.2 (by omega)
        have hz3 : ((10 : Int) = z) = False := eq_false (by omega)
        clear h3
        have HI : Hd (∀ (y : ByteArray) (z : Int) W, y.data.toList = [] → Calls Tryd.prog 55 #[.string y, .int .u8 z] W fun e w' => e = .returned (.int .i64 (-1)) ∧ w' = W) := ⟨fun y z W hy => by
          have h := Tryd.strings_IndexByte y z W
          rw [hy] at h
          exact h⟩
        have HS2 := Hd.mk hs2
        have HX := Hd.mk hx
        clear k1 k2 k3
        go_enter Tryd.func83, Tryd.ntmps83
        go_wp2_with (go_at_call 99; have hx := HV.out w; (with_reducible refine hx.mono ?_); clear hx; rintro e w1 ⟨rfl, rfl⟩)
        go_step3
        go_wp2_with fail
        go_loopg [9] 1 (fun g s9 wx => wx = w ∧ s9 = .int .i64 1)
        case atStart => exact ⟨rfl, by simp [HS2.out]⟩
        case round =>
          obtain ⟨rfl, rfl⟩ := hrel
          go_wp2_with fail
          go_step3
          go_wp2_with fail
          go_quiet (fail)
          go_wp2_with fail
          go_quiet ((go_at_call 55; exact quiet_add_same (HI.out _ _ _ rfl)))
          go_wp2_with fail
          simp only [Exit.noGoto, Exit.inBlock, Exit.then]
          go_ret
          exact ⟨rfl, ⟨pw_below_drewN' (Below.refl _ _) _⟩⟩
      · have hs3 : (3 : Int) ≤ (x.size : Int) := by omega
        have hs4 : (x.size : Int) ≤ 4 := by omega
        have hlt : decide ((x.size : Int) - 1 < 2) = false := decide_eq_false (by omega)
        clear k1 k2 k3
        go_enter Tryd.func83, Tryd.ntmps83
        go_wp2_with (go_at_call 99; have hx := HV.out w; (with_reducible refine hx.mono ?_); clear hx; rintro e w1 ⟨rfl, rfl⟩)
        go_step3
        go_wp2_with fail
        go_loopg [9] 1 (fun g s9 wx => wx = w ∧ s9 = .int .i64 ((x.size : Int) - 1))
        case atStart => exact ⟨rfl, rfl⟩
        case round =>
          obtain ⟨rfl, rfl⟩ := hrel
          go_wp2_with fail
          simp only [Exit.noGoto]
          go_ret
          exact ⟨rfl, ⟨Below.refl _ _⟩⟩
    · have hvr : Lib.validRune r = false := by
        unfold Lib.validRune
        unfold Utf8.valid at hv
        simp only [Bool.or_eq_true, Bool.and_eq_true, decide_eq_true_eq] at hv ⊢
        exact decide_eq_false (by omega)
      have h0 : (0 : Int) ≤ r := by omega
      have h128 : decide (r < 128) = false := decide_eq_false (by omega)
      have hne : (r == 65533) = false := beq_eq_false_iff_ne.2 he
      have HV : Hd (∀ W, Calls Tryd.prog 99 #[.int .i32 r] W fun e w' => e = .returned (.bool (Lib.validRune r)) ∧ W = w') := ⟨fun W => (Tryd.utf8_ValidRune r W).mono fun _ _ ⟨h1, h2⟩ => ⟨h1, h2.symm⟩⟩
      rw [hvr] at HV
      clear hvr hv he
      go_enter Tryd.func83, Tryd.ntmps83
      go_wp2_with (go_at_call 99; have hx := HV.out w; (with_reducible refine hx.mono ?_); clear hx; rintro e w1 ⟨rfl, rfl⟩)
      go_ret
      exact ⟨rfl, ⟨Below.refl _ _⟩⟩
/-- strings.ContainsAny at the line ends. -/
theorem hv256 (w : World) : (zeroValue 105).run Tryd.prog w = .ok (.agg (Array.replicate 256 (.bool false))) w := by kernel_rfl
theorem no_crlf (b : UInt8) (h : 128 ≤ b.toNat) : ([13, 10] : List UInt8).contains b = false := by
  simp only [List.contains_cons, List.contains_nil, Bool.or_false, Bool.or_eq_false_iff]
  constructor
  · exact beq_eq_false_iff_ne.2 (fun e => by subst e; exact absurd h (by decide))
  · exact beq_eq_false_iff_ne.2 (fun e => by subst e; exact absurd h (by decide))
theorem noAny_add {s : ByteArray} {i : Nat} (h : Lib.NoAny s.data.toList [13, 10] i) : ∀ n, (∀ j, j < n → i + j < s.size ∧ 128 ≤ (s.get! (i + j)).toNat) → Lib.NoAny s.data.toList [13, 10] (i + n)
  | 0, _ => h
  | n + 1, hn => by
    have ih := noAny_add h n (fun j hj => hn j (by omega))
    obtain ⟨h1, h2⟩ := hn n (by omega)
    have e : s.data.toList[i + n]? = some (s.get! (i + n)) := by
      rw [Lib.data_getElem? s (i + n) h1]
      have := get_at s (i + n) h1
      rw [Nat.add_zero] at this
      rw [this]
    exact ih.succ e (no_crlf _ h2)
theorem iterAt_below {w wr : World} (h : Below w.heap.size w wr) (s : ByteArray) (p : Nat) : Below w.heap.size w (wr.iterAt w.heap.size s p) :=
  ⟨h.os, h.tape, h.output, by simpa [World.iterAt] using h.size, fun k hk => by
    have e : (wr.iterAt w.heap.size s p).heap[k]? = wr.heap[k]? := by
      simp only [World.iterAt]
      rw [Array.getElem?_setIfInBounds_ne (by omega)]
    rw [e]; exact h.block k hk⟩
set_option maxHeartbeats 2000000 in
set_option maxRecDepth 100000 in
theorem indexAny_short (s : ByteArray) (w : World) (h8 : s.size ≤ 8) :
    Calls Tryd.prog 64 #[.string s, .string ⟨#[13, 10]⟩] w fun e w' => e = .returned (.int .i64 (Lib.indexAny s.data.toList [13, 10])) ∧ Hd (Below w.heap.size w w') := by
  have h8z : decide ((8 : Int) < (s.size : Int)) = false := decide_eq_false (by omega)
  go_enter Tryd.func64, Tryd.ntmps64
  go_wp2_with (go_at_call 84; refine (Tryd.strings_shouldUseASCIISet _ _).mono ?_; rintro e w' ⟨rfl, hw⟩; rw [hw, h8z])
  go_loopg [9, 10] s.size (fun g _ _ wx => ∃ i : Nat, s.size - i ≤ g ∧ i ≤ s.size ∧ Hd (wx.heap[w.heap.size]? = some (.stringIter s i) ∧ Below w.heap.size w wx ∧ Lib.NoAny s.data.toList [13, 10] i))
  case atStart => exact ⟨0, by omega, by omega, ⟨World.iter_heap w s 0, (Below.refl _ _).alloc (Nat.le_refl _) _, Lib.NoAny.zero _ _⟩⟩
  case round =>
    obtain ⟨i, hig, his, HJ⟩ := hrel
    by_cases hi : i < s.size
    · obtain ⟨x, hx⟩ : ∃ x : UInt8, s[i]'hi = x := ⟨_, rfl⟩
      have Hx := Hd.mk (show s.data.toList[i]? = some x by rw [← hx]; exact Lib.data_getElem? s i hi)
      by_cases hx128 : x.toNat < 128
      · have hnx := fun ty => Lib.run_next_ascii_at (P := Tryd.prog) wr w.heap.size s i ty HJ.out.1 hi (by rw [hx]; exact hx128)
        rw [hx] at hnx
        have HI : Hd (∀ (z : Int) W, z = (x.toNat : Nat) → Calls Tryd.prog 83 #[.string ⟨#[13, 10]⟩, .int .i32 z] W fun e w' => e = .returned (.int .i64 (Lib.indexByte [13, 10] x)) ∧ W = w') := ⟨fun z W hz => by
          subst hz
          have h := Tryd.strings_IndexRune_ascii ⟨#[13, 10]⟩ (x.toNat : Nat) W (by omega) (by omega)
          rw [Int.toNat_natCast, show Nat.toUInt8 x.toNat = x from UInt8.ofNat_toNat] at h
          exact h.mono fun _ _ ⟨h1, h2⟩ => ⟨h1, h2.symm⟩⟩
        have hcon := Lib.contains_iff_indexByte ([13, 10] : List UInt8) x
        obtain ⟨ix, hix⟩ : ∃ ix, Lib.indexByte [13, 10] x = ix := ⟨_, rfl⟩
        rw [hix] at HI hcon
        have HW : Hd (∀ p, Below w.heap.size w (wr.iterAt w.heap.size s p) ∧ (wr.iterAt w.heap.size s p).heap[w.heap.size]? = some (.stringIter s p)) := ⟨fun p => ⟨iterAt_below HJ.out.2.1 s p, Lib.iterAt_heap wr w.heap.size s i p HJ.out.1⟩⟩
        clear hix hx
        cases hin : ([13, 10] : List UInt8).contains x
        · rw [hin] at hcon
          have hlt : decide ((0 : Int) ≤ ix) = false := by first | exact hcon.symm | (rw [← hcon])
          have HIN := Hd.mk hin
          clear hcon hin
          go_wp2_with (go_at_call 83; have hx := HI.out _ (wr.iterAt w.heap.size s (i + 1)) rfl; (with_reducible refine hx.mono ?_); clear hx; rintro e w1 ⟨rfl, rfl⟩)
          go_roundg (gk - 1)
          case measure => omega
          case rel => exact ⟨i + 1, by omega, by omega, ⟨(HW.out _).2, (HW.out _).1, HJ.out.2.2.succ Hx.out HIN.out⟩⟩
        · rw [hin] at hcon
          have hlt : decide ((0 : Int) ≤ ix) = true := by first | exact hcon.symm | (rw [← hcon])
          have HIN := Hd.mk hin
          clear hcon hin
          go_wp2_with (go_at_call 83; have hx := HI.out _ (wr.iterAt w.heap.size s (i + 1)) rfl; (with_reducible refine hx.mono ?_); clear hx; rintro e w1 ⟨rfl, rfl⟩)
          go_ret
          exact ⟨by rw [Lib.indexAny_hit HJ.out.2.2 Hx.out HIN.out]; rfl, ⟨(HW.out _).1⟩⟩
      · have hnx := fun ty => Lib.run_next_any_at (P := Tryd.prog) wr w.heap.size s i ty HJ.out.1 hi
        have hw := width_high s i hi (by rw [hx]; omega)
        have hr := decode_high s i hi (by rw [hx]; omega)
        have hr2 := Lib.rune_le s i
        obtain ⟨rn, hrn⟩ : ∃ n, (Utf8.decode s i).1 = n := ⟨_, rfl⟩
        obtain ⟨wd, hwd⟩ : ∃ n, (Utf8.decode s i).2 = n := ⟨_, rfl⟩
        rw [hrn] at hnx hr hr2
        rw [hwd] at hnx hw hr
        have HI := Hd.mk (fun W => indexRune_crlf (rn : Nat) (by omega) (by omega) W)
        have HW : Hd (∀ p, Below w.heap.size w (wr.iterAt w.heap.size s p) ∧ (wr.iterAt w.heap.size s p).heap[w.heap.size]? = some (.stringIter s p)) := ⟨fun p => ⟨iterAt_below HJ.out.2.1 s p, Lib.iterAt_heap wr w.heap.size s i p HJ.out.1⟩⟩
        have HWD := Hd.mk (⟨hw, hr.2⟩ : _ ∧ 1 ≤ wd)
        have HNA := Hd.mk (noAny_add HJ.out.2.2 wd hw)
        clear hw hr hr2 hrn hwd hx
        go_wp2_with (go_at_call 83; have hx := HI.out (wr.iterAt w.heap.size s (i + wd)); (with_reducible refine hx.mono ?_); clear hx; rintro e w1 ⟨rfl, B1⟩)
        have hle : i + wd ≤ s.size := by have := (HWD.out.1 (wd - 1) (by have := HWD.out.2; omega)).1; have := HWD.out.2; omega
        have hw1 := HWD.out.2
        go_roundg (gk - 1)
        case measure => omega
        case rel => exact ⟨i + wd, by omega, hle, ⟨(B1.out.block _ (Array.getElem?_eq_some_iff.1 (HW.out (i + wd)).2).1).trans (HW.out _).2, (HW.out _).1.trans (B1.out.mono (HW.out _).1.size), HNA.out⟩⟩
    · obtain rfl : i = s.size := by omega
      have hnx := fun ty => Lib.run_next_end_at (P := Tryd.prog) wr w.heap.size s s.size ty HJ.out.1 hi
      go_wp2
      go_ret
      exact ⟨by rw [Lib.indexAny_none (by rw [← Lib.size_eq]; exact HJ.out.2.2)]; rfl, ⟨HJ.out.2.1⟩⟩
theorem indexAny_crlf (s : ByteArray) (w : World) (hs : s.size ≤ 1000000) :
    Calls Tryd.prog 64 #[.string s, .string ⟨#[13, 10]⟩] w fun e w' => e = .returned (.int .i64 (Lib.indexAny s.data.toList [13, 10])) ∧ Hd (Below w.heap.size w w') := by
  by_cases h8 : s.size ≤ 8
  · exact indexAny_short s w h8
  · refine (Tryd.strings_IndexAny_long hv256 s ⟨#[13, 10]⟩ w (by decide) (by omega) (by omega) (by decide) (fun j b hb => ?_)).mono fun e w' ⟨h1, h2⟩ => ⟨h1, ⟨?_⟩⟩
    · have hm : b ∈ ([13, 10] : List UInt8) := List.mem_of_getElem? hb
      simp only [List.mem_cons, List.not_mem_nil, or_false] at hm
      rcases hm with rfl | rfl
      · decide
      · decide
    · rw [h2]
      exact ((Below.refl _ _).alloc (Nat.le_refl _) _).alloc (by simp) _
/-- Does a text hold a line end? -/
def hasEnds (s : ByteArray) : Bool := decide (0 ≤ Lib.indexAny s.data.toList [13, 10])
theorem containsAny_crlf (s : ByteArray) (w : World) (hs : s.size ≤ 1000000) :
    Calls Tryd.prog 51 #[.string s, .string ⟨#[13, 10]⟩] w fun e w' => e = .returned (.bool (hasEnds s)) ∧ Hd (Below w.heap.size w w') := by
  have HI := Hd.mk (indexAny_crlf s w hs)
  unfold hasEnds
  obtain ⟨ix, hix⟩ : ∃ i, Lib.indexAny s.data.toList [13, 10] = i := ⟨_, rfl⟩
  rw [hix] at HI ⊢
  clear hix
  go_enter Tryd.func51, Tryd.ntmps51
  go_wp2_with (go_at_call 64; have hx := HI.out; (with_reducible refine hx.mono ?_); clear hx; rintro e w1 ⟨rfl, B1⟩)
  go_ret
  exact ⟨rfl, B1⟩
end Go.Proofs.YtphaemaccdddfaaDoor

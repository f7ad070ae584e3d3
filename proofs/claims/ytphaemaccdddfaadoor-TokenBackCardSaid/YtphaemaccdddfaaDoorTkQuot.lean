/- Package token: quoted, over strings.Builder. No condition but those that each contract bears. -/
import Derived.Test.YtphaemaccdddfaaDoorTkWord
import Derived.Test.YtphaemaccdddfaaDoorTkBld
import Derived.BigGuardPart
set_option linter.unusedVariables false
set_option linter.unusedSimpArgs false
namespace Go.Proofs.YtphaemaccdddfaaDoor.PTk
open Go.RowKit Go.Shelf Go.Proofs.YtphaemaccdddfaaDoorW.PrintWords Go.Proofs.YtphaemaccdddfaaDoorW.PrintLast Go.Proofs.YtphaemaccdddfaaDoorW.PrintMore
/-- A quoted text's bytes behind its opening mark, and what is left behind it; none: it is wrong. -/
def quoB : List UInt8 → List UInt8 → Option (List UInt8 × List UInt8)
  | [], _ => none
  | c :: l, out => if c = 34 then some (out, l) else if c = 92 then (match l with
      | [] => none
      | d :: l' => if d = 34 ∨ d = 92 then quoB l' (out ++ [d]) else none) else if c = 13 ∨ c = 10 then none else quoB l (out ++ [c])
/-- The reader and the builder, between two calls. -/
structure QSt (w0 w : World) (g B b : Nat) (W : World) (y : ByteArray) (fl : Bool) (out : List UInt8) : Prop where
  rd : IsS54 w0 W g y fl
  below : Below w0.heap.size w0 W
  keep : KeepBut w W g none
  bld : IsBld B b (Lib.byteCells out) W
  size : B ≤ W.heap.size
  gB : g < B
theorem QSt.on {w0 w : World} {g B b : Nat} {W W' : World} {y y' : ByteArray} {fl fl' : Bool} {out : List UInt8} (h : QSt w0 w g B b W y fl out) (h1 : IsS54 w0 W' g y' fl') (h2 : Below w0.heap.size w0 W') (h3 : KeepBut W W' g none) : QSt w0 w g B b W' y' fl' out :=
  ⟨h1, h2, h.keep.trans h3 (.inl rfl), h.bld.step (fun k hB hk => h3.2 k hk (by have := h.gB; omega) (by simp)), Nat.le_trans h.size h3.1, h.gB⟩
theorem QSt.drewN {w0 w : World} {g B b : Nat} {W : World} {y : ByteArray} {fl : Bool} {out : List UInt8} (h : QSt w0 w g B b W y fl out) (n : Nat) : QSt w0 w g B b (W.drewN n) y fl out :=
  h.on (h.rd.drewN n) (pw_below_drewN h.below n) (keep_drewN (KeepBut.refl _ _ _) n)
theorem QSt.cell {w0 w : World} {g B b : Nat} {W : World} {y : ByteArray} {fl : Bool} {out : List UInt8} (h : QSt w0 w g B b W y fl out) : W.cell? ⟨g, 0, none⟩ = some (.string y) ∧ W.cell? ⟨g, 1, none⟩ = some (.bool fl) := ⟨cellS54_0 h.rd.1, cellS54_1 h.rd.1⟩
def nextB (y : ByteArray) (c : UInt8) : Bool := y.data.toList.head? == some c
theorem bt_head (y : ByteArray) (c : UInt8) (l : List UInt8) (h : y.data.toList = c :: l) : bt y 0 = (c.toNat : Nat) := by
  have hs : y.data.toList.length = y.size := by simp
  rw [h, List.length_cons] at hs
  unfold bt
  have h0 : (0 : Int).toNat < y.size := by show 0 < y.size; omega
  rw [dif_pos h0]
  have e : y.data.toList[0]? = some c := by rw [h]; rfl
  have e2 : y.data.toList[0]? = some (y[(0 : Int).toNat]'h0) := List.getElem?_eq_getElem (by rw [h]; simp)
  rw [e] at e2
  rw [← Option.some.inj e2]
theorem q_next {w0 w : World} {g B b : Nat} (W : World) (y : ByteArray) (fl : Bool) (out : List UInt8) (c : UInt8) (h : QSt w0 w g B b W y fl out) :
    Calls Tryd.prog 18 #[.pointer (some ⟨g, 0, none⟩), .int .u8 (c.toNat : Nat)] W fun e w' => e = .returned (.bool (nextB y c)) ∧ Hd (QSt w0 w g B b w' y fl out) :=
  (token_Reader_Next.calls g y fl (c.toNat : Nat) (nextB y c) y fl w0 W h.rd h.below (by
    unfold token_Reader_Next.f nextB
    cases e : y.data.toList with
    | nil => rw [if_pos (by rw [ByteArray.toList_eq, e])]; rfl
    | cons d l =>
      have hs : y.data.toList.length = y.size := by simp
      rw [e, List.length_cons] at hs
      rw [if_neg (by rw [ByteArray.toList_eq, e]; simp), if_pos (by omega), bt_head y d l e]
      simp only [Option.some.injEq, Prod.mk.injEq, and_true, List.head?_cons]
      rw [Bool.eq_iff_iff, beq_iff_eq, beq_iff_eq]
      constructor
      · intro h; rw [UInt8.toNat_inj.1 (by omega : d.toNat = c.toNat)]
      · intro h; rw [Option.some.inj h])).mono fun _ _ ⟨h1, h2, h3, h4⟩ => ⟨h1, ⟨h.on h2 h3 h4⟩⟩
theorem q_next34 {w0 w : World} {g B b : Nat} (W : World) (y : ByteArray) (fl : Bool) (out : List UInt8) (h : QSt w0 w g B b W y fl out) :
    Calls Tryd.prog 18 #[.pointer (some ⟨g, 0, none⟩), .int .u8 34] W fun e w' => e = .returned (.bool (nextB y 34)) ∧ Hd (QSt w0 w g B b w' y fl out) := q_next W y fl out 34 h
theorem q_next92 {w0 w : World} {g B b : Nat} (W : World) (y : ByteArray) (fl : Bool) (out : List UInt8) (h : QSt w0 w g B b W y fl out) :
    Calls Tryd.prog 18 #[.pointer (some ⟨g, 0, none⟩), .int .u8 92] W fun e w' => e = .returned (.bool (nextB y 92)) ∧ Hd (QSt w0 w g B b w' y fl out) := q_next W y fl out 92 h
theorem q_take {w0 w : World} {g B b : Nat} (W : World) (y : ByteArray) (fl : Bool) (out : List UInt8) (h : QSt w0 w g B b W y fl out) (hy : 1 ≤ y.size) :
    Calls Tryd.prog 40 #[.pointer (some ⟨g, 0, none⟩), .int .i64 1] W fun e w' => e = .returned (.string (y.extract 0 1)) ∧ Hd (QSt w0 w g B b w' (y.extract 1 y.size) fl out) :=
  (token_Reader_take.calls g y fl 1 (y.extract 0 1) (y.extract 1 y.size) fl w0 W h.rd h.below (by unfold token_Reader_take.f; rw [if_pos (by omega), if_pos (by omega)]; rfl)).mono fun _ _ ⟨h1, h2, h3, h4⟩ => ⟨h1, ⟨h.on h2 h3 h4⟩⟩
theorem q_need {w0 w : World} {g B b : Nat} (W : World) (y : ByteArray) (fl : Bool) (out : List UInt8) (p : Bool) (h : QSt w0 w g B b W y fl out) :
    Calls Tryd.prog 35 #[.pointer (some ⟨g, 0, none⟩), .bool p] W fun e w' => e = .returned (.tuple #[]) ∧ Hd (QSt w0 w g B b w' (if p then y else ⟨#[]⟩) (if p then fl else true) out) :=
  (token_Reader_need.calls g y fl p _ _ w0 W h.rd h.below (by cases p <;> rfl)).mono fun _ _ ⟨h1, h2, h3, h4⟩ => ⟨h1, ⟨h.on h2 h3 h4⟩⟩
theorem q_write {w0 w : World} {g B b : Nat} (W : World) (y : ByteArray) (fl : Bool) (out : List UInt8) (x : ByteArray) (h : QSt w0 w g B b W y fl out) (hw0 : w0.heap.size ≤ B) (hwB : w.heap.size ≤ B) (hlen : out.length + x.size ≤ 140737488355328) :
    Calls Tryd.prog 59 #[.pointer (some ⟨b, 0, none⟩), .string x] W fun e w' => e = .returned (.tuple #[.int .i64 x.size, .nilIface]) ∧ Hd (QSt w0 w g B b w' y fl (out ++ x.data.toList)) :=
  (writeString_any B b (Lib.byteCells out) x W h.bld (by unfold Lib.byteCells; rw [List.length_map]; exact hlen) h.size).mono fun _ _ ⟨h1, h2, h3⟩ => ⟨h1, ⟨by
    refine ⟨⟨(h3.block g h.gB).trans h.rd.1, h.rd.2⟩, h.below.trans (h3.mono hw0), ⟨Nat.le_trans h.keep.1 h3.size, fun i hi hg hn => (h3.block i (Nat.lt_of_lt_of_le hi hwB)).trans (h.keep.2 i hi hg hn)⟩, ?_, Nat.le_trans h.size h3.size, h.gB⟩
    have e : Lib.byteCells (out ++ x.data.toList) = Lib.byteCells out ++ Lib.strCells x := by unfold Lib.byteCells Lib.strCells; rw [List.map_append]
    rw [e]; exact h2⟩⟩
def token_Reader_quoted.f (s : ByteArray) (fl : Bool) : Option (ByteArray × ByteArray × Bool) :=
  if 1 ≤ s.size ∧ s.size ≤ 140737488351232 then (match quoB s.data.toList.tail [] with
    | some (out, rest) => if fl = true then some (⟨#[]⟩, ⟨#[]⟩, true) else some (⟨out.toArray⟩, ⟨rest.toArray⟩, false)
    | none => some (⟨#[]⟩, ⟨#[]⟩, true)) else none
theorem list_ext {x y : ByteArray} (h : x.data.toList = y.data.toList) : x = y := ByteArray.ext (Array.toList_inj.1 h)
theorem list_extract (y : ByteArray) (a b : Nat) : (y.extract a b).data.toList = (y.data.toList.take b).drop a := by
  simp [ByteArray.data_extract, Array.toList_extract, List.drop_take]
theorem first_one {y : ByteArray} {c : UInt8} {l : List UInt8} (h : y.data.toList = c :: l) : y.extract 0 1 = ⟨#[c]⟩ ∧ (y.extract 1 y.size).data.toList = l ∧ y.size = l.length + 1 := by
  have hs : y.data.toList.length = y.size := by simp
  refine ⟨list_ext ?_, ?_, by rw [← hs, h]; rfl⟩
  · rw [list_extract, h]; rfl
  · rw [list_extract, ← hs, List.take_length, h]; rfl
theorem q_word {w0 w : World} {g B b : Nat} (W : World) (y : ByteArray) (fl : Bool) (out : List UInt8) (a : ByteArray) (r : Bool) (y' : ByteArray) (fl' : Bool) (hf : token_Reader_Word.f y fl a = some (r, y', fl')) (h : QSt w0 w g B b W y fl out) :
    Calls Tryd.prog 17 #[.pointer (some ⟨g, 0, none⟩), .string a] W fun e w' => e = .returned (.bool r) ∧ Hd (QSt w0 w g B b w' y' fl' out) :=
  (token_Reader_Word.calls g y fl a r y' fl' w0 W h.rd h.below hf).mono fun _ _ ⟨h1, h2, h3, h4⟩ => ⟨h1, ⟨h.on h2 h3 h4⟩⟩
theorem word_one (y : ByteArray) (l : List UInt8) (h : y.data.toList = 34 :: l) (hy : y.size ≤ 140737488351232) : token_Reader_Word.f y false ⟨#[34]⟩ = some (true, y.extract 1 y.size, false) := by
  obtain ⟨h1, _, h3⟩ := first_one h
  have hz : (⟨#[34]⟩ : ByteArray).size = 1 := rfl
  unfold token_Reader_Word.f
  rw [hz, if_pos ⟨hy, by omega⟩, if_neg (by decide), if_neg (by omega), h1, if_pos rfl]
theorem word_fl (y a : ByteArray) (hy : y.size ≤ 140737488351232) (ha : a.size ≤ 140737488351232) : token_Reader_Word.f y true a = some (false, y, true) := by
  unfold token_Reader_Word.f
  rw [if_pos ⟨hy, ha⟩, if_pos rfl]
theorem word_none (y a : ByteArray) (fl : Bool) (ha : a.size ≤ 140737488351232) (hlt : y.size < a.size) : token_Reader_Word.f y fl a = some (false, y, fl) := by
  unfold token_Reader_Word.f
  rw [if_pos ⟨by omega, ha⟩]
  cases fl with
  | true => rw [if_pos rfl]
  | false => rw [if_neg (by decide), if_pos hlt]
theorem isEmpty_nil {y : ByteArray} (h : y.data.toList = []) : y.toList.isEmpty = true := by rw [ByteArray.toList_eq, h]; rfl
theorem isEmpty_cons {y : ByteArray} {c : UInt8} {l : List UInt8} (h : y.data.toList = c :: l) : y.toList.isEmpty = false := by rw [ByteArray.toList_eq, h]; rfl
theorem size_nil {y : ByteArray} (h : y.data.toList = []) : y = ⟨#[]⟩ := list_ext (by rw [h])
/-- Behind the escape of a round. -/
def quoP : List UInt8 → List UInt8 → Option (List UInt8 × List UInt8)
  | [], _ => none
  | c :: l, out => if c = 13 ∨ c = 10 then none else quoB l (out ++ [c])
theorem quoB_34 (l out : List UInt8) : quoB (34 :: l) out = some (out, l) := by rw [quoB.eq_def]; rfl
theorem quoB_esc (d : UInt8) (l out : List UInt8) (h : d = 34 ∨ d = 92) : quoB (92 :: d :: l) out = quoB l (out ++ [d]) := by
  rw [quoB.eq_def]
  show (if d = 34 ∨ d = 92 then quoB l (out ++ [d]) else none) = _
  rw [if_pos h]
theorem quoB_bad (d : UInt8) (l out : List UInt8) (h : ¬ (d = 34 ∨ d = 92)) : quoB (92 :: d :: l) out = none := by
  rw [quoB.eq_def]
  show (if d = 34 ∨ d = 92 then quoB l (out ++ [d]) else none) = _
  rw [if_neg h]
theorem quoB_end (out : List UInt8) : quoB [92] out = none := by rw [quoB.eq_def]; rfl
theorem quoB_else (c : UInt8) (l out : List UInt8) (h1 : c ≠ 34) (h2 : c ≠ 92) : quoB (c :: l) out = quoP (c :: l) out := by
  rw [quoB.eq_def]
  show (if c = 34 then _ else if c = 92 then _ else if c = 13 ∨ c = 10 then none else quoB l (out ++ [c])) = _
  rw [if_neg h1, if_neg h2]; rfl
def QInv (R : Option (List UInt8 × List UInt8)) (fl0 : Bool) (y : ByteArray) (fl : Bool) (r : Option (List UInt8 × List UInt8)) : Prop := (fl = fl0 ∧ r = R) ∨ (y = ⟨#[]⟩ ∧ fl = true ∧ R = none)
theorem nextB_eq {y : ByteArray} {c : UInt8} (h : nextB y c = true) : ∃ l, y.data.toList = c :: l := by
  unfold nextB at h
  cases e : y.data.toList with
  | nil => rw [e] at h; cases h
  | cons d l =>
    rw [e] at h
    have := Option.some.inj (eq_of_beq h)
    exact ⟨l, by rw [this]⟩
theorem esc_ok {y : ByteArray} {out : List UInt8} (h : nextB y 34 = true ∨ nextB y 92 = true) : quoB (92 :: y.data.toList) out = quoP y.data.toList out := by
  rcases h with h | h
  · obtain ⟨l, e⟩ := nextB_eq h
    rw [e, quoB_esc 34 l out (.inl rfl)]; rfl
  · obtain ⟨l, e⟩ := nextB_eq h
    rw [e, quoB_esc 92 l out (.inr rfl)]; rfl
theorem esc_bad {y : ByteArray} {out : List UInt8} (h1 : nextB y 34 = false) (h2 : nextB y 92 = false) : quoB (92 :: y.data.toList) out = none := by
  cases e : y.data.toList with
  | nil => exact quoB_end out
  | cons d l =>
    refine quoB_bad d l out ?_
    rintro (h | h)
    · unfold nextB at h1; rw [e, h] at h1; simp at h1
    · unfold nextB at h2; rw [e, h] at h2; simp at h2
theorem idx_ends (d : UInt8) : decide (Lib.indexByte [13, 10] d < 0) = !decide (d = 13 ∨ d = 10) := by
  have h : ∀ n : Fin 256, decide (Lib.indexByte [13, 10] (UInt8.ofNat n.val) < 0) = !decide (UInt8.ofNat n.val = 13 ∨ UInt8.ofNat n.val = 10) := by decide +kernel
  have h2 := h ⟨d.toNat, d.toNat_lt⟩
  rwa [show UInt8.ofNat d.toNat = d from UInt8.ofNat_toNat] at h2
theorem q_index (W : World) (z : Int) (d : UInt8) (hz : z = (d.toNat : Nat)) :
    Calls Tryd.prog 55 #[.string ⟨#[13, 10]⟩, .int .u8 z] W fun e w' => e = .returned (.int .i64 (Lib.indexByte [13, 10] d)) ∧ W = w' := by
  have h := Tryd.strings_IndexByte ⟨#[13, 10]⟩ z W
  rw [hz, Int.toNat_natCast, show Nat.toUInt8 d.toNat = d from UInt8.ofNat_toNat] at h
  rw [hz]
  exact h.mono fun _ _ ⟨h1, h2⟩ => ⟨h1, h2.symm⟩
set_option maxHeartbeats 4000000 in
set_option maxRecDepth 100000 in
theorem token_Reader_quoted.calls (g : Nat) (s0_0 : ByteArray) (s0_1 : Bool) (r1 : ByteArray) (r2 : ByteArray) (r3 : Bool) (w0 w : World) (hI : IsS54 w0 w g s0_0 s0_1) (hB : Below w0.heap.size w0 w) (h : token_Reader_quoted.f s0_0 s0_1 = some (r1, r2, r3)) :
    Calls Tryd.prog 39 #[.pointer (some ⟨g, 0, none⟩)] w fun e w' => e = .returned (.string r1) ∧ IsS54 w0 w' g r2 r3 ∧ Below w0.heap.size w0 w' ∧ KeepBut w w' g none := by
  unfold token_Reader_quoted.f at h
  split at h
  · next hs =>
    obtain ⟨hs1, hs2⟩ := hs
    have HT := Hd.mk (token_Reader_take.calls g s0_0 s0_1 1 (s0_0.extract 0 1) (s0_0.extract 1 s0_0.size) s0_1 w0 w hI hB (by unfold token_Reader_take.f; rw [if_pos (by omega), if_pos (by omega)]; rfl))
    have HH := Hd.mk h
    have HI := Hd.mk hI
    have hz1 : (s0_0.extract 1 s0_0.size).size ≤ s0_0.size := by rw [ByteArray.size_extract]; omega
    have HL : Hd ((s0_0.extract 1 s0_0.size).data.toList = s0_0.data.toList.tail) := ⟨by
      have hsz : s0_0.data.toList.length = s0_0.size := by simp
      rw [list_extract, ← hsz, List.take_length, List.drop_one]⟩
    obtain ⟨y0, hy0⟩ : ∃ y0, s0_0.extract 1 s0_0.size = y0 := ⟨_, rfl⟩
    obtain ⟨x0, hx0⟩ : ∃ x0, s0_0.extract 0 1 = x0 := ⟨_, rfl⟩
    rw [hy0] at HT HL hz1
    rw [hx0] at HT
    clear h hI hB hy0 hx0
    go_enter Tryd.func39, Tryd.ntmps39
    go_wp2_with (go_at_call 40; have hx := HT.out; (with_reducible refine hx.mono ?_); clear hx; rintro e w1 ⟨rfl, h1⟩; have HR1 := Hd.mk h1; clear h1)
    have HQ : Hd (QSt w0 w g w1.heap.size w1.heap.size (w1.alloc (.cells #[.pointer none, .slice none 0 0] 80)) y0 s0_1 []) := ⟨by
      obtain ⟨k1, k2, k3⟩ := HR1.out
      exact ⟨k1.alloc _, below_alloc k2 _, keep_alloc k3 _, Lib.fresh_isBuilder _ _ _, by simp, k1.lt⟩⟩
    have HW1 : Hd (w0.heap.size ≤ w1.heap.size ∧ w.heap.size ≤ w1.heap.size) := ⟨HR1.out.2.1.size, HR1.out.2.2.1⟩
    clear HR1
    obtain ⟨B, hB⟩ : ∃ B, w1.heap.size = B := ⟨_, rfl⟩
    have HQ2 : Hd (∀ W, QSt w0 w g B B W y0 s0_1 [] → QSt w0 w g B B W y0 s0_1 []) := ⟨fun _ h => h⟩
    rw [hB] at HQ HW1
    obtain ⟨W0, hW0⟩ : ∃ W0, w1.alloc (.cells #[.pointer none, .slice none 0 0] 80) = W0 := ⟨_, rfl⟩
    rw [hW0] at HQ
    simp only [hB, hW0]
    clear hW0
    go_loopg [] y0.size (fun k wr => ∃ (y : ByteArray) (fl : Bool) (out : List UInt8), y.size ≤ k ∧ out.length + y.size ≤ s0_0.size ∧ Hd (QSt w0 w g B B wr y fl out) ∧ Hd (QInv (quoB s0_0.data.toList.tail []) s0_1 y fl (quoB y.data.toList out)))
    case atStart => exact ⟨y0, s0_1, [], Nat.le_refl _, by simpa using hz1, HQ, ⟨.inl ⟨rfl, by rw [HL.out]⟩⟩⟩
    case round =>
      obtain ⟨y, fl, out, hyk, hyo, HS, HV⟩ := hrel
      clear HQ HL HI HT HQ2
      obtain ⟨c0, c1⟩ := HS.out.cell
      cases e : y.data.toList with
      | nil =>
        obtain rfl := size_nil e
        rw [e] at HV
        have HR : Hd (quoB s0_0.data.toList.tail [] = none) := ⟨by rcases HV.out with ⟨_, h⟩ | ⟨_, _, h⟩; exact h.symm; exact h⟩
        have HWd : Hd (token_Reader_Word.f ⟨#[]⟩ fl ⟨#[34]⟩ = some (false, ⟨#[]⟩, fl)) := ⟨word_none _ _ _ (by decide) (by decide)⟩
        clear HV e
        go_wp2_with (first
          | (go_at_call 17; have hx := q_word wr ⟨#[]⟩ fl out _ _ _ _ HWd.out HS.out; (with_reducible refine hx.mono ?_); clear hx; rintro e w2 ⟨rfl, HS2⟩)
          | (go_at_call 35; have hx := q_need w2 ⟨#[]⟩ fl out false HS2.out; (with_reducible refine hx.mono ?_); clear hx; rintro e w3 ⟨rfl, HS3⟩; have c13 := HS3.out.cell.2; simp only [Bool.false_eq_true, if_false] at c13))
        go_ret
        have hh := HH.out
        rw [HR.out] at hh
        injection hh with hh
        injection hh with h1 h2
        injection h2 with h2 h3
        subst h1; subst h2; subst h3
        exact ⟨rfl, HS3.out.rd, HS3.out.below, HS3.out.keep⟩
      | cons c l =>
        obtain ⟨f1, f2, f3⟩ := first_one e
        have hem := isEmpty_cons e
        by_cases h34 : c = 34
        · subst h34
          have HN34 : Hd (nextB y 34 = true) := ⟨by unfold nextB; rw [e]; rfl⟩
          have HX : Hd (fl = true ∨ fl = false) := ⟨by cases fl; exact .inr rfl; exact .inl rfl⟩
          have HRV : Hd (fl = s0_1 ∧ quoB s0_0.data.toList.tail [] = some (out, l)) := ⟨by
            rcases HV.out with ⟨h1, h⟩ | ⟨h, _⟩
            · refine ⟨h1, h.symm.trans ?_⟩
              rw [e, quoB_34]
            · rw [h] at e; cases e⟩
          have HF2 := Hd.mk f2
          have hysz : y.size ≤ 140737488351232 := by omega
          have HE := Hd.mk e
          clear HV f1 f2 f3 e
          rcases HX.out with rfl | rfl
          · have HWd : Hd (token_Reader_Word.f y true ⟨#[34]⟩ = some (false, y, true)) := ⟨word_fl _ _ hysz (by decide)⟩
            go_wp2_with (first
              | (go_at_call 18; have hx := q_next34 wr y true out HS.out; (with_reducible refine hx.mono ?_); clear hx; rintro e w1 ⟨rfl, HS1⟩; rw [HN34.out])
              | (go_at_call 17; have hx := q_word w1 y true out _ _ _ _ HWd.out HS1.out; (with_reducible refine hx.mono ?_); clear hx; rintro e w2 ⟨rfl, HS2⟩)
              | (go_at_call 35; have hx := q_need w2 y true out false HS2.out; (with_reducible refine hx.mono ?_); clear hx; rintro e w3 ⟨rfl, HS3⟩; have c13 := HS3.out.cell.2; simp only [Bool.false_eq_true, if_false] at c13))
            go_ret
            have hh := HH.out
            rw [HRV.out.2, ← HRV.out.1] at hh
            injection hh with hh
            injection hh with h1 h2
            injection h2 with h2 h3
            subst h1; subst h2; subst h3
            exact ⟨rfl, HS3.out.rd, HS3.out.below, HS3.out.keep⟩
          · have HWd : Hd (token_Reader_Word.f y false ⟨#[34]⟩ = some (true, y.extract 1 y.size, false)) := ⟨word_one y l HE.out hysz⟩
            go_wp2_with (first
              | (go_at_call 18; have hx := q_next34 wr y false out HS.out; (with_reducible refine hx.mono ?_); clear hx; rintro e w1 ⟨rfl, HS1⟩; rw [HN34.out])
              | (go_at_call 17; have hx := q_word w1 y false out _ _ _ _ HWd.out HS1.out; (with_reducible refine hx.mono ?_); clear hx; rintro e w2 ⟨rfl, HS2⟩)
              | (go_at_call 35; have hx := q_need w2 (y.extract 1 y.size) false out true HS2.out; (with_reducible refine hx.mono ?_); clear hx; rintro e w3 ⟨rfl, HS3⟩; have c13 := HS3.out.cell.2; simp only [if_true] at c13)
              | (go_at_call 60; have hx := string_bld B B out w3 HS3.out.bld HS3.out.size; (with_reducible refine hx.mono ?_); clear hx; rintro e w4 ⟨rfl, hb4⟩; have HB4 := Hd.mk hb4; clear hb4))
            go_ret
            have hh := HH.out
            rw [HRV.out.2, ← HRV.out.1] at hh
            injection hh with hh
            injection hh with h1 h2
            injection h2 with h2 h3
            subst h1; subst h2; subst h3
            have k3 := HS3.out
            have k4 := HB4.out
            have e1 : y.extract 1 y.size = ⟨l.toArray⟩ := list_ext HF2.out
            refine ⟨rfl, ⟨(k4.block g k3.gB).trans ?_, k3.rd.2⟩, k3.below.trans (k4.mono HW1.out.1), ⟨Nat.le_trans k3.keep.1 k4.size, fun i hi hg hn => (k4.block i (Nat.lt_of_lt_of_le hi HW1.out.2)).trans (k3.keep.2 i hi hg hn)⟩⟩
            rw [← e1]; exact k3.rd.1
        · have HN34 : Hd (nextB y 34 = false) := ⟨by unfold nextB; rw [e]; exact beq_eq_false_iff_ne.2 (fun h => h34 (Option.some.inj h))⟩
          have HE := Hd.mk e
          have HF := Hd.mk (⟨f1, f2⟩ : _ ∧ _)
          go_upto_if 17 with (first
            | (go_at_call 18; have hx := q_next34 wr y fl out HS.out; (with_reducible refine hx.mono ?_); clear hx; rintro e w1 ⟨rfl, HS1⟩; rw [HN34.out])
            | (go_at_call 18; have hx := q_next92 w1 y fl out HS1.out; (with_reducible refine hx.mono ?_); clear hx; rintro e w2 ⟨rfl, HS2⟩; obtain ⟨b92, hb92⟩ : ∃ b, nextB y 92 = b := ⟨_, rfl⟩; rw [hb92]; have HB92 := Hd.mk hb92; clear hb92))
          have HRV : Hd (fl = s0_1 ∧ quoB s0_0.data.toList.tail [] = quoB (c :: l) out) := ⟨by
            rcases HV.out with ⟨h1, h⟩ | ⟨h, _⟩
            · exact ⟨h1, by rw [← h, HE.out]⟩
            · have := HE.out; rw [h] at this; cases this⟩
          have HY : Hd (1 ≤ y.size) := ⟨by omega⟩
          clear HV f1 f2 f3 e hem
          go_cut [] from 6 to 51 (fun wx => ∃ (y1 : ByteArray) (fl1 : Bool), Hd (y1.size ≤ y.size) ∧ Hd (QSt w0 w g B B wx y1 fl1 out) ∧ Hd (QInv (quoB s0_0.data.toList.tail []) s0_1 y1 fl1 (quoP y1.data.toList out)))
          case first =>
            by_cases h92 : c = 92
            · subst h92
              have hb : b92 = true := by rw [← HB92.out]; unfold nextB; rw [HE.out]; rfl
              subst hb
              have HYE : Hd ((y.extract 1 y.size).data.toList = l ∧ (y.extract 1 y.size).size ≤ y.size) := ⟨HF.out.2, by rw [ByteArray.size_extract]; omega⟩
              obtain ⟨y1, hy1⟩ : ∃ y1, y.extract 1 y.size = y1 := ⟨_, rfl⟩
              have HTK : Hd (∀ W, QSt w0 w g B B W y fl out → Calls Tryd.prog 40 #[.pointer (some ⟨g, 0, none⟩), .int .i64 1] W fun e w' => e = .returned (.string (y.extract 0 1)) ∧ Hd (QSt w0 w g B B w' y1 fl out)) := ⟨fun W h => by rw [← hy1]; exact q_take W y fl out h HY.out⟩
              rw [hy1] at HYE
              clear hy1
              obtain ⟨b34, hb34⟩ : ∃ b, nextB y1 34 = b := ⟨_, rfl⟩
              cases b34 with
              | true =>
                have HB34 := Hd.mk hb34
                clear hb34
                go_wp2_with (first
                  | (go_at_call 40; have hx := HTK.out w2 HS2.out; (with_reducible refine hx.mono ?_); clear hx; rintro e w3 ⟨rfl, HS3⟩)
                  | (go_at_call 18; have hx := q_next34 w3 y1 fl out HS3.out; (with_reducible refine hx.mono ?_); clear hx; rintro e w4 ⟨rfl, HS4⟩; rw [HB34.out])
                  | (go_at_call 35; have hx := q_need w4 y1 fl out true HS4.out; (with_reducible refine hx.mono ?_); clear hx; rintro e w5 ⟨rfl, HS5⟩))
                go_meet
                have h5 := HS5.out
                exact ⟨y1, fl, ⟨HYE.out.2⟩, ⟨h5⟩, ⟨.inl ⟨HRV.out.1, by rw [HRV.out.2, ← HYE.out.1, esc_ok (.inl HB34.out)]⟩⟩⟩
              | false =>
                have HB34 := Hd.mk hb34
                clear hb34
                go_wp2_with (first
                  | (go_at_call 40; have hx := HTK.out w2 HS2.out; (with_reducible refine hx.mono ?_); clear hx; rintro e w3 ⟨rfl, HS3⟩)
                  | (go_at_call 18; have hx := q_next34 w3 y1 fl out HS3.out; (with_reducible refine hx.mono ?_); clear hx; rintro e w4 ⟨rfl, HS4⟩; rw [HB34.out])
                  | (go_at_call 18; have hx := q_next92 w4 y1 fl out HS4.out; (with_reducible refine hx.mono ?_); clear hx; rintro e w5 ⟨rfl, HS5⟩)
                  | (go_at_call 35; have hx := q_need w5 y1 fl out (nextB y1 92) HS5.out; (with_reducible refine hx.mono ?_); clear hx; rintro e w6 ⟨rfl, HS6⟩))
                go_meet
                have h6 := HS6.out
                cases hb92 : nextB y1 92 with
                | true =>
                  rw [hb92] at h6
                  exact ⟨y1, fl, ⟨HYE.out.2⟩, ⟨h6⟩, ⟨.inl ⟨HRV.out.1, by rw [HRV.out.2, ← HYE.out.1, esc_ok (.inr hb92)]⟩⟩⟩
                | false =>
                  rw [hb92] at h6
                  exact ⟨⟨#[]⟩, true, ⟨Nat.zero_le _⟩, ⟨h6⟩, ⟨.inr ⟨rfl, rfl, by rw [HRV.out.2, ← HYE.out.1, esc_bad HB34.out hb92]⟩⟩⟩
            · have hb : b92 = false := by rw [← HB92.out]; unfold nextB; rw [HE.out]; exact beq_eq_false_iff_ne.2 (fun h => h92 (Option.some.inj h))
              subst hb
              go_wp2_with fail
              go_meet
              exact ⟨y, fl, ⟨Nat.le_refl _⟩, HS2, ⟨.inl ⟨HRV.out.1, by rw [HRV.out.2, HE.out, quoB_else c l out h34 h92]⟩⟩⟩
          case rest =>
            obtain ⟨y1, fl1, HLE, HS3, HV⟩ := hcut
            clear c0 c1 HS HS1 HS2
            obtain ⟨c0, c1⟩ := HS3.out.cell
            have HYK : Hd (y.size ≤ gk ∧ out.length + y.size ≤ s0_0.size) := ⟨hyk, hyo⟩
            cases e1 : y1.data.toList with
            | nil =>
              obtain rfl := size_nil e1
              have HR : Hd (quoB s0_0.data.toList.tail [] = none) := ⟨by rcases HV.out with ⟨_, h⟩ | ⟨_, _, h⟩; exact h.symm; exact h⟩
              clear HV e1
              go_wp2_with (first
                | (go_at_call 35; have hx := q_need wc ⟨#[]⟩ fl1 out false HS3.out; (with_reducible refine hx.mono ?_); clear hx; rintro e w4 ⟨rfl, HS4⟩; have c4 := HS4.out.cell.1; simp only [Bool.false_eq_true, if_false] at c4))
              go_roundg (y.size - 1)
              case measure => have := HYK.out; have := HY.out; omega
              case rel =>
                have h4 := HS4.out
                have := HYK.out
                exact ⟨⟨#[]⟩, true, out, Nat.zero_le _, by show out.length + 0 ≤ _; omega, ⟨h4⟩, ⟨.inr ⟨rfl, rfl, HR.out⟩⟩⟩
            | cons d l1 =>
              have hem1 := isEmpty_cons e1
              obtain ⟨g1, g2, g3⟩ := first_one e1
              have HE1 := Hd.mk e1
              have HRV1 : Hd (fl1 = s0_1 ∧ quoB s0_0.data.toList.tail [] = quoP (d :: l1) out) := ⟨by
                rcases HV.out with ⟨h1, h⟩ | ⟨h, _⟩
                · exact ⟨h1, by rw [← h, HE1.out]⟩
                · have := HE1.out; rw [h] at this; cases this⟩
              have h0 : 0 < y1.size := by omega
              have hz : ((y1[0]'h0).toNat : Int) = (d.toNat : Nat) := by
                have h1 := bt_head y1 d l1 e1
                rw [← bt_at y1 0 h0] at h1
                exact h1
              have HI : Hd (∀ W, Calls Tryd.prog 55 #[.string ⟨#[13, 10]⟩, .int .u8 ((y1[0]'h0).toNat : Int)] W fun e w' => e = .returned (.int .i64 (Lib.indexByte [13, 10] d)) ∧ W = w') := ⟨fun W => q_index W _ d hz⟩
              have hid := idx_ends d
              obtain ⟨ix, hix⟩ : ∃ i, Lib.indexByte [13, 10] d = i := ⟨_, rfl⟩
              rw [hix] at HI hid
              have HG := Hd.mk (⟨g1, g2, g3⟩ : _ ∧ _ ∧ _)
              clear HV e1 g1 g2 g3 hz hix
              by_cases hcr : d = 13 ∨ d = 10
              · rw [decide_eq_true hcr] at hid
                have hid : decide (ix < 0) = false := hid
                go_wp2_with (first
                  | (go_at_call 55; have hx := HI.out wc; (with_reducible refine hx.mono ?_); clear hx; rintro e w' ⟨rfl, rfl⟩)
                  | (go_at_call 35; have hx := q_need wc y1 fl1 out false HS3.out; (with_reducible refine hx.mono ?_); clear hx; rintro e w4 ⟨rfl, HS4⟩; have c4 := HS4.out.cell.1; simp only [Bool.false_eq_true, if_false] at c4))
                go_roundg (y.size - 1)
                case measure => have := HYK.out; have := HY.out; omega
                case rel =>
                  have h4 := HS4.out
                  have := HYK.out
                  exact ⟨⟨#[]⟩, true, out, Nat.zero_le _, by show out.length + 0 ≤ _; omega, ⟨h4⟩, ⟨.inr ⟨rfl, rfl, by rw [HRV1.out.2]; exact if_pos hcr⟩⟩⟩
              · rw [decide_eq_false hcr] at hid
                have hid : decide (ix < 0) = true := hid
                have HTK : Hd (∀ W, QSt w0 w g B B W y1 fl1 out → Calls Tryd.prog 40 #[.pointer (some ⟨g, 0, none⟩), .int .i64 1] W fun e w' => e = .returned (.string ⟨#[d]⟩) ∧ Hd (QSt w0 w g B B w' (y1.extract 1 y1.size) fl1 out)) := ⟨fun W h => by rw [← HG.out.1]; exact q_take W y1 fl1 out h h0⟩
                have hsl : out.length + 1 ≤ 140737488355328 := by have := HLE.out; omega
                go_wp2_with (first
                  | (go_at_call 55; have hx := HI.out wc; (with_reducible refine hx.mono ?_); clear hx; rintro e w' ⟨rfl, rfl⟩)
                  | (go_at_call 35; have hx := q_need wc y1 fl1 out true HS3.out; (with_reducible refine hx.mono ?_); clear hx; rintro e w4 ⟨rfl, HS4⟩; have c4 := HS4.out.cell.1; simp only [if_true] at c4)
                  | (go_at_call 40; have hx := HTK.out w4 HS4.out; (with_reducible refine hx.mono ?_); clear hx; rintro e w5 ⟨rfl, HS5⟩)
                  | (go_at_call 59; have hx := q_write w5 (y1.extract 1 y1.size) fl1 out ⟨#[d]⟩ HS5.out HW1.out.1 HW1.out.2 hsl; (with_reducible refine hx.mono ?_); clear hx; rintro e w6 ⟨rfl, HS6⟩))
                go_roundg (y.size - 1)
                case measure => have := HYK.out; have := HY.out; omega
                case rel =>
                  have h6 := HS6.out
                  have := HYK.out
                  have := HLE.out
                  have hsz : (y1.extract 1 y1.size).size = l1.length := by have := HG.out.2.2; rw [ByteArray.size_extract]; omega
                  have hl2 := HG.out.2.2
                  exact ⟨y1.extract 1 y1.size, fl1, out ++ [d], by omega, by rw [List.length_append, hsz]; simp; omega, ⟨h6⟩, ⟨.inl ⟨HRV1.out.1, by rw [HRV1.out.2, HG.out.2.1]; exact (if_neg hcr).symm⟩⟩⟩
  · cases h
end Go.Proofs.YtphaemaccdddfaaDoor.PTk

/- Package token: what the print leaves to be proved by hand, in its forms: Upper, Atom, Number. No condition but those that each contract bears. -/
import Derived.Test.YtphaemaccdddfaaDoorTkW
import Derived.Test.YtphaemaccdddfaaDoorNum
set_option linter.unusedVariables false
set_option linter.unusedSimpArgs false
namespace Go.Proofs.YtphaemaccdddfaaDoor.PTk
open Go.RowKit Go.Shelf Go.Proofs.YtphaemaccdddfaaDoorW.PrintWords Go.Proofs.YtphaemaccdddfaaDoorW.PrintLast Go.Proofs.YtphaemaccdddfaaDoorW.PrintMore
def token_Upper.f (s : ByteArray) : Option ByteArray := if s.size ≤ 140737488351232 then some (upS s) else none
theorem token_Upper.calls (a0 : ByteArray) (r : ByteArray) (w : World) (h : token_Upper.f a0 = some r) :
    Calls Tryd.prog 30 #[.string a0] w fun e w' => e = .returned (.string r) ∧ Below w.heap.size w w' := by
  unfold token_Upper.f at h
  split at h
  · next hs =>
    obtain rfl := Option.some.inj h
    exact upper_any a0 w hs
  · cases h
def special : List UInt8 := [40, 41, 123, 37, 42, 34, 92, 93]
def atomB (c : UInt8) : Bool := decide (33 ≤ c.toNat) && (decide (c.toNat ≤ 126) && decide (Lib.indexByte special c < 0))
theorem atomic_any (c : UInt8) (W : World) : Calls Tryd.prog 34 #[.int .u8 (c.toNat : Nat)] W fun e w' => e = .returned (.bool (atomB c)) ∧ ∃ k, w' = W.drewN k := by
  have hx := Tryd.strings_IndexByte ⟨#[40, 41, 123, 37, 42, 34, 92, 93]⟩ (c.toNat : Nat) W
  rw [Int.toNat_natCast, show Nat.toUInt8 c.toNat = c from UInt8.ofNat_toNat] at hx
  have hu : atomB c = (decide (33 ≤ c.toNat) && (decide (c.toNat ≤ 126) && decide (Lib.indexByte special c < 0))) := rfl
  have HU := Hd.mk hu
  obtain ⟨i, hi⟩ : ∃ i, Lib.indexByte (⟨#[40, 41, 123, 37, 42, 34, 92, 93]⟩ : ByteArray).data.toList c = i := ⟨_, rfl⟩
  rw [hi] at hx
  have HI : Hd (Lib.indexByte special c = i) := ⟨hi⟩
  have HX := Hd.mk hx
  have hr := Hd.mk (Hd.mk hu)
  obtain ⟨n, hn⟩ : ∃ n : Nat, c.toNat = n := ⟨_, rfl⟩
  have hn8 : n < 256 := by rw [← hn]; exact c.toNat_lt
  rw [hn] at HX HU ⊢
  clear hx hu hi hn
  by_cases h1 : (33 : Int) ≤ n
  · by_cases h2 : (n : Int) ≤ 126
    · have HE : Hd (atomB c = decide (i < 0)) := ⟨by rw [HU.out, HI.out, decide_eq_true (show 33 ≤ n by omega), decide_eq_true (show n ≤ 126 by omega)]; rfl⟩
      go_enter Tryd.func34, Tryd.ntmps34
      go_wp2_with (go_at_call 55; have hx := HX.out; (with_reducible refine hx.mono ?_); clear hx; rintro e w' ⟨rfl, rfl⟩)
      go_ret
      rw [HE.out]
      exact ⟨rfl, 0, rfl⟩
    · have HE : Hd (atomB c = false) := ⟨by rw [HU.out]; simp; omega⟩
      go_enter Tryd.func34, Tryd.ntmps34
      go_wp2_with fail
      go_ret
      rw [HE.out]
      exact ⟨rfl, 0, rfl⟩
  · have HE : Hd (atomB c = false) := ⟨by rw [HU.out, decide_eq_false (show ¬ 33 ≤ n by omega)]; rfl⟩
    go_enter Tryd.func34, Tryd.ntmps34
    go_wp2_with fail
    go_ret
    rw [HE.out]
    exact ⟨rfl, 0, rfl⟩
def digB (c : UInt8) : Bool := decide (48 ≤ c.toNat) && decide (c.toNat ≤ 57)
theorem digital_any (c : UInt8) (W : World) : Calls Tryd.prog 36 #[.int .u8 (c.toNat : Nat)] W fun e w' => e = .returned (.bool (digB c)) ∧ ∃ k, w' = W.drewN k := by
  have HU : Hd (digB c = (decide (48 ≤ c.toNat) && decide (c.toNat ≤ 57))) := ⟨rfl⟩
  obtain ⟨n, hn⟩ : ∃ n : Nat, c.toNat = n := ⟨_, rfl⟩
  have hn8 : n < 256 := by rw [← hn]; exact c.toNat_lt
  rw [hn] at HU ⊢
  clear hn
  by_cases h1 : (48 : Int) ≤ n
  · by_cases h2 : (n : Int) ≤ 57
    · have HE : Hd (digB c = true) := ⟨by rw [HU.out]; simp; omega⟩
      go_enter Tryd.func36, Tryd.ntmps36
      go_wp2_with fail
      go_ret
      rw [HE.out]
      exact ⟨rfl, 0, rfl⟩
    · have HE : Hd (digB c = false) := ⟨by rw [HU.out]; simp; omega⟩
      go_enter Tryd.func36, Tryd.ntmps36
      go_wp2_with fail
      go_ret
      rw [HE.out]
      exact ⟨rfl, 0, rfl⟩
  · have HE : Hd (digB c = false) := ⟨by rw [HU.out]; simp; omega⟩
    go_enter Tryd.func36, Tryd.ntmps36
    go_wp2_with fail
    go_ret
    rw [HE.out]
    exact ⟨rfl, 0, rfl⟩
theorem enter_atomic (args : Array Value) (w : World) : (callFunc 34 args).run Tryd.prog w = .ok (.enter 34 args) w := by kernel_rfl
theorem enter_digital (args : Array Value) (w : World) : (callFunc 36 args).run Tryd.prog w = .ok (.enter 36 args) w := by kernel_rfl
/-- An atom's length; a number's. -/
def alen (s : ByteArray) : Nat := wlen atomB s.data.toList
def dlen (s : ByteArray) : Nat := wlen digB s.data.toList
theorem wlen_size (P : UInt8 → Bool) (s : ByteArray) : wlen P s.data.toList ≤ s.size := by
  have h := wlen_le P s.data.toList
  have h2 : s.data.toList.length = s.size := by simp
  omega
theorem drewN_drewN (w : World) (a b : Nat) : (w.drewN a).drewN b = w.drewN (a + b) := World.drewN_drewN w a b
theorem while_atomic (g : Nat) (s : ByteArray) (fl : Bool) (w0 w : World) (hI : IsS54 w0 w g s fl) (hB : Below w0.heap.size w0 w) (hs : s.size ≤ 140737488351232) :
    Calls Tryd.prog 33 #[.pointer (some ⟨g, 0, none⟩), .func (.func 34) #[] #[]] w fun e w' => e = .returned (.string (s.extract 0 (alen s))) ∧ IsS54 w0 w' g (s.extract (alen s) s.size) fl ∧ Below w0.heap.size w0 w' ∧ KeepBut w w' g none :=
  while_any atomB _ #[] g s fl w0 w hI hB hs enter_atomic (fun c m => (atomic_any c _).mono fun _ _ ⟨h, k, hk⟩ => ⟨h, m + k, by rw [hk, drewN_drewN]⟩)
theorem while_digital (g : Nat) (s : ByteArray) (fl : Bool) (w0 w : World) (hI : IsS54 w0 w g s fl) (hB : Below w0.heap.size w0 w) (hs : s.size ≤ 140737488351232) :
    Calls Tryd.prog 33 #[.pointer (some ⟨g, 0, none⟩), .func (.func 36) #[] #[]] w fun e w' => e = .returned (.string (s.extract 0 (dlen s))) ∧ IsS54 w0 w' g (s.extract (dlen s) s.size) fl ∧ Below w0.heap.size w0 w' ∧ KeepBut w w' g none :=
  while_any digB _ #[] g s fl w0 w hI hB hs enter_digital (fun c m => (digital_any c _).mono fun _ _ ⟨h, k, hk⟩ => ⟨h, m + k, by rw [hk, drewN_drewN]⟩)
/-! ### Atom -/
def token_Reader_Atom.f (s : ByteArray) (fl : Bool) : Option (ByteArray × ByteArray × Bool) :=
  if s.size ≤ 140737488351232 then (if alen s = 0 then some (⟨#[]⟩, ⟨#[]⟩, true) else some (s.extract 0 (alen s), s.extract (alen s) s.size, fl)) else none
theorem extract_empty (s : ByteArray) (n : Nat) (hn : n ≤ s.size) : (!(s.extract 0 n).toList.isEmpty) = decide (n ≠ 0) := by
  have h1 : (s.extract 0 n).toList.length = n := by rw [ByteArray.toList_eq, Array.length_toList]; show (s.extract 0 n).size = n; rw [ByteArray.size_extract]; omega
  by_cases h : n = 0
  · subst h
    rw [List.length_eq_zero_iff.1 h1]; rfl
  · rw [decide_eq_true h]
    cases e : (s.extract 0 n).toList with
    | nil => rw [e] at h1; exact absurd h1.symm h
    | cons a l => rfl
set_option maxHeartbeats 1000000 in
theorem token_Reader_Atom.calls (g : Nat) (s0_0 : ByteArray) (s0_1 : Bool) (r1 : ByteArray) (r2 : ByteArray) (r3 : Bool) (w0 w : World) (hI : IsS54 w0 w g s0_0 s0_1) (hB : Below w0.heap.size w0 w) (h : token_Reader_Atom.f s0_0 s0_1 = some (r1, r2, r3)) :
    Calls Tryd.prog 13 #[.pointer (some ⟨g, 0, none⟩)] w fun e w' => e = .returned (.string r1) ∧ IsS54 w0 w' g r2 r3 ∧ Below w0.heap.size w0 w' ∧ KeepBut w w' g none := by
  unfold token_Reader_Atom.f at h
  split at h
  · next hs =>
    have hle := wlen_size atomB s0_0
    have hbe := extract_empty s0_0 (alen s0_0) hle
    have HW := Hd.mk (while_atomic g s0_0 s0_1 w0 w hI hB hs)
    have hz : alen s0_0 = 0 → s0_0.extract 0 (alen s0_0) = ⟨#[]⟩ := fun e => by
      apply ByteArray.ext
      rw [e]
      simp
    obtain ⟨x, hx⟩ : ∃ x, s0_0.extract 0 (alen s0_0) = x := ⟨_, rfl⟩
    obtain ⟨y, hy⟩ : ∃ y, s0_0.extract (alen s0_0) s0_0.size = y := ⟨_, rfl⟩
    rw [hx] at hbe HW h hz
    rw [hy] at HW h
    clear hx hy hle
    have HN : Hd (∀ (b : Bool) (w1 : World), IsS54 w0 w1 g y s0_1 → Below w0.heap.size w0 w1 → Calls Tryd.prog 35 #[.pointer (some ⟨g, 0, none⟩), .bool b] w1 fun e w' => e = .returned (.tuple #[]) ∧ IsS54 w0 w' g (if b then y else ⟨#[]⟩) (if b then s0_1 else true) ∧ Below w0.heap.size w0 w' ∧ KeepBut w1 w' g none) := ⟨fun b w1 h1 h2 =>
      token_Reader_need.calls g y s0_1 b _ _ w0 w1 h1 h2 (by cases b <;> rfl)⟩
    have HH := Hd.mk h
    have HZ := Hd.mk hz
    have HBE := Hd.mk hbe
    clear h hbe hz
    go_enter Tryd.func13, Tryd.ntmps13
    go_wp2_with (first
      | (go_at_call 33; have hx := HW.out; (with_reducible refine hx.mono ?_); clear hx; rintro e w1 ⟨rfl, hR⟩; have HR := Hd.mk hR; clear hR)
      | (go_at_call 35; have hx := HN.out (!x.toList.isEmpty) w1 HR.out.1 HR.out.2.1; (with_reducible refine hx.mono ?_); clear hx; rintro e w2 ⟨rfl, hR⟩; have HR2 := Hd.mk hR; clear hR))
    go_ret
    obtain ⟨k1, k2, k3⟩ := HR2.out
    have k4 := HR.out.2.2.trans k3 (.inl rfl)
    have hb := HBE.out
    have hh := HH.out
    rw [hb] at k1
    clear hb
    by_cases h0 : alen s0_0 = 0
    · rw [if_pos h0] at hh
      rw [decide_eq_false (fun e => e h0)] at k1
      injection hh with hh
      injection hh with h1 h2
      injection h2 with h2 h3
      subst h1; subst h2; subst h3
      have hz := HZ.out h0
      subst hz
      exact ⟨rfl, k1, k2, k4⟩
    · rw [if_neg h0] at hh
      rw [decide_eq_true h0] at k1
      injection hh with hh
      injection hh with h1 h2
      injection h2 with h2 h3
      subst h1; subst h2; subst h3
      exact ⟨rfl, k1, k2, k4⟩
  · cases h
/-! ### Number -/
/-- The number that a text spells, as it would be written. -/
def numOf (s : ByteArray) : Option Nat := match Lib.parseUintB 32 s.data.toList with
  | .ok u => if Lib.decDigits u = s.data.toList then some u else none
  | _ => none
def token_Reader_Number.f (s : ByteArray) (fl : Bool) : Option (Int × ByteArray × Bool) :=
  if s.size ≤ 140737488351232 then (match numOf (s.extract 0 (dlen s)) with | some u => some ((u : Int), s.extract (dlen s) s.size, fl) | none => some (0, ⟨#[]⟩, true)) else none
set_option maxHeartbeats 1000000 in
theorem token_Reader_Number.calls (g : Nat) (s0_0 : ByteArray) (s0_1 : Bool) (r1 : Int) (r2 : ByteArray) (r3 : Bool) (w0 w : World) (hG : GlobOk w0) (hI : IsS54 w0 w g s0_0 s0_1) (hB : Below w0.heap.size w0 w) (h : token_Reader_Number.f s0_0 s0_1 = some (r1, r2, r3)) :
    Calls Tryd.prog 14 #[.pointer (some ⟨g, 0, none⟩)] w fun e w' => e = .returned (.int .u32 r1) ∧ IsS54 w0 w' g r2 r3 ∧ Below w0.heap.size w0 w' ∧ KeepBut w w' g none := by
  unfold token_Reader_Number.f at h
  split at h
  · next hs =>
    have hle := wlen_size digB s0_0
    have HW := Hd.mk (while_digital g s0_0 s0_1 w0 w hI hB hs)
    have hxs : (s0_0.extract 0 (dlen s0_0)).size ≤ 140737488351232 := by rw [ByteArray.size_extract]; omega
    obtain ⟨x, hx⟩ : ∃ x, s0_0.extract 0 (dlen s0_0) = x := ⟨_, rfl⟩
    obtain ⟨y, hy⟩ : ∃ y, s0_0.extract (dlen s0_0) s0_0.size = y := ⟨_, rfl⟩
    rw [hx] at HW h hxs
    rw [hy] at HW h
    clear hx hy hle
    have HG : Hd (∀ W, Below w0.heap.size w0 W → GlobOk W) := ⟨fun W hW => hG.on hW⟩
    have HF : Hd (∀ (w1 : World), IsS54 w0 w1 g y s0_1 → Below w0.heap.size w0 w1 → Calls Tryd.prog 9 #[.pointer (some ⟨g, 0, none⟩)] w1 fun e w' => e = .returned (.tuple #[]) ∧ IsS54 w0 w' g ⟨#[]⟩ true ∧ Below w0.heap.size w0 w' ∧ KeepBut w1 w' g none) := ⟨fun w1 h1 h2 =>
      token_Reader_Fail.calls g y s0_1 _ _ w0 w1 h1 h2 rfl⟩
    have HS : Hd (w0.heap.size ≤ w.heap.size) := ⟨hB.size⟩
    clear hG hI hB
    have up : ∀ {w1 w2 : World}, IsS54 w0 w1 g y s0_1 ∧ Below w0.heap.size w0 w1 ∧ KeepBut w w1 g none → Below w1.heap.size w1 w2 → IsS54 w0 w2 g y s0_1 ∧ Below w0.heap.size w0 w2 ∧ KeepBut w w2 g none := fun {w1 w2} k hb =>
      ⟨k.1.below hb, k.2.1.trans (hb.mono k.2.1.size), k.2.2.trans (KeepBut.of_below hb g none) (.inl rfl)⟩
    have UP := Hd.mk @up
    clear up
    cases hp : Lib.parseUintB 32 x.data.toList
    case ok u =>
      have hu : u < 4294967296 := by have := Lib.parseUintB_le hp; omega
      have hw : IntKind.u32.wrap (u : Int) = u := by rw [IntKind.wrap_u32]; omega
      have HU : Hd (∀ w1, _) := Hd.mk (fun w1 => Tryd.strconv_ParseUint_10_at32_ok x (by omega) u hp w1)
      have HFU : Hd (∀ W : World, GlobOk W → Calls Tryd.prog 38 #[.int .u64 u, .int .i64 10] W fun e w' => e = .returned (.string ⟨(Lib.decDigits u).toArray⟩) ∧ Hd (Below W.heap.size W w')) := ⟨fun W hb => formatUint_any u (by omega) W hb⟩
      have HE := Hd.mk (show numOf x = if Lib.decDigits u = x.data.toList then some u else none by unfold numOf; rw [hp])
      clear hp
      by_cases hd : Lib.decDigits u = x.data.toList
      · have hb : ((⟨(Lib.decDigits u).toArray⟩ : ByteArray).toList == x.toList) = true := by rw [hd]; simp
        have hb2 : ((⟨(Lib.decDigits u).toArray⟩ : ByteArray).toList != x.toList) = false := by rw [hd]; simp
        rw [HE.out, if_pos hd] at h
        have HH := Hd.mk h
        clear h
        obtain ⟨d, hd2⟩ : ∃ d : ByteArray, ⟨(Lib.decDigits u).toArray⟩ = d := ⟨_, rfl⟩
        rw [hd2] at hb hb2 HFU
        clear hd hd2
        go_enter Tryd.func14, Tryd.ntmps14
        go_wp2_with (first
          | (go_at_call 33; have hx := HW.out; (with_reducible refine hx.mono ?_); clear hx; rintro e w1 ⟨rfl, hR⟩; have HR := Hd.mk hR; clear hR)
          | (go_at_call 37; have hx := HU.out w1; (with_reducible refine hx.mono ?_); clear hx; rintro e w2 ⟨rfl, h1⟩; have HR2 := Hd.mk (UP.out HR.out (by rcases h1 with rfl | rfl; exact Below.refl _ _; exact Lib.bytesWorld_below _ _ _)); clear h1)
          | (go_at_call 38; have hx := HFU.out w2 (HG.out w2 HR2.out.2.1); (with_reducible refine hx.mono ?_); clear hx; rintro e w3 ⟨rfl, B3⟩; have HR3 := Hd.mk (UP.out HR2.out B3.out); clear B3))
        go_ret
        have hh := HH.out
        injection hh with hh
        injection hh with h1 h2
        injection h2 with h2 h3
        subst h1; subst h2; subst h3
        exact ⟨rfl, HR3.out⟩
      · have hb : ((⟨(Lib.decDigits u).toArray⟩ : ByteArray).toList == x.toList) = false := by rw [ByteArray.toList_eq, ByteArray.toList_eq]; exact beq_eq_false_iff_ne.2 hd
        have hb2 : ((⟨(Lib.decDigits u).toArray⟩ : ByteArray).toList != x.toList) = true := by rw [ByteArray.toList_eq, ByteArray.toList_eq]; exact bne_iff_ne.2 hd
        rw [HE.out, if_neg hd] at h
        have HH := Hd.mk h
        clear h
        obtain ⟨d, hd2⟩ : ∃ d : ByteArray, ⟨(Lib.decDigits u).toArray⟩ = d := ⟨_, rfl⟩
        rw [hd2] at hb hb2 HFU
        clear hd hd2
        go_enter Tryd.func14, Tryd.ntmps14
        go_wp2_with (first
          | (go_at_call 33; have hx := HW.out; (with_reducible refine hx.mono ?_); clear hx; rintro e w1 ⟨rfl, hR⟩; have HR := Hd.mk hR; clear hR)
          | (go_at_call 37; have hx := HU.out w1; (with_reducible refine hx.mono ?_); clear hx; rintro e w2 ⟨rfl, h1⟩; have HR2 := Hd.mk (UP.out HR.out (by rcases h1 with rfl | rfl; exact Below.refl _ _; exact Lib.bytesWorld_below _ _ _)); clear h1)
          | (go_at_call 38; have hx := HFU.out w2 (HG.out w2 HR2.out.2.1); (with_reducible refine hx.mono ?_); clear hx; rintro e w3 ⟨rfl, B3⟩; have HR3 := Hd.mk (UP.out HR2.out B3.out); clear B3)
          | (go_at_call 9; have hx := HF.out w3 HR3.out.1 HR3.out.2.1; (with_reducible refine hx.mono ?_); clear hx; rintro e w4 ⟨rfl, hF3⟩; have HF3 := Hd.mk hF3; clear hF3))
        go_ret
        have hh := HH.out
        injection hh with hh
        injection hh with h1 h2
        injection h2 with h2 h3
        subst h1; subst h2; subst h3
        exact ⟨rfl, HF3.out.1, HF3.out.2.1, HR3.out.2.2.trans HF3.out.2.2 (.inl rfl)⟩
    case range =>
      have HU : Hd (∀ w1, GlobOk w1 → Calls Tryd.prog 37 #[.string x, .int .i64 10, .int .i64 32] w1 fun e w' => ∃ nb, e = .returned (.tuple #[.int .u64 4294967295, .iface 90 (.pointer (some ⟨nb, 0, none⟩))]) ∧ Below w1.heap.size w1 w') := ⟨fun w1 hg => by
        obtain ⟨tp, p, hv⟩ := hg.errR
        exact (Tryd.strconv_ParseUint_10_at32_range_var x (by omega) hp tp p w1 hv).mono fun _ _ ⟨nb, h1, _, _, h4⟩ => ⟨nb, h1, h4⟩⟩
      rw [show numOf x = none by unfold numOf; rw [hp]] at h
      have HH := Hd.mk h
      clear hp h
      go_enter Tryd.func14, Tryd.ntmps14
      go_wp2_with (first
        | (go_at_call 33; have hx := HW.out; (with_reducible refine hx.mono ?_); clear hx; rintro e w1 ⟨rfl, hR⟩; have HR := Hd.mk hR; clear hR)
        | (go_at_call 37; have hx := HU.out w1 (HG.out w1 HR.out.2.1); (with_reducible refine hx.mono ?_); clear hx; rintro e w2 ⟨nb, rfl, h1⟩; have HR2 := Hd.mk (UP.out HR.out h1); clear h1)
        | (go_at_call 9; have hx := HF.out w2 HR2.out.1 HR2.out.2.1; (with_reducible refine hx.mono ?_); clear hx; rintro e w4 ⟨rfl, hF3⟩; have HF3 := Hd.mk hF3; clear hF3))
      go_ret
      have hh := HH.out
      injection hh with hh
      injection hh with h1 h2
      injection h2 with h2 h3
      subst h1; subst h2; subst h3
      exact ⟨rfl, HF3.out.1, HF3.out.2.1, HR2.out.2.2.trans HF3.out.2.2 (.inl rfl)⟩
    case _ =>
      have HU : Hd (∀ w1, GlobOk w1 → Calls Tryd.prog 37 #[.string x, .int .i64 10, .int .i64 32] w1 fun e w' => ∃ nb, e = .returned (.tuple #[.int .u64 0, .iface 90 (.pointer (some ⟨nb, 0, none⟩))]) ∧ Below w1.heap.size w1 w') := ⟨fun w1 hg => by
        obtain ⟨tp, p, hv⟩ := hg.errS
        exact (Any.strconv_ParseUint_10_at32_syntax_var Tryd.laysPu14 x (by omega) hp tp p w1 hv).mono fun _ _ ⟨nb, h1, _, _, h4⟩ => ⟨nb, h1, h4⟩⟩
      rw [show numOf x = none by unfold numOf; rw [hp]] at h
      have HH := Hd.mk h
      clear hp h
      go_enter Tryd.func14, Tryd.ntmps14
      go_wp2_with (first
        | (go_at_call 33; have hx := HW.out; (with_reducible refine hx.mono ?_); clear hx; rintro e w1 ⟨rfl, hR⟩; have HR := Hd.mk hR; clear hR)
        | (go_at_call 37; have hx := HU.out w1 (HG.out w1 HR.out.2.1); (with_reducible refine hx.mono ?_); clear hx; rintro e w2 ⟨nb, rfl, h1⟩; have HR2 := Hd.mk (UP.out HR.out h1); clear h1)
        | (go_at_call 9; have hx := HF.out w2 HR2.out.1 HR2.out.2.1; (with_reducible refine hx.mono ?_); clear hx; rintro e w4 ⟨rfl, hF3⟩; have HF3 := Hd.mk hF3; clear hF3))
      go_ret
      have hh := HH.out
      injection hh with hh
      injection hh with h1 h2
      injection h2 with h2 h3
      subst h1; subst h2; subst h3
      exact ⟨rfl, HF3.out.1, HF3.out.2.1, HR2.out.2.2.trans HF3.out.2.2 (.inl rfl)⟩
  · cases h
end Go.Proofs.YtphaemaccdddfaaDoor.PTk

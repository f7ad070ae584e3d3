/- Package token: Word, in the print's form. No condition but those that each contract bears. -/
import Derived.Test.YtphaemaccdddfaaDoorTkHand
set_option linter.unusedVariables false
set_option linter.unusedSimpArgs false
namespace Go.Proofs.YtphaemaccdddfaaDoor.PTk
open Go.RowKit Go.Shelf Go.Proofs.YtphaemaccdddfaaDoorW.PrintWords Go.Proofs.YtphaemaccdddfaaDoorW.PrintLast Go.Proofs.YtphaemaccdddfaaDoorW.PrintMore
def token_Reader_Word.f (s : ByteArray) (fl : Bool) (a : ByteArray) : Option (Bool × ByteArray × Bool) :=
  if s.size ≤ 140737488351232 ∧ a.size ≤ 140737488351232 then
    (if fl = true then some (false, s, fl) else if s.size < a.size then some (false, s, fl) else if upS (s.extract 0 a.size) = upS a then some (true, s.extract a.size s.size, fl) else some (false, s, fl))
  else none
set_option maxHeartbeats 1000000 in
theorem token_Reader_Word.calls (g : Nat) (s0_0 : ByteArray) (s0_1 : Bool) (a1 : ByteArray) (r1 : Bool) (r2 : ByteArray) (r3 : Bool) (w0 w : World) (hI : IsS54 w0 w g s0_0 s0_1) (hB : Below w0.heap.size w0 w) (h : token_Reader_Word.f s0_0 s0_1 a1 = some (r1, r2, r3)) :
    Calls Tryd.prog 17 #[.pointer (some ⟨g, 0, none⟩), .string a1] w fun e w' => e = .returned (.bool r1) ∧ IsS54 w0 w' g r2 r3 ∧ Below w0.heap.size w0 w' ∧ KeepBut w w' g none := by
  unfold token_Reader_Word.f at h
  split at h
  · next hs =>
    obtain ⟨hs1, hs2⟩ := hs
    obtain ⟨hb, hg⟩ := hI
    have c0 := cellS54_0 hb
    have c1 := cellS54_1 hb
    have H0 : Hd (IsS54 w0 w g s0_0 s0_1 ∧ Below w0.heap.size w0 w ∧ KeepBut w w g none) := ⟨⟨hb, hg⟩, hB, KeepBut.refl _ _ _⟩
    have up : ∀ {y : ByteArray} {fl : Bool} {w1 w2 : World}, IsS54 w0 w1 g y fl ∧ Below w0.heap.size w0 w1 ∧ KeepBut w w1 g none → Below w1.heap.size w1 w2 → IsS54 w0 w2 g y fl ∧ Below w0.heap.size w0 w2 ∧ KeepBut w w2 g none := fun {y fl w1 w2} k hb =>
      ⟨k.1.below hb, k.2.1.trans (hb.mono k.2.1.size), k.2.2.trans (KeepBut.of_below hb g none) (.inl rfl)⟩
    have UP := Hd.mk @up
    clear up hb hB
    cases s0_1 with
    | true =>
      have HH := Hd.mk h
      clear h
      go_enter Tryd.func17, Tryd.ntmps17
      go_wp2_with fail
      go_ret
      have hh := HH.out
      injection hh with hh
      injection hh with h1 h2
      injection h2 with h2 h3
      subst h1; subst h2; subst h3
      exact ⟨rfl, H0.out⟩
    | false =>
      rw [if_neg (by decide)] at h
      by_cases hlt : s0_0.size < a1.size
      · rw [if_pos hlt] at h
        have HH := Hd.mk h
        clear h
        go_enter Tryd.func17, Tryd.ntmps17
        go_wp2_with fail
        go_ret
        have hh := HH.out
        injection hh with hh
        injection hh with h1 h2
        injection h2 with h2 h3
        subst h1; subst h2; subst h3
        exact ⟨rfl, H0.out⟩
      · rw [if_neg hlt] at h
        have hxs : (s0_0.extract 0 a1.size).size ≤ 140737488351232 := by rw [ByteArray.size_extract]; omega
        have HU1 : Hd (∀ W, _) := Hd.mk (fun W => upper_any (s0_0.extract 0 a1.size) W hxs)
        have HU2 : Hd (∀ W, _) := Hd.mk (fun W => upper_any a1 W hs2)
        have HT : Hd (∀ (w1 : World), IsS54 w0 w1 g s0_0 false → Below w0.heap.size w0 w1 → Calls Tryd.prog 40 #[.pointer (some ⟨g, 0, none⟩), .int .i64 (a1.size : Nat)] w1 fun e w' => e = .returned (.string (s0_0.extract 0 a1.size)) ∧ IsS54 w0 w' g (s0_0.extract a1.size s0_0.size) false ∧ Below w0.heap.size w0 w' ∧ KeepBut w1 w' g none) := ⟨fun w1 h1 h2 =>
          token_Reader_take.calls g s0_0 false (a1.size : Nat) _ _ _ w0 w1 h1 h2 (by unfold token_Reader_take.f; rw [if_pos (by omega), if_pos (by omega), Int.toNat_natCast])⟩
        by_cases he : upS (s0_0.extract 0 a1.size) = upS a1
        · rw [if_pos he] at h
          rw [he] at HU1
          have HH := Hd.mk h
          obtain ⟨U, hU⟩ : ∃ U, upS a1 = U := ⟨_, rfl⟩
          rw [hU] at HU1 HU2
          clear h he hU hxs
          go_enter Tryd.func17, Tryd.ntmps17
          go_wp2_with (first
            | (go_at_call 30; have hx := HU1.out w; (with_reducible refine hx.mono ?_); clear hx; rintro e w1 ⟨rfl, h1⟩; have HR1 := Hd.mk (UP.out H0.out h1); clear h1)
            | (go_at_call 30; have hx := HU2.out w1; (with_reducible refine hx.mono ?_); clear hx; rintro e w2 ⟨rfl, h1⟩; have HR2 := Hd.mk (UP.out HR1.out h1); clear h1)
            | (go_at_call 40; have hx := HT.out w2 HR2.out.1 HR2.out.2.1; (with_reducible refine hx.mono ?_); clear hx; rintro e w3 ⟨rfl, h1⟩; have HR3 := Hd.mk h1; clear h1))
          go_ret
          have hh := HH.out
          injection hh with hh
          injection hh with h1 h2
          injection h2 with h2 h3
          subst h1; subst h2; subst h3
          exact ⟨rfl, HR3.out.1, HR3.out.2.1, HR2.out.2.2.trans HR3.out.2.2 (.inl rfl)⟩
        · rw [if_neg he] at h
          have HH := Hd.mk h
          obtain ⟨U, hU⟩ : ∃ U, upS a1 = U := ⟨_, rfl⟩
          obtain ⟨V, hV⟩ : ∃ V, upS (s0_0.extract 0 a1.size) = V := ⟨_, rfl⟩
          rw [hU] at he HU2
          rw [hV] at he HU1
          have hb1 : (V.toList == U.toList) = false := beq_eq_false_iff_ne.2 (fun e => he (by rw [ByteArray.toList_eq, ByteArray.toList_eq] at e; exact ByteArray.ext (Array.toList_inj.1 e)))
          have hb2 : (V.toList != U.toList) = true := by unfold bne; rw [hb1]; rfl
          clear h he hU hV hxs HT
          go_enter Tryd.func17, Tryd.ntmps17
          go_wp2_with (first
            | (go_at_call 30; have hx := HU1.out w; (with_reducible refine hx.mono ?_); clear hx; rintro e w1 ⟨rfl, h1⟩; have HR1 := Hd.mk (UP.out H0.out h1); clear h1)
            | (go_at_call 30; have hx := HU2.out w1; (with_reducible refine hx.mono ?_); clear hx; rintro e w2 ⟨rfl, h1⟩; have HR2 := Hd.mk (UP.out HR1.out h1); clear h1))
          go_ret
          have hh := HH.out
          injection hh with hh
          injection hh with h1 h2
          injection h2 with h2 h3
          subst h1; subst h2; subst h3
          exact ⟨rfl, HR2.out⟩
  · cases h
end Go.Proofs.YtphaemaccdddfaaDoor.PTk

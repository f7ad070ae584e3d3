/- Package token: While. No condition but those that each contract bears. -/
import Derived.Test.YtphaemaccdddfaaDoorQTa1
import Derived.Test.YtphaemaccdddfaaDoorTkUp
set_option linter.unusedVariables false
set_option linter.unusedSimpArgs false
namespace Go.Proofs.YtphaemaccdddfaaDoor.PTk
open Go.RowKit Go.Shelf Go.Proofs.YtphaemaccdddfaaDoorW.PrintWords Go.Proofs.YtphaemaccdddfaaDoorW.PrintLast Go.Proofs.YtphaemaccdddfaaDoorW.PrintMore
def wlen (P : UInt8 → Bool) (l : List UInt8) : Nat := (l.takeWhile P).length
theorem wlen_le (P : UInt8 → Bool) (l : List UInt8) : wlen P l ≤ l.length := (List.takeWhile_prefix P).length_le
theorem wlen_cons (P : UInt8 → Bool) (c : UInt8) (l : List UInt8) : wlen P (c :: l) = if P c = true then wlen P l + 1 else 0 := by
  unfold wlen
  rw [List.takeWhile_cons]
  split <;> simp
theorem wlen_step (P : UInt8 → Bool) : ∀ (l : List UInt8) (k : Nat) (h : k < l.length), k ≤ wlen P l → P l[k] = true → k + 1 ≤ wlen P l
  | c :: l, 0, _, _, hp => by
    have hp : P c = true := hp
    rw [wlen_cons, if_pos hp]; omega
  | c :: l, k + 1, h, hk, hp => by
    rw [wlen_cons] at hk ⊢
    split at hk
    · next hc =>
      rw [if_pos hc]
      have := wlen_step P l k (by simpa using h) (by omega) (by simpa using hp)
      omega
    · omega
theorem wlen_stop (P : UInt8 → Bool) : ∀ (l : List UInt8) (k : Nat) (h : k < l.length), k ≤ wlen P l → P l[k] = false → wlen P l = k
  | c :: l, 0, _, _, hp => by
    have hp : P c = false := hp
    rw [wlen_cons, hp]; rfl
  | c :: l, k + 1, h, hk, hp => by
    rw [wlen_cons] at hk ⊢
    split at hk
    · next hc =>
      rw [if_pos hc]
      have := wlen_stop P l k (by simpa using h) (by omega) (by simpa using hp)
      omega
    · omega
theorem while_any (P : UInt8 → Bool) (fn : Nat) (cs : Array Value) (g : Nat) (s : ByteArray) (fl : Bool) (w0 w : World) (hI : IsS54 w0 w g s fl) (hB : Below w0.heap.size w0 w) (hs : s.size ≤ 140737488351232)
    (eg : ∀ args w, (callFunc fn args).run Tryd.prog w = .ok (.enter fn args) w) (hf : ∀ (c : UInt8) (m : Nat), Calls Tryd.prog fn (#[.int .u8 (c.toNat : Nat)] ++ cs) (w.drewN m) fun e w' => e = .returned (.bool (P c)) ∧ ∃ k, w' = w.drewN k) :
    Calls Tryd.prog 33 #[.pointer (some ⟨g, 0, none⟩), .func (.func fn) #[] cs] w fun e w' => e = .returned (.string (s.extract 0 (wlen P s.data.toList))) ∧ IsS54 w0 w' g (s.extract (wlen P s.data.toList) s.size) fl ∧ Below w0.heap.size w0 w' ∧ KeepBut w w' g none := by
  obtain ⟨hb, hg⟩ := hI
  have c0 := cellS54_0 hb
  have HE : Hd (∀ k, k ≤ s.size → ∀ q, Calls Tryd.prog 40 #[.pointer (some ⟨g, 0, none⟩), .int .i64 (k : Nat)] (w.drewN q) fun e w' => e = .returned (.string (s.extract 0 k)) ∧ IsS54 w0 w' g (s.extract k s.size) fl ∧ Below w0.heap.size w0 w' ∧ KeepBut w w' g none) := ⟨fun k hk q => by
    have h := token_Reader_take.calls g s fl (k : Nat) (s.extract 0 k) (s.extract k s.size) fl w0 (w.drewN q) ⟨hb, hg⟩ (pw_below_drewN hB q) (by unfold token_Reader_take.f; rw [if_pos (by omega), if_pos (by omega), Int.toNat_natCast])
    exact h.mono fun _ _ ⟨h1, h2, h3, h4⟩ => ⟨h1, h2, h3, (keep_drewN (KeepBut.refl w g none) q).trans h4 (.inl rfl)⟩⟩
  have HB := Hd.mk hb
  have HF := Hd.mk hf
  have HBB := Hd.mk hB
  clear hb hf hB
  go_enter Tryd.func33, Tryd.ntmps33
  go_wp2
  go_step3
  go_wp2
  go_step3
  go_wp2
  go_loopw [5] (fun i wr => ∃ k m : Nat, k ≤ s.size ∧ i = .int .i64 k ∧ Hd (k ≤ wlen P s.data.toList) ∧ wr = w.drewN m) (fun i _ => s.size - (intOf i).toNat)
  case atStart => exact ⟨0, 0, Nat.zero_le _, rfl, ⟨Nat.zero_le _⟩, rfl⟩
  case round =>
    obtain ⟨k, m, hk, rfl, HK, rfl⟩ := hrel
    by_cases hlt : k < s.size
    · have hlk : k < s.data.toList.length := by simpa using hlt
      have e0 : s.data.toList[k] = s[k] := rfl
      have hst := wlen_step P s.data.toList k hlk HK.out
      have hsp := wlen_stop P s.data.toList k hlk HK.out
      rw [e0] at hst hsp
      have hx := HF.out s[k] m
      have e1 : (s.extract 0 k).size = k := by rw [ByteArray.size_extract]; omega
      clear e0 e1
      by_cases hp : P s[k] = true
      · have HX := Hd.mk hx
        have HP := Hd.mk (hst hp)
        have HPE := Hd.mk hp
        clear hx hp hst hsp
        go_wp2
        refine HX.out.mono ?_
        rintro e w1 ⟨rfl, q, rfl⟩
        rw [HPE.out]
        go_wp2
        go_roundw
        case rel => exact ⟨k + 1, q, by omega, by go_num, HP, rfl⟩
        case measure => simp [intOf]; omega
      · have HX := Hd.mk hx
        replace hp := Bool.eq_false_iff.2 hp
        have HP := Hd.mk (hsp hp)
        have HPE := Hd.mk hp
        clear hx hp hst hsp
        go_wp2
        refine HX.out.mono ?_
        rintro e w1 ⟨rfl, q, rfl⟩
        rw [HPE.out]
        go_wp2_with (go_at_call 40; have hx := HE.out k hk q; (with_reducible refine hx.mono ?_); clear hx; rintro e w2 ⟨rfl, hR⟩; have HR := Hd.mk hR; clear hR)
        simp only [Exit.noGoto]
        go_ret
        rw [HP.out]
        exact ⟨by first | rfl | simp, HR.out⟩
    · obtain rfl : k = s.size := by omega
      have HP : Hd (wlen P s.data.toList = s.size) := ⟨by
        have h1 := wlen_le P s.data.toList
        have h2 := HK.out
        have h3 : s.data.toList.length = s.size := by simp
        omega⟩
      go_wp2_with (go_at_call 40; have hx := HE.out s.size hk m; (with_reducible refine hx.mono ?_); clear hx; rintro e w2 ⟨rfl, hR⟩; have HR := Hd.mk hR; clear hR)
      simp only [Exit.noGoto]
      go_ret
      rw [HP.out]
      exact ⟨by first | rfl | simp, HR.out⟩

end Go.Proofs.YtphaemaccdddfaaDoor.PTk

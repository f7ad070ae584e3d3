/- The walk of TokenQuotes: how any text is written. The premise says what package variables hold. -/
import Derived.Test.YtphaemaccdddfaaDoorTkQuo
import Derived.Test.YtphaemaccdddfaaDoorTkAwake
set_option linter.unusedVariables false
set_option linter.unusedSimpArgs false
namespace Go.Proofs.YtphaemaccdddfaaDoor.PTk
open Go.RowKit Go.Shelf Go.Proofs.YtphaemaccdddfaaDoorW.PrintWords Go.Proofs.YtphaemaccdddfaaDoorW.PrintLast Go.Proofs.YtphaemaccdddfaaDoorW.PrintMore
theorem c_quote (s : ByteArray) (hs : s.size ≤ 1000000) (w W : World) (hG : GlobOk w) (hB : Below w.heap.size w W) : Calls Tryd.prog 28 #[.string s] W fun e W' => e = .returned (.string (quoteOf s)) ∧ Hd (Below w.heap.size w W') :=
  (token_Quote.calls (s.size + 4) s (quoteOf s) W (hG.on hB) (quote_f s hs _ (by omega))).mono fun _ _ ⟨h1, h2⟩ => ⟨h1, ⟨hB.trans (h2.mono hB.size)⟩⟩
theorem c_rquote (s : ByteArray) (hs : s.size ≤ 1000000) (w W : World) (hB : Below w.heap.size w W) : Calls Tryd.prog 29 #[.string s] W fun e W' => e = .returned (.string (quoteOf s)) ∧ ∃ k, W.drewN k = W' :=
  (postchaiseref12_Quote.calls (3 * s.size + 51) s (quoteOf s) W (rquote_f s hs _ (by omega))).mono fun _ _ ⟨h1, ⟨n, h2⟩⟩ => ⟨h1, n, h2.symm⟩
theorem c_upper (s : ByteArray) (hs : s.size ≤ 1000000) (w W : World) (hB : Below w.heap.size w W) : Calls Tryd.prog 30 #[.string s] W fun e W' => e = .returned (.string (upS s)) ∧ Hd (Below w.heap.size w W') :=
  (upper_any s W (by omega)).mono fun _ _ ⟨h1, h2⟩ => ⟨h1, ⟨hB.trans (h2.mono hB.size)⟩⟩
theorem c_rupper (s : ByteArray) (hs : s.size ≤ 1000000) (w W : World) (hB : Below w.heap.size w W) : Calls Tryd.prog 31 #[.string s] W fun e W' => e = .returned (.string (upS s)) ∧ Hd (Below w.heap.size w W') :=
  (postchaiseref12_Upper.calls (s.size + 1) s (upS s) W (upper_f s hs _ (by omega))).mono fun _ _ ⟨h1, h2⟩ => ⟨h1, ⟨hB.trans (h2.mono hB.size)⟩⟩
set_option maxHeartbeats 2000000 in
theorem tokenQuotes_any (w : World) (hG : GlobOk w) (s : ByteArray) (_ : s.size ≤ 140737488351232) : Calls Tryd.prog 6 #[.string s] w fun e w' => e = .returned (.bool true) ∧ Hd (Below w.heap.size w w') := by
  have HG := Hd.mk hG
  clear hG
  by_cases hs : (s.size : Int) ≤ 3000
  · have hs2 : decide ((3000 : Int) < (s.size : Int)) = false := decide_eq_false (by omega)
    have hs3 : s.size ≤ 1000000 := by omega
    obtain ⟨Q, hQ⟩ : ∃ Q, quoteOf s = Q := ⟨_, rfl⟩
    obtain ⟨U, hU⟩ : ∃ U, upS s = U := ⟨_, rfl⟩
    have H1 := Hd.mk (fun W hB => c_quote s hs3 w W HG.out hB)
    have H2 := Hd.mk (fun W hB => c_rquote s hs3 w W hB)
    have H3 := Hd.mk (fun W hB => c_upper s hs3 w W hB)
    have H4 := Hd.mk (fun W hB => c_rupper s hs3 w W hB)
    rw [hQ] at H1 H2
    rw [hU] at H3 H4
    clear hQ hU
    go_enter Tryd.func6, Tryd.ntmps6
    go_wp2_with (first
      | (go_at_call 28; have hx := H1.out w (Below.refl _ _); (with_reducible refine hx.mono ?_); clear hx; rintro e w1 ⟨rfl, B1⟩)
      | (go_at_call 29; have hx := H2.out w1 B1.out; (with_reducible refine hx.mono ?_); clear hx; rintro e w2 ⟨rfl, n2, E2⟩; have B2 : Hd (Below w.heap.size w w2) := ⟨by rw [← E2]; exact pw_below_drewN B1.out n2⟩; clear E2)
      | (go_at_call 30; have hx := H3.out w2 B2.out; (with_reducible refine hx.mono ?_); clear hx; rintro e w3 ⟨rfl, B3⟩)
      | (go_at_call 31; have hx := H4.out w3 B3.out; (with_reducible refine hx.mono ?_); clear hx; rintro e w4 ⟨rfl, B4⟩)
      | (go_at_call 19; have hx := tk_awake w4 (HG.out.on B4.out); (with_reducible refine hx.mono ?_); clear hx; rintro e w5 ⟨rfl, B5⟩))
    go_ret
    exact ⟨rfl, ⟨B4.out.trans (B5.out.mono B4.out.size)⟩⟩
  · have hs2 : decide ((3000 : Int) < (s.size : Int)) = true := decide_eq_true (by omega)
    go_enter Tryd.func6, Tryd.ntmps6
    go_wp2_with fail
    all_goals go_ret
    all_goals exact ⟨rfl, ⟨Below.refl _ _⟩⟩
end Go.Proofs.YtphaemaccdddfaaDoor.PTk

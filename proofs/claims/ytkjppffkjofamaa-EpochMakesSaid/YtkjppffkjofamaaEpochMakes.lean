/- The law EpochMakes, walked: true for every input. No condition. -/
import Derived.Test.YtkjppffkjofamaaAwake
namespace Go.Proofs.Ytkjppffkjofamaa
open Go.RowKit Go.Shelf
theorem makes_new_no (words word r : Int) (w : World) (hc : ¬ (1 ≤ r ∧ r ≤ 8) ∨ words < 1 ∨ 8192 < words ∨ word < 0 ∨ words - r - 1 < word) :
    Calls Try.prog 18 #[.int .i64 words] w fun e w1 => ∃ pv, e = .returned pv ∧ Hd (Below w.heap.size w w1) ∧ Hd (Calls Try.prog 17 #[pv, .int .i64 word, .int .i64 r] w1 fun e w2 => e = .returned (.tuple #[.pointer none, .int .i64 11]) ∧ w1 = w2) := by
  by_cases h : words < 1 ∨ 8192 < words
  · refine (new_no words w h).mono ?_
    rintro e w' ⟨rfl, rfl⟩
    exact ⟨_, rfl, ⟨Below.refl _ _⟩, ⟨epNew_nil word r w⟩⟩
  · have hn := new_yes words.toNat w (by omega) (by omega)
    rw [show ((words.toNat : Nat) : Int) = words by omega] at hn
    refine hn.mono ?_
    rintro e w1 ⟨bm, rfl, hbm, hm, ht, hs⟩
    refine ⟨_, rfl, ⟨ht.below (Nat.le_refl _) (fun k _ => id)⟩, ⟨epNew_no _ bm word r w1 hm ?_⟩⟩
    have : ((memNew words.toNat).n : Int) = words := by show ((words.toNat : Nat) : Int) = words; omega
    rw [this]
    omega
theorem makes_words (r : Int) (w : World) (h : 1 ≤ r ∧ r ≤ 8) : Calls Try.prog 19 #[.int .i64 r] w fun e w' => e = .returned (.int .i64 (r + 1)) ∧ w = w' := by
  have := words_any r w
  rwa [show wordsOf r = r + 1 from if_pos h] at this
theorem makes_words_no (r : Int) (w : World) (h : ¬ (1 ≤ r ∧ r ≤ 8)) : Calls Try.prog 19 #[.int .i64 r] w fun e w' => e = .returned (.int .i64 0) ∧ w = w' := by
  have := words_any r w
  rwa [show wordsOf r = 0 from if_neg h] at this
theorem post_below {W w w' : World} (h : Below W.heap.size W w) (h2 : Below w.heap.size w w') : Below W.heap.size W w' := h.trans (h2.mono h.size)
set_option maxRecDepth 100000 in
set_option maxHeartbeats 2000000 in
theorem makes_no (words word r : Int) (w : World) (w1 : (Lit.int .i64 words).wf = true) (w2 : (Lit.int .i64 word).wf = true) (w3 : (Lit.int .i64 r).wf = true) (hc : ¬ (1 ≤ r ∧ r ≤ 8) ∨ words < 1 ∨ 8192 < words ∨ word < 0 ∨ words - r - 1 < word) :
    Calls Try.prog 5 #[.int .i64 words, .int .i64 word, .int .i64 r] w fun e w' => e = .returned (.bool true) ∧ Below w.heap.size w w' := by
  have HN : Hd _ := ⟨makes_new_no words word r w hc⟩
  clear w1 w2 w3
  by_cases h1 : 1 ≤ r
  · by_cases h2 : r ≤ 8
    · have HW : Hd (∀ X, _) := ⟨fun X => makes_words r X ⟨h1, h2⟩⟩
      have hr : IntKind.i64.wrap (r + 1) = r + 1 := by rw [IntKind.wrap_i64]; omega
      rcases (show words < 1 ∨ (1 ≤ words ∧ 8192 < words) ∨ (1 ≤ words ∧ words ≤ 8192 ∧ word < 0) ∨ (1 ≤ words ∧ words ≤ 8192 ∧ 0 ≤ word ∧ words - r - 1 < word) by omega) with hd | ⟨hd, he⟩ | ⟨hd, he, hf⟩ | ⟨hd, he, hf, hg⟩
      all_goals
        clear hc
        go_enter Try.func5, Try.ntmps5
        go_wp2_with (first
          | (go_at_call 18; refine HN.out.mono ?_; rintro e wa ⟨pv, rfl, HB, HE⟩)
          | (go_at_call 17; refine HE.out.mono ?_; rintro e wb ⟨rfl, rfl⟩)
          | (go_at_call 19; refine (HW.out _).mono ?_; rintro e wb ⟨rfl, rfl⟩)
          | (go_at_call 13; refine (awake_any _).mono ?_; rintro e wc ⟨rfl, hA⟩; have HA : Hd _ := ⟨hA⟩; clear hA))
        go_ret
        exact ⟨rfl, post_below HB.out HA.out⟩
    · have HW : Hd (∀ X, _) := ⟨fun X => makes_words_no r X (fun e => h2 e.2)⟩
      clear hc
      go_enter Try.func5, Try.ntmps5
      go_wp2_with (first
        | (go_at_call 18; refine HN.out.mono ?_; rintro e wa ⟨pv, rfl, HB, HE⟩)
        | (go_at_call 17; refine HE.out.mono ?_; rintro e wb ⟨rfl, rfl⟩)
        | (go_at_call 19; refine (HW.out _).mono ?_; rintro e wb ⟨rfl, rfl⟩)
        | (go_at_call 13; refine (awake_any _).mono ?_; rintro e wc ⟨rfl, hA⟩; have HA : Hd _ := ⟨hA⟩; clear hA))
      go_ret
      exact ⟨rfl, post_below HB.out HA.out⟩
  · have HW : Hd (∀ X, _) := ⟨fun X => makes_words_no r X (fun e => h1 e.1)⟩
    clear hc
    go_enter Try.func5, Try.ntmps5
    go_wp2_with (first
      | (go_at_call 18; refine HN.out.mono ?_; rintro e wa ⟨pv, rfl, HB, HE⟩)
      | (go_at_call 17; refine HE.out.mono ?_; rintro e wb ⟨rfl, rfl⟩)
      | (go_at_call 19; refine (HW.out _).mono ?_; rintro e wb ⟨rfl, rfl⟩)
      | (go_at_call 13; refine (awake_any _).mono ?_; rintro e wc ⟨rfl, hA⟩; have HA : Hd _ := ⟨hA⟩; clear hA))
    go_ret
    exact ⟨rfl, post_below HB.out HA.out⟩
/-- An epoch at 0, nobody pinned, made since W. -/
def EpW (W X : World) (b r wd : Nat) : Prop := (∃ bm bp, EpAt X b bm bp r wd 0 (fun _ => 0)) ∧ Below W.heap.size W X
theorem EpW.on {W X X' : World} {b r wd : Nat} (h : EpW W X b r wd) (hb : Below X.heap.size X X') : EpW W X' b r wd := by
  obtain ⟨⟨bm, bp, hE⟩, hB⟩ := h
  exact ⟨⟨bm, bp, hE.of_blocks (hb.block b hE.lt.1) (hb.block bm hE.lt.2.1) (hb.block bp hE.lt.2.2)⟩, post_below hB hb⟩
theorem makes_new_yes (n wd r : Nat) (w : World) (h1 : 1 ≤ r) (h8 : r ≤ 8) (hn : 1 ≤ n) (hn2 : n ≤ 8192) (hw : wd + 1 + r ≤ n) :
    Calls Try.prog 18 #[.int .i64 (n : Nat)] w fun e w1 => ∃ bm, e = .returned (.pointer (some ⟨bm, 0, none⟩)) ∧ Hd (Calls Try.prog 17 #[.pointer (some ⟨bm, 0, none⟩), .int .i64 (wd : Nat), .int .i64 (r : Nat)] w1 fun e w2 => ∃ b, e = .returned (.tuple #[.pointer (some ⟨b, 0, none⟩), .int .i64 0]) ∧ Hd (EpW w w2 b r wd)) := by
  refine (new_yes n w hn hn2).mono ?_
  rintro e w1 ⟨bm, rfl, hbm, hm, ht, hs⟩
  refine ⟨bm, rfl, ⟨(epNew_ok _ bm wd r w1 hm h1 h8 (by show wd + 1 + r ≤ n; omega)).mono ?_⟩⟩
  rintro e w2 ⟨b, bp, rfl, hb, hbp, hE, hT⟩
  exact ⟨b, rfl, ⟨⟨bm, bp, hE⟩, (ht.below (Nat.le_refl _) (fun k _ => id)).trans (hT.below (by omega) (fun k hk e => by omega))⟩⟩
set_option maxRecDepth 100000 in
set_option maxHeartbeats 2000000 in
theorem makes_yes (n wd r : Nat) (w : World) (h1 : 1 ≤ r) (h8 : r ≤ 8) (hn : 1 ≤ n) (hn2 : n ≤ 8192) (hw : wd + 1 + r ≤ n) :
    Calls Try.prog 5 #[.int .i64 (n : Nat), .int .i64 (wd : Nat), .int .i64 (r : Nat)] w fun e w' => e = .returned (.bool true) ∧ Below w.heap.size w w' := by
  have HN : Hd _ := ⟨makes_new_yes n wd r w h1 h8 hn hn2 hw⟩
  have HW : Hd (∀ X, _) := ⟨fun X => makes_words (r : Nat) X ⟨by omega, by omega⟩⟩
  have HX : Hd (∀ X b, EpW w X b r wd → Calls Try.prog 20 #[.pointer (some ⟨b, 0, none⟩)] X fun e w2 => e = .returned (.int .u64 0) ∧ X = w2) := ⟨fun X b ⟨⟨bm, bp, hE⟩, _⟩ => now_ep hE⟩
  have HP : Hd (∀ X b, EpW w X b r wd → Calls Try.prog 21 #[.pointer (some ⟨b, 0, none⟩), .int .i64 (r : Nat)] X fun e w2 => e = .returned (.tuple #[.int .u64 0, .bool false]) ∧ X = w2) := ⟨fun X b ⟨⟨bm, bp, hE⟩, _⟩ => pinned_no hE _ (by omega)⟩
  have HQ : Hd (∀ X b (i : Int), (i < 0 ∨ (r : Int) ≤ i) → EpW w X b r wd → Calls Try.prog 22 #[.pointer (some ⟨b, 0, none⟩), .int .i64 i] X fun e w2 => e = .returned (.pointer none) ∧ Hd (EpW w w2 b r wd)) := ⟨fun X b i hi h => by
    obtain ⟨bm, bp, hE⟩ := h.1
    refine (pin_none hE i (by omega)).mono ?_
    rintro e w2 ⟨rfl, hB⟩
    exact ⟨rfl, ⟨h.on hB⟩⟩⟩
  have HU : Hd (∀ X b (i : Int), (i < 0 ∨ (r : Int) ≤ i) → EpW w X b r wd → Calls Try.prog 23 #[.pointer (some ⟨b, 0, none⟩), .int .i64 i] X fun e w2 => e = .returned (.pointer none) ∧ Hd (EpW w w2 b r wd)) := ⟨fun X b i hi h => by
    obtain ⟨bm, bp, hE⟩ := h.1
    refine (unpin_none hE i (by omega)).mono ?_
    rintro e w2 ⟨rfl, hB⟩
    exact ⟨rfl, ⟨h.on hB⟩⟩⟩
  have hr1 : (1 : Int) ≤ (r : Nat) := by omega
  have hr8 : ((r : Nat) : Int) ≤ 8 := by omega
  have hn1 : (1 : Int) ≤ (n : Nat) := by omega
  have hn8 : ((n : Nat) : Int) ≤ 8192 := by omega
  have hwd : (0 : Int) ≤ (wd : Nat) := by omega
  have hwn : ((wd : Nat) : Int) ≤ (n : Int) - (r : Int) - 1 := by omega
  have hr : IntKind.i64.wrap ((r : Int) + 1) = (r : Int) + 1 := by rw [IntKind.wrap_i64]; omega
  clear h1 h8 hn hn2 hw
  go_enter Try.func5, Try.ntmps5
  go_wp2_with (first
    | (go_at_call 18; refine HN.out.mono ?_; rintro e wa ⟨bm, rfl, HE⟩)
    | (go_at_call 17; refine HE.out.mono ?_; rintro e wb ⟨b, rfl, HB⟩)
    | (go_at_call 19; refine (HW.out _).mono ?_; rintro e wb ⟨rfl, rfl⟩)
    | (go_at_call 20; refine (HX.out _ _ HB.out).mono ?_; rintro e wb ⟨rfl, rfl⟩)
    | (go_at_call 21; refine (HP.out _ _ HB.out).mono ?_; rintro e wb ⟨rfl, rfl⟩)
    | (go_at_call 22; have hx := HQ.out _ _ (-1) (by omega) HB.out; (with_reducible refine hx.mono ?_); clear hx HB; rintro e wb ⟨rfl, HB⟩)
    | (go_at_call 22; have hx := HQ.out _ _ (r : Int) (by omega) HB.out; (with_reducible refine hx.mono ?_); clear hx HB; rintro e wb ⟨rfl, HB⟩)
    | (go_at_call 23; have hx := HU.out _ _ (r : Int) (by omega) HB.out; (with_reducible refine hx.mono ?_); clear hx HB; rintro e wb ⟨rfl, HB⟩)
    | (go_at_call 13; refine (awake_any _).mono ?_; rintro e wc ⟨rfl, hA⟩; have HA : Hd _ := ⟨hA⟩; clear hA))
  go_ret
  exact ⟨rfl, post_below HB.out.2 HA.out⟩
theorem makes_any (w : World) (words : Int) (w1 : (Lit.int .i64 words).wf = true) (word : Int) (w2 : (Lit.int .i64 word).wf = true) (r : Int) (w3 : (Lit.int .i64 r).wf = true) :
    Calls Try.prog 5 #[.int .i64 words, .int .i64 word, .int .i64 r] w fun e w' => e = .returned (.bool true) ∧ Below w.heap.size w w' := by
  by_cases hc : ¬ (1 ≤ r ∧ r ≤ 8) ∨ words < 1 ∨ 8192 < words ∨ word < 0 ∨ words - r - 1 < word
  · exact makes_no words word r w w1 w2 w3 hc
  · obtain ⟨n, rfl⟩ : ∃ n : Nat, words = n := ⟨words.toNat, by omega⟩
    obtain ⟨wd, rfl⟩ : ∃ n : Nat, word = n := ⟨word.toNat, by omega⟩
    obtain ⟨k, rfl⟩ : ∃ n : Nat, r = n := ⟨r.toNat, by omega⟩
    exact makes_yes n wd k w (by omega) (by omega) (by omega) (by omega) (by omega)
end Go.Proofs.Ytkjppffkjofamaa

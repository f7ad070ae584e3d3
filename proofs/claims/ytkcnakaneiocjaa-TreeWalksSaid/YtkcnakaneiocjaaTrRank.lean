/- Trees: Rank, walked. No condition but those that each contract bears. -/
import Derived.Test.YtkcnakaneiocjaaTrGet
set_option linter.unusedVariables false
set_option linter.unusedSimpArgs false
namespace Go.Proofs.Ytkcnakaneiocjaa.PTr
open Go.RowKit Go.Proofs.YtkcnakaneiocjaaW.PrintWords Go.Proofs.YtkcnakaneiocjaaW.PrintLast Go.Proofs.YtkcnakaneiocjaaW.PrintMore
attribute [local go_sem] method_201
def sumTo (N : List Nd) (n : Nd) : Nat → Int
  | 0 => 0
  | d + 1 => sumTo N n d + belowN N (n.kid d)
def rankN (N : List Nd) (uid : Int) : Nat → Int → Int
  | 0, _ => 0
  | h + 1, slot => if (atN N slot).2 = false then 0 else sumTo N (atN N slot).1 (dig uid h).toNat + rankN N uid h ((atN N slot).1.kid (dig uid h).toNat)
theorem sumTo_range (N : List Nd) (n : Nd) (hb : ∀ s, 0 ≤ belowN N s ∧ belowN N s ≤ 1000000) : ∀ d, 0 ≤ sumTo N n d ∧ sumTo N n d ≤ 1000000 * d
  | 0 => ⟨Int.le_refl _, Int.le_refl _⟩
  | d + 1 => by
    have h1 := sumTo_range N n hb d
    have h2 := hb (n.kid d)
    show 0 ≤ sumTo N n d + _ ∧ sumTo N n d + _ ≤ _
    omega
set_option maxRecDepth 100000 in
set_option maxHeartbeats 1000000 in
theorem rank_any {A : Option Addr} {N : List Nd} {W : World} (h : ShAt A N W) (hN : N.length ≤ 1000000) (hbl : ∀ s, 0 ≤ belowN N s ∧ belowN N s ≤ 1000000) (cap : Nat) (root : Int) (hgt : Nat) (hh : hgt ≤ 8) (uid : Int) (h0 : 0 ≤ uid) (h1 : uid < 4294967296) :
    Calls Try.prog 10 #[.agg #[.int .i64 root, .int .i64 (hgt : Int)], .iface 25 (.slice A N.length cap), .int .u32 uid] W fun e w' =>
      e = .returned (.int .i64 (if needN uid ≤ hgt then rankN N uid hgt root else (atN N root).1.cnt)) ∧ Hd (Below W.heap.size W w') := by
  have HHas : Hd (∀ X, Calls Try.prog 27 #[.agg #[.int .i64 root, .int .i64 (hgt : Int)], .int .u32 uid] X fun e w' => e = .returned (.bool (decide (needN uid ≤ hgt))) ∧ Below X.heap.size X w') := ⟨fun X => by
    have := tree_Tree_has.calls 20 root hgt uid _ X (has_f root hgt uid h0 h1 20 (by decide))
    have e : decide ((needN uid : Int) ≤ (hgt : Int)) = decide (needN uid ≤ hgt) := by simp
    rwa [e] at this⟩
  have HAt : Hd (∀ X slot, Below W.heap.size W X → Calls Try.prog 48 #[.slice A N.length cap, .int .i64 slot] X fun e w' => e = .returned (.tuple #[.agg (nArr (atN N slot).1), .bool (atN N slot).2]) ∧ Hd (Below X.heap.size X w')) := ⟨fun X slot hX => at_any (h.on hX) hN cap slot⟩
  have HBl : Hd (∀ X slot, Below W.heap.size W X → Calls Try.prog 26 #[.iface 25 (.slice A N.length cap), .int .i64 slot] X fun e w' => e = .returned (.int .i64 (belowN N slot)) ∧ Hd (Below X.heap.size X w')) := ⟨fun X slot hX => below_any (h.on hX) hN cap slot⟩
  have HLn : Hd (∀ X, Below W.heap.size W X → Calls Try.prog 15 #[.agg #[.int .i64 root, .int .i64 (hgt : Int)], .iface 25 (.slice A N.length cap)] X fun e w' => e = .returned (.int .i64 (atN N root).1.cnt) ∧ Hd (Below X.heap.size X w')) := ⟨fun X hX => len_any (h.on hX) hN cap root hgt⟩
  have HDg : Hd (∀ (X : World) (r : Nat), r ≤ 7 → Calls Try.prog 28 #[.int .u32 uid, .int .i64 (r : Int)] X fun e w' => e = .returned (.int .i64 ((dig uid r).toNat : Int)) ∧ Drawn0 X w') := ⟨fun X r hr => by
    have := tree_digit.calls uid r _ X (dig_f uid h0 r hr)
    rwa [show ((dig uid r).toNat : Int) = dig uid r by have := dig_range uid r; omega]⟩
  have HRg := Hd.mk (fun n d => sumTo_range N n hbl d)
  have HBr := Hd.mk hbl
  clear h h0 h1 hbl
  have HW0 : Hd (Below W.heap.size W (W.alloc (.cells #[.int .i64 root, .int .i64 (hgt : Int)] 27))) := ⟨below_alloc (Below.refl _ _) _⟩
  by_cases hn : needN uid ≤ hgt
  · have qn : decide (needN uid ≤ hgt) = true := decide_eq_true hn
    simp only [if_pos hn]
    obtain ⟨R, hR⟩ : ∃ R, rankN N uid hgt root = R := ⟨_, rfl⟩
    rw [hR]
    have HR : Hd (0 + rankN N uid hgt root = R) := ⟨by rw [hR, Int.zero_add]⟩
    rw [qn] at HHas
    clear hn hR
    go_enter Try.func10, Try.ntmps10
    go_wp2_with (first
      | (go_at_call 27; have hx := HHas.out (W.alloc (.cells #[.int .i64 root, .int .i64 (hgt : Int)] 27)); (with_reducible refine hx.mono ?_); clear hx; rintro e w1 ⟨rfl, hB⟩; have HB := Hd.mk hB; clear hB
         have e0 : w1.cell? ⟨W.heap.size, 0, none⟩ = some (.int .i64 root) := (HB.out.cell (p := ⟨W.heap.size, 0, none⟩) (by simp)).trans (by simp)
         have e1 : w1.cell? ⟨W.heap.size, 1, none⟩ = some (.int .i64 (hgt : Int)) := (HB.out.cell (p := ⟨W.heap.size, 1, none⟩) (by simp)).trans (by simp)))
    have HW1 : Hd (Below W.heap.size W w1) := ⟨HW0.out.trans (HB.out.mono (by simp))⟩
    clear HB e0 e1
    go_loopw [7, 8, 9] (fun a s r wr => ∃ (h : Nat) (p c : Int), h ≤ hgt ∧ a = .int .i64 c ∧ s = .int .i64 p ∧ r = .int .i64 ((h : Int) - 1) ∧ Hd (c + rankN N uid h p = R) ∧ Hd (0 ≤ c ∧ c ≤ 16000000 * ((hgt - h : Nat) : Int)) ∧ Hd (Below w1.heap.size w1 wr)) (fun _ _ r _ => (intOf r + 1).toNat)
    case atStart => exact ⟨hgt, root, 0, Nat.le_refl _, rfl, rfl, rfl, HR, ⟨Int.le_refl _, by omega⟩, ⟨Below.refl _ _⟩⟩
    case round =>
      clear HR
      obtain ⟨h, p, c, hle, rfl, rfl, rfl, HR, HC, HB⟩ := hrel
      have HWr := Hd.mk (HW1.out.trans (HB.out.mono HW1.out.size))
      have HA := Hd.mk (HAt.out wr p HWr.out)
      have HG1 := Hd.mk (fun j => show rankN N uid (j + 1) p = if (atN N p).2 = false then 0 else sumTo N (atN N p).1 (dig uid j).toNat + rankN N uid j ((atN N p).1.kid (dig uid j).toNat) from rfl)
      obtain ⟨⟨n, is⟩, hr⟩ : ∃ r, atN N p = r := ⟨_, rfl⟩
      rw [hr] at HA
      simp only [hr] at HG1
      clear hr
      obtain rfl | ⟨j, rfl⟩ : h = 0 ∨ ∃ j, h = j + 1 := by
        cases h with
        | zero => exact .inl rfl
        | succ j => exact .inr ⟨j, rfl⟩
      · rw [show ((0 : Nat) : Int) - 1 = -1 from rfl]
        go_wp2
        go_ret
        have hc : c = R := by have := HR.out; rwa [show rankN N uid 0 p = 0 from rfl, Int.add_zero] at this
        rw [hc]
        exact ⟨rfl, HWr⟩
      · rw [show ((j + 1 : Nat) : Int) - 1 = (j : Int) by omega]
        replace HG1 := Hd.mk (HG1.out j)
        have hj0 : (0 : Int) ≤ (j : Int) := by omega
        cases is with
        | false =>
          have HG2 := Hd.mk (HG1.out.trans (if_pos rfl))
          go_wp2_with (first
            | (go_at_call 48; have hx := HA.out; (with_reducible refine hx.mono ?_); clear hx; rintro e w2 ⟨rfl, HB2⟩)
            | ((with_reducible refine gate_store (t := 60) rfl ?_); refine wp_st60 rfl _ _ rfl _ (nArr n) rfl rfl rfl (narr_size _) (narr_one _) ?_))
          go_ret
          have hc : c = R := by have := HR.out; rwa [HG2.out, Int.add_zero] at this
          rw [hc]
          exact ⟨rfl, ⟨below_alloc (HWr.out.trans (HB2.out.mono HWr.out.size)) _⟩⟩
        | true =>
          have HG2 := Hd.mk (HG1.out.trans (if_neg (by decide)))
          have HD := Hd.mk (fun X => HDg.out X j (by omega))
          have hd16 : (dig uid j).toNat < 16 := by have := dig_range uid j; omega
          obtain ⟨d, hd⟩ : ∃ d, (dig uid j).toNat = d := ⟨_, rfl⟩
          rw [hd] at HD HG2 hd16
          have hb0 : (0 : Int) ≤ (d : Int) := by omega
          have hb1 : (d : Int) < 16 := by omega
          have hb2 : (d : Int) ≤ 16 := by omega
          clear hd HG1
          go_wp2_with (first
            | (go_at_call 48; have hx := HA.out; (with_reducible refine hx.mono ?_); clear hx; rintro e w2 ⟨rfl, HB2⟩)
            | ((with_reducible refine gate_store (t := 60) rfl ?_); refine wp_st60 rfl _ _ rfl _ (nArr n) rfl rfl rfl (narr_size _) (narr_one _) ?_)
            | (go_at_call 28; have hx := HD.out (w2.alloc (.cells (nArr n) 60)); (with_reducible refine hx.mono ?_); clear hx; rintro e w3 ⟨rfl, ⟨nd, rfl⟩⟩))
          have HK3 : Hd (∀ q, q < 16 → ((w2.alloc (.cells (nArr n) 60)).drewN nd).cell? ⟨w2.heap.size, 2 + q, none⟩ = some (.int .i64 (n.kid q))) := ⟨fun q hq => nd_cell w2 n (2 + q) _ (kid_cell n q hq)⟩
          have HB3 : Hd (Below w1.heap.size w1 ((w2.alloc (.cells (nArr n) 60)).drewN nd) ∧ w2.heap.size < ((w2.alloc (.cells (nArr n) 60)).drewN nd).heap.size) := ⟨pw_below_drewN (below_alloc (HB.out.trans (HB2.out.mono HB.out.size)) _) nd, by show _ < (w2.alloc _).heap.size; simp⟩
          obtain ⟨w3, hw3⟩ : ∃ w3, (w2.alloc (.cells (nArr n) 60)).drewN nd = w3 := ⟨_, rfl⟩
          rw [hw3] at HK3 HB3
          rw [hw3]
          clear hw3
          go_loopw [7, 46] (fun a i wx => ∃ k : Nat, k ≤ d ∧ a = .int .i64 (c + sumTo N n k) ∧ i = .int .i64 k ∧ Hd (Below w3.heap.size w3 wx)) (fun _ i _ => d - (intOf i).toNat)
          case atStart => exact ⟨0, Nat.zero_le _, by show _ = Value.int .i64 (c + 0); rw [Int.add_zero], rfl, ⟨Below.refl _ _⟩⟩
          case round =>
            obtain ⟨k, hk, rfl, rfl, HBx⟩ := hrel
            have HWx := Hd.mk (HW1.out.trans ((HB3.out.1.trans (HBx.out.mono HB3.out.1.size)).mono HW1.out.size))
            by_cases hlt : k < d
            · have dk : wr.cell? ⟨w2.heap.size, 2 + k, none⟩ = some (.int .i64 (n.kid k)) := (HBx.out.cell (p := ⟨w2.heap.size, 2 + k, none⟩) HB3.out.2).trans (HK3.out k (by omega))
              have k0 : (0 : Int) ≤ (k : Int) := by omega
              have k1 : (k : Int) < (d : Int) := by omega
              have hr1 := HRg.out n k
              have hr2 := HBr.out (n.kid k)
              have hc2 := HC.out
              have hw : IntKind.i64.wrap (c + sumTo N n k + belowN N (n.kid k)) = c + sumTo N n k + belowN N (n.kid k) := by rw [IntKind.wrap_i64]; omega
              have HBk := Hd.mk (HBl.out wr (n.kid k) HWx.out)
              have HS := Hd.mk (show sumTo N n (k + 1) = sumTo N n k + belowN N (n.kid k) from rfl)
              obtain ⟨bl, hbl⟩ : ∃ bl, belowN N (n.kid k) = bl := ⟨_, rfl⟩
              obtain ⟨sk, hsk⟩ : ∃ sk, sumTo N n k = sk := ⟨_, rfl⟩
              rw [hbl, hsk] at hw HS
              rw [hbl] at HBk hr2
              rw [hsk] at hr1
              simp only [hsk]
              clear hbl hsk
              go_wp2_with (go_at_call 26; have hx := HBk.out; (with_reducible refine hx.mono ?_); clear hx; rintro e w4 ⟨rfl, HB4⟩)
              go_roundw
              case rel => exact ⟨k + 1, by omega, by rw [HS.out, Int.add_assoc], by go_num, ⟨HBx.out.trans (HB4.out.mono HBx.out.size)⟩⟩
              case measure => first | (simp [intOf]; done) | (simp [intOf]; omega)
            · obtain rfl : k = d := by omega
              have dk : wr.cell? ⟨w2.heap.size, 2 + k, none⟩ = some (.int .i64 (n.kid k)) := (HBx.out.cell (p := ⟨w2.heap.size, 2 + k, none⟩) HB3.out.2).trans (HK3.out k hd16)
              have hr1 := HRg.out n k
              have hc2 := HC.out
              go_wp2
              go_roundw
              case rel =>
                refine ⟨j, n.kid k, c + sumTo N n k, by omega, rfl, rfl, by go_num, ⟨?_⟩, ⟨by omega, by omega⟩, ⟨HB3.out.1.trans (HBx.out.mono HB3.out.1.size)⟩⟩
                rw [← HR.out, HG2.out, Int.add_assoc]
              case measure => first | (simp [intOf]; done) | (simp [intOf]; omega)
  · have qn : decide (needN uid ≤ hgt) = false := decide_eq_false hn
    simp only [if_neg hn]
    rw [qn] at HHas
    clear hn
    go_enter Try.func10, Try.ntmps10
    go_wp2_with (first
      | (go_at_call 27; have hx := HHas.out (W.alloc (.cells #[.int .i64 root, .int .i64 (hgt : Int)] 27)); (with_reducible refine hx.mono ?_); clear hx; rintro e w1 ⟨rfl, hB⟩; have HB := Hd.mk hB; clear hB
         have e0 : w1.cell? ⟨W.heap.size, 0, none⟩ = some (.int .i64 root) := (HB.out.cell (p := ⟨W.heap.size, 0, none⟩) (by simp)).trans (by simp)
         have e1 : w1.cell? ⟨W.heap.size, 1, none⟩ = some (.int .i64 (hgt : Int)) := (HB.out.cell (p := ⟨W.heap.size, 1, none⟩) (by simp)).trans (by simp)
         have HW1 : Hd (Below W.heap.size W w1) := ⟨HW0.out.trans (HB.out.mono (by simp))⟩)
      | (go_at_call 15; have hx := HLn.out w1 HW1.out; (with_reducible refine hx.mono ?_); clear hx; rintro e w2 ⟨rfl, HB2⟩))
    go_ret
    exact ⟨rfl, ⟨HW1.out.trans (HB2.out.mono HW1.out.size)⟩⟩
end Go.Proofs.Ytkcnakaneiocjaa.PTr

/- Package seqset: the walk's iterator, walked. No condition but those that each bears. -/
import Derived.Test.YtahbnpkhkhdmaaaDoorSqPlain
import Derived.Test.YtahbnpkhkhdmaaaDoorQSq4
import Derived.Test.YtahbnpkhkhdmaaaDoorFlIter
set_option linter.unusedVariables false
set_option linter.unusedSimpArgs false
namespace Go.Proofs.YtahbnpkhkhdmaaaDoor
section
open Go.RowKit Go.Shelf PSq Go.Proofs.YtahbnpkhkhdmaaaDoorW.PrintWords Go.Proofs.YtahbnpkhkhdmaaaDoorW.PrintLast Go.Proofs.YtahbnpkhkhdmaaaDoorW.PrintMore
attribute [local go_sem] max2_int min2_int max_two min_two max_three min_three max_four min_four
/-- A range's ends, by a last one. -/
def aF (r : S78) (last : Int) : Int := if r.f0 = 0 then last else r.f0
def bF (r : S78) (last : Int) : Int := if r.f1 = 0 then last else r.f1
def loR (r : S78) (last : Int) : Int := mn (aF r last) (bF r last)
def hiR (r : S78) (last : Int) : Int := mx (aF r last) (bF r last)
theorem ends_f (r : S78) (last : Int) : seqset_Range_ends.f r.f0 r.f1 last = some (loR r last, hiR r last) := by
  unfold seqset_Range_ends.f loR hiR aF bF
  by_cases h0 : r.f0 = 0 <;> by_cases h1 : r.f1 = 0 <;> simp [h0, h1]
/-- What one range makes of the least number so far. -/
def nextStep (n last best : Int) (r : S78) : Int :=
  if mx (loR r last) n > mn (hiR r last) last then best else if best = 0 ∨ mx (loR r last) n < best then mx (loR r last) n else best
def nextOf (l : List S78) (n last : Int) : Int := l.foldl (nextStep n last) 0
set_option maxRecDepth 100000 in
set_option maxHeartbeats 1000000 in
theorem next_any (A : Option Addr) (c : Nat) (l : List S78) (n last : Int) (w : World) (hr : Kd.C k78 w A l.length l) (hl : l.length ≤ 1000000) :
    Calls Tryd.prog 47 #[.slice A l.length c, .int .u32 n, .int .u32 last] w fun e w' => e = .returned (.int .u32 (nextOf l n last)) ∧ Hd (Below w.heap.size w w') := by
  have HR := Hd.mk hr
  clear hr
  go_enter Tryd.func47, Tryd.ntmps47
  go_wp2
  go_step3
  go_wp2
  go_step3
  go_wp2
  go_loopw [7, 14] (fun b i wr => ∃ k : Nat, k ≤ l.length ∧ b = .int .u32 (nextOf (l.take k) n last) ∧ i = .int .i64 k ∧ Hd (Below w.heap.size w wr)) (fun b i _ => l.length - (intOf i).toNat)
  case atStart => exact ⟨0, Nat.zero_le _, rfl, rfl, ⟨Below.refl _ _⟩⟩
  case round =>
    obtain ⟨k, hk, rfl, rfl, HB⟩ := hrel
    by_cases hlt : k < l.length
    · have k0 : (k : Int) < (l.length : Int) := by omega
      have k1 : (0 : Int) ≤ k := by omega
      obtain ⟨ad, rfl, hx0, hx1⟩ := at_T78 (Kd.C_below HR.out HB.out) (k : Int) k1 k0
      rw [Int.toNat_natCast] at hx0 hx1
      have hrd : rd_T78 l (k : Int) = l[k] := by
        unfold rd_T78
        rw [Int.toNat_natCast, List.getD_eq_getElem?_getD, List.getElem?_eq_getElem hlt]; rfl
      rw [hrd] at hx0 hx1
      have hnx : nextOf (l.take (k + 1)) n last = nextStep n last (nextOf (l.take k) n last) l[k] := by
        unfold nextOf
        rw [List.take_succ_eq_append_getElem hlt, List.foldl_append]; rfl
      obtain ⟨r, hr⟩ : ∃ r, l[k] = r := ⟨_, rfl⟩
      rw [hr] at hx0 hx1 hnx
      have HE := Hd.mk (ends_f r last)
      obtain ⟨lo, hlo⟩ : ∃ x, loR r last = x := ⟨_, rfl⟩
      obtain ⟨hi, hhi⟩ : ∃ x, hiR r last = x := ⟨_, rfl⟩
      rw [hlo, hhi] at HE
      obtain ⟨b, hb⟩ : ∃ b, nextOf (l.take k) n last = b := ⟨_, rfl⟩
      rw [hb] at hnx ⊢
      unfold nextStep at hnx
      rw [hlo, hhi] at hnx
      have HN := Hd.mk hnx
      clear hnx hr hrd hb hlo hhi
      go_upto_region 6 with (first
        | (go_at_call 48; (with_reducible refine (seqset_Range_ends.calls r.f0 r.f1 last lo hi _ HE.out).mono ?_); rintro e w2 ⟨rfl, h2⟩; have H2 := Hd.mk h2; clear h2))
      have hb2 : Below w.heap.size w w2 := (HB.out.alloc HB.out.size _).trans (H2.out.mono (by have := HB.out.size; simp; omega))
      have HB2 := Hd.mk hb2
      clear hb2
      -- the greater of low and n
      obtain ⟨m1, hm1⟩ : ∃ x, (if lo < n then n else lo) = x := ⟨_, rfl⟩
      obtain ⟨m2, hm2⟩ : ∃ x, (if last < hi then last else hi) = x := ⟨_, rfl⟩
      have hN : nextOf (l.take (k + 1)) n last = if m1 > m2 then b else if b = 0 ∨ m1 < b then m1 else b := by
        rw [HN.out, ← hm1, ← hm2]; rfl
      have HN2 := Hd.mk hN
      clear hN HN
      by_cases h1 : m2 < m1
      · go_wp2
        go_roundw
        case rel => exact ⟨k + 1, by omega, by rw [HN2.out, if_pos h1], by go_num, HB2⟩
        case measure => simp [intOf]; omega
      · by_cases h2 : b = 0
        · have h2b : (b == 0) = true := beq_iff_eq.2 h2
          have H2x := Hd.mk h2
          clear h2
          go_wp2
          go_roundw
          case rel => exact ⟨k + 1, by omega, by rw [HN2.out, if_neg h1, if_pos (.inl H2x.out)], by go_num, HB2⟩
          case measure => simp [intOf]; omega
        · have h2b : (b == 0) = false := beq_eq_false_iff_ne.2 h2
          have H2x := Hd.mk h2
          clear h2
          by_cases h3 : m1 < b
          · go_wp2
            go_roundw
            case rel => exact ⟨k + 1, by omega, by rw [HN2.out, if_neg h1, if_pos (.inr h3)], by go_num, HB2⟩
            case measure => simp [intOf]; omega
          · go_wp2
            go_roundw
            case rel => exact ⟨k + 1, by omega, by rw [HN2.out, if_neg h1, if_neg (fun h => h.elim H2x.out h3)], by go_num, HB2⟩
            case measure => simp [intOf]; omega
    · obtain rfl : k = l.length := by omega
      rw [List.take_length]
      go_wp2
      simp only [Exit.noGoto]
      go_ret
      exact ⟨rfl, HB⟩
end
section
open Go.RowKit Go.Shelf PSq Go.Proofs.YtahbnpkhkhdmaaaDoorW.PrintWords Go.Proofs.YtahbnpkhkhdmaaaDoorW.PrintLast Go.Proofs.YtahbnpkhkhdmaaaDoorW.PrintMore
attribute [local go_sem] Oper.semAt_some
/-- Is a number meant, by a last one? -/
def hasB (l : List S78) (last : Int) (m : Nat) : Bool := l.any fun r => decide (loR r last ≤ m) && decide ((m : Int) ≤ hiR r last)
theorem mx_le {a b c : Int} : mx a b ≤ c ↔ a ≤ c ∧ b ≤ c := by unfold mx; split <;> omega
theorem le_mn {a b c : Int} : c ≤ mn a b ↔ c ≤ a ∧ c ≤ b := by unfold mn; split <;> omega
theorem nextOf_spec (n last : Int) (hn : 1 ≤ n) : ∀ (l : List S78) (b0 b : Int), 0 ≤ b0 → b = l.foldl (nextStep n last) b0 →
    (b = b0 ∨ ∃ r ∈ l, mx (loR r last) n ≤ mn (hiR r last) last ∧ b = mx (loR r last) n) ∧ (b0 ≠ 0 → b ≤ b0 ∧ b ≠ 0) ∧ (∀ r ∈ l, mx (loR r last) n ≤ mn (hiR r last) last → b ≤ mx (loR r last) n ∧ b ≠ 0)
  | [], b0, b, h0, hb => by subst hb; exact ⟨.inl rfl, fun h => ⟨Int.le_refl _, h⟩, fun r hr => absurd hr List.not_mem_nil⟩
  | r :: l, b0, b, h0, hb => by
    have hc1 : 1 ≤ mx (loR r last) n := by unfold mx; split <;> omega
    obtain ⟨b1, hb1⟩ : ∃ x, nextStep n last b0 r = x := ⟨_, rfl⟩
    have hb1' := hb1
    unfold nextStep at hb1'
    have h1 : 0 ≤ b1 := by split at hb1' <;> (try split at hb1') <;> omega
    obtain ⟨i1, i2, i3⟩ := nextOf_spec n last hn l b1 b h1 (by rw [hb, ← hb1]; rfl)
    refine ⟨?_, ?_, ?_⟩
    · rcases i1 with i1 | ⟨q, hq, hv, hb⟩
      · split at hb1'
        · exact .inl (i1.trans hb1'.symm)
        · next hv =>
          split at hb1'
          · exact .inr ⟨r, List.mem_cons_self, by omega, i1.trans hb1'.symm⟩
          · exact .inl (i1.trans hb1'.symm)
      · exact .inr ⟨q, List.mem_cons_of_mem _ hq, hv, hb⟩
    · intro h
      have hx : b1 ≤ b0 ∧ b1 ≠ 0 := by
        split at hb1'
        · omega
        · split at hb1' <;> omega
      have := i2 hx.2
      exact ⟨Int.le_trans this.1 hx.1, this.2⟩
    · intro q hq hv
      rcases List.mem_cons.1 hq with rfl | hq
      · have hx : b1 ≤ mx (loR q last) n ∧ b1 ≠ 0 := by
          rw [if_neg (by omega)] at hb1'
          split at hb1'
          · omega
          · next h => exact ⟨by omega, fun e => h (.inl (by omega))⟩
        have := i2 hx.2
        exact ⟨Int.le_trans this.1 hx.1, this.2⟩
      · exact i3 q hq hv
/-- All numbers up to k that are meant. -/
def meantTo (p : Nat → Bool) : Nat → List Nat
  | 0 => []
  | k + 1 => meantTo p k ++ (if p (k + 1) then [k + 1] else [])
theorem meantTo_skip {p : Nat → Bool} {k j : Nat} (h : k ≤ j) (hp : ∀ m, k < m → m ≤ j → p m = false) : meantTo p j = meantTo p k := by
  induction j with
  | zero => obtain rfl : k = 0 := by omega
            rfl
  | succ j ih =>
    by_cases e : k = j + 1
    · rw [e]
    · show meantTo p j ++ (if p (j + 1) then [j + 1] else []) = _
      rw [hp (j + 1) (by omega) (Nat.le_refl _), ih (by omega) (fun m h1 h2 => hp m h1 (by omega))]
      simp
theorem meantTo_put {p : Nat → Bool} {k m : Nat} (h : k < m) (hp : ∀ j, k < j → j < m → p j = false) (hm : p m = true) : meantTo p m = meantTo p k ++ [m] := by
  obtain ⟨j, rfl⟩ : ∃ j, m = j + 1 := ⟨m - 1, by omega⟩
  show meantTo p j ++ (if p (j + 1) then [j + 1] else []) = _
  rw [hm, meantTo_skip (k := k) (j := j) (by omega) (fun x h1 h2 => hp x h1 (by omega))]
  simp
/-- What next answers: the next number that is meant, or none. -/
theorem nextOf_meant (l : List S78) (last k : Nat) : (nextOf l ((k : Int) + 1) last = 0 ∧ ∀ m, k < m → m ≤ last → hasB l last m = false) ∨
    (∃ m, k < m ∧ m ≤ last ∧ nextOf l ((k : Int) + 1) last = (m : Int) ∧ hasB l last m = true ∧ ∀ j, k < j → j < m → hasB l last j = false) := by
  obtain ⟨h1, h2, h3⟩ := nextOf_spec ((k : Int) + 1) last (by omega) l 0 _ (Int.le_refl _) rfl
  have hno : ∀ j : Nat, k < j → j ≤ last → hasB l last j = true → ∃ r ∈ l, mx (loR r last) ((k : Int) + 1) ≤ mn (hiR r last) last ∧ mx (loR r last) ((k : Int) + 1) ≤ (j : Int) := by
    intro j hj hjl hh
    obtain ⟨r, hr, hv⟩ := List.any_eq_true.1 hh
    rw [Bool.and_eq_true, decide_eq_true_eq, decide_eq_true_eq] at hv
    have hc : mx (loR r last) ((k : Int) + 1) ≤ (j : Int) := mx_le.2 ⟨hv.1, by omega⟩
    exact ⟨r, hr, le_mn.2 ⟨Int.le_trans hc hv.2, Int.le_trans hc (by omega)⟩, hc⟩
  by_cases h0 : nextOf l ((k : Int) + 1) last = 0
  · refine .inl ⟨h0, fun m hm hml => ?_⟩
    cases hh : hasB l last m with
    | false => rfl
    | true =>
      obtain ⟨r, hr, hv, _⟩ := hno m hm hml hh
      exact absurd h0 (h3 r hr hv).2
  · rcases h1 with h1 | ⟨r, hr, hv, hb⟩
    · exact absurd h1 h0
    · have hb : nextOf l ((k : Int) + 1) last = mx (loR r last) ((k : Int) + 1) := hb
      have hge : (k : Int) + 1 ≤ mx (loR r last) ((k : Int) + 1) := by unfold mx; split <;> omega
      have hlo : loR r last ≤ mx (loR r last) ((k : Int) + 1) := by unfold mx; split <;> omega
      obtain ⟨v1, v2⟩ := le_mn.1 hv
      obtain ⟨m, hm⟩ : ∃ m : Nat, mx (loR r last) ((k : Int) + 1) = m := ⟨(mx (loR r last) ((k : Int) + 1)).toNat, by omega⟩
      rw [hm] at hb hge hlo v1 v2
      refine .inr ⟨m, by omega, by omega, hb, List.any_eq_true.2 ⟨r, hr, by simp; omega⟩, fun j hj hjm => ?_⟩
      cases hh : hasB l last j with
      | false => rfl
      | true =>
        obtain ⟨q, hq, hqv, hqj⟩ := hno j hj (by omega) hh
        have h4 : nextOf l ((k : Int) + 1) last ≤ mx (loR q last) ((k : Int) + 1) := (h3 q hq hqv).1
        omega
/-! The iterator. -/
def walkBk (A : Option Addr) (bs bl : Nat) : Nat → Prop := fun k => k = bs ∨ k = bl ∨ ∃ ad, A = some ad ∧ k = ad.block
structure WalkSt (l : List S78) (last : Int) (A : Option Addr) (c bs bl : Nat) (W : World) : Prop where
  cs : W.cell? ⟨bs, 0, none⟩ = some (.slice A l.length c)
  cl : W.cell? ⟨bl, 0, none⟩ = some (.int .u32 last)
  row : Kd.C k78 W A l.length l
theorem WalkSt.on {l : List S78} {last : Int} {A : Option Addr} {c bs bl : Nat} {W W' : World} (h : WalkSt l last A c bs bl W) (hs : Stood (walkBk A bs bl) W W') : WalkSt l last A c bs bl W' := by
  refine ⟨(World.cell?_of_block (w := W) (hs bs (.inl rfl))).trans h.cs, (World.cell?_of_block (w := W) (hs bl (.inr (.inl rfl)))).trans h.cl, h.row.1, h.row.2.1, fun h0 => ?_⟩
  obtain ⟨ad, e, hc⟩ := h.row.2.2 h0
  refine ⟨ad, e, fun j p hp => ?_⟩
  obtain ⟨c, h1, h2, h3⟩ := hc j p hp
  have hblk : ∀ n, (ad.add n).block = ad.block := fun n => by unfold Addr.add; split <;> rfl
  refine ⟨c, h1, ?_, fun i u hu => (World.cell?_of_block (w := W) (hs _ (.inr (.inr ⟨ad, e, hblk _⟩)))).trans (h3 i u hu)⟩
  obtain ⟨x, y, rfl, rfl, rfl⟩ := h2
  exact ⟨_, _, rfl, rfl, rfl⟩
theorem WalkSt.below {l : List S78} {last : Int} {A : Option Addr} {c bs bl : Nat} {W W' : World} (h : WalkSt l last A c bs bl W) (hb : Below W.heap.size W W') : WalkSt l last A c bs bl W' :=
  ⟨(hb.cell (p := ⟨bs, 0, none⟩) (lt_of_cell h.cs)).trans h.cs, (hb.cell (p := ⟨bl, 0, none⟩) (lt_of_cell h.cl)).trans h.cl, Kd.C_below h.row hb⟩
set_option maxRecDepth 100000 in
set_option maxHeartbeats 2000000 in
theorem walk_state2 (l : List S78) (last : Nat) (A : Option Addr) (c bs bl : Nat) (hl : l.length ≤ 1000000) (hlast : last ≤ 100000) (m : Nat) :
    SeqState2 Fence.wide m Tryd.prog 46 #[.pointer (some ⟨bs, 0, none⟩), .pointer (some ⟨bl, 0, none⟩)] (fun x : Nat => #[.int .u32 (x : Int)]) (fun _ => False) (walkBk A bs bl) (WalkSt l last A c bs bl)
      (fun pre x => 0 < x ∧ x ≤ last ∧ hasB l last x = true ∧ pre ++ [x] = meantTo (hasB l last) x) (fun xs => xs = meantTo (hasB l last) last) (fun _ => True) := by
  intro L J Jx W aJ aJx hSt h0 hY
  have HY : Hd _ := ⟨hY⟩
  have HJ : Hd _ := ⟨aJ⟩
  have HJx : Hd _ := ⟨aJx⟩
  have HS := Hd.mk hSt
  have H0 := Hd.mk h0
  have c0 := hSt.cs
  have c1 := hSt.cl
  have HNx : Hd (∀ (k : Nat) (W : World), WalkSt l last A c bs bl W → Calls Tryd.prog 47 #[.slice A l.length c, .int .u32 ((k : Int) + 1), .int .u32 last] W fun e w' => e = .returned (.int .u32 (nextOf l ((k : Int) + 1) last)) ∧ Hd (Below W.heap.size W w')) := ⟨fun k W h => next_any A c l _ _ W h.row hl⟩
  clear hY aJ aJx hSt h0
  refine callsIn_of_wp Tryd.func46 rfl trivial ?_ rfl
  simp only [Tryd.ntmps46, List.size_toArray, List.length_cons, List.length_nil, Nat.reduceAdd, Nat.reduceSub, Array.replicate_succ, Array.replicate_zero, List.push_toArray, List.append_toArray, List.nil_append, List.cons_append]
  gi_wp2
  refine And.intro trivial (And.intro (fun h => absurd h (by simp [Fence.wide])) ((callsIn_wide.2 (HNx.out 0 W HS.out)).mono ?_))
  rintro e W1 ⟨rfl, B1⟩
  gi_wp2
  gi_loopw [4] (fun v wr => ∃ k : Nat, k ≤ last ∧ v = .int .u32 (nextOf l ((k : Int) + 1) last) ∧ Hd (J (meantTo (hasB l last) k) wr ∧ WalkSt l last A c bs bl wr)) (fun v _ => if intOf v = 0 then 0 else last + 1 - (intOf v).toNat)
  case atStart => exact ⟨0, Nat.zero_le _, rfl, ⟨HJ.out _ _ _ H0.out (Touch.of_below B1.out _), HS.out.below B1.out⟩⟩
  case round =>
    obtain ⟨k, hk, rfl, HR⟩ := hrel
    rcases nextOf_meant l last k with ⟨h0, hno⟩ | ⟨m1, hm0, hml, hm, hp, hno⟩
    · rw [h0]
      have hS := Hd.mk (meantTo_skip (p := hasB l last) hk hno)
      clear hno h0
      gi_wp2
      go_end0
      exact ⟨⟨_, rfl⟩, .inl ⟨meantTo (hasB l last) last, rfl, by rw [hS.out]; exact HR.out.1⟩⟩
    · rw [hm]
      have hput := meantTo_put (p := hasB l last) hm0 hno hp
      have HPut := Hd.mk hput
      have m0 : ¬ (m1 : Int) = 0 := by omega
      have m1b : ((m1 : Int) == 0) = false := beq_eq_false_iff_ne.2 m0
      have m2b : ((m1 : Int) != 0) = true := bne_iff_ne.2 m0
      have m3b : ((m1 : Int) == 4294967295) = false := beq_eq_false_iff_ne.2 (by omega)
      have mw : IntKind.u32.wrap ((m1 : Int) + 1) = (m1 : Int) + 1 := by rw [IntKind.wrap_u32]; omega
      have d0 := HR.out.2.cs
      have d1 := HR.out.2.cl
      obtain ⟨fn, tmps, assign, body, hy, hR⟩ := HY.out (meantTo (hasB l last) k) m1 wr HR.out.1 ⟨by omega, hml, hp, hput.symm⟩
      have HRo : Hd _ := ⟨hR⟩
      clear hR hput hno hp
      try dsimp only at hy
      gi_wp2
      refine And.intro (fun h => absurd h (by simp [Fence.wide])) (HRo.out.mono ?_)
      rintro e W2 (⟨rfl, hJ2, hst⟩ | ⟨rfl, hJ2⟩)
      · have HS2 := Hd.mk (HR.out.2.on hst)
        have HJ2 := Hd.mk hJ2
        have e0 := HS2.out.cs
        have e1 := HS2.out.cl
        clear hJ2 hst
        gi_wp2
        refine And.intro trivial (And.intro (fun h => absurd h (by simp [Fence.wide])) ((callsIn_wide.2 (HNx.out m1 W2 HS2.out)).mono ?_))
        rintro e W3 ⟨rfl, B3⟩
        gi_wp2
        go_roundw
        case rel => exact ⟨m1, hml, rfl, ⟨by rw [HPut.out]; exact HJ.out _ _ _ HJ2.out (Touch.of_below B3.out _), HS2.out.below B3.out⟩⟩
        case measure =>
          rcases nextOf_meant l last m1 with ⟨h0, _⟩ | ⟨m2, hm2, hml2, hm3, _, _⟩
          · rw [h0]
            show (if (0 : Int) = 0 then 0 else last + 1 - (0 : Int).toNat) < (if (m1 : Int) = 0 then 0 else last + 1 - (m1 : Int).toNat)
            rw [if_pos rfl, if_neg m0]; omega
          · rw [hm3]
            show (if (m2 : Int) = 0 then 0 else last + 1 - (m2 : Int).toNat) < (if (m1 : Int) = 0 then 0 else last + 1 - (m1 : Int).toNat)
            rw [if_neg (by omega), if_neg m0]; omega
      · gi_wp2
        refine bodyPost_ret (results_none rfl _ _ _) rfl ?_
        exact ⟨⟨_, rfl⟩, .inr ⟨_, trivial, hJ2⟩⟩
theorem walk_state (l : List S78) (last : Nat) (A : Option Addr) (c bs bl : Nat) (hl : l.length ≤ 1000000) (hlast : last ≤ 100000) (m : Nat) :
    SeqState Fence.wide m Tryd.prog 46 #[.pointer (some ⟨bs, 0, none⟩), .pointer (some ⟨bl, 0, none⟩)] (fun x : Nat => #[.int .u32 (x : Int)]) (walkBk A bs bl) (WalkSt l last A c bs bl)
      (fun pre x => 0 < x ∧ x ≤ last ∧ hasB l last x = true ∧ pre ++ [x] = meantTo (hasB l last) x) (fun xs => xs = meantTo (hasB l last) last) (fun _ => True) :=
  fun L J Jx W aJ aJx => walk_state2 l last A c bs bl hl hlast m L J Jx W (fun pre A B h t => aJ pre A B h (t.mono fun _ _ e => e.elim)) (fun pre A B h t => aJx pre A B h (t.mono fun _ _ e => e.elim))
end
end Go.Proofs.YtahbnpkhkhdmaaaDoor

/- Package flags: Names, String. No condition but those that each contract bears. -/
import Derived.Test.YtahbnpkhkhdmaaaDoorFlParse
set_option linter.unusedVariables false
set_option linter.unusedSimpArgs false
namespace Go.Proofs.YtahbnpkhkhdmaaaDoor
open Go.RowKit Go.Shelf
attribute [local go_sem] Oper.semAt_some
theorem names_any (s : Int) (w : World) : Calls Tryd.prog 12 #[.int .u8 s] w fun e w' => e = .returned (.func (.func 37) #[] #[.pointer (some ⟨w.heap.size, 0, none⟩)]) ∧ w' = w.alloc (.cells #[.int .u8 s] 22) := by
  go_enter Tryd.func12, Tryd.ntmps12
  go_wp2
  go_ret
  exact ⟨rfl, rfl⟩
def namesTo (p : Nat → Bool) : Nat → List ByteArray
  | 0 => []
  | k + 1 => namesTo p k ++ (if p k then [name5 k] else [])
theorem namesTo_pre (p : Nat → Bool) : ∀ (n k : Nat), k ≤ n → ∃ post, namesTo p n = namesTo p k ++ post
  | 0, k, h => ⟨[], by obtain rfl : k = 0 := by omega
                       rfl⟩
  | n + 1, k, h => by
    by_cases e : k = n + 1
    · subst e; exact ⟨[], by simp⟩
    · obtain ⟨post, hp⟩ := namesTo_pre p n k (by omega)
      exact ⟨post ++ (if p n then [name5 n] else []), by show namesTo p n ++ _ = _; rw [hp, List.append_assoc]⟩
theorem namesTo_can {p : Nat → Bool} {n k : Nat} (hk : k < n) (hp : p k = true) : ∃ post, namesTo p n = namesTo p k ++ name5 k :: post := by
  obtain ⟨post, h⟩ := namesTo_pre p n (k + 1) hk
  refine ⟨post, ?_⟩
  rw [h]
  show (namesTo p k ++ (if p k then [name5 k] else [])) ++ post = _
  rw [hp, if_pos rfl, List.append_assoc]; rfl
/-- Has a set the flag of that number? -/
def bitAt (s : Int) (k : Nat) : Bool := decide (Go.bits .and .u8 (s / 2 ^ k) 1 = 1)
structure NamesSt (s : Int) (cap bn on cn : Nat) (W : World) : Prop where
  cap : W.cell? ⟨cap, 0, none⟩ = some (.int .u8 s)
  names : NamesAt W bn on cn
theorem NamesSt.on {s : Int} {cap bn on cn : Nat} {W W' : World} (h : NamesSt s cap bn on cn W) (hb : Below W.heap.size W W') : NamesSt s cap bn on cn W' :=
  ⟨(hb.cell (p := ⟨cap, 0, none⟩) (lt_of_cell h.cap)).trans h.cap, h.names.on hb⟩
theorem NamesSt.onB {s : Int} {cap bn on cn : Nat} {w W : World} (h : NamesSt s cap bn on cn w) (hb : Below w.heap.size w W) : NamesSt s cap bn on cn W := h.on hb
set_option maxRecDepth 100000 in
set_option maxHeartbeats 2000000 in
theorem names_hears (s : Int) (cap bn on cn : Nat) (I : List ByteArray → World → Prop) (hI : ∀ pre W, I pre W → NamesSt s cap bn on cn W) (m : Nat) :
    SeqHears Fence.wide m Tryd.prog 37 #[.pointer (some ⟨cap, 0, none⟩)] (fun x : ByteArray => #[.string x]) I
      (fun pre x => ∃ j, j < 5 ∧ bitAt s j = true ∧ pre = namesTo (bitAt s) j ∧ x = name5 j) (fun xs => xs = namesTo (bitAt s) 5) := by
  intro l J W hJ h0 hY
  have hSt := hI _ _ (hJ _ _ h0)
  have HY : Hd _ := ⟨hY⟩
  have c0 := hSt.names.v
  have H0 : Hd _ := ⟨h0⟩
  have HI : Hd _ := ⟨hI⟩
  have HJ : Hd _ := ⟨hJ⟩
  clear hY hJ hI hSt h0
  refine callsIn_of_wp Tryd.func37 rfl trivial ?_ rfl
  simp only [Tryd.ntmps37, List.size_toArray, List.length_cons, List.length_nil, Nat.reduceAdd, Nat.reduceSub, Array.replicate_succ, Array.replicate_zero, List.push_toArray, List.append_toArray, List.nil_append, List.cons_append]
  gi_wp2
  clear c0
  gi_loopw [7] (fun i wr => ∃ k : Nat, k ≤ 5 ∧ i = .int .i64 k ∧ Hd (J (namesTo (bitAt s) k) wr)) (fun i _ => 5 - (intOf i).toNat)
  case atStart => exact ⟨0, Nat.zero_le _, rfl, H0⟩
  case round =>
    obtain ⟨k, hk, rfl, HR⟩ := hrel
    by_cases hlt : k < 5
    · have hst := HI.out _ _ (HJ.out _ _ HR.out)
      have c0 := hst.names.c k hlt
      have c1 := hst.cap
      clear hst
      have hlo : (0 : Int) ≤ (k : Int) := by omega
      have hhi : (k : Int) < 5 := by omega
      obtain ⟨nm, hnm⟩ : ∃ nm, name5 k = nm := ⟨_, rfl⟩
      rw [hnm] at c0
      have HNm : Hd _ := ⟨hnm⟩
      clear hnm
      by_cases hb : Go.bits .and .u8 (s / 2 ^ k) 1 = 1
      · have hbt : bitAt s k = true := decide_eq_true hb
        have hb2 : (Go.bits .and .u8 (s / 2 ^ k) 1 == 1) = true := by rw [hb]; rfl
        obtain ⟨fn, tmps, assign, body, hy, hR⟩ := HY.out (namesTo (bitAt s) k) nm wr HR.out ⟨k, hlt, hbt, rfl, HNm.out.symm⟩
        have HR2 : Hd _ := ⟨hR⟩
        have HB : Hd _ := ⟨hbt⟩
        clear hR hbt
        (try dsimp only at hy)
        gi_wp2
        refine And.intro (fun h => absurd h (by simp [Fence.wide])) (HR2.out.mono ?_)
        rintro e W2 ⟨rfl, hJ2⟩
        have HJ2 : Hd (J (namesTo (bitAt s) (k + 1)) W2) := ⟨by
          show J (namesTo (bitAt s) k ++ (if bitAt s k then [name5 k] else [])) W2
          rw [HB.out, if_pos rfl, HNm.out]; exact hJ2⟩
        clear hJ2
        gi_wp2
        go_roundw
        case rel => exact ⟨k + 1, by omega, by go_num, HJ2⟩
        case measure => simp [intOf]; omega
      · have hbt : bitAt s k = false := decide_eq_false hb
        have hb2 : (Go.bits .and .u8 (s / 2 ^ k) 1 == 1) = false := by simpa using hb
        have HB : Hd _ := ⟨hbt⟩
        clear hbt
        gi_wp2
        refine And.intro (fun f h => by cases h) ?_
        gi_wp2
        go_roundw
        case rel => exact ⟨k + 1, by omega, by go_num, ⟨by
            show J (namesTo (bitAt s) k ++ (if bitAt s k then [name5 k] else [])) _
            rw [HB.out]; simpa using HR.out⟩⟩
        case measure => simp [intOf]; omega
    · obtain rfl : k = 5 := by omega
      gi_wp2
      go_end0
      exact ⟨⟨_, rfl⟩, _, rfl, HR.out⟩
end Go.Proofs.YtahbnpkhkhdmaaaDoor

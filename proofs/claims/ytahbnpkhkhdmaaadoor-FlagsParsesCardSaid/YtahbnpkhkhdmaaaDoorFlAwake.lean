/- Package flags: Has, Change, the plain law of Parse and String, awake. No condition but those that each contract bears. -/
import Derived.Test.YtahbnpkhkhdmaaaDoorFlColl
set_option linter.unusedVariables false
set_option linter.unusedSimpArgs false
namespace Go.Proofs.YtahbnpkhkhdmaaaDoor
open Go.RowKit Go.Shelf
attribute [local go_sem] Oper.semAt_some
def hasF (s o : Int) : Bool := Go.bits .andNot .u8 (Go.bits .and .u8 o 31) s == 0
def changeF (s how o : Int) : Int := if how = 0 then Go.bits .and .u8 o 31 else if how = 1 then Go.bits .and .u8 (Go.bits .or .u8 s o) 31 else if how = 2 then Go.bits .and .u8 (Go.bits .andNot .u8 s o) 31 else Go.bits .and .u8 s 31
theorem has_any (s o : Int) (w : World) : Calls Tryd.prog 17 #[.int .u8 s, .int .u8 o] w fun e w' => e = .returned (.bool (hasF s o)) ∧ Below w.heap.size w w' := by
  go_enter Tryd.func17, Tryd.ntmps17
  go_wp2
  go_ret
  exact ⟨rfl, Below.refl _ _⟩
theorem change_any (s how o : Int) (w : World) : Calls Tryd.prog 18 #[.int .u8 s, .int .i64 how, .int .u8 o] w fun e w' => e = .returned (.int .u8 (changeF s how o)) ∧ Below w.heap.size w w' := by
  unfold changeF
  by_cases h0 : how = 0
  · subst h0
    go_enter Tryd.func18, Tryd.ntmps18
    go_wp2
    go_ret
    exact ⟨rfl, Below.refl _ _⟩
  · by_cases h1 : how = 1
    · subst h1
      go_enter Tryd.func18, Tryd.ntmps18
      go_wp2
      go_ret
      exact ⟨rfl, Below.refl _ _⟩
    · by_cases h2 : how = 2
      · subst h2
        go_enter Tryd.func18, Tryd.ntmps18
        go_wp2
        go_ret
        exact ⟨rfl, Below.refl _ _⟩
      · rw [if_neg h0, if_neg h1, if_neg h2]
        have b0 : (how == 0) = false := beq_eq_false_iff_ne.mpr h0
        have b1 : (how == 1) = false := beq_eq_false_iff_ne.mpr h1
        have b2 : (how == 2) = false := beq_eq_false_iff_ne.mpr h2
        go_enter Tryd.func18, Tryd.ntmps18
        go_wp2
        go_ret
        exact ⟨rfl, Below.refl _ _⟩
/-! The flags of a word, to be reckoned. -/
def hitC (s : ByteArray) (i : Nat) : Bool := (lowS (name5 i)).data.toList == (lowS s).data.toList
theorem hit_eq (s : ByteArray) : hit s = hitC s := by
  funext i
  unfold hit hitC
  rw [ByteArray.toList_eq, ByteArray.toList_eq]
def flagC (s : ByteArray) : Int × Bool := match first5 (hitC s) with
  | 0 => (1, true)
  | 1 => (2, true)
  | 2 => (4, true)
  | 3 => (8, true)
  | 4 => (16, true)
  | _ => (0, false)
theorem flag_eq (s : ByteArray) : flagOf s = flagC s := by unfold flagOf flagC; rw [hit_eq]; generalize first5 (hitC s) = n; match n with
  | 0 => rfl
  | 1 => rfl
  | 2 => rfl
  | 3 => rfl
  | 4 => rfl
  | n + 5 => rfl
def orC : List ByteArray → Int → Option Int
  | [], o => some o
  | x :: xs, o => if (flagC x).2 then orC xs (Go.bits .or .u8 o (flagC x).1) else none
theorem or_eq : ∀ (l : List ByteArray) (o : Int), orAll l o = orC l o
  | [], o => rfl
  | x :: xs, o => by
    simp only [orAll, orC, flag_eq]
    split
    · exact or_eq xs _
    · rfl
def parseC (s : ByteArray) : Int × Int :=
  if (Lib.hasPrefix s.data.toList [40] && Lib.hasSuffix (Lib.trimPrefix s.data.toList [40]) [41]) = true then
    if (inner s).size = 0 then (0, 0) else orOut (orC (parts 32 (inner s)) 0)
  else (0, 2)
theorem parse_eq (s : ByteArray) : parseS s = parseC s := by unfold parseS parseC; rw [or_eq]
theorem back_all : (List.range 32).all (fun a => parseC (strOf (a : Int)) == ((a : Int), 0)) = true := by kernel_rfl
theorem parse_str {a : Int} (h0 : 0 ≤ a) (h1 : a < 32) : parseS (strOf a) = (a, 0) := by
  have := List.all_eq_true.1 back_all a.toNat (by simp; omega)
  rw [parse_eq]
  have e : ((a.toNat : Nat) : Int) = a := by omega
  rw [e] at this
  simpa using this
theorem awake_parse1 : parseS ⟨#[40, 92, 115, 101, 101, 110, 41]⟩ = (8, 0) := by rw [parse_eq]; kernel_rfl
theorem awake_parse2 : parseS ⟨#[40, 32, 92, 83, 101, 101, 110, 41]⟩ = (0, 2) := by rw [parse_eq]; kernel_rfl
theorem awake_str : strOf 12 = ⟨#[40, 92, 68, 101, 108, 101, 116, 101, 100, 32, 92, 83, 101, 101, 110, 41]⟩ := by kernel_rfl
theorem parse_calls (s : ByteArray) (w : World) (hs : s.size ≤ 140737488351232) {bn on cn : Nat} (hN : NamesAt w bn on cn) {f e : Int} (hp : parseS s = (f, e)) :
    Calls Tryd.prog 9 #[.string s] w fun x w' => x = .returned (.tuple #[.int .u8 f, .int .i64 e]) ∧ Hd (Below w.heap.size w w') := by
  have h := (callsIn_wide (n := 20)).1 (parse_any s w hs hN 20 (by omega))
  rw [hp] at h
  exact h.mono (fun _ _ h => ⟨h.1, ⟨h.2⟩⟩)
theorem string_calls (s : Int) (w : World) {bn on cn : Nat} (hN : NamesAt w bn on cn) {t : ByteArray} (ht : strOf s = t) :
    Calls Tryd.prog 15 #[.int .u8 s] w fun e w' => e = .returned (.string t) ∧ Hd (Below w.heap.size w w') := by
  subst ht
  exact (string_any s w hN).mono (fun _ _ h => ⟨h.1, ⟨h.2⟩⟩)
theorem bool_str : (({ data := #[40, 92, 68, 101, 108, 101, 116, 101, 100, 32, 92, 83, 101, 101, 110, 41] } : ByteArray).toList == ({ data := #[40, 92, 68, 101, 108, 101, 116, 101, 100, 32, 92, 83, 101, 101, 110, 41] } : ByteArray).toList) = true := by rw [ByteArray.toList_eq]; simp
theorem awake_any (w : World) {bn on cn : Nat} (hN : NamesAt w bn on cn) : Calls Tryd.prog 11 #[] w fun e w' => e = .returned (.bool true) ∧ Below w.heap.size w w' := by
  have HN : Hd _ := ⟨hN⟩
  clear hN
  go_enter Tryd.func11, Tryd.ntmps11
  go_wp2_with (first
    | (go_at_call 9; have hx := parse_calls ⟨#[40, 92, 115, 101, 101, 110, 41]⟩ w (by decide) HN.out awake_parse1; (with_reducible refine hx.mono ?_); clear hx; rintro e w1 ⟨rfl, H1⟩; have HN1 : Hd _ := ⟨HN.out.on H1.out⟩)
    | (go_at_call 9; have hx := parse_calls ⟨#[40, 32, 92, 83, 101, 101, 110, 41]⟩ w1 (by decide) HN1.out awake_parse2; (with_reducible refine hx.mono ?_); clear hx; rintro e w2 ⟨rfl, H2⟩; have HN2 : Hd _ := ⟨HN1.out.on H2.out⟩)
    | (go_at_call 15; have hx := string_calls 12 w2 HN2.out awake_str; (with_reducible refine hx.mono ?_); clear hx; rintro e w3 ⟨rfl, H3⟩))
  go_ret
  have h2 := H1.out.trans (H2.out.mono H1.out.size)
  exact ⟨rfl, h2.trans (H3.out.mono h2.size)⟩
end Go.Proofs.YtahbnpkhkhdmaaaDoor

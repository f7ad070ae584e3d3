/- Package feed as a plain machine: one byte, many bytes, parts of them. No program in sight but the number that a literal's head says. No condition. -/
import Derived.Test.YtphaemaccdddfaaDoorFdTold2
import Derived.Test.YtphaemaccdddfaaDoorTkHand
set_option linter.unusedVariables false
set_option linter.unusedSimpArgs false
namespace Go.Proofs.YtphaemaccdddfaaDoor.PTk
open Go.RowKit Go.Shelf
/-- The number of a literal's head at the end of a text. -/
def headF (s : ByteArray) : Int × Bool :=
  if Lib.lastIndexByte s 123 < 0 then (0, false) else
  if Lib.hasSuffix s.data.toList [125] = false then (0, false) else
  match token_Reader_Number.f (s.extract ((Lib.lastIndexByte s 123).toNat + 1) (s.size - 1)) false with
  | some (n, y, fl) => (n, !fl && y.toList == ([] : List UInt8))
  | none => (0, false)
theorem headF_range (s : ByteArray) : 0 ≤ (headF s).1 ∧ (headF s).1 ≤ 4294967295 := by
  unfold headF
  split
  · exact ⟨Int.le_refl _, by decide⟩
  · split
    · exact ⟨Int.le_refl _, by decide⟩
    · split
      · next n y fl h =>
        unfold token_Reader_Number.f at h
        split at h
        · split at h
          · next u hu =>
            injection h with h; injection h with h h2; subst h
            unfold numOf at hu
            split at hu
            · next v hv =>
              split at hu
              · injection hu with hu; subst hu
                have := Lib.parseUintB_le hv
                exact ⟨by omega, by dsimp only; omega⟩
              · cases hu
            · cases hu
          · injection h with h; injection h with h h2; subst h
            exact ⟨Int.le_refl _, Int.le_of_lt (by decide : (0 : Int) < 4294967295)⟩
        · cases h
      · exact ⟨Int.le_refl _, by decide⟩
/-- The line that ends. -/
def FS.lineOf (F : FS) : ByteArray := ⟨((F.s.take (F.s.length - 2)).drop F.fr.toNat).toArray⟩
def FS.ends (F : FS) : FS × Option (Int × ByteArray) :=
  if (headF F.lineOf).2 = false then F.told 0 else
  if 65536 < F.all + (headF F.lineOf).1 then F.told 2 else
  (⟨F.s, (F.s.length : Int) + (headF F.lineOf).1, F.own, F.all + (headF F.lineOf).1, (headF F.lineOf).1, F.last, if 0 < (headF F.lineOf).1 then 1 else 0⟩, some (1, ⟨#[]⟩))
def FS.line (F : FS) (x : UInt8) : FS × Option (Int × ByteArray) :=
  if F.last = 13 ∧ x = 10 then FS.ends ⟨F.s ++ [x], F.fr, F.own + 1, F.all, F.lft, 0, 0⟩ else
  if 8192 < F.own + 1 then (⟨[], F.fr, F.own + 1, F.all, F.lft, x, 2⟩, some (3, ⟨(F.s ++ [x]).toArray⟩)) else
  (⟨F.s ++ [x], F.fr, F.own + 1, F.all, F.lft, x, 0⟩, none)
def FS.step (F : FS) (x : UInt8) : FS × Option (Int × ByteArray) :=
  if F.md = 0 then F.line x else if F.md = 1 then F.literal x else F.skip x
def FS.run : FS → List UInt8 → FS × List (Int × ByteArray)
  | F, [] => (F, [])
  | F, x :: l => (((F.step x).1.run l).1, (F.step x).2.toList ++ ((F.step x).1.run l).2)
theorem FS.run_append : ∀ (l m : List UInt8) (F : FS), F.run (l ++ m) = (((F.run l).1.run m).1, (F.run l).2 ++ ((F.run l).1.run m).2)
  | [], m, F => rfl
  | x :: l, m, F => by
    show (((F.step x).1.run (l ++ m)).1, (F.step x).2.toList ++ ((F.step x).1.run (l ++ m)).2) = _
    rw [FS.run_append l m]
    show _ = (_, (_ ++ _) ++ _)
    rw [List.append_assoc]
    rfl
theorem FS.run_snoc (l : List UInt8) (x : UInt8) (F : FS) : F.run (l ++ [x]) = (((F.run l).1.step x).1, (F.run l).2 ++ ((F.run l).1.step x).2.toList) := by
  rw [FS.run_append]
  show (_, _ ++ (_ ++ [])) = _
  rw [List.append_nil]
  rfl
theorem FS.run_len : ∀ (l : List UInt8) (F : FS), (F.run l).2.length ≤ l.length
  | [], F => Nat.le_refl _
  | x :: l, F => by
    show ((F.step x).2.toList ++ ((F.step x).1.run l).2).length ≤ _
    rw [List.length_append, List.length_cons]
    have := FS.run_len l (F.step x).1
    have h1 : (F.step x).2.toList.length ≤ 1 := by cases (F.step x).2 <;> simp
    omega
/-- What holds of a feed that has had n bytes. -/
structure FS.Ok (F : FS) (n : Nat) : Prop where
  len : F.s.length ≤ n
  own0 : 0 ≤ F.own
  own : F.own ≤ n
  all0 : 0 ≤ F.all
  all : F.all ≤ 65536
  lft0 : 0 ≤ F.lft
  lft : F.lft ≤ 65536
  fr0 : 0 ≤ F.fr
  fr : F.fr ≤ n + 65536
  md0 : F.md = 0 → F.fr ≤ F.s.length ∧ (F.last = 13 → F.fr < F.s.length)
  md1 : F.md = 1 → F.fr = F.s.length + F.lft ∧ 0 < F.lft ∧ F.last = 0
  md2 : F.md = 2 → F.s = []
  md : F.md ≤ 2
theorem FS.zero_ok (n : Nat) : FS.zero.Ok n := by
  refine ⟨?_, ?_, ?_, ?_, ?_, ?_, ?_, ?_, ?_, ?_, ?_, ?_, ?_⟩ <;> simp [FS.zero]
  omega
theorem FS.step_ok (F : FS) (n : Nat) (h : F.Ok n) (x : UInt8) : (F.step x).1.Ok (n + 1) := by
  obtain ⟨h1, h2, h3, h4, h5, h6, h7, h8, h9, h10, h11, h12, h13⟩ := h
  unfold FS.step
  split
  · next hm =>
    obtain ⟨h10a, h10b⟩ := h10 hm
    unfold FS.line
    split
    · next hx =>
      unfold FS.ends
      split
      · exact FS.zero_ok _
      · split
        · exact FS.zero_ok _
        · next h65 =>
          obtain ⟨r1, r2⟩ := headF_range (FS.lineOf ⟨F.s ++ [x], F.fr, F.own + 1, F.all, F.lft, 0, 0⟩)
          obtain ⟨r, hr⟩ : ∃ r, (headF (FS.lineOf ⟨F.s ++ [x], F.fr, F.own + 1, F.all, F.lft, 0, 0⟩)).1 = r := ⟨_, rfl⟩
          rw [hr] at h65 r1 r2
          rw [hr]
          dsimp only at h65 ⊢
          refine ⟨?_, ?_, ?_, ?_, ?_, ?_, ?_, ?_, ?_, ?_, ?_, ?_, ?_⟩ <;> dsimp only <;> (try rw [List.length_append, List.length_singleton]) <;> (try omega)
          · intro e
            split at e
            · cases e
            · refine ⟨by omega, fun e => by cases e⟩
          · intro e
            split at e
            · exact ⟨by omega, by omega, rfl⟩
            · cases e
          · intro e
            split at e <;> cases e
          · split <;> omega
    · next hx =>
      split
      · refine ⟨?_, ?_, ?_, ?_, ?_, ?_, ?_, ?_, ?_, ?_, ?_, ?_, ?_⟩ <;> dsimp only <;> (try rw [List.length_nil]) <;> (try omega)
        · intro _; rfl
      · refine ⟨?_, ?_, ?_, ?_, ?_, ?_, ?_, ?_, ?_, ?_, ?_, ?_, ?_⟩ <;> dsimp only <;> (try rw [List.length_append, List.length_singleton]) <;> (try omega)
  · split
    · next hm =>
      obtain ⟨h11a, h11b, h11c⟩ := h11 hm
      unfold FS.literal
      refine ⟨?_, ?_, ?_, ?_, ?_, ?_, ?_, ?_, ?_, ?_, ?_, ?_, ?_⟩ <;> dsimp only <;> (try rw [List.length_append, List.length_singleton]) <;> (try omega)
      · intro e
        split at e
        · refine ⟨by omega, fun e => ?_⟩
          rw [h11c] at e; cases e
        · cases e
      · intro e
        split at e
        · cases e
        · exact ⟨by omega, by omega, h11c⟩
      · intro e
        split at e <;> cases e
      · split <;> omega
    · next hm0 hm1 =>
      have h2m : F.md = 2 := by omega
      unfold FS.skip
      split
      · exact FS.zero_ok _
      · refine ⟨?_, ?_, ?_, ?_, ?_, ?_, ?_, ?_, ?_, ?_, ?_, ?_, ?_⟩ <;> dsimp only <;> (try omega)
        try exact fun _ => h12 h2m
theorem FS.run_ok : ∀ (l : List UInt8) (F : FS) (n : Nat), F.Ok n → (F.run l).1.Ok (n + l.length)
  | [], F, n, h => h
  | x :: l, F, n, h => by
    have := FS.run_ok l (F.step x).1 (n + 1) (F.step_ok n h x)
    rw [List.length_cons, show n + (l.length + 1) = n + 1 + l.length by omega]
    exact this
theorem FS.step_text (F : FS) (n : Nat) (h : F.Ok n) (x : UInt8) (p : Int × ByteArray) (hp : (F.step x).2 = some p) : p.2.size ≤ n + 1 ∧ 0 ≤ p.1 ∧ p.1 ≤ 3 := by
  have h1 := h.len
  unfold FS.step at hp
  split at hp
  · unfold FS.line at hp
    split at hp
    · unfold FS.ends at hp
      split at hp
      · unfold FS.told at hp
        injection hp with hp; subst hp
        refine ⟨?_, (by dsimp only; omega), (by dsimp only; omega)⟩
        show (List.toArray _).size ≤ _
        simp
        omega
      · split at hp
        · unfold FS.told at hp
          injection hp with hp; subst hp
          refine ⟨?_, (by dsimp only; omega), (by dsimp only; omega)⟩
          show (List.toArray _).size ≤ _
          simp
          omega
        · injection hp with hp; subst hp
          exact ⟨Nat.zero_le _, (by dsimp only; omega), (by dsimp only; omega)⟩
    · split at hp
      · injection hp with hp; subst hp
        refine ⟨?_, (by dsimp only; omega), (by dsimp only; omega)⟩
        show (List.toArray _).size ≤ _
        simp
        omega
      · cases hp
  · split at hp
    · cases hp
    · unfold FS.skip at hp
      split at hp <;> cases hp
theorem FS.run_text : ∀ (l : List UInt8) (F : FS) (n : Nat), F.Ok n → ∀ p ∈ (F.run l).2, p.2.size ≤ n + l.length ∧ 0 ≤ p.1 ∧ p.1 ≤ 3
  | [], F, n, h, p, hp => by cases hp
  | x :: l, F, n, h, p, hp => by
    rw [List.length_cons]
    rcases List.mem_append.1 (show p ∈ (F.step x).2.toList ++ ((F.step x).1.run l).2 from hp) with h1 | h1
    · have := F.step_text n h x p (by simpa using h1)
      exact ⟨by omega, this.2⟩
    · have := FS.run_text l (F.step x).1 (n + 1) (F.step_ok n h x) p h1
      exact ⟨by omega, this.2⟩
end Go.Proofs.YtphaemaccdddfaaDoor.PTk

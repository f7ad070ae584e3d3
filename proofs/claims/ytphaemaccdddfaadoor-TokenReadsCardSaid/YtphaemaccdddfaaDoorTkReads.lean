/- The walk of TokenReads: whatever a reader is asked, the document's answers the same. The premise says what package variables hold. -/
import Derived.Test.YtphaemaccdddfaaDoorTkRef3
import Derived.Test.YtphaemaccdddfaaDoorTkAwake
import Derived.Deep.RegionHeld3
set_option linter.unusedVariables false
set_option linter.unusedSimpArgs false
namespace Go.Proofs.YtphaemaccdddfaaDoor.PTk
open Go.RowKit Go.Shelf Go.Proofs.YtphaemaccdddfaaDoorW.PrintWords Go.Proofs.YtphaemaccdddfaaDoorW.PrintLast Go.Proofs.YtphaemaccdddfaaDoorW.PrintMore
/-- The two readers, the program's at a, fl, the document's at b, gl. -/
structure Two (w W : World) (g1 g2 : Nat) (S : ByteArray) (a : Nat) (fl : Bool) (b : Nat) (gl : Bool) : Prop where
  r : Rd w W g1 (restOf S a fl) fl
  q : IsS34 w W g2 S (b : Int) gl
  ne : g1 ≠ g2
theorem Two.on {w W W' : World} {g1 g2 : Nat} {S : ByteArray} {a b : Nat} {fl gl : Bool} (h : Two w W g1 g2 S a fl b gl) (hb : Below W.heap.size W W') : Two w W' g1 g2 S a fl b gl :=
  ⟨h.r.on hb, h.q.below hb, h.ne⟩
theorem Two.of1 {w W W' : World} {g1 g2 : Nat} {S : ByteArray} {a b a' : Nat} {fl gl fl' : Bool} (h : Two w W g1 g2 S a fl b gl) (k : RdPost w W g1 (restOf S a' fl') fl' W') : Two w W' g1 g2 S a' fl' b gl :=
  ⟨k.1, ⟨(k.2.2 g2 h.q.lt (fun e => h.ne e.symm) (by simp)).trans h.q.1, h.q.2⟩, h.ne⟩
theorem Two.of2 {w W W' : World} {g1 g2 : Nat} {S : ByteArray} {a b b' : Nat} {fl gl gl' : Bool} (h : Two w W g1 g2 S a fl b gl) (k1 : IsS34 w W' g2 S (b' : Int) gl') (k2 : Below w.heap.size w W') (k3 : KeepBut W W' g2 none) : Two w W' g1 g2 S a fl b' gl' :=
  ⟨h.r.keep k2 k3 h.ne, k1, h.ne⟩
/-- What a step on either leaves: other blocks stay. -/
def KeepTwo (g1 g2 : Nat) (W W' : World) : Prop := W.heap.size ≤ W'.heap.size ∧ ∀ i, i < W.heap.size → i ≠ g1 → i ≠ g2 → W'.heap[i]? = W.heap[i]?
theorem KeepTwo.refl (g1 g2 : Nat) (W : World) : KeepTwo g1 g2 W W := ⟨Nat.le_refl _, fun _ _ _ _ => rfl⟩
theorem KeepTwo.trans {g1 g2 : Nat} {W W' W'' : World} (h : KeepTwo g1 g2 W W') (k : KeepTwo g1 g2 W' W'') : KeepTwo g1 g2 W W'' := ⟨Nat.le_trans h.1 k.1, fun i hi h1 h2 => (k.2 i (Nat.lt_of_lt_of_le hi h.1) h1 h2).trans (h.2 i hi h1 h2)⟩
theorem KeepTwo.of1 {g1 g2 : Nat} {W W' : World} (h : KeepBut W W' g1 none) : KeepTwo g1 g2 W W' := ⟨h.1, fun i hi h1 _ => h.2 i hi h1 (by simp)⟩
theorem KeepTwo.of2 {g1 g2 : Nat} {W W' : World} (h : KeepBut W W' g2 none) : KeepTwo g1 g2 W W' := ⟨h.1, fun i hi _ h2 => h.2 i hi h2 (by simp)⟩
theorem KeepTwo.cell {g1 g2 : Nat} {W W' : World} (h : KeepTwo g1 g2 W W') {p : Addr} {v : Value} (hc : W.cell? p = some v) (h1 : p.block ≠ g1) (h2 : p.block ≠ g2) : W'.cell? p = some v := (World.cell?_of_block (w := W) (h.2 p.block (lt_of_cell hc) h1 h2)).trans hc
/-- A step: the two readers behind it, and that all else stays. -/
def Step2 (w W : World) (g1 g2 : Nat) (S : ByteArray) (a : Nat) (fl : Bool) (b : Nat) (gl : Bool) (W' : World) : Prop := Two w W' g1 g2 S a fl b gl ∧ KeepTwo g1 g2 W W'
section
variable {w W : World} {g1 g2 : Nat} {S : ByteArray} {a b : Nat} {fl gl : Bool} (h : Two w W g1 g2 S a fl b gl) (hS : S.size ≤ 100000)
include h
theorem t_rest (hb : b ≤ S.size) : Calls Tryd.prog 21 #[.pointer (some ⟨g2, 0, none⟩)] W fun e W' => e = .returned (.string (restOf S b gl)) ∧ Hd (Step2 w W g1 g2 S a fl b gl W') :=
  (postchaiseref12_Reader_Rest.calls g2 S b gl _ _ _ _ w W h.q h.r.below (rest_f S b gl hb)).mono fun _ _ ⟨h1, h2, h3, h4⟩ => ⟨h1, ⟨h.of2 h2 h3 h4, .of2 h4⟩⟩
theorem t_fail2 : Calls Tryd.prog 49 #[.pointer (some ⟨g2, 0, none⟩)] W fun e W' => e = .returned (.tuple #[]) ∧ Hd (Step2 w W g1 g2 S a fl b true W') :=
  (postchaiseref12_Reader_Fail.calls g2 S b gl S b true w W h.q h.r.below rfl).mono fun _ _ ⟨h1, h2, h3, h4⟩ => ⟨h1, ⟨h.of2 h2 h3 h4, .of2 h4⟩⟩
theorem t_fail1 : Calls Tryd.prog 9 #[.pointer (some ⟨g1, 0, none⟩)] W fun e W' => e = .returned (.tuple #[]) ∧ Hd (Step2 w W g1 g2 S a true b gl W') :=
  (rd_fail h.r).mono fun _ _ ⟨h1, h2⟩ => ⟨h1, ⟨h.of1 (a' := a) (fl' := true) h2.out, .of1 h2.out.2⟩⟩
theorem t_atom1 (r : ByteArray) (a' : Nat) (fl' : Bool) (hf : token_Reader_Atom.f (restOf S a fl) fl = some (r, restOf S a' fl', fl')) : Calls Tryd.prog 13 #[.pointer (some ⟨g1, 0, none⟩)] W fun e W' => e = .returned (.string r) ∧ Hd (Step2 w W g1 g2 S a' fl' b gl W') :=
  (rd_atom h.r _ _ _ hf).mono fun _ _ ⟨h1, h2⟩ => ⟨h1, ⟨h.of1 h2.out, .of1 h2.out.2⟩⟩
theorem t_atom2 (r : ByteArray) (b' : Nat) (gl' : Bool) (hf : ∀ k, 3 * S.size + 60 < k → postchaiseref12_Reader_Atom.f k S (b : Int) gl = some (r, S, (b' : Int), gl')) : Calls Tryd.prog 41 #[.pointer (some ⟨g2, 0, none⟩)] W fun e W' => e = .returned (.string r) ∧ Hd (Step2 w W g1 g2 S a fl b' gl' W') :=
  (postchaiseref12_Reader_Atom.calls (3 * S.size + 61) g2 S b gl _ _ _ _ w W h.q h.r.below (hf _ (by omega))).mono fun _ _ ⟨h1, h2, h3, h4⟩ => ⟨h1, ⟨h.of2 h2 h3 h4, .of2 h4⟩⟩
theorem t_number1 (hG : GlobOk w) (r : Int) (a' : Nat) (fl' : Bool) (hf : token_Reader_Number.f (restOf S a fl) fl = some (r, restOf S a' fl', fl')) : Calls Tryd.prog 14 #[.pointer (some ⟨g1, 0, none⟩)] W fun e W' => e = .returned (.int .u32 r) ∧ Hd (Step2 w W g1 g2 S a' fl' b gl W') :=
  (rd_number h.r hG _ _ _ hf).mono fun _ _ ⟨h1, h2⟩ => ⟨h1, ⟨h.of1 h2.out, .of1 h2.out.2⟩⟩
theorem t_number2 (r : Int) (b' : Nat) (gl' : Bool) (hf : ∀ k, 3 * S.size + 60 < k → postchaiseref12_Reader_Number.f k S (b : Int) gl = some (r, S, (b' : Int), gl')) : Calls Tryd.prog 42 #[.pointer (some ⟨g2, 0, none⟩)] W fun e W' => e = .returned (.int .u32 r) ∧ Hd (Step2 w W g1 g2 S a fl b' gl' W') :=
  (postchaiseref12_Reader_Number.calls (3 * S.size + 61) g2 S b gl _ _ _ _ w W h.q h.r.below (hf _ (by omega))).mono fun _ _ ⟨h1, h2, h3, h4⟩ => ⟨h1, ⟨h.of2 h2 h3 h4, .of2 h4⟩⟩
theorem t_string1 (hG : GlobOk w) (r : ByteArray) (a' : Nat) (fl' : Bool) (hf : token_Reader_String.f (restOf S a fl) fl = some (r, restOf S a' fl', fl')) : Calls Tryd.prog 15 #[.pointer (some ⟨g1, 0, none⟩)] W fun e W' => e = .returned (.string r) ∧ Hd (Step2 w W g1 g2 S a' fl' b gl W') :=
  (rd_string h.r hG _ _ _ hf).mono fun _ _ ⟨h1, h2⟩ => ⟨h1, ⟨h.of1 h2.out, .of1 h2.out.2⟩⟩
theorem t_string2 (r : ByteArray) (b' : Nat) (gl' : Bool) (hf : ∀ k, 3 * S.size + 60 < k → postchaiseref12_Reader_String.f k S (b : Int) gl = some (r, S, (b' : Int), gl')) : Calls Tryd.prog 43 #[.pointer (some ⟨g2, 0, none⟩)] W fun e W' => e = .returned (.string r) ∧ Hd (Step2 w W g1 g2 S a fl b' gl' W') :=
  (postchaiseref12_Reader_String.calls (3 * S.size + 61) g2 S b gl _ _ _ _ w W h.q h.r.below (hf _ (by omega))).mono fun _ _ ⟨h1, h2, h3, h4⟩ => ⟨h1, ⟨h.of2 h2 h3 h4, .of2 h4⟩⟩
theorem t_literal1 (hG : GlobOk w) (r : ByteArray) (a' : Nat) (fl' : Bool) (hf : token_Reader_Literal.f (restOf S a fl) fl = some (r, restOf S a' fl', fl')) : Calls Tryd.prog 16 #[.pointer (some ⟨g1, 0, none⟩)] W fun e W' => e = .returned (.string r) ∧ Hd (Step2 w W g1 g2 S a' fl' b gl W') :=
  (rd_literal h.r hG _ _ _ hf).mono fun _ _ ⟨h1, h2⟩ => ⟨h1, ⟨h.of1 h2.out, .of1 h2.out.2⟩⟩
theorem t_literal2 (r : ByteArray) (b' : Nat) (gl' : Bool) (hf : ∀ k, 3 * S.size + 60 < k → postchaiseref12_Reader_Literal.f k S (b : Int) gl = some (r, S, (b' : Int), gl')) : Calls Tryd.prog 44 #[.pointer (some ⟨g2, 0, none⟩)] W fun e W' => e = .returned (.string r) ∧ Hd (Step2 w W g1 g2 S a fl b' gl' W') :=
  (postchaiseref12_Reader_Literal.calls (3 * S.size + 61) g2 S b gl _ _ _ _ w W h.q h.r.below (hf _ (by omega))).mono fun _ _ ⟨h1, h2, h3, h4⟩ => ⟨h1, ⟨h.of2 h2 h3 h4, .of2 h4⟩⟩
theorem t_blank1 (a' : Nat) (fl' : Bool) (hf : token_Reader_Blank.f (restOf S a fl) fl = some (restOf S a' fl', fl')) : Calls Tryd.prog 32 #[.pointer (some ⟨g1, 0, none⟩)] W fun e W' => e = .returned (.tuple #[]) ∧ Hd (Step2 w W g1 g2 S a' fl' b gl W') :=
  (rd_blank h.r _ _ hf).mono fun _ _ ⟨h1, h2⟩ => ⟨h1, ⟨h.of1 h2.out, .of1 h2.out.2⟩⟩
theorem t_must2 (x : ByteArray) (b' : Nat) (gl' : Bool) (hf : ∀ k, 3 * S.size + 60 < k → postchaiseref12_Reader_Must.f k S (b : Int) gl x = some (S, (b' : Int), gl')) : Calls Tryd.prog 45 #[.pointer (some ⟨g2, 0, none⟩), .string x] W fun e W' => e = .returned (.tuple #[]) ∧ Hd (Step2 w W g1 g2 S a fl b' gl' W') :=
  (postchaiseref12_Reader_Must.calls (3 * S.size + 61) g2 S b gl x _ _ _ w W h.q h.r.below (hf _ (by omega))).mono fun _ _ ⟨h1, h2, h3, h4⟩ => ⟨h1, ⟨h.of2 h2 h3 h4, .of2 h4⟩⟩
theorem t_word1 (x : ByteArray) (r : Bool) (a' : Nat) (fl' : Bool) (hf : token_Reader_Word.f (restOf S a fl) fl x = some (r, restOf S a' fl', fl')) : Calls Tryd.prog 17 #[.pointer (some ⟨g1, 0, none⟩), .string x] W fun e W' => e = .returned (.bool r) ∧ Hd (Step2 w W g1 g2 S a' fl' b gl W') :=
  (rd_word h.r _ _ _ _ hf).mono fun _ _ ⟨h1, h2⟩ => ⟨h1, ⟨h.of1 h2.out, .of1 h2.out.2⟩⟩
theorem t_word2 (x : ByteArray) (r : Bool) (b' : Nat) (gl' : Bool) (hf : ∀ k, 3 * S.size + 60 < k → postchaiseref12_Reader_Word.f k S (b : Int) gl x = some (r, S, (b' : Int), gl')) : Calls Tryd.prog 46 #[.pointer (some ⟨g2, 0, none⟩), .string x] W fun e W' => e = .returned (.bool r) ∧ Hd (Step2 w W g1 g2 S a fl b' gl' W') :=
  (postchaiseref12_Reader_Word.calls (3 * S.size + 61) g2 S b gl x _ _ _ _ w W h.q h.r.below (hf _ (by omega))).mono fun _ _ ⟨h1, h2, h3, h4⟩ => ⟨h1, ⟨h.of2 h2 h3 h4, .of2 h4⟩⟩
theorem t_next1 (c : UInt8) (z : Int) (hz : z = (c.toNat : Nat)) (ha : a ≤ S.size) : Calls Tryd.prog 18 #[.pointer (some ⟨g1, 0, none⟩), .int .u8 z] W fun e W' => e = .returned (.bool (nextB (restOf S a fl) c)) ∧ Hd (Step2 w W g1 g2 S a fl b gl W') :=
  (rd_next h.r z _ _ _ (next_both S a fl c z hz ha).1).mono fun _ _ ⟨h1, h2⟩ => ⟨h1, ⟨h.of1 h2.out, .of1 h2.out.2⟩⟩
theorem t_next2 (c : UInt8) (z : Int) (hz : z = (c.toNat : Nat)) (hb : b ≤ S.size) : Calls Tryd.prog 47 #[.pointer (some ⟨g2, 0, none⟩), .int .u8 z] W fun e W' => e = .returned (.bool (nextB (restOf S b gl) c)) ∧ Hd (Step2 w W g1 g2 S a fl b gl W') :=
  (postchaiseref12_Reader_Next.calls g2 S b gl z _ _ _ _ w W h.q h.r.below (next_both S b gl c z hz hb).2).mono fun _ _ ⟨h1, h2, h3, h4⟩ => ⟨h1, ⟨h.of2 h2 h3 h4, .of2 h4⟩⟩
end
def firstOf (x : ByteArray) : UInt8 := match x.data.toList with
  | [] => 32
  | c :: _ => c
/-- What the asking function holds beside the readers: what it is asked, the byte. -/
structure AskAt (W : World) (B : Nat) (d : Int) (x : ByteArray) (wx : World) : Prop where
  ask : wx.heap[B]? = some (.cells #[.int .u8 d, .string x] 36 (0, 0))
  first : wx.heap[B + 1]? = some (.cells #[.int .u8 ((firstOf x).toNat : Nat)] 5 (0, 0))
theorem AskAt.on {W : World} {B : Nat} {d : Int} {x : ByteArray} {wx wy : World} {g1 g2 : Nat} (h : AskAt W B d x wx) (k : KeepTwo g1 g2 wx wy) (h1 : g1 < B) (h2 : g2 < B) : AskAt W B d x wy :=
  ⟨(k.2 B (Array.getElem?_eq_some_iff.1 h.ask).1 (by omega) (by omega)).trans h.ask, (k.2 (B + 1) (Array.getElem?_eq_some_iff.1 h.first).1 (by omega) (by omega)).trans h.first⟩
/-! ### All bytes that are one -/
def eqB (c b : UInt8) : Bool := b == c
theorem wlen_get (P : UInt8 → Bool) : ∀ (l : List UInt8) (j : Nat), j < wlen P l → ∃ h : j < l.length, P l[j] = true
  | [], j, h => by simp [wlen] at h
  | c :: l, j, h => by
    rw [wlen_cons] at h
    split at h
    · next hc =>
      cases j with
      | zero => exact ⟨by simp, hc⟩
      | succ j =>
        obtain ⟨h1, h2⟩ := wlen_get P l j (by omega)
        exact ⟨by simpa using h1, by simpa using h2⟩
    · omega
theorem wlen_end (P : UInt8 → Bool) : ∀ (l : List UInt8) (h : wlen P l < l.length), P l[wlen P l] = false
  | [], h => by simp at h
  | c :: l, h => by
    by_cases hc : P c = true
    · have e : wlen P (c :: l) = wlen P l + 1 := by rw [wlen_cons, if_pos hc]
      have h2 := wlen_end P l (by rw [e, List.length_cons] at h; omega)
      simp only [e, List.getElem_cons_succ]
      exact h2
    · have e : wlen P (c :: l) = 0 := by rw [wlen_cons, if_neg hc]
      simp only [e, List.getElem_cons_zero]
      simpa using hc
theorem next_wl (c : UInt8) (l : List UInt8) (j : Nat) (hj : j ≤ wlen (eqB c) l) : ((l.drop j).head? == some c) = decide (j < wlen (eqB c) l) := by
  have hle := wlen_le (eqB c) l
  by_cases h : j < wlen (eqB c) l
  · obtain ⟨h1, h2⟩ := wlen_get (eqB c) l j h
    rw [decide_eq_true h, List.drop_eq_getElem_cons h1, List.head?_cons]
    have h3 : l[j] = c := eq_of_beq h2
    rw [h3]; simp
  · obtain rfl : j = wlen (eqB c) l := by omega
    rw [decide_eq_false h]
    by_cases h1 : wlen (eqB c) l < l.length
    · have h2 := wlen_end (eqB c) l h1
      rw [List.drop_eq_getElem_cons h1, List.head?_cons]
      obtain ⟨b, hb⟩ : ∃ b, l[wlen (eqB c) l] = b := ⟨_, rfl⟩
      rw [hb] at h2 ⊢
      exact beq_eq_false_iff_ne.2 (fun e => by
        have h3 := Option.some.inj e
        subst h3
        simp [eqB] at h2)
    · rw [List.drop_eq_nil_of_le (by omega)]; rfl
theorem eq_byte (c b : UInt8) : decide (((b.toNat : Nat) : Int) = (c.toNat : Nat)) = eqB c b := by
  unfold eqB
  rw [Bool.eq_iff_iff, decide_eq_true_eq, beq_iff_eq]
  constructor
  · intro h; exact UInt8.toNat_inj.1 (Int.ofNat.inj h)
  · intro h; rw [h]
theorem closure_any (c b : UInt8) (p : Nat) (X : World) (h : X.cell? ⟨p, 0, none⟩ = some (.int .u8 (c.toNat : Nat))) :
    Calls Tryd.prog 48 #[.int .u8 (b.toNat : Nat), .pointer (some ⟨p, 0, none⟩)] X fun e w' => e = .returned (.bool (eqB c b)) ∧ ∃ k, w' = X.drewN k := by
  have HE := Hd.mk (eq_byte c b)
  obtain ⟨m, hm⟩ : ∃ m : Int, ((c.toNat : Nat) : Int) = m := ⟨_, rfl⟩
  obtain ⟨n, hn⟩ : ∃ n : Int, ((b.toNat : Nat) : Int) = n := ⟨_, rfl⟩
  rw [hm] at h HE
  rw [hn] at HE ⊢
  clear hm hn
  by_cases e : n = m
  · have h1 : (n == m) = true := beq_iff_eq.2 e
    have HE2 : Hd (eqB c b = true) := ⟨by rw [← HE.out]; exact decide_eq_true e⟩
    clear e
    go_enter Tryd.func48, Tryd.ntmps48
    go_wp2_with fail
    go_ret
    rw [HE2.out]
    exact ⟨by first | rfl | (rw [← h1]; rfl), 0, rfl⟩
  · have h1 : (n == m) = false := beq_eq_false_iff_ne.2 e
    have HE2 : Hd (eqB c b = false) := ⟨by rw [← HE.out]; exact decide_eq_false e⟩
    clear e
    go_enter Tryd.func48, Tryd.ntmps48
    go_wp2_with fail
    go_ret
    rw [HE2.out]
    exact ⟨by first | rfl | (rw [← h1]; rfl), 0, rfl⟩
theorem enter_closure (args : Array Value) (w : World) : (callFunc 48 args).run Tryd.prog w = .ok (.enter 48 args) w := by kernel_rfl
theorem t_while1 {w W : World} {g1 g2 : Nat} {S : ByteArray} {a b : Nat} {fl gl : Bool} (h : Two w W g1 g2 S a fl b gl) (hS : S.size ≤ 100000) (ha : a ≤ S.size) (c : UInt8) (p : Nat) (hc : W.cell? ⟨p, 0, none⟩ = some (.int .u8 (c.toNat : Nat))) :
    Calls Tryd.prog 33 #[.pointer (some ⟨g1, 0, none⟩), .func (.func 48) #[] #[.pointer (some ⟨p, 0, none⟩)]] W fun e W' => e = .returned (.string ((restOf S a fl).extract 0 (wlen (eqB c) (restOf S a fl).data.toList))) ∧ Hd (Step2 w W g1 g2 S (a + wlen (eqB c) (restOf S a fl).data.toList) fl b gl W') := by
  have hz := restOf_size S a fl
  refine (while_any (eqB c) _ #[.pointer (some ⟨p, 0, none⟩)] g1 (restOf S a fl) fl w W h.r.is h.r.below (by omega) enter_closure (fun b m => ?_)).mono ?_
  · exact (closure_any c b p (W.drewN m) hc).mono fun _ _ ⟨h1, k, hk⟩ => ⟨h1, m + k, by rw [hk, drewN_drewN]⟩
  · rintro e W' ⟨h1, h2, h3, h4⟩
    have e2 : (restOf S a fl).extract (wlen (eqB c) (restOf S a fl).data.toList) (restOf S a fl).size = restOf S (a + wlen (eqB c) (restOf S a fl).data.toList) fl := by
      cases fl with
      | true => rfl
      | false => exact restOf_more S a _ ha
    rw [e2] at h2
    exact ⟨h1, ⟨h.of1 ⟨⟨h2, h3⟩, h4⟩, .of1 h4⟩⟩
/-- What an asking comes to: the readers' place and whether they gave up. -/
structure AskSpec (S : ByteArray) (a : Nat) (fl : Bool) (d : Int) (x : ByteArray) (a' : Nat) (fl' : Bool) : Prop where
  le : a' ≤ S.size
  d0 : d = 0 → ∃ r, token_Reader_Atom.f (restOf S a fl) fl = some (r, restOf S a' fl', fl') ∧ ∀ k, 3 * S.size + 60 < k → postchaiseref12_Reader_Atom.f k S (a : Int) fl = some (r, S, (a' : Int), fl')
  d1 : d = 1 → ∃ r, token_Reader_Number.f (restOf S a fl) fl = some (r, restOf S a' fl', fl') ∧ ∀ k, 3 * S.size + 60 < k → postchaiseref12_Reader_Number.f k S (a : Int) fl = some (r, S, (a' : Int), fl')
  d2 : d = 2 → ∃ r, token_Reader_String.f (restOf S a fl) fl = some (r, restOf S a' fl', fl') ∧ ∀ k, 3 * S.size + 60 < k → postchaiseref12_Reader_String.f k S (a : Int) fl = some (r, S, (a' : Int), fl')
  d3 : d = 3 → ∃ r, token_Reader_Literal.f (restOf S a fl) fl = some (r, restOf S a' fl', fl') ∧ ∀ k, 3 * S.size + 60 < k → postchaiseref12_Reader_Literal.f k S (a : Int) fl = some (r, S, (a' : Int), fl')
  d4 : d = 4 → a' = wordA S a fl ⟨#[32]⟩ ∧ fl' = mustF S a fl ⟨#[32]⟩
  d5 : d = 5 → a' = wordA S a fl x ∧ fl = fl'
  d6 : d = 6 → a = a' ∧ fl = fl'
  d7 : d = 7 → a' = a + wlen (eqB (firstOf x)) (restOf S a fl).data.toList ∧ fl = fl'
  d8 : d = 8 → a = a' ∧ fl' = true
  d9 : (d ≠ 0 ∧ d ≠ 1 ∧ d ≠ 2 ∧ d ≠ 3 ∧ d ≠ 4 ∧ d ≠ 5 ∧ d ≠ 6 ∧ d ≠ 7 ∧ d ≠ 8) → a = a' ∧ fl = fl'
theorem ask_ex (S : ByteArray) (a : Nat) (fl : Bool) (d : Int) (x : ByteArray) (hS : S.size ≤ 100000) (ha : a ≤ S.size) : ∃ a' fl', AskSpec S a fl d x a' fl' := by
  by_cases h0 : d = 0
  · subst h0
    obtain ⟨r, a', fl', hle, hp, hq⟩ := atom_both S a fl hS ha
    refine ⟨a', fl', hle, fun _ => ⟨r, hp, hq⟩, ?_, ?_, ?_, ?_, ?_, ?_, ?_, ?_, ?_⟩ <;> (intro h; exfalso; omega)
  by_cases h1 : d = 1
  · subst h1
    refine ⟨_, _, (number_both S a fl hS ha).1, ?_, fun _ => ⟨_, (number_both S a fl hS ha).2.2.2.1, (number_both S a fl hS ha).2.2.2.2⟩, ?_, ?_, ?_, ?_, ?_, ?_, ?_, ?_⟩ <;> (intro h; exfalso; omega)
  by_cases h2 : d = 2
  · subst h2
    obtain ⟨r, a', fl', hle, hp, hq⟩ := string_both S a fl hS ha
    refine ⟨a', fl', hle, ?_, ?_, fun _ => ⟨r, hp, hq⟩, ?_, ?_, ?_, ?_, ?_, ?_, ?_⟩ <;> (intro h; exfalso; omega)
  by_cases h3 : d = 3
  · subst h3
    refine ⟨_, _, (literal_both S a fl hS ha).1, ?_, ?_, ?_, fun _ => ⟨_, (literal_both S a fl hS ha).2.1, (literal_both S a fl hS ha).2.2⟩, ?_, ?_, ?_, ?_, ?_, ?_⟩ <;> (intro h; exfalso; omega)
  by_cases h4 : d = 4
  · subst h4
    refine ⟨_, _, wordA_le S a fl ⟨#[32]⟩ ha, ?_, ?_, ?_, ?_, fun _ => ⟨rfl, rfl⟩, ?_, ?_, ?_, ?_, ?_⟩ <;> (intro h; exfalso; omega)
  by_cases h5 : d = 5
  · subst h5
    refine ⟨_, _, wordA_le S a fl x ha, ?_, ?_, ?_, ?_, ?_, fun _ => ⟨rfl, rfl⟩, ?_, ?_, ?_, ?_⟩ <;> (intro h; exfalso; omega)
  by_cases h6 : d = 6
  · subst h6
    refine ⟨_, _, ha, ?_, ?_, ?_, ?_, ?_, ?_, fun _ => ⟨rfl, rfl⟩, ?_, ?_, ?_⟩ <;> (intro h; exfalso; omega)
  by_cases h7 : d = 7
  · subst h7
    have hz := restOf_size S a fl
    have hwl := wlen_size (eqB (firstOf x)) (restOf S a fl)
    have hsz2 : a + wlen (eqB (firstOf x)) (restOf S a fl).data.toList ≤ S.size := by
      cases fl with
      | true => exact ha
      | false => have := rest_sz S a; omega
    refine ⟨_, _, hsz2, ?_, ?_, ?_, ?_, ?_, ?_, ?_, fun _ => ⟨rfl, rfl⟩, ?_, ?_⟩ <;> (intro h; exfalso; omega)
  by_cases h8 : d = 8
  · subst h8
    refine ⟨_, _, ha, ?_, ?_, ?_, ?_, ?_, ?_, ?_, ?_, fun _ => ⟨rfl, rfl⟩, ?_⟩ <;> (intro h; exfalso; omega)
  · exact ⟨_, _, ha, fun h => absurd h h0, fun h => absurd h h1, fun h => absurd h h2, fun h => absurd h h3, fun h => absurd h h4, fun h => absurd h h5, fun h => absurd h h6, fun h => absurd h h7, fun h => absurd h h8, fun _ => ⟨rfl, rfl⟩⟩
def AskPost (w W : World) (g1 g2 : Nat) (S : ByteArray) (a' : Nat) (fl' : Bool) (e : Ending) (w' : World) : Prop := e = .returned (.bool true) ∧ Hd (Step2 w W g1 g2 S a' fl' a' fl' w')
set_option maxHeartbeats 4000000 in
set_option maxRecDepth 100000 in
theorem asked_any {w W : World} {g1 g2 : Nat} {S : ByteArray} {a : Nat} {fl : Bool} (hG : GlobOk w) (h : Two w W g1 g2 S a fl a fl) (hS : S.size ≤ 100000) (ha : a ≤ S.size) (d : Int) (x : ByteArray) (hx : x.size ≤ 20) (a' : Nat) (fl' : Bool) (hA : AskSpec S a fl d x a' fl') :
    Calls Tryd.prog 20 #[.pointer (some ⟨g1, 0, none⟩), .pointer (some ⟨g2, 0, none⟩), .agg #[.int .u8 d, .string x]] W (AskPost w W g1 g2 S a' fl') := by
  have HG := Hd.mk hG
  have H0 := Hd.mk h
  have HA := Hd.mk hA
  have l1 : g1 < W.heap.size := h.r.is.lt
  have l2 : g2 < W.heap.size := h.q.lt
  clear hG h hA
  go_enter Tryd.func20, Tryd.ntmps20
  go_upto_if 13 with fail
  go_cut [] from 11 to 16 (fun wx => Hd (AskAt W W.heap.size d x wx ∧ Two w wx g1 g2 S a fl a fl ∧ KeepTwo g1 g2 W wx))
  case first =>
    have HKB : Hd (∀ z : Int, z = ((firstOf x).toNat : Nat) → Hd (AskAt W W.heap.size d x ((W.alloc (.cells #[.int .u8 d, .string x] 36)).alloc (.cells #[.int .u8 z] 5)) ∧ Two w ((W.alloc (.cells #[.int .u8 d, .string x] 36)).alloc (.cells #[.int .u8 z] 5)) g1 g2 S a fl a fl ∧ KeepTwo g1 g2 W ((W.alloc (.cells #[.int .u8 d, .string x] 36)).alloc (.cells #[.int .u8 z] 5)))) := ⟨fun z hz => by
      subst hz
      refine ⟨⟨blk_alloc (heap_alloc_new W _) _, ?_⟩, H0.out.on (below_alloc (below_alloc (Below.refl _ _) _) _), .of1 (keep_alloc (keep_alloc (KeepBut.refl _ _ _) _) _)⟩
      have h := heap_alloc_new (W.alloc (.cells #[.int .u8 d, .string x] 36)) (.cells #[.int .u8 ((firstOf x).toNat : Nat)] 5)
      simpa using h⟩
    cases e : x.data.toList with
    | nil =>
      have hem := isEmpty_nil e
      have hf1 : Hd (firstOf x = 32) := ⟨by unfold firstOf; rw [e]⟩
      clear e
      simp only [hem, Bool.not_true]
      go_wp2_with fail
      go_meet
      exact HKB.out 32 (by rw [hf1.out]; rfl)
    | cons c l =>
      have hem := isEmpty_cons e
      obtain ⟨_, _, f3⟩ := first_one e
      have h0 : 0 < x.size := by omega
      have hz : Hd (((x[0]'h0).toNat : Int) = (c.toNat : Nat)) := ⟨by
        have h1 := bt_head x c l e
        rw [← bt_at x 0 h0] at h1
        exact h1⟩
      have hf1 : Hd (firstOf x = c) := ⟨by unfold firstOf; rw [e]⟩
      clear e f3
      simp only [hem, Bool.not_false]
      go_wp2_with fail
      go_meet
      exact HKB.out _ (by rw [hf1.out]; exact hz.out)
  case rest =>
    have HC := hcut
    clear hcut
    have c0 : wc.cell? ⟨W.heap.size, 0, none⟩ = some (.int .u8 d) := (blk_cell HC.out.1.ask 0).trans rfl
    have c1 : wc.cell? ⟨W.heap.size, 1, none⟩ = some (.string x) := (blk_cell HC.out.1.ask 1).trans rfl
    have cF : wc.cell? ⟨W.heap.size + 1, 0, none⟩ = some (.int .u8 ((firstOf x).toNat : Nat)) := (blk_cell HC.out.1.first 0).trans rfl
    clear H0
    by_cases h0 : d = 0
    · subst h0
      obtain ⟨r, hp, hq⟩ := HA.out.d0 rfl
      have HP := Hd.mk hp
      have HQ := Hd.mk hq
      clear hp hq
      go_wp2_with (first
        | (go_at_call 13; have hx := t_atom1 HC.out.2.1 _ _ _ HP.out; (with_reducible refine hx.mono ?_); clear hx; rintro e w1 ⟨rfl, K1⟩)
        | (go_at_call 41; have hx := t_atom2 K1.out.1 _ _ _ HQ.out; (with_reducible refine hx.mono ?_); clear hx; rintro e w2 ⟨rfl, K2⟩))
      go_ret
      exact ⟨by first | rfl | simp, ⟨K2.out.1, HC.out.2.2.trans (K1.out.2.trans K2.out.2)⟩⟩
    by_cases h1 : d = 1
    · subst h1
      obtain ⟨r, hp, hq⟩ := HA.out.d1 rfl
      have HP := Hd.mk hp
      have HQ := Hd.mk hq
      clear hp hq
      go_wp2_with (first
        | (go_at_call 14; have hx := t_number1 HC.out.2.1 HG.out _ _ _ HP.out; (with_reducible refine hx.mono ?_); clear hx; rintro e w1 ⟨rfl, K1⟩)
        | (go_at_call 42; have hx := t_number2 K1.out.1 _ _ _ HQ.out; (with_reducible refine hx.mono ?_); clear hx; rintro e w2 ⟨rfl, K2⟩))
      go_ret
      exact ⟨by first | rfl | simp, ⟨K2.out.1, HC.out.2.2.trans (K1.out.2.trans K2.out.2)⟩⟩
    by_cases h2 : d = 2
    · subst h2
      obtain ⟨r, hp, hq⟩ := HA.out.d2 rfl
      have HP := Hd.mk hp
      have HQ := Hd.mk hq
      clear hp hq
      go_wp2_with (first
        | (go_at_call 15; have hx := t_string1 HC.out.2.1 HG.out _ _ _ HP.out; (with_reducible refine hx.mono ?_); clear hx; rintro e w1 ⟨rfl, K1⟩)
        | (go_at_call 43; have hx := t_string2 K1.out.1 _ _ _ HQ.out; (with_reducible refine hx.mono ?_); clear hx; rintro e w2 ⟨rfl, K2⟩))
      go_ret
      exact ⟨by first | rfl | simp, ⟨K2.out.1, HC.out.2.2.trans (K1.out.2.trans K2.out.2)⟩⟩
    by_cases h3 : d = 3
    · subst h3
      obtain ⟨r, hp, hq⟩ := HA.out.d3 rfl
      have HP := Hd.mk hp
      have HQ := Hd.mk hq
      clear hp hq
      go_wp2_with (first
        | (go_at_call 16; have hx := t_literal1 HC.out.2.1 HG.out _ _ _ HP.out; (with_reducible refine hx.mono ?_); clear hx; rintro e w1 ⟨rfl, K1⟩)
        | (go_at_call 44; have hx := t_literal2 K1.out.1 _ _ _ HQ.out; (with_reducible refine hx.mono ?_); clear hx; rintro e w2 ⟨rfl, K2⟩))
      go_ret
      exact ⟨by first | rfl | simp, ⟨K2.out.1, HC.out.2.2.trans (K1.out.2.trans K2.out.2)⟩⟩
    by_cases h4 : d = 4
    · subst h4
      have HP := Hd.mk (blank_both S a fl hS ha)
      have HQ := Hd.mk (must_both S a fl ⟨#[32]⟩ hS ha (by decide)).2
      obtain ⟨rfl, rfl⟩ := HA.out.d4 rfl
      go_wp2_with (first
        | (go_at_call 32; have hx := t_blank1 HC.out.2.1 _ _ HP.out; (with_reducible refine hx.mono ?_); clear hx; rintro e w1 ⟨rfl, K1⟩)
        | (go_at_call 45; have hx := t_must2 K1.out.1 _ _ _ HQ.out; (with_reducible refine hx.mono ?_); clear hx; rintro e w2 ⟨rfl, K2⟩))
      go_ret
      exact ⟨by first | rfl | simp, ⟨K2.out.1, HC.out.2.2.trans (K1.out.2.trans K2.out.2)⟩⟩
    by_cases h5 : d = 5
    · subst h5
      have HP := Hd.mk (word_both S a fl x hS ha (by omega)).1
      have HQ := Hd.mk (word_both S a fl x hS ha (by omega)).2
      obtain ⟨rfl, rfl⟩ := HA.out.d5 rfl
      have HX : Hd (Two w wc.drew g1 g2 S a fl a fl ∧ wc.drew.cell? ⟨W.heap.size, 1, none⟩ = some (.string x)) := ⟨HC.out.2.1.on (below_drew1 (Below.refl _ _)), c1⟩
      have hn1 : W.heap.size ≠ g1 := by omega
      have hn2 : W.heap.size ≠ g2 := by omega
      go_wp2_with fail
      go_region_held3 (fun w' => w'.cell? ⟨W.heap.size, 1, none⟩ = some (.string x))
        (first | (simp [go_sem, *]; done))
        (first
          | (go_at_call 17; have hx := t_word1 HX.out.1 x _ _ _ HP.out; (with_reducible refine hx.mono ?_); clear hx; rintro e w1 ⟨rfl, K1⟩; have m1 := K1.out.2.cell HX.out.2 hn1 hn2)
          | (go_at_call 46; have hx := t_word2 K1.out.1 x _ _ _ HQ.out; (with_reducible refine hx.mono ?_); clear hx; rintro e w2 ⟨rfl, K2⟩; have m2 := K2.out.2.cell m1 hn1 hn2))
      all_goals go_wp2
      all_goals go_ret
      all_goals exact ⟨by first | rfl | simp, ⟨K2.out.1, HC.out.2.2.trans ((KeepTwo.of1 (keep_drew (KeepBut.refl _ _ _))).trans (K1.out.2.trans K2.out.2))⟩⟩
    by_cases h6 : d = 6
    · subst h6
      obtain ⟨rfl, rfl⟩ := HA.out.d6 rfl
      obtain ⟨c, hc⟩ : ∃ c, firstOf x = c := ⟨_, rfl⟩
      rw [hc] at cF
      have HX : Hd (Two w wc.drew g1 g2 S a fl a fl ∧ wc.drew.cell? ⟨W.heap.size + 1, 0, none⟩ = some (.int .u8 (c.toNat : Nat))) := ⟨HC.out.2.1.on (below_drew1 (Below.refl _ _)), cF⟩
      have hn1 : W.heap.size + 1 ≠ g1 := by omega
      have hn2 : W.heap.size + 1 ≠ g2 := by omega
      clear hc
      go_wp2_with fail
      go_region_held3 (fun w' => w'.cell? ⟨W.heap.size + 1, 0, none⟩ = some (.int .u8 (c.toNat : Nat)))
        (first | (simp [go_sem, *]; done))
        (first
          | (go_at_call 18; have hx := t_next1 HX.out.1 c _ rfl ha; (with_reducible refine hx.mono ?_); clear hx; rintro e w1 ⟨rfl, K1⟩; have m1 := K1.out.2.cell HX.out.2 hn1 hn2)
          | (go_at_call 47; have hx := t_next2 K1.out.1 c _ rfl ha; (with_reducible refine hx.mono ?_); clear hx; rintro e w2 ⟨rfl, K2⟩; have m2 := K2.out.2.cell m1 hn1 hn2))
      all_goals go_wp2
      all_goals go_ret
      all_goals exact ⟨by first | rfl | simp, ⟨K2.out.1, HC.out.2.2.trans ((KeepTwo.of1 (keep_drew (KeepBut.refl _ _ _))).trans (K1.out.2.trans K2.out.2))⟩⟩
    by_cases h7 : d = 7
    · subst h7
      obtain ⟨rfl, rfl⟩ := HA.out.d7 rfl
      obtain ⟨c, hc⟩ : ∃ c, firstOf x = c := ⟨_, rfl⟩
      have HCC := Hd.mk hc
      rw [hc] at cF
      have hn1 : W.heap.size + 1 ≠ g1 := by omega
      have hn2 : W.heap.size + 1 ≠ g2 := by omega
      have hz := restOf_size S a fl
      have hwl := wlen_size (eqB c) (restOf S a fl)
      have hN : Hd (∀ j, j ≤ wlen (eqB c) (restOf S a fl).data.toList → nextB (restOf S (a + j) fl) c = decide (j < wlen (eqB c) (restOf S a fl).data.toList)) := ⟨fun j hj => by
        unfold nextB
        cases fl with
        | true =>
          have e0 : wlen (eqB c) (restOf S a true).data.toList = 0 := rfl
          rw [e0]; rfl
        | false =>
          rw [rest_list S (a + j), ← List.drop_drop, ← rest_list S a]
          exact next_wl c _ j hj⟩
      have hsz2 : a + wlen (eqB c) (restOf S a fl).data.toList ≤ S.size := by
        cases fl with
        | true => exact ha
        | false => have := rest_sz S a; omega
      have hgot : Hd (∀ j, j < wlen (eqB c) (restOf S a fl).data.toList → ∃ h : j < ((restOf S a fl).extract 0 (wlen (eqB c) (restOf S a fl).data.toList)).size, (((restOf S a fl).extract 0 (wlen (eqB c) (restOf S a fl).data.toList))[j]'h).toNat = c.toNat) := ⟨fun j hj => by
        obtain ⟨h1, h2⟩ := wlen_get (eqB c) _ j hj
        refine ⟨by rw [ByteArray.size_extract]; omega, ?_⟩
        have e1 : ((restOf S a fl).extract 0 (wlen (eqB c) (restOf S a fl).data.toList)).data.toList[j]? = some (restOf S a fl).data.toList[j] := by
          rw [list_extract, List.drop_zero, List.getElem?_take, if_pos hj, List.getElem?_eq_getElem h1]
        have h3 : j < ((restOf S a fl).extract 0 (wlen (eqB c) (restOf S a fl).data.toList)).data.toList.length := (List.getElem?_eq_some_iff.1 e1).1
        rw [List.getElem?_eq_getElem h3] at e1
        have e2 := Option.some.inj e1
        have e3 : (restOf S a fl).data.toList[j] = c := eq_of_beq h2
        rw [e3] at e2
        exact congrArg UInt8.toNat e2⟩
      have HWH : Hd _ := Hd.mk (t_while1 HC.out.2.1 hS ha c _ cF)
      have hxs : ((restOf S a fl).extract 0 (wlen (eqB c) (restOf S a fl).data.toList)).size = wlen (eqB c) (restOf S a fl).data.toList := by rw [ByteArray.size_extract]; omega
      obtain ⟨N, hNN⟩ : ∃ N, wlen (eqB c) (restOf S a fl).data.toList = N := ⟨_, rfl⟩
      have HNE := Hd.mk hNN
      rw [hNN] at hN hgot HWH hsz2 hwl hxs
      obtain ⟨got, hgg⟩ : ∃ got, (restOf S a fl).extract 0 N = got := ⟨_, rfl⟩
      rw [hgg] at hgot HWH hxs
      clear hNN hgg hc hwl hz
      go_wp2_with (go_at_call 33; have hx := HWH.out; (with_reducible refine hx.mono ?_); clear hx; rintro e w1 ⟨rfl, K1⟩)
      have cF1 : w1.cell? ⟨W.heap.size + 1, 0, none⟩ = some (.int .u8 (c.toNat : Nat)) := K1.out.2.cell cF hn1 hn2
      clear c0 c1 cF
      go_loopw [9] (fun n wr => ∃ j : Nat, j ≤ N ∧ n = .int .i64 j ∧ Hd (Two w wr g1 g2 S (a + N) fl (a + j) fl ∧ KeepTwo g1 g2 w1 wr)) (fun n _ => N - (intOf n).toNat)
      case atStart => exact ⟨0, Nat.zero_le _, rfl, ⟨K1.out.1, KeepTwo.refl _ _ _⟩⟩
      case round =>
        obtain ⟨j, hj, rfl, HJ⟩ := hrel
        have cF2 : wr.cell? ⟨W.heap.size + 1, 0, none⟩ = some (.int .u8 (c.toNat : Nat)) := HJ.out.2.cell cF1 hn1 hn2
        have hnx := hN.out j hj
        have HNX : Hd _ := Hd.mk (t_next2 HJ.out.1 c _ rfl (by omega : a + j ≤ S.size))
        rw [hnx] at HNX
        clear hnx
        by_cases hlt : j < N
        · rw [decide_eq_true hlt] at HNX
          clear cF1
          go_wp2_with (go_at_call 47; have hx := HNX.out; (with_reducible refine hx.mono ?_); clear hx; rintro e w2 ⟨rfl, K2⟩; have q1 := cellS34_1 K2.out.1.q.1; have q1f := blk_frozen K2.out.1.q.1 1)
          go_roundw
          case rel =>
            refine ⟨j + 1, by omega, by go_num, ⟨⟨K2.out.1.r.keep (below_set K2.out.1.r.below K2.out.1.q.2) ?_ K2.out.1.ne, ?_, K2.out.1.ne⟩, (HJ.out.2.trans K2.out.2).trans ?_⟩⟩
            · exact (KeepBut.refl _ _ _).set_ _ _
            · have hq := IsS34.set_1 K2.out.1.q ((a + j : Nat) + 1 : Int)
              have e : ((a + j : Nat) : Int) + 1 = ((a + (j + 1) : Nat) : Int) := by omega
              rw [e] at hq
              first | exact hq | simpa using hq
            · exact .of2 ((KeepBut.refl _ _ _).set_ _ _)
          case measure => simp [intOf]; omega
        · obtain rfl : j = N := by omega
          rw [decide_eq_false hlt] at HNX
          have hb : ((got.size : Int) != (j : Int)) = false := by rw [hxs]; simp
          have HXS := Hd.mk hxs
          clear cF1 hlt hxs
          go_wp2_with (go_at_call 47; have hx := HNX.out; (with_reducible refine hx.mono ?_); clear hx; rintro e w2 ⟨rfl, K2⟩)
          have cF3 : w2.cell? ⟨W.heap.size + 1, 0, none⟩ = some (.int .u8 (c.toNat : Nat)) := K2.out.2.cell cF2 hn1 hn2
          obtain ⟨z, hz⟩ : ∃ z : Int, ((c.toNat : Nat) : Int) = z := ⟨_, rfl⟩
          rw [hz] at cF3
          have HZ := Hd.mk hz
          clear cF2 hb hz
          have HW2 : Hd (∀ m, Step2 w W g1 g2 S (a + j) fl (a + j) fl (w2.drewN m)) := ⟨fun m =>
            ⟨K2.out.1.on (pw_below_drewN (Below.refl _ _) m), HC.out.2.2.trans (K1.out.2.trans (HJ.out.2.trans (K2.out.2.trans (.of1 (keep_drewN (KeepBut.refl _ _ _) m)))))⟩⟩
          go_loopw [10] (fun i wr => ∃ i' m : Nat, i' ≤ j ∧ i = .int .i64 i' ∧ wr = w2.drewN m) (fun i _ => j - (intOf i).toNat)
          case atStart => exact ⟨0, 0, Nat.zero_le _, rfl, rfl⟩
          case round =>
            obtain ⟨i', m, hi, rfl, rfl⟩ := hrel
            by_cases hlt : i' < j
            · obtain ⟨hgl, hge⟩ := hgot.out i' hlt
              have hg2 : ((got[i']'hgl).toNat : Int) = z := by rw [hge]; exact HZ.out
              clear hge
              go_wp2
              go_quiet (fail)
              go_wp2
              go_roundw
              case rel => exact ⟨i' + 1, _, by omega, by go_num, rfl⟩
              case measure => simp [intOf]; omega
            · obtain rfl : i' = j := by omega
              go_wp2
              go_ret
              refine ⟨by first | rfl | simp, ⟨?_⟩⟩
              rw [HCC.out, HNE.out]
              exact HW2.out m
    by_cases h8 : d = 8
    · subst h8
      obtain ⟨rfl, rfl⟩ := HA.out.d8 rfl
      go_wp2_with (first
        | (go_at_call 9; have hx := t_fail1 HC.out.2.1; (with_reducible refine hx.mono ?_); clear hx; rintro e w1 ⟨rfl, K1⟩)
        | (go_at_call 49; have hx := t_fail2 K1.out.1; (with_reducible refine hx.mono ?_); clear hx; rintro e w2 ⟨rfl, K2⟩))
      go_ret
      exact ⟨by first | rfl | simp, ⟨K2.out.1, HC.out.2.2.trans (K1.out.2.trans K2.out.2)⟩⟩
    obtain ⟨rfl, rfl⟩ := HA.out.d9 ⟨h0, h1, h2, h3, h4, h5, h6, h7, h8⟩
    replace h0 : (d == 0) = false := beq_eq_false_iff_ne.2 h0
    replace h1 : (d == 1) = false := beq_eq_false_iff_ne.2 h1
    replace h2 : (d == 2) = false := beq_eq_false_iff_ne.2 h2
    replace h3 : (d == 3) = false := beq_eq_false_iff_ne.2 h3
    replace h4 : (d == 4) = false := beq_eq_false_iff_ne.2 h4
    replace h5 : (d == 5) = false := beq_eq_false_iff_ne.2 h5
    replace h6 : (d == 6) = false := beq_eq_false_iff_ne.2 h6
    replace h7 : (d == 7) = false := beq_eq_false_iff_ne.2 h7
    replace h8 : (d == 8) = false := beq_eq_false_iff_ne.2 h8
    go_wp2_with fail
    go_ret
    exact ⟨by first | rfl | simp, ⟨HC.out.2.1, HC.out.2.2⟩⟩
end Go.Proofs.YtphaemaccdddfaaDoor.PTk

/- The statement FlagsBack: walked. No condition but those that each contract bears. -/
import Derived.Test.YtahbnpkhkhdmaaaDoorFlAwake
set_option linter.unusedVariables false
set_option linter.unusedSimpArgs false
namespace Go.Proofs.YtahbnpkhkhdmaaaDoor
open Go.RowKit Go.Shelf
attribute [local go_sem] Oper.semAt_some
def backOk (a b : Int) : Bool :=
  hasF (changeF a 1 b) a && hasF (changeF a 1 b) b && changeF (changeF a 1 b) 2 b == changeF a 2 b && (b == 0 || !hasF (changeF (changeF a 1 b) 2 b) b) && changeF a 0 b == b
theorem back_ok : (List.range 32).all (fun a => (List.range 32).all fun b => backOk (a : Int) (b : Int)) = true := by kernel_rfl
theorem back_at {a b : Int} (ha : 0 ≤ a) (ha' : a < 32) (hb : 0 ≤ b) (hb' : b < 32) : backOk a b = true := by
  have h := List.all_eq_true.1 (List.all_eq_true.1 back_ok a.toNat (by simp; omega)) b.toNat (by simp; omega)
  have e : ((a.toNat : Nat) : Int) = a := by omega
  have e2 : ((b.toNat : Nat) : Int) = b := by omega
  rw [e, e2] at h
  exact h
theorem str_size (s : Int) : (strOf s).size ≤ 140737488351232 := by
  have h1 := join_len ((namesTo (bitAt s) 5).map (·.data.toList)) (by
    intro x hx
    obtain ⟨y, hy, rfl⟩ := List.mem_map.1 hx
    simpa using namesTo_size _ 5 y hy)
  have h2 := namesTo_len (bitAt s) 5
  unfold strOf
  rw [ByteArray.size_append, ByteArray.size_append]
  have h3 : (⟨(Lib.join ((namesTo (bitAt s) 5).map (·.data.toList)) [32]).toArray⟩ : ByteArray).size = (Lib.join ((namesTo (bitAt s) 5).map (·.data.toList)) [32]).length := by
    show (Lib.join _ _).toArray.size = _
    simp
  rw [h3]
  have h4 : (⟨#[40]⟩ : ByteArray).size = 1 := rfl
  have h5 : (⟨#[41]⟩ : ByteArray).size = 1 := rfl
  simp only [List.length_map] at h1
  omega
set_option maxRecDepth 100000 in
set_option maxHeartbeats 1000000 in
theorem flagsBack_any (s o : Int) (w : World) (hs : 0 ≤ s) (hs' : s < 256) (ho : 0 ≤ o) (ho' : o < 256) {bn on cn : Nat} (hN : NamesAt w bn on cn) :
    Calls Tryd.prog 5 #[.int .u8 s, .int .u8 o] w fun e w' => e = .returned (.bool true) ∧ Below w.heap.size w w' := by
  have HN : Hd _ := ⟨hN⟩
  clear hN
  have ha0 : 0 ≤ s % 32 := by omega
  have ha1 : s % 32 < 32 := by omega
  have hb0 : 0 ≤ o % 32 := by omega
  have hb1 : o % 32 < 32 := by omega
  have hok := back_at ha0 ha1 hb0 hb1
  have hps := parse_str ha0 ha1
  have hsz := str_size (s % 32)
  obtain ⟨mo, hmo⟩ : ∃ mo, changeF (s % 32) 1 (o % 32) = mo := ⟨_, rfl⟩
  obtain ⟨le, hle⟩ : ∃ le, changeF (s % 32) 2 (o % 32) = le := ⟨_, rfl⟩
  obtain ⟨t, ht⟩ : ∃ t, strOf (s % 32) = t := ⟨_, rfl⟩
  rw [ht] at hps hsz
  unfold backOk at hok
  rw [hmo, hle] at hok
  simp only [Bool.and_eq_true] at hok
  obtain ⟨⟨⟨⟨k1, k2⟩, k3⟩, k4⟩, k5⟩ := hok
  have k3 : changeF mo 2 (o % 32) = le := by simpa using k3
  have k5 : changeF (s % 32) 0 (o % 32) = o % 32 := by simpa using k5
  rw [k3] at k4
  have HS : Hd (∀ w : World, NamesAt w bn on cn → Calls Tryd.prog 15 #[.int .u8 (s % 32)] w fun e w' => e = .returned (.string t) ∧ Hd (Below w.heap.size w w')) := ⟨fun w h => string_calls _ w h ht⟩
  have HP : Hd (∀ w : World, NamesAt w bn on cn → Calls Tryd.prog 9 #[.string t] w fun x w' => x = .returned (.tuple #[.int .u8 (s % 32), .int .i64 0]) ∧ Hd (Below w.heap.size w w')) := ⟨fun w h => parse_calls t w hsz h hps⟩
  have HC : Hd (∀ (s how o r : Int) (w : World), changeF s how o = r → Calls Tryd.prog 18 #[.int .u8 s, .int .i64 how, .int .u8 o] w fun e w' => e = .returned (.int .u8 r) ∧ Hd (Below w.heap.size w w')) := ⟨fun s how o r w h => by
    subst h; exact (change_any s how o w).mono (fun _ _ h => ⟨h.1, ⟨h.2⟩⟩)⟩
  have HH : Hd (∀ (s o : Int) (r : Bool) (w : World), hasF s o = r → Calls Tryd.prog 17 #[.int .u8 s, .int .u8 o] w fun e w' => e = .returned (.bool r) ∧ Hd (Below w.heap.size w w')) := ⟨fun s o r w h => by
    subst h; exact (has_any s o w).mono (fun _ _ h => ⟨h.1, ⟨h.2⟩⟩)⟩
  have HA : Hd (∀ w : World, NamesAt w bn on cn → Calls Tryd.prog 11 #[] w fun e w' => e = .returned (.bool true) ∧ Hd (Below w.heap.size w w')) := ⟨fun w h => (awake_any w h).mono (fun _ _ h => ⟨h.1, ⟨h.2⟩⟩)⟩
  have B0 : Hd (Below w.heap.size w w) := ⟨Below.refl _ _⟩
  by_cases hz : o % 32 = 0
  · rw [hz] at k2 k3 k5 hmo hle
    have K1 := Hd.mk k1
    have K2 := Hd.mk k2
    have K3 := Hd.mk k3
    have K5 := Hd.mk k5
    have Kmo := Hd.mk hmo
    have Kle := Hd.mk hle
    clear ha0 ha1 hb0 hb1 hps hsz ht k1 k2 k3 k4 k5 hmo hle
    go_enter Tryd.func5, Tryd.ntmps5
    go_wp2_with (first
      | (go_at_call 15; have hx := HS.out w HN.out; (with_reducible refine hx.mono ?_); clear hx; rintro e w1 ⟨rfl, H1⟩; have B1 : Hd (Below w.heap.size w w1) := ⟨B0.out.trans (H1.out.mono B0.out.size)⟩)
      | (go_at_call 9; have hx := HP.out w1 (HN.out.on B1.out); (with_reducible refine hx.mono ?_); clear hx; rintro e w2 ⟨rfl, H2⟩; have B2 : Hd (Below w.heap.size w w2) := ⟨B1.out.trans (H2.out.mono B1.out.size)⟩)
      | (go_at_call 18; have hx := HC.out _ _ _ _ w2 Kmo.out; (with_reducible refine hx.mono ?_); clear hx; rintro e w3 ⟨rfl, H3⟩; have B3 : Hd (Below w.heap.size w w3) := ⟨B2.out.trans (H3.out.mono B2.out.size)⟩)
      | (go_at_call 18; have hx := HC.out _ _ _ _ w3 K3.out; (with_reducible refine hx.mono ?_); clear hx; rintro e w4 ⟨rfl, H4⟩; have B4 : Hd (Below w.heap.size w w4) := ⟨B3.out.trans (H4.out.mono B3.out.size)⟩)
      | (go_at_call 17; have hx := HH.out _ _ _ w4 K1.out; (with_reducible refine hx.mono ?_); clear hx; rintro e w5 ⟨rfl, H5⟩; have B5 : Hd (Below w.heap.size w w5) := ⟨B4.out.trans (H5.out.mono B4.out.size)⟩)
      | (go_at_call 17; have hx := HH.out _ _ _ w5 K2.out; (with_reducible refine hx.mono ?_); clear hx; rintro e w6 ⟨rfl, H6⟩; have B6 : Hd (Below w.heap.size w w6) := ⟨B5.out.trans (H6.out.mono B5.out.size)⟩)
      | (go_at_call 18; have hx := HC.out _ _ _ _ w6 Kle.out; (with_reducible refine hx.mono ?_); clear hx; rintro e w7 ⟨rfl, H7⟩; have B7 : Hd (Below w.heap.size w w7) := ⟨B6.out.trans (H7.out.mono B6.out.size)⟩)
      | (go_at_call 18; have hx := HC.out _ _ _ _ w7 K5.out; (with_reducible refine hx.mono ?_); clear hx; rintro e w8 ⟨rfl, H8⟩; have B8 : Hd (Below w.heap.size w w8) := ⟨B7.out.trans (H8.out.mono B7.out.size)⟩)
      | (go_at_call 11; have hx := HA.out w8 (HN.out.on B8.out); (with_reducible refine hx.mono ?_); clear hx; rintro e w9 ⟨rfl, H9⟩; have B9 : Hd (Below w.heap.size w w9) := ⟨B8.out.trans (H9.out.mono B8.out.size)⟩))
    go_ret
    exact ⟨rfl, B9.out⟩
  · have K1 := Hd.mk k1
    have K2 := Hd.mk k2
    have K3 := Hd.mk k3
    have K5 := Hd.mk k5
    have Kmo := Hd.mk hmo
    have Kle := Hd.mk hle
    have hzb : (o % 32 == 0) = false := beq_eq_false_iff_ne.mpr hz
    have k4 : hasF le (o % 32) = false := by rw [hzb] at k4; simpa using k4
    have K4 := Hd.mk k4
    clear ha0 ha1 hb0 hb1 hps hsz ht k1 k2 k3 k4 k5 hmo hle
    go_enter Tryd.func5, Tryd.ntmps5
    go_wp2_with (first
      | (go_at_call 15; have hx := HS.out w HN.out; (with_reducible refine hx.mono ?_); clear hx; rintro e w1 ⟨rfl, H1⟩; have B1 : Hd (Below w.heap.size w w1) := ⟨B0.out.trans (H1.out.mono B0.out.size)⟩)
      | (go_at_call 9; have hx := HP.out w1 (HN.out.on B1.out); (with_reducible refine hx.mono ?_); clear hx; rintro e w2 ⟨rfl, H2⟩; have B2 : Hd (Below w.heap.size w w2) := ⟨B1.out.trans (H2.out.mono B1.out.size)⟩)
      | (go_at_call 18; have hx := HC.out _ _ _ _ w2 Kmo.out; (with_reducible refine hx.mono ?_); clear hx; rintro e w3 ⟨rfl, H3⟩; have B3 : Hd (Below w.heap.size w w3) := ⟨B2.out.trans (H3.out.mono B2.out.size)⟩)
      | (go_at_call 18; have hx := HC.out _ _ _ _ w3 K3.out; (with_reducible refine hx.mono ?_); clear hx; rintro e w4 ⟨rfl, H4⟩; have B4 : Hd (Below w.heap.size w w4) := ⟨B3.out.trans (H4.out.mono B3.out.size)⟩)
      | (go_at_call 17; have hx := HH.out _ _ _ w4 K1.out; (with_reducible refine hx.mono ?_); clear hx; rintro e w5 ⟨rfl, H5⟩; have B5 : Hd (Below w.heap.size w w5) := ⟨B4.out.trans (H5.out.mono B4.out.size)⟩)
      | (go_at_call 17; have hx := HH.out _ _ _ w5 K2.out; (with_reducible refine hx.mono ?_); clear hx; rintro e w6 ⟨rfl, H6⟩; have B6 : Hd (Below w.heap.size w w6) := ⟨B5.out.trans (H6.out.mono B5.out.size)⟩)
      | (go_at_call 18; have hx := HC.out _ _ _ _ w6 Kle.out; (with_reducible refine hx.mono ?_); clear hx; rintro e w7 ⟨rfl, H7⟩; have B7 : Hd (Below w.heap.size w w7) := ⟨B6.out.trans (H7.out.mono B6.out.size)⟩)
      | (go_at_call 17; have hx := HH.out _ _ _ w7 K4.out; (with_reducible refine hx.mono ?_); clear hx; rintro e w8 ⟨rfl, H8⟩; have B8 : Hd (Below w.heap.size w w8) := ⟨B7.out.trans (H8.out.mono B7.out.size)⟩)
      | (go_at_call 18; have hx := HC.out _ _ _ _ w8 K5.out; (with_reducible refine hx.mono ?_); clear hx; rintro e w9 ⟨rfl, H9⟩; have B9 : Hd (Below w.heap.size w w9) := ⟨B8.out.trans (H9.out.mono B8.out.size)⟩)
      | (go_at_call 11; have hx := HA.out w9 (HN.out.on B9.out); (with_reducible refine hx.mono ?_); clear hx; rintro e w10 ⟨rfl, H10⟩; have B10 : Hd (Below w.heap.size w w10) := ⟨B9.out.trans (H10.out.mono B9.out.size)⟩))
    go_ret
    exact ⟨rfl, B10.out⟩
end Go.Proofs.YtahbnpkhkhdmaaaDoor

/- Contracts of plain functions, written by the kit's print for this claim (key Tk), of which this text keeps those that are used. -/
import Derived.Test.YtphaemaccdddfaaDoorQTk0
import Derived.Test.YtphaemaccdddfaaDoorQTk1
import Derived.Test.YtphaemaccdddfaaDoorQTk2
import Derived.Test.YtphaemaccdddfaaDoorQTk3
namespace Go.Proofs.YtphaemaccdddfaaDoor.PTk
open Go.RowKit Go.Proofs.YtphaemaccdddfaaDoorW.PrintWords Go.Proofs.YtphaemaccdddfaaDoorW.PrintLast Go.Proofs.YtphaemaccdddfaaDoorW.PrintMore
attribute [local go_sem] max2_int min2_int max_two min_two max_three min_three max_four min_four   -- for this text's walks alone
set_option linter.unusedVariables false
set_option linter.unusedSimpArgs false

/-! ### postchaiseref12_Reader_String: function 43 -/
mutual
def postchaiseref12_Reader_String.l0 : Nat → ByteArray → ByteArray → Int → Bool → Option (ByteArray × ByteArray × Int × Bool)
  | 0, _, _, _, _ => none
  | k + 1, x3, x1000, x1001, x1002 => (postchaiseref12_Reader_Rest.f x1000 x1001 x1002).bind fun bt269 => (if bt269.1.toList = ([] : List UInt8) then (postchaiseref12_Reader_String.j1 k x3 bt269.1 true bt269.2.1 bt269.2.2.1 bt269.2.2.2) else (if 0 < (bt269.1.size : Int) then (if (bt bt269.1 0) = 13 then (postchaiseref12_Reader_String.j1 k x3 bt269.1 true bt269.2.1 bt269.2.2.1 bt269.2.2.2) else (postchaiseref12_Reader_String.j1 k x3 bt269.1 ((bt bt269.1 0) == 10) bt269.2.1 bt269.2.2.1 bt269.2.2.2)) else (none)))
def postchaiseref12_Reader_String.j1 : Nat → ByteArray → ByteArray → Bool → ByteArray → Int → Bool → Option (ByteArray × ByteArray × Int × Bool)
  | 0, _, _, _, _, _, _ => none
  | k + 1, x3, x4, x35, x1000, x1001, x1002 => if x35 = true then ((postchaiseref12_Reader_Fail.f x1000 x1001 x1002).bind fun bt273 => (some ((⟨#[]⟩ : ByteArray), bt273.1, bt273.2.1, bt273.2.2))) else (if 0 < (x4.size : Int) then (if (bt x4 0) = 34 then (some (x3, x1000, wrap64 (x1001 + 1), x1002)) else (if (bt x4 0) = 92 then (if (x4.size : Int) < 2 then ((postchaiseref12_Reader_Fail.f x1000 x1001 x1002).bind fun bt276 => (some ((⟨#[]⟩ : ByteArray), bt276.1, bt276.2.1, bt276.2.2))) else (if 1 < (x4.size : Int) then (if (bt x4 1) = 34 then (if 1 ≤ 2 then (if 2 ≤ (x4.size : Int) then (if x3.size + (x4.extract 1 2).size ≤ 9223372036854775807 then (postchaiseref12_Reader_String.l0 k (x3 ++ (x4.extract 1 2)) x1000 (wrap64 (x1001 + 2)) x1002) else (none)) else (none)) else (none)) else (if (bt x4 1) = 92 then (if 1 ≤ 2 then (if 2 ≤ (x4.size : Int) then (if x3.size + (x4.extract 1 2).size ≤ 9223372036854775807 then (postchaiseref12_Reader_String.l0 k (x3 ++ (x4.extract 1 2)) x1000 (wrap64 (x1001 + 2)) x1002) else (none)) else (none)) else (none)) else ((postchaiseref12_Reader_Fail.f x1000 x1001 x1002).bind fun bt279 => (some ((⟨#[]⟩ : ByteArray), bt279.1, bt279.2.1, bt279.2.2))))) else (none))) else (if 0 ≤ 1 then (if 1 ≤ (x4.size : Int) then (if x3.size + (x4.extract 0 1).size ≤ 9223372036854775807 then (postchaiseref12_Reader_String.l0 k (x3 ++ (x4.extract 0 1)) x1000 (wrap64 (x1001 + 1)) x1002) else (none)) else (none)) else (none)))) else (none))
end
def postchaiseref12_Reader_String.f (k : Nat) (s0_0 : ByteArray) (s0_1 : Int) (s0_2 : Bool) : Option (ByteArray × ByteArray × Int × Bool) := (postchaiseref12_Reader_Next.f s0_0 s0_1 s0_2 123).bind fun bt253 => (if bt253.1 = true then ((postchaiseref12_Reader_Literal.f k bt253.2.1 bt253.2.2.1 bt253.2.2.2).bind fun bt257 => (some (bt257.1, bt257.2.1, bt257.2.2.1, bt257.2.2.2))) else ((postchaiseref12_Reader_Next.f bt253.2.1 bt253.2.2.1 bt253.2.2.2 34).bind fun bt261 => (if bt261.1 = true then (postchaiseref12_Reader_String.l0 k (⟨#[]⟩ : ByteArray) bt261.2.1 (wrap64 (bt261.2.2.1 + 1)) bt261.2.2.2) else ((postchaiseref12_Reader_Atom.f k bt261.2.1 bt261.2.2.1 bt261.2.2.2).bind fun bt265 => (some (bt265.1, bt265.2.1, bt265.2.2.1, bt265.2.2.2))))))
theorem postchaiseref12_Reader_String.mono_l : ∀ k, (∀ y0 y1 y2 y3, LeO (postchaiseref12_Reader_String.l0 k y0 y1 y2 y3) (postchaiseref12_Reader_String.l0 (k + 1) y0 y1 y2 y3)) ∧ (∀ y0 y1 y2 y3 y4 y5, LeO (postchaiseref12_Reader_String.j1 k y0 y1 y2 y3 y4 y5) (postchaiseref12_Reader_String.j1 (k + 1) y0 y1 y2 y3 y4 y5))
  | 0 => ⟨fun _ _ _ _ r h => by simp [postchaiseref12_Reader_String.l0] at h, fun _ _ _ _ _ _ r h => by simp [postchaiseref12_Reader_String.j1] at h⟩
  | k + 1 => by
    obtain ⟨ih0, ih1⟩ := postchaiseref12_Reader_String.mono_l k
    refine ⟨?_, ?_⟩
    · intro y0 y1 y2 y3
      unfold postchaiseref12_Reader_String.l0
      repeat' first
      | (with_reducible exact ih0 _ _ _ _)
      | (with_reducible exact ih1 _ _ _ _ _ _)
      | (with_reducible exact postchaiseref12_Reader_Atom.mono _ _ _ _)
      | (with_reducible exact postchaiseref12_Reader_Literal.mono _ _ _ _)
      | (with_reducible exact LeO.refl _)
      | (with_reducible exact LeO.none _)
      | (with_reducible refine LeO.ite ?_ ?_)
      | (with_reducible refine LeO.bind ?_ (fun _ => ?_))
      | exact ih0 _ _ _ _
      | exact ih1 _ _ _ _ _ _
      | exact postchaiseref12_Reader_Atom.mono _ _ _ _
      | exact postchaiseref12_Reader_Literal.mono _ _ _ _
      | exact LeO.none _
      | refine LeO.ite ?_ ?_
      | refine LeO.bind ?_ (fun _ => ?_)
    · intro y0 y1 y2 y3 y4 y5
      unfold postchaiseref12_Reader_String.j1
      repeat' first
      | (with_reducible exact ih0 _ _ _ _)
      | (with_reducible exact ih1 _ _ _ _ _ _)
      | (with_reducible exact postchaiseref12_Reader_Atom.mono _ _ _ _)
      | (with_reducible exact postchaiseref12_Reader_Literal.mono _ _ _ _)
      | (with_reducible exact LeO.refl _)
      | (with_reducible exact LeO.none _)
      | (with_reducible refine LeO.ite ?_ ?_)
      | (with_reducible refine LeO.bind ?_ (fun _ => ?_))
      | exact ih0 _ _ _ _
      | exact ih1 _ _ _ _ _ _
      | exact postchaiseref12_Reader_Atom.mono _ _ _ _
      | exact postchaiseref12_Reader_Literal.mono _ _ _ _
      | exact LeO.none _
      | refine LeO.ite ?_ ?_
      | refine LeO.bind ?_ (fun _ => ?_)
theorem postchaiseref12_Reader_String.mono : ∀ a0 a1 a2 k, LeO (postchaiseref12_Reader_String.f k a0 a1 a2) (postchaiseref12_Reader_String.f (k + 1) a0 a1 a2) := by
  intro a0 a1 a2 k
  obtain ⟨ih0, ih1⟩ := postchaiseref12_Reader_String.mono_l k
  unfold postchaiseref12_Reader_String.f
  repeat' first
      | (with_reducible exact ih0 _ _ _ _)
      | (with_reducible exact ih1 _ _ _ _ _ _)
      | (with_reducible exact postchaiseref12_Reader_Atom.mono _ _ _ _)
      | (with_reducible exact postchaiseref12_Reader_Literal.mono _ _ _ _)
      | (with_reducible exact LeO.refl _)
      | (with_reducible exact LeO.none _)
      | (with_reducible refine LeO.ite ?_ ?_)
      | (with_reducible refine LeO.bind ?_ (fun _ => ?_))
      | exact ih0 _ _ _ _
      | exact ih1 _ _ _ _ _ _
      | exact postchaiseref12_Reader_Atom.mono _ _ _ _
      | exact postchaiseref12_Reader_Literal.mono _ _ _ _
      | exact LeO.none _
      | refine LeO.ite ?_ ?_
      | refine LeO.bind ?_ (fun _ => ?_)
set_option maxHeartbeats 8000000 in
set_option maxRecDepth 100000 in
theorem postchaiseref12_Reader_String.calls (k : Nat) (g : Nat) (s0_0 : ByteArray) (s0_1 : Int) (s0_2 : Bool) (r1 : ByteArray) (r2 : ByteArray) (r3 : Int) (r4 : Bool) (w0 w : World) (hI : IsS34 w0 w g s0_0 s0_1 s0_2) (hB : Below w0.heap.size w0 w) (h : postchaiseref12_Reader_String.f k s0_0 s0_1 s0_2 = some (r1, r2, r3, r4)) :
    Calls Tryd.prog 43 #[.pointer (some ⟨g, 0, none⟩)] w fun e w' => e = .returned (.string r1) ∧ IsS34 w0 w' g r2 r3 r4 ∧ Below w0.heap.size w0 w' ∧ KeepBut w w' g none := by
  have HI0 := Aside0.mk hI
  have HK := Aside0.mk (KeepBut.refl w g none)
  have HL := Aside0.mk hB.size
  clear hI
  have HW0 := Aside0.mk hB.size
  have HB := Aside0.mk hB
  clear hB
  have H : ((postchaiseref12_Reader_Next.f s0_0 s0_1 s0_2 123).bind fun bt253 => (if bt253.1 = true then ((postchaiseref12_Reader_Literal.f k bt253.2.1 bt253.2.2.1 bt253.2.2.2).bind fun bt257 => (some (bt257.1, bt257.2.1, bt257.2.2.1, bt257.2.2.2))) else ((postchaiseref12_Reader_Next.f bt253.2.1 bt253.2.2.1 bt253.2.2.2 34).bind fun bt261 => (if bt261.1 = true then (postchaiseref12_Reader_String.l0 k (⟨#[]⟩ : ByteArray) bt261.2.1 (wrap64 (bt261.2.2.1 + 1)) bt261.2.2.2) else ((postchaiseref12_Reader_Atom.f k bt261.2.1 bt261.2.2.1 bt261.2.2.2).bind fun bt265 => (some (bt265.1, bt265.2.1, bt265.2.2.1, bt265.2.2.2))))))) = some (r1, r2, r3, r4) := h
  clear h
  replace H := Option.bind_eq_some_iff.mp H
  obtain ⟨⟨t253, t254, t255, t256⟩, A20, H⟩ := H
  replace H : (if t253 = true then ((postchaiseref12_Reader_Literal.f k t254 t255 t256).bind fun bt257 => (some (bt257.1, bt257.2.1, bt257.2.2.1, bt257.2.2.2))) else ((postchaiseref12_Reader_Next.f t254 t255 t256 34).bind fun bt261 => (if bt261.1 = true then (postchaiseref12_Reader_String.l0 k (⟨#[]⟩ : ByteArray) bt261.2.1 (wrap64 (bt261.2.2.1 + 1)) bt261.2.2.2) else ((postchaiseref12_Reader_Atom.f k bt261.2.1 bt261.2.2.1 bt261.2.2.2).bind fun bt265 => (some (bt265.1, bt265.2.1, bt265.2.2.1, bt265.2.2.2)))))) = some (r1, r2, r3, r4) := H
  have A2 := Aside0.mk A20
  clear A20
  by_cases c3 : t253 = true
  · subst c3
    have H1 : ((postchaiseref12_Reader_Literal.f k t254 t255 t256).bind fun bt257 => (some (bt257.1, bt257.2.1, bt257.2.2.1, bt257.2.2.2))) = some (r1, r2, r3, r4) := by rw [if_pos rfl] at H; exact H
    clear H
    have H := H1
    clear H1
    replace H := Option.bind_eq_some_iff.mp H
    obtain ⟨⟨t257, t258, t259, t260⟩, A40, H⟩ := H
    replace H : (some (t257, t258, t259, t260)) = some (r1, r2, r3, r4) := H
    have A4 := Aside0.mk A40
    clear A40
    simp only [Option.some.injEq, Prod.mk.injEq] at H
    obtain ⟨rfl, rfl, rfl, rfl⟩ := H
    go_enter Tryd.func43, Tryd.ntmps43
    go_wp2_with (first | ((with_reducible refine gate_callee (f := 47) rfl ?_); refine goesL_ (some 6) rfl rfl Tryd.func47 (by kernel_rfl) rfl #[.pointer (some ⟨g, 0, none⟩), .int .u8 123] rfl (by (try simp only [List.map_toArray, List.map_cons, List.map_nil]); first | done | rfl | (simp only [List.length_drop, List.length_take]; rfl)) ?_; (with_reducible refine (postchaiseref12_Reader_Next.calls g s0_0 s0_1 s0_2 123 true t254 t255 t256 w0 _ ?side1 ?side2 A2.out).mono ?_); (case side1 => repeat (first | (with_reducible first | exact HI0.out | apply IsS34.alloc | apply IsS34.drewN | apply IsS34.drew | apply IsS34.set_0 | apply IsS34.set_1 | apply IsS34.set_2) | exact HI0.out)); (case side2 => repeat (first | (with_reducible first | exact HB.out | apply below_alloc | apply pw_below_drewN | apply below_drew1 | refine below_set ?_ (IsS34.ge HI0.out)) | exact HB.out)); rintro e w5 ⟨rfl, hi, hb, hk⟩; refine ⟨_, rfl, ?_⟩; have n0_ := Aside0.mk (KeepBut.trans (by repeat (first | (with_reducible first | exact HK.out | apply KeepBut.set_ | apply keep_drewN | apply keep_drew | apply keep_alloc) | exact HK.out)) hk (.inl rfl)); have n1_ := Aside0.mk (hb); have n2_ := Aside0.mk (hi); clear HK; clear HB; clear HI0; have HK := n0_; have HB := n1_; have HI0 := n2_; clear n0_ n1_ n2_; (try clear hb); (try clear hb2); (try clear hk); (try clear hi)) | ((with_reducible refine gate_callee (f := 44) rfl ?_); refine goesL_ (some 8) rfl rfl Tryd.func44 (by kernel_rfl) rfl #[.pointer (some ⟨g, 0, none⟩)] rfl (by (try simp only [List.map_toArray, List.map_cons, List.map_nil]); first | done | rfl | (simp only [List.length_drop, List.length_take]; rfl)) ?_; (with_reducible refine (postchaiseref12_Reader_Literal.calls k g t254 t255 t256 t257 t258 t259 t260 w0 _ ?side1 ?side2 A4.out).mono ?_); (case side1 => repeat (first | (with_reducible first | exact HI0.out | apply IsS34.alloc | apply IsS34.drewN | apply IsS34.drew | apply IsS34.set_0 | apply IsS34.set_1 | apply IsS34.set_2) | exact HI0.out)); (case side2 => repeat (first | (with_reducible first | exact HB.out | apply below_alloc | apply pw_below_drewN | apply below_drew1 | refine below_set ?_ (IsS34.ge HI0.out)) | exact HB.out)); rintro e w6 ⟨rfl, hi, hb, hk⟩; refine ⟨_, rfl, ?_⟩; have n0_ := Aside0.mk (KeepBut.trans (by repeat (first | (with_reducible first | exact HK.out | apply KeepBut.set_ | apply keep_drewN | apply keep_drew | apply keep_alloc) | exact HK.out)) hk (.inl rfl)); have n1_ := Aside0.mk (hb); have n2_ := Aside0.mk (hi); clear HK; clear HB; clear HI0; have HK := n0_; have HB := n1_; have HI0 := n2_; clear n0_ n1_ n2_; (try clear hb); (try clear hb2); (try clear hk); (try clear hi)))
    go_ret
    exact ⟨by first | rfl | (simp [errW_none, errW_some] <;> rfl) | (simp [*, errW_none, errW_some] <;> rfl), by repeat (first | (with_reducible first | exact HI0.out | apply IsS34.alloc | apply IsS34.drewN | apply IsS34.drew | apply IsS34.set_0 | apply IsS34.set_1 | apply IsS34.set_2) | exact HI0.out), by repeat (first | (with_reducible first | exact HB.out | apply below_alloc | apply pw_below_drewN | apply below_drew1 | refine below_set ?_ (IsS34.ge HI0.out)) | exact HB.out), by repeat (first | (with_reducible first | exact HK.out | apply KeepBut.set_ | apply keep_drewN | apply keep_drew | apply keep_alloc) | exact HK.out)⟩
  · replace c3 := Bool.eq_false_iff.mpr c3
    subst c3
    have H1 : ((postchaiseref12_Reader_Next.f t254 t255 t256 34).bind fun bt261 => (if bt261.1 = true then (postchaiseref12_Reader_String.l0 k (⟨#[]⟩ : ByteArray) bt261.2.1 (wrap64 (bt261.2.2.1 + 1)) bt261.2.2.2) else ((postchaiseref12_Reader_Atom.f k bt261.2.1 bt261.2.2.1 bt261.2.2.2).bind fun bt265 => (some (bt265.1, bt265.2.1, bt265.2.2.1, bt265.2.2.2))))) = some (r1, r2, r3, r4) := by rw [if_neg (show ¬ (false = true) by decide)] at H; exact H
    clear H
    have H := H1
    clear H1
    replace H := Option.bind_eq_some_iff.mp H
    obtain ⟨⟨t261, t262, t263, t264⟩, A70, H⟩ := H
    replace H : (if t261 = true then (postchaiseref12_Reader_String.l0 k (⟨#[]⟩ : ByteArray) t262 (wrap64 (t263 + 1)) t264) else ((postchaiseref12_Reader_Atom.f k t262 t263 t264).bind fun bt265 => (some (bt265.1, bt265.2.1, bt265.2.2.1, bt265.2.2.2)))) = some (r1, r2, r3, r4) := H
    have A7 := Aside0.mk A70
    clear A70
    by_cases c8 : t261 = true
    · subst c8
      have H1 : (postchaiseref12_Reader_String.l0 k (⟨#[]⟩ : ByteArray) t262 (wrap64 (t263 + 1)) t264) = some (r1, r2, r3, r4) := by rw [if_pos rfl] at H; exact H
      clear H
      have H := H1
      clear H1
      have H' := Aside0.mk H
      clear H
      go_enter Tryd.func43, Tryd.ntmps43
      go_wp2_with (first | ((with_reducible refine gate_callee (f := 47) rfl ?_); refine goesL_ (some 6) rfl rfl Tryd.func47 (by kernel_rfl) rfl #[.pointer (some ⟨g, 0, none⟩), .int .u8 123] rfl (by (try simp only [List.map_toArray, List.map_cons, List.map_nil]); first | done | rfl | (simp only [List.length_drop, List.length_take]; rfl)) ?_; (with_reducible refine (postchaiseref12_Reader_Next.calls g s0_0 s0_1 s0_2 123 false t254 t255 t256 w0 _ ?side1 ?side2 A2.out).mono ?_); (case side1 => repeat (first | (with_reducible first | exact HI0.out | apply IsS34.alloc | apply IsS34.drewN | apply IsS34.drew | apply IsS34.set_0 | apply IsS34.set_1 | apply IsS34.set_2) | exact HI0.out)); (case side2 => repeat (first | (with_reducible first | exact HB.out | apply below_alloc | apply pw_below_drewN | apply below_drew1 | refine below_set ?_ (IsS34.ge HI0.out)) | exact HB.out)); rintro e w9 ⟨rfl, hi, hb, hk⟩; refine ⟨_, rfl, ?_⟩; have n0_ := Aside0.mk (KeepBut.trans (by repeat (first | (with_reducible first | exact HK.out | apply KeepBut.set_ | apply keep_drewN | apply keep_drew | apply keep_alloc) | exact HK.out)) hk (.inl rfl)); have n1_ := Aside0.mk (hb); have n2_ := Aside0.mk (hi); clear HK; clear HB; clear HI0; have HK := n0_; have HB := n1_; have HI0 := n2_; clear n0_ n1_ n2_; (try clear hb); (try clear hb2); (try clear hk); (try clear hi)) | ((with_reducible refine gate_callee (f := 47) rfl ?_); refine goesL_ (some 10) rfl rfl Tryd.func47 (by kernel_rfl) rfl #[.pointer (some ⟨g, 0, none⟩), .int .u8 34] rfl (by (try simp only [List.map_toArray, List.map_cons, List.map_nil]); first | done | rfl | (simp only [List.length_drop, List.length_take]; rfl)) ?_; (with_reducible refine (postchaiseref12_Reader_Next.calls g t254 t255 t256 34 true t262 t263 t264 w0 _ ?side1 ?side2 A7.out).mono ?_); (case side1 => repeat (first | (with_reducible first | exact HI0.out | apply IsS34.alloc | apply IsS34.drewN | apply IsS34.drew | apply IsS34.set_0 | apply IsS34.set_1 | apply IsS34.set_2) | exact HI0.out)); (case side2 => repeat (first | (with_reducible first | exact HB.out | apply below_alloc | apply pw_below_drewN | apply below_drew1 | refine below_set ?_ (IsS34.ge HI0.out)) | exact HB.out)); rintro e w10 ⟨rfl, hi, hb, hk⟩; refine ⟨_, rfl, ?_⟩; have n0_ := Aside0.mk (KeepBut.trans (by repeat (first | (with_reducible first | exact HK.out | apply KeepBut.set_ | apply keep_drewN | apply keep_drew | apply keep_alloc) | exact HK.out)) hk (.inl rfl)); have n1_ := Aside0.mk (hb); have n2_ := Aside0.mk (hi); clear HK; clear HB; clear HI0; have HK := n0_; have HB := n1_; have HI0 := n2_; clear n0_ n1_ n2_; (try clear hb); (try clear hb2); (try clear hk); (try clear hi); obtain ⟨HGz11, hgz11⟩ := HI0.out; have hcz11_0 := cellS34_0 HGz11; have hcz11_1 := cellS34_1 HGz11; have hcz11_2 := cellS34_2 HGz11; have hfz11_0 := blk_frozen HGz11 0; have hfz11_1 := blk_frozen HGz11 1; have hfz11_2 := blk_frozen HGz11 2; clear HGz11 hgz11))
      go_loopg [3] k (fun kq v3 w' => ∃ (x3_1 : ByteArray) (x1000_1 : ByteArray) (x1001_1 : Int) (x1002_1 : Bool), v3 = .string x3_1 ∧ Aside0 (postchaiseref12_Reader_String.l0 kq x3_1 x1000_1 x1001_1 x1002_1 = some (r1, r2, r3, r4)) ∧ Aside0 (kq ≤ k) ∧ Aside0 (IsS34 w0 w' g x1000_1 x1001_1 x1002_1) ∧ Aside0 (KeepBut w w' g none) ∧ Aside0 (Below w0.heap.size w0 w'))
      case atStart => exact ⟨((⟨#[]⟩ : ByteArray)), (t262), (wrap64 (t263 + 1)), (t264), (by first | rfl | (simp; done) | (simp [*]; done)), H', ⟨Nat.le_refl _⟩, ⟨by repeat (first | (with_reducible first | exact HI0.out | apply IsS34.alloc | apply IsS34.drewN | apply IsS34.drew | apply IsS34.set_0 | apply IsS34.set_1 | apply IsS34.set_2) | exact HI0.out)⟩, ⟨by repeat (first | (with_reducible first | exact HK.out | apply KeepBut.set_ | apply keep_drewN | apply keep_drew | apply keep_alloc) | exact HK.out)⟩, ⟨by repeat (first | (with_reducible first | exact HB.out | apply below_alloc | apply pw_below_drewN | apply below_drew1 | refine below_set ?_ (IsS34.ge HI0.out)) | exact HB.out)⟩⟩
      case round =>
        clear H'
        try clear p2
        try clear c3
        try clear c4
        try clear p6
        try clear c8
        try clear hcz11_0
        try clear hcz11_1
        try clear hcz11_2
        try clear hfz11_0
        try clear hfz11_1
        try clear hfz11_2
        obtain ⟨x3_1, x1000_1, x1001_1, x1002_1, rfl, HA, HK1, HI0, HK, HB⟩ := hrel
        cases gk with
        | zero => exact absurd HA.out (by simp [postchaiseref12_Reader_String.l0])
        | succ k1 =>
          have H := HA.out
          clear HA
          simp only [postchaiseref12_Reader_String.l0] at H
          replace H := Option.bind_eq_some_iff.mp H
          obtain ⟨⟨t269, t270, t271, t272⟩, A120, H⟩ := H
          replace H : (if t269.toList = ([] : List UInt8) then (postchaiseref12_Reader_String.j1 k1 x3_1 t269 true t270 t271 t272) else (if 0 < (t269.size : Int) then (if (bt t269 0) = 13 then (postchaiseref12_Reader_String.j1 k1 x3_1 t269 true t270 t271 t272) else (postchaiseref12_Reader_String.j1 k1 x3_1 t269 ((bt t269 0) == 10) t270 t271 t272)) else (none))) = some (r1, r2, r3, r4) := H
          have A12 := Aside0.mk A120
          clear A120
          have HC13 := Aside0.mk H
          clear H
          go_upto_region 8 with (first | ((with_reducible refine gate_callee (f := 21) rfl ?_); refine goesL_ (some 23) rfl rfl Tryd.func21 (by kernel_rfl) rfl #[.pointer (some ⟨g, 0, none⟩)] rfl (by (try simp only [List.map_toArray, List.map_cons, List.map_nil]); first | done | rfl | (simp only [List.length_drop, List.length_take]; rfl)) ?_; (with_reducible refine (postchaiseref12_Reader_Rest.calls g x1000_1 x1001_1 x1002_1 t269 t270 t271 t272 w0 _ ?side1 ?side2 A12.out).mono ?_); (case side1 => repeat (first | (with_reducible first | exact HI0.out | apply IsS34.alloc | apply IsS34.drewN | apply IsS34.drew | apply IsS34.set_0 | apply IsS34.set_1 | apply IsS34.set_2) | exact HI0.out)); (case side2 => repeat (first | (with_reducible first | exact HB.out | apply below_alloc | apply pw_below_drewN | apply below_drew1 | refine below_set ?_ (IsS34.ge HI0.out)) | exact HB.out)); rintro e w14 ⟨rfl, hi, hb, hk⟩; refine ⟨_, rfl, ?_⟩; have n0_ := Aside0.mk (KeepBut.trans (by repeat (first | (with_reducible first | exact HK.out | apply KeepBut.set_ | apply keep_drewN | apply keep_drew | apply keep_alloc) | exact HK.out)) hk (.inl rfl)); have n1_ := Aside0.mk (hb); have n2_ := Aside0.mk (hi); clear HK; clear HB; clear HI0; have HK := n0_; have HB := n1_; have HI0 := n2_; clear n0_ n1_ n2_; (try clear hb); (try clear hb2); (try clear hk); (try clear hi)))
          (try simp only [Act.put, List.setIfInBounds_toArray, List.set_cons_zero, List.set_cons_succ])
          go_cut [35] (fun v35 wc => ∃ (kq : Nat) (x35_12 : Bool), v35 = .bool x35_12 ∧ Aside0 (postchaiseref12_Reader_String.j1 kq x3_1 t269 x35_12 t270 t271 t272 = some (r1, r2, r3, r4)) ∧ Aside0 (kq ≤ k1) ∧ Aside0 (IsS34 w0 wc g t270 t271 t272) ∧ Aside0 (KeepBut w wc g none) ∧ Aside0 (Below w0.heap.size w0 wc))
          case first =>
            have H := HC13.out
            clear HC13
            by_cases c15 : t269.toList = ([] : List UInt8)
            · rw [if_pos c15] at H
              have c15b0 : (t269.toList == ([] : List UInt8)) = true := beq_iff_eq.mpr c15
              have c15b1 : (t269.toList != ([] : List UInt8)) = false := bne_eq_false_iff_eq.mpr c15
              clear c15
              (first | rw [c15b0] | (simp only [i64_w, i32_w]; rw [c15b0]) | skip)
              have H' := Aside0.mk H
              clear H
              go_wp2
              go_meet
              case rel => exact ⟨_, (true), (by first | rfl | (simp; done) | (simp [*]; done)), H', ⟨by have := HK1.out; first | omega | exact Nat.le_refl _⟩, ⟨by repeat (first | (with_reducible first | exact HI0.out | apply IsS34.alloc | apply IsS34.drewN | apply IsS34.drew | apply IsS34.set_0 | apply IsS34.set_1 | apply IsS34.set_2) | exact HI0.out)⟩, ⟨by repeat (first | (with_reducible first | exact HK.out | apply KeepBut.set_ | apply keep_drewN | apply keep_drew | apply keep_alloc) | exact HK.out)⟩, ⟨by repeat (first | (with_reducible first | exact HB.out | apply below_alloc | apply pw_below_drewN | apply below_drew1 | refine below_set ?_ (IsS34.ge HI0.out)) | exact HB.out)⟩⟩
            · rw [if_neg c15] at H
              have c15b0 : (t269.toList == ([] : List UInt8)) = false := beq_eq_false_iff_ne.mpr c15
              have c15b1 : (t269.toList != ([] : List UInt8)) = true := bne_iff_ne.mpr c15
              (first | rw [c15b0] | (simp only [i64_w, i32_w]; rw [c15b0]) | skip)
              by_cases c16 : 0 < (t269.size : Int)
              · rw [if_pos c16] at H
                have c16b0 : decide (0 < (t269.size : Int)) = true := decide_eq_true c16
                have c16b1 : decide (0 < t269.size) = true := decide_eq_true (by omega)
                clear c16
                by_cases c18 : (bt t269 0) = 13
                · rw [if_pos c18] at H
                  have c18b0 : ((bt t269 0) == 13) = true := beq_iff_eq.mpr c18
                  have c18b1 : ((bt t269 0) != 13) = false := bne_eq_false_iff_eq.mpr c18
                  clear c18
                  have H' := Aside0.mk H
                  clear H
                  have p17 : 0 ≤ (0 : Int) := (by omega)
                  have q17 : 0 < t269.size := (by have : (0 : Int) < (t269.size : Int) := of_decide_eq_true (by first | (with_reducible assumption) | assumption); omega)
                  have hx17 : ∀ h : 0 < t269.size, ((t269[0]'h).toNat : Int) = bt t269 0 := bt_at t269 0
                  clear p17
                  have qi17 : (0 < (t269.size : Int)) = True := eq_true (of_decide_eq_true (by first | (with_reducible assumption) | assumption))
                  replace q17 := eq_true q17
                  go_wp2
                  go_meet
                  case rel => exact ⟨_, (true), (by first | rfl | (simp; done) | (simp [*]; done)), H', ⟨by have := HK1.out; first | omega | exact Nat.le_refl _⟩, ⟨by repeat (first | (with_reducible first | exact HI0.out | apply IsS34.alloc | apply IsS34.drewN | apply IsS34.drew | apply IsS34.set_0 | apply IsS34.set_1 | apply IsS34.set_2) | exact HI0.out)⟩, ⟨by repeat (first | (with_reducible first | exact HK.out | apply KeepBut.set_ | apply keep_drewN | apply keep_drew | apply keep_alloc) | exact HK.out)⟩, ⟨by repeat (first | (with_reducible first | exact HB.out | apply below_alloc | apply pw_below_drewN | apply below_drew1 | refine below_set ?_ (IsS34.ge HI0.out)) | exact HB.out)⟩⟩
                · rw [if_neg c18] at H
                  have c18b0 : ((bt t269 0) == 13) = false := beq_eq_false_iff_ne.mpr c18
                  have c18b1 : ((bt t269 0) != 13) = true := bne_iff_ne.mpr c18
                  have H' := Aside0.mk H
                  clear H
                  have p17 : 0 ≤ (0 : Int) := (by omega)
                  have q17 : 0 < t269.size := (by have : (0 : Int) < (t269.size : Int) := of_decide_eq_true (by first | (with_reducible assumption) | assumption); omega)
                  have hx17 : ∀ h : 0 < t269.size, ((t269[0]'h).toNat : Int) = bt t269 0 := bt_at t269 0
                  clear p17
                  have qi17 : (0 < (t269.size : Int)) = True := eq_true (of_decide_eq_true (by first | (with_reducible assumption) | assumption))
                  replace q17 := eq_true q17
                  have p19 : 0 ≤ (0 : Int) := (by omega)
                  have q19 : 0 < t269.size := (by have : (0 : Int) < (t269.size : Int) := of_decide_eq_true (by first | (with_reducible assumption) | assumption); omega)
                  have hx19 : ∀ h : 0 < t269.size, ((t269[0]'h).toNat : Int) = bt t269 0 := bt_at t269 0
                  clear p19
                  have qi19 : (0 < (t269.size : Int)) = True := eq_true (of_decide_eq_true (by first | (with_reducible assumption) | assumption))
                  replace q19 := eq_true q19
                  go_wp2
                  go_meet
                  case rel => exact ⟨_, (((bt t269 0) == 10)), (by first | rfl | (simp; done) | (simp [*]; done)), H', ⟨by have := HK1.out; first | omega | exact Nat.le_refl _⟩, ⟨by repeat (first | (with_reducible first | exact HI0.out | apply IsS34.alloc | apply IsS34.drewN | apply IsS34.drew | apply IsS34.set_0 | apply IsS34.set_1 | apply IsS34.set_2) | exact HI0.out)⟩, ⟨by repeat (first | (with_reducible first | exact HK.out | apply KeepBut.set_ | apply keep_drewN | apply keep_drew | apply keep_alloc) | exact HK.out)⟩, ⟨by repeat (first | (with_reducible first | exact HB.out | apply below_alloc | apply pw_below_drewN | apply below_drew1 | refine below_set ?_ (IsS34.ge HI0.out)) | exact HB.out)⟩⟩
              · rw [if_neg c16] at H
                exact absurd H (by simp)
          case rest =>
            clear HC13
            try clear c1
            try clear p1
            try clear q1
            try clear hx1
            try clear qi1
            try clear c2
            try clear p2
            try clear c3
            try clear c4
            try clear p6
            try clear c8
            try clear c15
            try clear c15b0
            try clear c15b1
            try clear c16
            try clear c16b0
            try clear c16b1
            try clear p17
            try clear q17
            try clear hx17
            try clear qi17
            try clear c18
            try clear c18b0
            try clear c18b1
            try clear p19
            try clear q19
            try clear hx19
            try clear qi19
            try clear hcz11_0
            try clear hcz11_1
            try clear hcz11_2
            try clear hfz11_0
            try clear hfz11_1
            try clear hfz11_2
            try clear p17
            try clear p19
            try clear p2
            try clear p6
            try clear q17
            try clear q19
            obtain ⟨kq, x35_12, rfl, HA, HJ12, HI0, HK, HB⟩ := hcut
            cases kq with
            | zero => exact absurd HA.out (by simp [postchaiseref12_Reader_String.j1])
            | succ kj12 =>
              have H := HA.out
              clear HA
              simp only [postchaiseref12_Reader_String.j1] at H
              by_cases c20 : x35_12 = true
              · subst c20
                have H1 : ((postchaiseref12_Reader_Fail.f t270 t271 t272).bind fun bt273 => (some ((⟨#[]⟩ : ByteArray), bt273.1, bt273.2.1, bt273.2.2))) = some (r1, r2, r3, r4) := by rw [if_pos rfl] at H; exact H
                clear H
                have H := H1
                clear H1
                replace H := Option.bind_eq_some_iff.mp H
                obtain ⟨⟨t273, t274, t275⟩, A210, H⟩ := H
                replace H : (some ((⟨#[]⟩ : ByteArray), t273, t274, t275)) = some (r1, r2, r3, r4) := H
                have A21 := Aside0.mk A210
                clear A210
                simp only [Option.some.injEq, Prod.mk.injEq] at H
                obtain ⟨rfl, rfl, rfl, rfl⟩ := H
                go_wp2_with (first | ((with_reducible refine gate_callee (f := 49) rfl ?_); refine goesL_ (some 37) rfl rfl Tryd.func49 (by kernel_rfl) rfl #[.pointer (some ⟨g, 0, none⟩)] rfl (by (try simp only [List.map_toArray, List.map_cons, List.map_nil]); first | done | rfl | (simp only [List.length_drop, List.length_take]; rfl)) ?_; (with_reducible refine (postchaiseref12_Reader_Fail.calls g t270 t271 t272 t273 t274 t275 w0 _ ?side1 ?side2 A21.out).mono ?_); (case side1 => repeat (first | (with_reducible first | exact HI0.out | apply IsS34.alloc | apply IsS34.drewN | apply IsS34.drew | apply IsS34.set_0 | apply IsS34.set_1 | apply IsS34.set_2) | exact HI0.out)); (case side2 => repeat (first | (with_reducible first | exact HB.out | apply below_alloc | apply pw_below_drewN | apply below_drew1 | refine below_set ?_ (IsS34.ge HI0.out)) | exact HB.out)); rintro e w22 ⟨rfl, hi, hb, hk⟩; refine ⟨_, rfl, ?_⟩; have n0_ := Aside0.mk (KeepBut.trans (by repeat (first | (with_reducible first | exact HK.out | apply KeepBut.set_ | apply keep_drewN | apply keep_drew | apply keep_alloc) | exact HK.out)) hk (.inl rfl)); have n1_ := Aside0.mk (hb); have n2_ := Aside0.mk (hi); clear HK; clear HB; clear HI0; have HK := n0_; have HB := n1_; have HI0 := n2_; clear n0_ n1_ n2_; (try clear hb); (try clear hb2); (try clear hk); (try clear hi)))
                go_ret
                exact ⟨by first | rfl | (simp [errW_none, errW_some] <;> rfl) | (simp [*, errW_none, errW_some] <;> rfl), by repeat (first | (with_reducible first | exact HI0.out | apply IsS34.alloc | apply IsS34.drewN | apply IsS34.drew | apply IsS34.set_0 | apply IsS34.set_1 | apply IsS34.set_2) | exact HI0.out), by repeat (first | (with_reducible first | exact HB.out | apply below_alloc | apply pw_below_drewN | apply below_drew1 | refine below_set ?_ (IsS34.ge HI0.out)) | exact HB.out), by repeat (first | (with_reducible first | exact HK.out | apply KeepBut.set_ | apply keep_drewN | apply keep_drew | apply keep_alloc) | exact HK.out)⟩
              · replace c20 := Bool.eq_false_iff.mpr c20
                subst c20
                have H1 : (if 0 < (t269.size : Int) then (if (bt t269 0) = 34 then (some (x3_1, t270, wrap64 (t271 + 1), t272)) else (if (bt t269 0) = 92 then (if (t269.size : Int) < 2 then ((postchaiseref12_Reader_Fail.f t270 t271 t272).bind fun bt276 => (some ((⟨#[]⟩ : ByteArray), bt276.1, bt276.2.1, bt276.2.2))) else (if 1 < (t269.size : Int) then (if (bt t269 1) = 34 then (if 1 ≤ 2 then (if 2 ≤ (t269.size : Int) then (if x3_1.size + (t269.extract 1 2).size ≤ 9223372036854775807 then (postchaiseref12_Reader_String.l0 kj12 (x3_1 ++ (t269.extract 1 2)) t270 (wrap64 (t271 + 2)) t272) else (none)) else (none)) else (none)) else (if (bt t269 1) = 92 then (if 1 ≤ 2 then (if 2 ≤ (t269.size : Int) then (if x3_1.size + (t269.extract 1 2).size ≤ 9223372036854775807 then (postchaiseref12_Reader_String.l0 kj12 (x3_1 ++ (t269.extract 1 2)) t270 (wrap64 (t271 + 2)) t272) else (none)) else (none)) else (none)) else ((postchaiseref12_Reader_Fail.f t270 t271 t272).bind fun bt279 => (some ((⟨#[]⟩ : ByteArray), bt279.1, bt279.2.1, bt279.2.2))))) else (none))) else (if 0 ≤ 1 then (if 1 ≤ (t269.size : Int) then (if x3_1.size + (t269.extract 0 1).size ≤ 9223372036854775807 then (postchaiseref12_Reader_String.l0 kj12 (x3_1 ++ (t269.extract 0 1)) t270 (wrap64 (t271 + 1)) t272) else (none)) else (none)) else (none)))) else (none)) = some (r1, r2, r3, r4) := by rw [if_neg (show ¬ (false = true) by decide)] at H; exact H
                clear H
                have H := H1
                clear H1
                by_cases c23 : 0 < (t269.size : Int)
                · rw [if_pos c23] at H
                  have c23b0 : decide (0 < (t269.size : Int)) = true := decide_eq_true c23
                  have c23b1 : decide (0 < t269.size) = true := decide_eq_true (by omega)
                  clear c23
                  by_cases c25 : (bt t269 0) = 34
                  · rw [if_pos c25] at H
                    have c25b0 : ((bt t269 0) == 34) = true := beq_iff_eq.mpr c25
                    have c25b1 : ((bt t269 0) != 34) = false := bne_eq_false_iff_eq.mpr c25
                    clear c25
                    simp only [Option.some.injEq, Prod.mk.injEq] at H
                    obtain ⟨rfl, rfl, rfl, rfl⟩ := H
                    have p24 : 0 ≤ (0 : Int) := (by omega)
                    have q24 : 0 < t269.size := (by have : (0 : Int) < (t269.size : Int) := of_decide_eq_true (by first | (with_reducible assumption) | assumption); omega)
                    have hx24 : ∀ h : 0 < t269.size, ((t269[0]'h).toNat : Int) = bt t269 0 := bt_at t269 0
                    clear p24
                    have qi24 : (0 < (t269.size : Int)) = True := eq_true (of_decide_eq_true (by first | (with_reducible assumption) | assumption))
                    replace q24 := eq_true q24
                    obtain ⟨HGz26, hgz26⟩ := HI0.out
                    have hcz26_0 := cellS34_0 HGz26
                    have hcz26_1 := cellS34_1 HGz26
                    have hcz26_2 := cellS34_2 HGz26
                    have hfz26_0 := blk_frozen HGz26 0
                    have hfz26_1 := blk_frozen HGz26 1
                    have hfz26_2 := blk_frozen HGz26 2
                    clear HGz26 hgz26
                    go_wp2
                    go_ret
                    exact ⟨by first | rfl | (simp [errW_none, errW_some] <;> rfl) | (simp [*, errW_none, errW_some] <;> rfl), by repeat (first | (with_reducible first | exact HI0.out | apply IsS34.alloc | apply IsS34.drewN | apply IsS34.drew | apply IsS34.set_0 | apply IsS34.set_1 | apply IsS34.set_2) | exact HI0.out), by repeat (first | (with_reducible first | exact HB.out | apply below_alloc | apply pw_below_drewN | apply below_drew1 | refine below_set ?_ (IsS34.ge HI0.out)) | exact HB.out), by repeat (first | (with_reducible first | exact HK.out | apply KeepBut.set_ | apply keep_drewN | apply keep_drew | apply keep_alloc) | exact HK.out)⟩
                  · rw [if_neg c25] at H
                    have c25b0 : ((bt t269 0) == 34) = false := beq_eq_false_iff_ne.mpr c25
                    have c25b1 : ((bt t269 0) != 34) = true := bne_iff_ne.mpr c25
                    by_cases c28 : (bt t269 0) = 92
                    · rw [if_pos c28] at H
                      have c28b0 : ((bt t269 0) == 92) = true := beq_iff_eq.mpr c28
                      have c28b1 : ((bt t269 0) != 92) = false := bne_eq_false_iff_eq.mpr c28
                      clear c28
                      by_cases c29 : (t269.size : Int) < 2
                      · rw [if_pos c29] at H
                        have c29b0 : decide ((t269.size : Int) < 2) = true := decide_eq_true c29
                        have c29b1 : decide (t269.size < 2) = true := decide_eq_true (by omega)
                        clear c29
                        replace H := Option.bind_eq_some_iff.mp H
                        obtain ⟨⟨t276, t277, t278⟩, A300, H⟩ := H
                        replace H : (some ((⟨#[]⟩ : ByteArray), t276, t277, t278)) = some (r1, r2, r3, r4) := H
                        have A30 := Aside0.mk A300
                        clear A300
                        simp only [Option.some.injEq, Prod.mk.injEq] at H
                        obtain ⟨rfl, rfl, rfl, rfl⟩ := H
                        have p24 : 0 ≤ (0 : Int) := (by omega)
                        have q24 : 0 < t269.size := (by have : (0 : Int) < (t269.size : Int) := of_decide_eq_true (by first | (with_reducible assumption) | assumption); omega)
                        have hx24 : ∀ h : 0 < t269.size, ((t269[0]'h).toNat : Int) = bt t269 0 := bt_at t269 0
                        clear p24
                        have qi24 : (0 < (t269.size : Int)) = True := eq_true (of_decide_eq_true (by first | (with_reducible assumption) | assumption))
                        replace q24 := eq_true q24
                        have p27 : 0 ≤ (0 : Int) := (by omega)
                        have q27 : 0 < t269.size := (by have : (0 : Int) < (t269.size : Int) := of_decide_eq_true (by first | (with_reducible assumption) | assumption); omega)
                        have hx27 : ∀ h : 0 < t269.size, ((t269[0]'h).toNat : Int) = bt t269 0 := bt_at t269 0
                        clear p27
                        have qi27 : (0 < (t269.size : Int)) = True := eq_true (of_decide_eq_true (by first | (with_reducible assumption) | assumption))
                        replace q27 := eq_true q27
                        go_wp2_with (first | ((with_reducible refine gate_callee (f := 49) rfl ?_); refine goesL_ (some 67) rfl rfl Tryd.func49 (by kernel_rfl) rfl #[.pointer (some ⟨g, 0, none⟩)] rfl (by (try simp only [List.map_toArray, List.map_cons, List.map_nil]); first | done | rfl | (simp only [List.length_drop, List.length_take]; rfl)) ?_; (with_reducible refine (postchaiseref12_Reader_Fail.calls g t270 t271 t272 t276 t277 t278 w0 _ ?side1 ?side2 A30.out).mono ?_); (case side1 => repeat (first | (with_reducible first | exact HI0.out | apply IsS34.alloc | apply IsS34.drewN | apply IsS34.drew | apply IsS34.set_0 | apply IsS34.set_1 | apply IsS34.set_2) | exact HI0.out)); (case side2 => repeat (first | (with_reducible first | exact HB.out | apply below_alloc | apply pw_below_drewN | apply below_drew1 | refine below_set ?_ (IsS34.ge HI0.out)) | exact HB.out)); rintro e w31 ⟨rfl, hi, hb, hk⟩; refine ⟨_, rfl, ?_⟩; have n0_ := Aside0.mk (KeepBut.trans (by repeat (first | (with_reducible first | exact HK.out | apply KeepBut.set_ | apply keep_drewN | apply keep_drew | apply keep_alloc) | exact HK.out)) hk (.inl rfl)); have n1_ := Aside0.mk (hb); have n2_ := Aside0.mk (hi); clear HK; clear HB; clear HI0; have HK := n0_; have HB := n1_; have HI0 := n2_; clear n0_ n1_ n2_; (try clear hb); (try clear hb2); (try clear hk); (try clear hi)))
                        go_ret
                        exact ⟨by first | rfl | (simp [errW_none, errW_some] <;> rfl) | (simp [*, errW_none, errW_some] <;> rfl), by repeat (first | (with_reducible first | exact HI0.out | apply IsS34.alloc | apply IsS34.drewN | apply IsS34.drew | apply IsS34.set_0 | apply IsS34.set_1 | apply IsS34.set_2) | exact HI0.out), by repeat (first | (with_reducible first | exact HB.out | apply below_alloc | apply pw_below_drewN | apply below_drew1 | refine below_set ?_ (IsS34.ge HI0.out)) | exact HB.out), by repeat (first | (with_reducible first | exact HK.out | apply KeepBut.set_ | apply keep_drewN | apply keep_drew | apply keep_alloc) | exact HK.out)⟩
                      · rw [if_neg c29] at H
                        have c29b0 : decide ((t269.size : Int) < 2) = false := decide_eq_false c29
                        have c29b1 : decide (t269.size < 2) = false := decide_eq_false (by omega)
                        clear c29
                        by_cases c32 : 1 < (t269.size : Int)
                        · rw [if_pos c32] at H
                          have c32b0 : decide (1 < (t269.size : Int)) = true := decide_eq_true c32
                          have c32b1 : decide (1 < t269.size) = true := decide_eq_true (by omega)
                          clear c32
                          by_cases c34 : (bt t269 1) = 34
                          · rw [if_pos c34] at H
                            have c34b0 : ((bt t269 1) == 34) = true := beq_iff_eq.mpr c34
                            have c34b1 : ((bt t269 1) != 34) = false := bne_eq_false_iff_eq.mpr c34
                            clear c34
                            by_cases c35 : 1 ≤ 2
                            · rw [if_pos c35] at H
                              have c35b0 := eq_true c35
                              have c35b1 : decide (1 ≤ 2) = true := decide_eq_true c35
                              clear c35
                              by_cases c36 : 2 ≤ (t269.size : Int)
                              · rw [if_pos c36] at H
                                have c36b0 := eq_true c36
                                have c36b1 : decide (2 ≤ (t269.size : Int)) = true := decide_eq_true c36
                                clear c36
                                by_cases c37 : x3_1.size + (t269.extract 1 2).size ≤ 9223372036854775807
                                · rw [if_pos c37] at H
                                  have c37b0 := eq_true c37
                                  have c37b1 : decide (x3_1.size + (t269.extract 1 2).size ≤ 9223372036854775807) = true := decide_eq_true c37
                                  try have c37b2 : (9223372036854775807 < x3_1.size + (t269.extract 1 2).size) = False := eq_false (Nat.not_lt.2 c37)
                                  have H' := Aside0.mk H
                                  clear H
                                  have p24 : 0 ≤ (0 : Int) := (by omega)
                                  have q24 : 0 < t269.size := (by have : (0 : Int) < (t269.size : Int) := of_decide_eq_true (by first | (with_reducible assumption) | assumption); omega)
                                  have hx24 : ∀ h : 0 < t269.size, ((t269[0]'h).toNat : Int) = bt t269 0 := bt_at t269 0
                                  clear p24
                                  have qi24 : (0 < (t269.size : Int)) = True := eq_true (of_decide_eq_true (by first | (with_reducible assumption) | assumption))
                                  replace q24 := eq_true q24
                                  have p27 : 0 ≤ (0 : Int) := (by omega)
                                  have q27 : 0 < t269.size := (by have : (0 : Int) < (t269.size : Int) := of_decide_eq_true (by first | (with_reducible assumption) | assumption); omega)
                                  have hx27 : ∀ h : 0 < t269.size, ((t269[0]'h).toNat : Int) = bt t269 0 := bt_at t269 0
                                  clear p27
                                  have qi27 : (0 < (t269.size : Int)) = True := eq_true (of_decide_eq_true (by first | (with_reducible assumption) | assumption))
                                  replace q27 := eq_true q27
                                  have p33 : 0 ≤ (1 : Int) := (by omega)
                                  have q33 : 1 < t269.size := (by have : (1 : Int) < (t269.size : Int) := of_decide_eq_true (by first | (with_reducible assumption) | assumption); omega)
                                  have hx33 : ∀ h : 1 < t269.size, ((t269[1]'h).toNat : Int) = bt t269 1 := bt_at t269 1
                                  clear p33
                                  have qi33 : (1 < (t269.size : Int)) = True := eq_true (of_decide_eq_true (by first | (with_reducible assumption) | assumption))
                                  replace q33 := eq_true q33
                                  obtain ⟨HGz38, hgz38⟩ := HI0.out
                                  have hcz38_0 := cellS34_0 HGz38
                                  have hcz38_1 := cellS34_1 HGz38
                                  have hcz38_2 := cellS34_2 HGz38
                                  have hfz38_0 := blk_frozen HGz38 0
                                  have hfz38_1 := blk_frozen HGz38 1
                                  have hfz38_2 := blk_frozen HGz38 2
                                  clear HGz38 hgz38
                                  go_wp2
                                  go_roundg kj12
                                  case measure => have := HK1.out; have := HJ12.out; omega
                                  case rel => exact ⟨(x3_1 ++ (t269.extract 1 2)), (t270), (wrap64 (t271 + 2)), (t272), (by first | rfl | (simp; done) | (simp [*]; done)), H', ⟨by have := HK1.out; have := HJ12.out; omega⟩, ⟨by repeat (first | (with_reducible first | exact HI0.out | apply IsS34.alloc | apply IsS34.drewN | apply IsS34.drew | apply IsS34.set_0 | apply IsS34.set_1 | apply IsS34.set_2) | exact HI0.out)⟩, ⟨by repeat (first | (with_reducible first | exact HK.out | apply KeepBut.set_ | apply keep_drewN | apply keep_drew | apply keep_alloc) | exact HK.out)⟩, ⟨by repeat (first | (with_reducible first | exact HB.out | apply below_alloc | apply pw_below_drewN | apply below_drew1 | refine below_set ?_ (IsS34.ge HI0.out)) | exact HB.out)⟩⟩
                                · rw [if_neg c37] at H
                                  exact absurd H (by simp)
                              · rw [if_neg c36] at H
                                exact absurd H (by simp)
                            · rw [if_neg c35] at H
                              exact absurd H (by simp)
                          · rw [if_neg c34] at H
                            have c34b0 : ((bt t269 1) == 34) = false := beq_eq_false_iff_ne.mpr c34
                            have c34b1 : ((bt t269 1) != 34) = true := bne_iff_ne.mpr c34
                            by_cases c40 : (bt t269 1) = 92
                            · rw [if_pos c40] at H
                              have c40b0 : ((bt t269 1) == 92) = true := beq_iff_eq.mpr c40
                              have c40b1 : ((bt t269 1) != 92) = false := bne_eq_false_iff_eq.mpr c40
                              clear c40
                              by_cases c41 : 1 ≤ 2
                              · rw [if_pos c41] at H
                                have c41b0 := eq_true c41
                                have c41b1 : decide (1 ≤ 2) = true := decide_eq_true c41
                                clear c41
                                by_cases c42 : 2 ≤ (t269.size : Int)
                                · rw [if_pos c42] at H
                                  have c42b0 := eq_true c42
                                  have c42b1 : decide (2 ≤ (t269.size : Int)) = true := decide_eq_true c42
                                  clear c42
                                  by_cases c43 : x3_1.size + (t269.extract 1 2).size ≤ 9223372036854775807
                                  · rw [if_pos c43] at H
                                    have c43b0 := eq_true c43
                                    have c43b1 : decide (x3_1.size + (t269.extract 1 2).size ≤ 9223372036854775807) = true := decide_eq_true c43
                                    try have c43b2 : (9223372036854775807 < x3_1.size + (t269.extract 1 2).size) = False := eq_false (Nat.not_lt.2 c43)
                                    have H' := Aside0.mk H
                                    clear H
                                    have p24 : 0 ≤ (0 : Int) := (by omega)
                                    have q24 : 0 < t269.size := (by have : (0 : Int) < (t269.size : Int) := of_decide_eq_true (by first | (with_reducible assumption) | assumption); omega)
                                    have hx24 : ∀ h : 0 < t269.size, ((t269[0]'h).toNat : Int) = bt t269 0 := bt_at t269 0
                                    clear p24
                                    have qi24 : (0 < (t269.size : Int)) = True := eq_true (of_decide_eq_true (by first | (with_reducible assumption) | assumption))
                                    replace q24 := eq_true q24
                                    have p27 : 0 ≤ (0 : Int) := (by omega)
                                    have q27 : 0 < t269.size := (by have : (0 : Int) < (t269.size : Int) := of_decide_eq_true (by first | (with_reducible assumption) | assumption); omega)
                                    have hx27 : ∀ h : 0 < t269.size, ((t269[0]'h).toNat : Int) = bt t269 0 := bt_at t269 0
                                    clear p27
                                    have qi27 : (0 < (t269.size : Int)) = True := eq_true (of_decide_eq_true (by first | (with_reducible assumption) | assumption))
                                    replace q27 := eq_true q27
                                    have p33 : 0 ≤ (1 : Int) := (by omega)
                                    have q33 : 1 < t269.size := (by have : (1 : Int) < (t269.size : Int) := of_decide_eq_true (by first | (with_reducible assumption) | assumption); omega)
                                    have hx33 : ∀ h : 1 < t269.size, ((t269[1]'h).toNat : Int) = bt t269 1 := bt_at t269 1
                                    clear p33
                                    have qi33 : (1 < (t269.size : Int)) = True := eq_true (of_decide_eq_true (by first | (with_reducible assumption) | assumption))
                                    replace q33 := eq_true q33
                                    have p39 : 0 ≤ (1 : Int) := (by omega)
                                    have q39 : 1 < t269.size := (by have : (1 : Int) < (t269.size : Int) := of_decide_eq_true (by first | (with_reducible assumption) | assumption); omega)
                                    have hx39 : ∀ h : 1 < t269.size, ((t269[1]'h).toNat : Int) = bt t269 1 := bt_at t269 1
                                    clear p39
                                    have qi39 : (1 < (t269.size : Int)) = True := eq_true (of_decide_eq_true (by first | (with_reducible assumption) | assumption))
                                    replace q39 := eq_true q39
                                    obtain ⟨HGz44, hgz44⟩ := HI0.out
                                    have hcz44_0 := cellS34_0 HGz44
                                    have hcz44_1 := cellS34_1 HGz44
                                    have hcz44_2 := cellS34_2 HGz44
                                    have hfz44_0 := blk_frozen HGz44 0
                                    have hfz44_1 := blk_frozen HGz44 1
                                    have hfz44_2 := blk_frozen HGz44 2
                                    clear HGz44 hgz44
                                    go_wp2
                                    go_roundg kj12
                                    case measure => have := HK1.out; have := HJ12.out; omega
                                    case rel => exact ⟨(x3_1 ++ (t269.extract 1 2)), (t270), (wrap64 (t271 + 2)), (t272), (by first | rfl | (simp; done) | (simp [*]; done)), H', ⟨by have := HK1.out; have := HJ12.out; omega⟩, ⟨by repeat (first | (with_reducible first | exact HI0.out | apply IsS34.alloc | apply IsS34.drewN | apply IsS34.drew | apply IsS34.set_0 | apply IsS34.set_1 | apply IsS34.set_2) | exact HI0.out)⟩, ⟨by repeat (first | (with_reducible first | exact HK.out | apply KeepBut.set_ | apply keep_drewN | apply keep_drew | apply keep_alloc) | exact HK.out)⟩, ⟨by repeat (first | (with_reducible first | exact HB.out | apply below_alloc | apply pw_below_drewN | apply below_drew1 | refine below_set ?_ (IsS34.ge HI0.out)) | exact HB.out)⟩⟩
                                  · rw [if_neg c43] at H
                                    exact absurd H (by simp)
                                · rw [if_neg c42] at H
                                  exact absurd H (by simp)
                              · rw [if_neg c41] at H
                                exact absurd H (by simp)
                            · rw [if_neg c40] at H
                              have c40b0 : ((bt t269 1) == 92) = false := beq_eq_false_iff_ne.mpr c40
                              have c40b1 : ((bt t269 1) != 92) = true := bne_iff_ne.mpr c40
                              replace H := Option.bind_eq_some_iff.mp H
                              obtain ⟨⟨t279, t280, t281⟩, A450, H⟩ := H
                              replace H : (some ((⟨#[]⟩ : ByteArray), t279, t280, t281)) = some (r1, r2, r3, r4) := H
                              have A45 := Aside0.mk A450
                              clear A450
                              simp only [Option.some.injEq, Prod.mk.injEq] at H
                              obtain ⟨rfl, rfl, rfl, rfl⟩ := H
                              have p24 : 0 ≤ (0 : Int) := (by omega)
                              have q24 : 0 < t269.size := (by have : (0 : Int) < (t269.size : Int) := of_decide_eq_true (by first | (with_reducible assumption) | assumption); omega)
                              have hx24 : ∀ h : 0 < t269.size, ((t269[0]'h).toNat : Int) = bt t269 0 := bt_at t269 0
                              clear p24
                              have qi24 : (0 < (t269.size : Int)) = True := eq_true (of_decide_eq_true (by first | (with_reducible assumption) | assumption))
                              replace q24 := eq_true q24
                              have p27 : 0 ≤ (0 : Int) := (by omega)
                              have q27 : 0 < t269.size := (by have : (0 : Int) < (t269.size : Int) := of_decide_eq_true (by first | (with_reducible assumption) | assumption); omega)
                              have hx27 : ∀ h : 0 < t269.size, ((t269[0]'h).toNat : Int) = bt t269 0 := bt_at t269 0
                              clear p27
                              have qi27 : (0 < (t269.size : Int)) = True := eq_true (of_decide_eq_true (by first | (with_reducible assumption) | assumption))
                              replace q27 := eq_true q27
                              have p33 : 0 ≤ (1 : Int) := (by omega)
                              have q33 : 1 < t269.size := (by have : (1 : Int) < (t269.size : Int) := of_decide_eq_true (by first | (with_reducible assumption) | assumption); omega)
                              have hx33 : ∀ h : 1 < t269.size, ((t269[1]'h).toNat : Int) = bt t269 1 := bt_at t269 1
                              clear p33
                              have qi33 : (1 < (t269.size : Int)) = True := eq_true (of_decide_eq_true (by first | (with_reducible assumption) | assumption))
                              replace q33 := eq_true q33
                              have p39 : 0 ≤ (1 : Int) := (by omega)
                              have q39 : 1 < t269.size := (by have : (1 : Int) < (t269.size : Int) := of_decide_eq_true (by first | (with_reducible assumption) | assumption); omega)
                              have hx39 : ∀ h : 1 < t269.size, ((t269[1]'h).toNat : Int) = bt t269 1 := bt_at t269 1
                              clear p39
                              have qi39 : (1 < (t269.size : Int)) = True := eq_true (of_decide_eq_true (by first | (with_reducible assumption) | assumption))
                              replace q39 := eq_true q39
                              go_wp2_with (first | ((with_reducible refine gate_callee (f := 49) rfl ?_); refine goesL_ (some 67) rfl rfl Tryd.func49 (by kernel_rfl) rfl #[.pointer (some ⟨g, 0, none⟩)] rfl (by (try simp only [List.map_toArray, List.map_cons, List.map_nil]); first | done | rfl | (simp only [List.length_drop, List.length_take]; rfl)) ?_; (with_reducible refine (postchaiseref12_Reader_Fail.calls g t270 t271 t272 t279 t280 t281 w0 _ ?side1 ?side2 A45.out).mono ?_); (case side1 => repeat (first | (with_reducible first | exact HI0.out | apply IsS34.alloc | apply IsS34.drewN | apply IsS34.drew | apply IsS34.set_0 | apply IsS34.set_1 | apply IsS34.set_2) | exact HI0.out)); (case side2 => repeat (first | (with_reducible first | exact HB.out | apply below_alloc | apply pw_below_drewN | apply below_drew1 | refine below_set ?_ (IsS34.ge HI0.out)) | exact HB.out)); rintro e w46 ⟨rfl, hi, hb, hk⟩; refine ⟨_, rfl, ?_⟩; have n0_ := Aside0.mk (KeepBut.trans (by repeat (first | (with_reducible first | exact HK.out | apply KeepBut.set_ | apply keep_drewN | apply keep_drew | apply keep_alloc) | exact HK.out)) hk (.inl rfl)); have n1_ := Aside0.mk (hb); have n2_ := Aside0.mk (hi); clear HK; clear HB; clear HI0; have HK := n0_; have HB := n1_; have HI0 := n2_; clear n0_ n1_ n2_; (try clear hb); (try clear hb2); (try clear hk); (try clear hi)))
                              go_ret
                              exact ⟨by first | rfl | (simp [errW_none, errW_some] <;> rfl) | (simp [*, errW_none, errW_some] <;> rfl), by repeat (first | (with_reducible first | exact HI0.out | apply IsS34.alloc | apply IsS34.drewN | apply IsS34.drew | apply IsS34.set_0 | apply IsS34.set_1 | apply IsS34.set_2) | exact HI0.out), by repeat (first | (with_reducible first | exact HB.out | apply below_alloc | apply pw_below_drewN | apply below_drew1 | refine below_set ?_ (IsS34.ge HI0.out)) | exact HB.out), by repeat (first | (with_reducible first | exact HK.out | apply KeepBut.set_ | apply keep_drewN | apply keep_drew | apply keep_alloc) | exact HK.out)⟩
                        · rw [if_neg c32] at H
                          exact absurd H (by simp)
                    · rw [if_neg c28] at H
                      have c28b0 : ((bt t269 0) == 92) = false := beq_eq_false_iff_ne.mpr c28
                      have c28b1 : ((bt t269 0) != 92) = true := bne_iff_ne.mpr c28
                      by_cases c47 : 0 ≤ 1
                      · rw [if_pos c47] at H
                        have c47b0 := eq_true c47
                        have c47b1 : decide (0 ≤ 1) = true := decide_eq_true c47
                        clear c47
                        by_cases c48 : 1 ≤ (t269.size : Int)
                        · rw [if_pos c48] at H
                          have c48b0 := eq_true c48
                          have c48b1 : decide (1 ≤ (t269.size : Int)) = true := decide_eq_true c48
                          clear c48
                          by_cases c49 : x3_1.size + (t269.extract 0 1).size ≤ 9223372036854775807
                          · rw [if_pos c49] at H
                            have c49b0 := eq_true c49
                            have c49b1 : decide (x3_1.size + (t269.extract 0 1).size ≤ 9223372036854775807) = true := decide_eq_true c49
                            try have c49b2 : (9223372036854775807 < x3_1.size + (t269.extract 0 1).size) = False := eq_false (Nat.not_lt.2 c49)
                            have H' := Aside0.mk H
                            clear H
                            have p24 : 0 ≤ (0 : Int) := (by omega)
                            have q24 : 0 < t269.size := (by have : (0 : Int) < (t269.size : Int) := of_decide_eq_true (by first | (with_reducible assumption) | assumption); omega)
                            have hx24 : ∀ h : 0 < t269.size, ((t269[0]'h).toNat : Int) = bt t269 0 := bt_at t269 0
                            clear p24
                            have qi24 : (0 < (t269.size : Int)) = True := eq_true (of_decide_eq_true (by first | (with_reducible assumption) | assumption))
                            replace q24 := eq_true q24
                            have p27 : 0 ≤ (0 : Int) := (by omega)
                            have q27 : 0 < t269.size := (by have : (0 : Int) < (t269.size : Int) := of_decide_eq_true (by first | (with_reducible assumption) | assumption); omega)
                            have hx27 : ∀ h : 0 < t269.size, ((t269[0]'h).toNat : Int) = bt t269 0 := bt_at t269 0
                            clear p27
                            have qi27 : (0 < (t269.size : Int)) = True := eq_true (of_decide_eq_true (by first | (with_reducible assumption) | assumption))
                            replace q27 := eq_true q27
                            obtain ⟨HGz50, hgz50⟩ := HI0.out
                            have hcz50_0 := cellS34_0 HGz50
                            have hcz50_1 := cellS34_1 HGz50
                            have hcz50_2 := cellS34_2 HGz50
                            have hfz50_0 := blk_frozen HGz50 0
                            have hfz50_1 := blk_frozen HGz50 1
                            have hfz50_2 := blk_frozen HGz50 2
                            clear HGz50 hgz50
                            go_wp2
                            go_roundg kj12
                            case measure => have := HK1.out; have := HJ12.out; omega
                            case rel => exact ⟨(x3_1 ++ (t269.extract 0 1)), (t270), (wrap64 (t271 + 1)), (t272), (by first | rfl | (simp; done) | (simp [*]; done)), H', ⟨by have := HK1.out; have := HJ12.out; omega⟩, ⟨by repeat (first | (with_reducible first | exact HI0.out | apply IsS34.alloc | apply IsS34.drewN | apply IsS34.drew | apply IsS34.set_0 | apply IsS34.set_1 | apply IsS34.set_2) | exact HI0.out)⟩, ⟨by repeat (first | (with_reducible first | exact HK.out | apply KeepBut.set_ | apply keep_drewN | apply keep_drew | apply keep_alloc) | exact HK.out)⟩, ⟨by repeat (first | (with_reducible first | exact HB.out | apply below_alloc | apply pw_below_drewN | apply below_drew1 | refine below_set ?_ (IsS34.ge HI0.out)) | exact HB.out)⟩⟩
                          · rw [if_neg c49] at H
                            exact absurd H (by simp)
                        · rw [if_neg c48] at H
                          exact absurd H (by simp)
                      · rw [if_neg c47] at H
                        exact absurd H (by simp)
                · rw [if_neg c23] at H
                  exact absurd H (by simp)
    · replace c8 := Bool.eq_false_iff.mpr c8
      subst c8
      have H1 : ((postchaiseref12_Reader_Atom.f k t262 t263 t264).bind fun bt265 => (some (bt265.1, bt265.2.1, bt265.2.2.1, bt265.2.2.2))) = some (r1, r2, r3, r4) := by rw [if_neg (show ¬ (false = true) by decide)] at H; exact H
      clear H
      have H := H1
      clear H1
      replace H := Option.bind_eq_some_iff.mp H
      obtain ⟨⟨t265, t266, t267, t268⟩, A510, H⟩ := H
      replace H : (some (t265, t266, t267, t268)) = some (r1, r2, r3, r4) := H
      have A51 := Aside0.mk A510
      clear A510
      simp only [Option.some.injEq, Prod.mk.injEq] at H
      obtain ⟨rfl, rfl, rfl, rfl⟩ := H
      go_enter Tryd.func43, Tryd.ntmps43
      go_wp2_with (first | ((with_reducible refine gate_callee (f := 47) rfl ?_); refine goesL_ (some 6) rfl rfl Tryd.func47 (by kernel_rfl) rfl #[.pointer (some ⟨g, 0, none⟩), .int .u8 123] rfl (by (try simp only [List.map_toArray, List.map_cons, List.map_nil]); first | done | rfl | (simp only [List.length_drop, List.length_take]; rfl)) ?_; (with_reducible refine (postchaiseref12_Reader_Next.calls g s0_0 s0_1 s0_2 123 false t254 t255 t256 w0 _ ?side1 ?side2 A2.out).mono ?_); (case side1 => repeat (first | (with_reducible first | exact HI0.out | apply IsS34.alloc | apply IsS34.drewN | apply IsS34.drew | apply IsS34.set_0 | apply IsS34.set_1 | apply IsS34.set_2) | exact HI0.out)); (case side2 => repeat (first | (with_reducible first | exact HB.out | apply below_alloc | apply pw_below_drewN | apply below_drew1 | refine below_set ?_ (IsS34.ge HI0.out)) | exact HB.out)); rintro e w52 ⟨rfl, hi, hb, hk⟩; refine ⟨_, rfl, ?_⟩; have n0_ := Aside0.mk (KeepBut.trans (by repeat (first | (with_reducible first | exact HK.out | apply KeepBut.set_ | apply keep_drewN | apply keep_drew | apply keep_alloc) | exact HK.out)) hk (.inl rfl)); have n1_ := Aside0.mk (hb); have n2_ := Aside0.mk (hi); clear HK; clear HB; clear HI0; have HK := n0_; have HB := n1_; have HI0 := n2_; clear n0_ n1_ n2_; (try clear hb); (try clear hb2); (try clear hk); (try clear hi)) | ((with_reducible refine gate_callee (f := 47) rfl ?_); refine goesL_ (some 10) rfl rfl Tryd.func47 (by kernel_rfl) rfl #[.pointer (some ⟨g, 0, none⟩), .int .u8 34] rfl (by (try simp only [List.map_toArray, List.map_cons, List.map_nil]); first | done | rfl | (simp only [List.length_drop, List.length_take]; rfl)) ?_; (with_reducible refine (postchaiseref12_Reader_Next.calls g t254 t255 t256 34 false t262 t263 t264 w0 _ ?side1 ?side2 A7.out).mono ?_); (case side1 => repeat (first | (with_reducible first | exact HI0.out | apply IsS34.alloc | apply IsS34.drewN | apply IsS34.drew | apply IsS34.set_0 | apply IsS34.set_1 | apply IsS34.set_2) | exact HI0.out)); (case side2 => repeat (first | (with_reducible first | exact HB.out | apply below_alloc | apply pw_below_drewN | apply below_drew1 | refine below_set ?_ (IsS34.ge HI0.out)) | exact HB.out)); rintro e w53 ⟨rfl, hi, hb, hk⟩; refine ⟨_, rfl, ?_⟩; have n0_ := Aside0.mk (KeepBut.trans (by repeat (first | (with_reducible first | exact HK.out | apply KeepBut.set_ | apply keep_drewN | apply keep_drew | apply keep_alloc) | exact HK.out)) hk (.inl rfl)); have n1_ := Aside0.mk (hb); have n2_ := Aside0.mk (hi); clear HK; clear HB; clear HI0; have HK := n0_; have HB := n1_; have HI0 := n2_; clear n0_ n1_ n2_; (try clear hb); (try clear hb2); (try clear hk); (try clear hi)) | ((with_reducible refine gate_callee (f := 41) rfl ?_); refine goesL_ (some 13) rfl rfl Tryd.func41 (by kernel_rfl) rfl #[.pointer (some ⟨g, 0, none⟩)] rfl (by (try simp only [List.map_toArray, List.map_cons, List.map_nil]); first | done | rfl | (simp only [List.length_drop, List.length_take]; rfl)) ?_; (with_reducible refine (postchaiseref12_Reader_Atom.calls k g t262 t263 t264 t265 t266 t267 t268 w0 _ ?side1 ?side2 A51.out).mono ?_); (case side1 => repeat (first | (with_reducible first | exact HI0.out | apply IsS34.alloc | apply IsS34.drewN | apply IsS34.drew | apply IsS34.set_0 | apply IsS34.set_1 | apply IsS34.set_2) | exact HI0.out)); (case side2 => repeat (first | (with_reducible first | exact HB.out | apply below_alloc | apply pw_below_drewN | apply below_drew1 | refine below_set ?_ (IsS34.ge HI0.out)) | exact HB.out)); rintro e w54 ⟨rfl, hi, hb, hk⟩; refine ⟨_, rfl, ?_⟩; have n0_ := Aside0.mk (KeepBut.trans (by repeat (first | (with_reducible first | exact HK.out | apply KeepBut.set_ | apply keep_drewN | apply keep_drew | apply keep_alloc) | exact HK.out)) hk (.inl rfl)); have n1_ := Aside0.mk (hb); have n2_ := Aside0.mk (hi); clear HK; clear HB; clear HI0; have HK := n0_; have HB := n1_; have HI0 := n2_; clear n0_ n1_ n2_; (try clear hb); (try clear hb2); (try clear hk); (try clear hi)))
      go_ret
      exact ⟨by first | rfl | (simp [errW_none, errW_some] <;> rfl) | (simp [*, errW_none, errW_some] <;> rfl), by repeat (first | (with_reducible first | exact HI0.out | apply IsS34.alloc | apply IsS34.drewN | apply IsS34.drew | apply IsS34.set_0 | apply IsS34.set_1 | apply IsS34.set_2) | exact HI0.out), by repeat (first | (with_reducible first | exact HB.out | apply below_alloc | apply pw_below_drewN | apply below_drew1 | refine below_set ?_ (IsS34.ge HI0.out)) | exact HB.out), by repeat (first | (with_reducible first | exact HK.out | apply KeepBut.set_ | apply keep_drewN | apply keep_drew | apply keep_alloc) | exact HK.out)⟩


end Go.Proofs.YtphaemaccdddfaaDoor.PTk

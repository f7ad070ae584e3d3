/- Package feed: the law's 'awake', walked. The premise says what package variables hold. -/
import Derived.Test.YtphaemaccdddfaaDoorFdTake
import Derived.Lib.SlBytesConst
set_option linter.unusedVariables false
set_option linter.unusedSimpArgs false
namespace Go.Proofs.YtphaemaccdddfaaDoor.PTk
open Go.RowKit Go.Shelf Go.Proofs.YtphaemaccdddfaaDoorW.PrintWords Go.Proofs.YtphaemaccdddfaaDoorW.PrintLast Go.Proofs.YtphaemaccdddfaaDoorW.PrintMore
def awakeL : List UInt8 := [97, 32, 110, 111, 111, 112, 13, 10, 97, 32, 97, 112, 112, 101, 110, 100, 32, 120, 32, 123, 50, 125, 13, 10, 104, 105, 13, 10]
theorem awake_run : (FS.zero.run awakeL).2 = [(0, ⟨#[97, 32, 110, 111, 111, 112]⟩), (1, ⟨#[]⟩), (0, ⟨#[97, 32, 97, 112, 112, 101, 110, 100, 32, 120, 32, 123, 50, 125, 13, 10, 104, 105]⟩)] := by decide +kernel
theorem eqA70 (d : Nat) (w : World) (x0 y0 : Int) (x1 y1 : ByteArray) :
    (Op.equalIn (d + 2) 70 (.agg #[.int .i64 x0, .string x1]) (.agg #[.int .i64 y0, .string y1])).run Tryd.prog w = .ok (x0 == y0 && (x1.toList == y1.toList)) w := by
  refine eqA_of Tryd.underlying70 (by kernel_rfl) ?_
  refine eqf_cons (by rfl) (by go_simp; rfl) (by go_simp; rfl) (by go_simp) ?_
  exact eqf_last (by rfl) (by go_simp; rfl) (by go_simp; rfl) (by go_simp)
attribute [local go_sem high] eqA70
theorem conv_const (w : World) (C : Array Value) (n c : Nat) : (convert 39 39 (.slice (some ⟨w.heap.size, 0, none⟩) n c)).run Tryd.prog (w.alloc (.cells C 5)) = .ok (.slice (some ⟨w.heap.size, 0, none⟩) n c) (w.alloc (.cells C 5 (C.size, C.size + 1))) :=
  Lib.run_convert_bytes_const w 39 5 C n c Tryd.underlying39 Tryd.underlying5
attribute [local go_sem] conv_const
theorem row_at {W : World} {base n : Nat} {v : Value} {xs : List Value} (h : W.ownsRow base 70 2 v n xs) (hn : 0 < n) : ∃ g cap, v = .slice (some ⟨g, 0, none⟩) n cap ∧ n ≤ cap ∧ base ≤ g ∧ g < W.heap.size ∧ ∀ j, j < n * 2 → W.cell? ⟨g, 0 + j, none⟩ = xs[j]? := by
  rcases h.2 with ⟨_, h0⟩ | ⟨g, cap, cur, rfl, hb, hg, hc, _⟩
  · omega
  · exact ⟨g, cap, rfl, hc, hb, (Array.getElem?_eq_some_iff.1 hg).1, fun j hj => by rw [Nat.zero_add]; exact h.cellAt j hj⟩
/-- A new feed. -/
theorem FdAt.new {base b : Nat} {X : World} (h1 : b < base) (h2 : base ≤ X.heap.size) (h3 : X.heap[b]? = some (.cells (fcells (.slice none 0 0) FS.zero b) 68 (0, 0))) : FdAt base b FS.zero (.slice none 0 0) X := ⟨h1, h2, h3, World.ownsRow_nil _ _ _ _⟩
theorem bytes_cells (W : World) (l : List UInt8) (fr : Nat × Nat) (i : Nat) (hi : i < l.length) : (W.alloc (.cells (l.map bv).toArray 5 fr)).cell? ⟨W.heap.size, 0 + i, none⟩ = some (.int .u8 ((l[i].toNat : Nat) : Int)) := by
  rw [World.cell?_alloc_mark]
  simp [bv, hi]
set_option maxRecDepth 100000 in
set_option maxHeartbeats 4000000 in
theorem fd_awake (W : World) (hG : GlobOk W) : Calls Tryd.prog 27 #[] W fun e w' => e = .returned (.bool true) ∧ Hd (Below W.heap.size W w') := by
  have HTk : Hd (∀ w1 : World, (w1.heap.size = W.heap.size + 1 ∧ Below W.heap.size W w1 ∧ w1.heap[W.heap.size]? = some (.cells (fcells (.slice none 0 0) FS.zero W.heap.size) 68 (0, 0))) →
      Calls Tryd.prog 23 #[.pointer (some ⟨W.heap.size, 0, none⟩), .slice (some ⟨w1.heap.size, 0, none⟩) 28 28] (w1.alloc (.cells (awakeL.map bv).toArray 5 (28, 29))) fun e w' => ∃ v, e = .returned v ∧ Hd (TkAt (w1.heap.size + 1) W.heap.size (w1.alloc (.cells (awakeL.map bv).toArray 5 (28, 29))) FS.zero awakeL v w')) := ⟨fun w1 ⟨h1, h2, h3⟩ =>
    take_any hG (h2.trans (below_alloc (Below.refl _ _) _ |>.mono h2.size)) (Nat.le_refl _) (FdAt.new (by omega) (by simp) ((Below.heap_alloc _ _ _ (by omega)).trans h3)) 0 (FS.zero_ok 0) awakeL (by decide) _ 28 w1.heap.size 0 (fun _ => ⟨rfl, by omega, by omega, by simp⟩) (bytes_cells w1 awakeL _)⟩
  have HNw := Hd.mk (new_any W)
  clear hG
  go_enter Tryd.func27, Tryd.ntmps27
  go_wp2_with (first
    | (go_at_call 22; have hx := HNw.out; (with_reducible refine hx.mono ?_); clear hx; rintro e w1 ⟨rfl, HN⟩)
    | (go_at_call 23; have hx := HTk.out w1 HN.out; refine hx.mono ?_; clear hx; rintro e w2 ⟨v, rfl, HT⟩; have hrow := HT.out.row; rw [awake_run] at hrow; obtain ⟨g, cap, hv, hcap, hg1, hg2, hcell⟩ := row_at hrow (by decide); subst hv; have d0 := hcell 0 (by decide); have d1 := hcell 1 (by decide); have d2 := hcell 2 (by decide); have d3 := hcell 3 (by decide); have d4 := hcell 4 (by decide); have d5 := hcell 5 (by decide); simp only [pcells, List.flatMap_cons, List.flatMap_nil, List.cons_append, List.nil_append, List.append_nil, List.getElem?_cons_zero, List.getElem?_cons_succ, Nat.zero_add, Nat.add_zero] at d0 d1 d2 d3 d4 d5; clear hrow hcell))
  go_ret
  exact ⟨rfl, ⟨(HN.out.2.1.trans ((below_alloc (Below.refl w1.heap.size w1) _).mono HN.out.2.1.size)).trans (HT.out.keep.below (by have := HN.out.1; simp; omega) (Nat.le_refl _) (by have := HN.out.1; omega))⟩⟩
end Go.Proofs.YtphaemaccdddfaaDoor.PTk

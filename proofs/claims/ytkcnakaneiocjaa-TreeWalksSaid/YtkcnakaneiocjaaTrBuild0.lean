/- Trees: the document's Build at a leaf, walked. No condition but those that each contract bears. -/
import Derived.Test.YtkcnakaneiocjaaTrRn
set_option linter.unusedVariables false
set_option linter.unusedSimpArgs false
namespace Go.Proofs.Ytkcnakaneiocjaa.PTr
open Go.RowKit Go.Proofs.YtkcnakaneiocjaaW.PrintWords Go.Proofs.YtkcnakaneiocjaaW.PrintLast Go.Proofs.YtkcnakaneiocjaaW.PrintMore
/-- Messages in memory, in a row that is read. -/
structure RdAt (A : Option Addr) (l : List Rec) (W : World) : Prop where
  cell : 0 < l.length → ∃ g o, A = some ⟨g, o, none⟩ ∧ g < W.heap.size ∧ ∀ i (hi : i < l.length), W.cell? ⟨g, o + i * 3, none⟩ = some (.int .u32 l[i].f0) ∧ W.cell? ⟨g, o + i * 3 + 1, none⟩ = some (.int .u8 l[i].f1) ∧ W.cell? ⟨g, o + i * 3 + 2, none⟩ = some (.string l[i].f2)
theorem RdAt.grown {A : Option Addr} {l : List Rec} {W X : World} {row : Option Nat} (h : RdAt A l W) (hg : W.grownBy X row) (hs : ∀ g o, A = some ⟨g, o, none⟩ → row ≠ some g) : RdAt A l X := ⟨fun hn => by
  obtain ⟨g, o, h1, h2, h3⟩ := h.cell hn
  have hb := hg.block g h2 (fun e => hs g o h1 e.symm)
  refine ⟨g, o, h1, Nat.lt_of_lt_of_le h2 hg.size, fun i hi => ?_⟩
  obtain ⟨k0, k1, k2⟩ := h3 i hi
  exact ⟨(World.cell?_of_block (a := ⟨g, o + i * 3, none⟩) hb).trans k0, (World.cell?_of_block (a := ⟨g, o + i * 3 + 1, none⟩) hb).trans k1, (World.cell?_of_block (a := ⟨g, o + i * 3 + 2, none⟩) hb).trans k2⟩⟩
theorem RdAt.on {A : Option Addr} {l : List Rec} {W X : World} (h : RdAt A l W) (hb : Below W.heap.size W X) : RdAt A l X :=
  h.grown (row := none) ⟨hb.os, hb.tape, hb.output, hb.size, fun k hk _ => hb.block k hk⟩ (fun _ _ _ => by simp)
/-- What Build leaves. -/
def BuildPost (base : Nat) (v : Value) (nodes more : List Rn) (W : World) (e : Ending) (w' : World) : Prop :=
  ∃ v', e = .returned (.tuple #[v', .int .i64 (nodes.length : Int)]) ∧ Hd (w'.ownsRow base 71 21 v' (nodes ++ more).length (rowc (nodes ++ more)) ∧ W.grownBy w' v.ownBlock ∧ (v'.ownBlock = v.ownBlock ∨ ∃ k, v'.ownBlock = some k ∧ W.heap.size ≤ k))
theorem row_form {W : World} {base : Nat} {e : TypeId} {sz : Nat} {v : Value} {n : Nat} {xs : List Value} (h : W.ownsRow base e sz v n xs) : ∃ A c, v = .slice A n c ∧ n ≤ c := by
  rcases h.2 with ⟨rfl, h0⟩ | ⟨g, cap, cur, rfl, _, _, hc, _⟩
  · exact ⟨none, 0, by rw [h0], by omega⟩
  · exact ⟨_, _, rfl, hc⟩
theorem own_grown {X Y : World} {base : Nat} {e : TypeId} {sz : Nat} {v : Value} {n : Nat} {xs : List Value} {row : Option Nat} (h : X.ownsRow base e sz v n xs) (hg : X.grownBy Y row) (hn : ∀ k, v.ownBlock = some k → row ≠ some k) : Y.ownsRow base e sz v n xs :=
  own_move h fun k hk => by
    have hl : k < X.heap.size := by
      obtain ⟨cur, hc⟩ := own_typed h k hk
      exact (Array.getElem?_eq_some_iff.1 hc).1
    exact hg.block k hl (fun e => hn k hk e.symm)
theorem grown_below {W X Y : World} {row : Option Nat} (hb : Below W.heap.size W X) (hg : X.grownBy Y row) : W.grownBy Y row :=
  ⟨hg.os.trans hb.os, hg.tape.trans hb.tape, hg.output.trans hb.output, Nat.le_trans hb.size hg.size, fun k hk hn => (hg.block k (Nat.lt_of_lt_of_le hk hb.size) hn).trans (hb.block k hk)⟩
set_option maxRecDepth 100000 in
set_option maxHeartbeats 1000000 in
theorem build_leaf {base : Nat} {W : World} {v : Value} {nodes : List Rn} (hv : W.ownsRow base 71 21 v nodes.length (rowc nodes)) (hbase : base ≤ W.heap.size) (hn : nodes.length ≤ 1000000) {A : Option Addr} (cap : Nat) (r : Rec) (hl : RdAt A [r] W) :
    Calls Try.prog 24 #[v, .slice A 1 cap, .int .i64 (-1)] W (BuildPost base v nodes (build 0 nodes.length [r]) W) := by
  obtain ⟨g, o, rfl, hg, hc⟩ := hl.cell (by simp)
  obtain ⟨c0, c1, c2⟩ := hc 0 (by simp)
  rw [Nat.zero_mul, Nat.add_zero] at c0 c1 c2
  simp only [List.getElem_cons_zero] at c0 c1 c2
  obtain ⟨A0, cap0, hsv, hcap0⟩ := row_form hv
  have HV := Hd.mk hv
  have HSv := Hd.mk hsv
  subst hsv
  obtain ⟨i0, hi, hz0, hz1, hz2⟩ := inf_parts info71
  clear hv hl hc
  go_enter Try.func24, Try.ntmps24
  go_wp2_with (first
    | (at_builtin; (
       refine wpList_append_own_at _ rfl _ _ 67 rfl base 71 i0 _ 21 168 Try.underlying67 hi hz0 hz1 hz2 rfl (by decide) (.slice A0 nodes.length cap0) nodes.length (rowc nodes) rfl (own_grown HV.out (row := none) ⟨rfl, rfl, rfl, by simp, fun k hk _ => Below.heap_alloc _ _ _ hk⟩ (fun _ _ => by simp)) ⟨W.heap.size, 0, none⟩ 1 1 (rcells ⟨true, 0, fun _ => 0, r⟩) rfl rfl (World.news_of_block (cs := rArr ⟨true, 0, fun _ => 0, r⟩) (t := 71) (fr := (0, 0)) (heap_alloc_new W _)) (rcells_one _) (by unfold maxLen; omega) (by omega) (by simp; omega) ?_
       intro v3 w3 hown3 hg3 hnil3 hat3
       have HO3 := Hd.mk hown3
       have HG3 := Hd.mk hg3
       have HA3 := Hd.mk hat3
       clear hown3 hg3 hnil3 hat3)))
  go_ret2
  refine ⟨v3, rfl, ⟨?_, grown_below (below_alloc (Below.refl _ _) _) HG3.out, ?_⟩⟩
  · have := HO3.out
    rw [← rowc_one, ← rowc_append] at this
    rw [List.length_append]
    exact this
  · rcases HA3.out with h | h
    · exact .inl h
    · exact .inr ⟨_, h, by simp⟩
end Go.Proofs.Ytkcnakaneiocjaa.PTr

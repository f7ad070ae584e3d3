/- Rest at one act that is nil. No condition but those that it bears. -/
import Derived.Test.YthghndjfghdnnaaActRest
namespace Go.Proofs.Ythghndjfghdnnaa
open Go.RowKit Go.Shelf
attribute [local go_sem] Oper.semAt_some
def NilAt (gb b : Nat) (W : World) : Prop := W.cell? ⟨gb, 0, none⟩ = some (.slice (some ⟨b, 0, none⟩) 1 1) ∧ W.cell? ⟨b, 0, none⟩ = some (.pointer none)
theorem going_nil {gb b : Nat} (I : List Nat → World → Prop) (hI : ∀ pre W, I pre W → NilAt gb b W) (m : Nat) :
    SeqHears Fence.wide m Try.prog 44 #[.pointer (some ⟨gb, 0, none⟩)] (encAct (fun _ => 0)) I (fun _ _ => False) (fun xs => xs = []) := by
  intro l J W hJ h0 _
  obtain ⟨hg, hb⟩ := hI _ _ (hJ _ _ h0)
  have H0 : Hd _ := ⟨h0⟩
  clear hI hJ h0
  refine callsIn_of_wp Try.func44 rfl trivial ?_ rfl
  simp only [Try.ntmps44, List.size_toArray, List.length_cons, List.length_nil, Nat.reduceAdd, Nat.reduceSub, Array.replicate_succ, Array.replicate_zero, List.push_toArray, List.append_toArray, List.nil_append, List.cons_append]
  refine wpIn_wide.2 ?_
  go_step3
  refine wp_seq (wp_label ?_)
  show Code.wp _ _ _ _ _
  refine (wpIn_wide (n := m)).1 ?_
  gi_wp2
  gi_loopw [7] (fun i wr => (i = .int .i64 0 ∨ i = .int .i64 1) ∧ wr = W) (fun i _ => 1 - (intOf i).toNat)
  case atStart => exact ⟨.inl rfl, rfl⟩
  case round =>
    obtain ⟨h | h, rfl⟩ := hrel
    · subst h
      gi_wp2
      refine And.intro trivial (And.intro (fun h => absurd h (by simp [Fence.wide])) ((callsIn_wide.2 (over_none _)).mono ?_))
      rintro e w' ⟨rfl, rfl⟩
      gi_wp2
      go_roundw
      case rel => exact ⟨.inr rfl, trivial⟩
      case measure => simp [intOf]
    · subst h
      gi_wp2
      simp only [Exit.noGoto]
      go_end0
      exact ⟨⟨_, rfl⟩, _, rfl, H0.out⟩
theorem shut_below {w V W' : World} (hb : Below w.heap.size w V) (hs : Shut w.heap.size V W') : Below w.heap.size w W' :=
  hb.trans (hs.touch.below hb.size (fun k hk e => by omega))
set_option maxHeartbeats 2000000 in
theorem rest_nil (b : Nat) (w : World) (hb : w.cell? ⟨b, 0, none⟩ = some (.pointer none)) :
    Calls Try.prog 38 #[.int .i64 5, .slice (some ⟨b, 0, none⟩) 1 1] w fun e w' => e = .returned (.int .i64 0) ∧ Below w.heap.size w w' := by
  have hlb := lt_of_cell hb
  refine (callsIn_wide (n := 5)).1 ?_
  refine callsIn_of_wp_marks Try.func38 rfl trivial ?_ rfl
  simp only [Try.ntmps38, List.size_toArray, List.length_cons, List.length_nil, Nat.reduceAdd, Nat.reduceSub, Array.replicate_succ, Array.replicate_zero, List.push_toArray, List.append_toArray, List.nil_append, List.cons_append]
  gi_wp2
  gi_loopw [11] (fun i wr => i = .int .i64 0 ∧ wr = w) (fun _ _ => 0)
  case atStart => exact ⟨rfl, rfl⟩
  case round =>
    obtain ⟨rfl, rfl⟩ := hrel
    gi_wp2
    refine And.intro trivial ((callsIn_wide.2 (going_any _ _ _ _)).mono ?_)
    rintro e w' ⟨rfl, rfl⟩
    gi_wp2
    have hcb : ((wr.alloc (.cells #[.bool false] 4)).alloc (.cells #[.slice (some ⟨b, 0, none⟩) 1 1] 65)).cell? ⟨b, 0, none⟩ = some (.pointer none) :=
      (World.cell?_of_block ((Below.heap_alloc _ _ _ (by simp; omega)).trans (Below.heap_alloc _ _ _ hlb))).trans hb
    refine wpIn_rangeFunc_hears rfl (by omega) (gf := 44) (lb := #[.pointer (some ⟨wr.heap.size + 1, 0, none⟩)]) rfl trivial (enters_of Try.func44 (by kernel_rfl) rfl)
      (fun (_ : List Nat) V => (NilAt (wr.heap.size + 1) b V ∧ V.heap[wr.heap.size]? = some (.cells #[.bool false] 4 (0, 0))) ∧ Below wr.heap.size wr V) (fun _ _ => False) (fun xs => xs = []) (going_nil _ (fun _ _ h => h.1.1) _) (fun _ => rfl) ?own ?zero
      (fun x => { tmps := #[.int .i64 5, .slice (some ⟨b, 0, none⟩) 1 1, undef, undef, u4, .int .i64 0, .pointer (some ⟨wr.heap.size, 0, none⟩), undef, .pointer (some ⟨0, 0, none⟩), .int .i64 5, .int .i64 (max 0 5), .int .i64 0, .bool true, .int .i64 0, .slice (some ⟨b, 0, none⟩) 1 1,
        .func (.func 44) #[] #[.pointer (some ⟨wr.heap.size + 1, 0, none⟩)], .int .i64 x, .pointer (some ⟨0, 0, none⟩), u18, u19, u20, u21, u22, u23, undef, undef], defers := [] }) ?assign ?body ?done
    case own =>
      rintro pre X Y row ⟨⟨⟨h1, h2⟩, h3⟩, h4⟩ hg hr
      have hc : ∀ (k : Nat) (c : Array Value) (t : TypeId) (f : Nat × Nat), X.heap[k]? = some (Obj.cells c t f) → Y.heap[k]? = X.heap[k]? := fun k c t f hk => hg.block k (Array.getElem?_eq_some_iff.1 hk).1 (fun e => by
        obtain ⟨_, o, ho, hn⟩ := hr k e.symm
        rw [hk] at ho; cases ho; cases hn)
      obtain ⟨x1, y1, z1, e1⟩ := cells_of h1
      obtain ⟨x2, y2, z2, e2⟩ := cells_of h2
      exact ⟨⟨⟨(World.cell?_of_block (w := X) (hc _ _ _ _ e1)).trans h1, (World.cell?_of_block (w := X) (hc _ _ _ _ e2)).trans h2⟩, (hc _ _ _ _ h3).trans h3⟩, h4.grown hg h4.size (fun k e => by have := (hr k e).1; simp at this; omega)⟩
    case zero =>
      exact ⟨⟨⟨by simp [go_sem], hcb⟩, (Below.heap_alloc _ _ _ (by simp)).trans (heap_alloc_new wr _)⟩, ((Below.refl _ wr).alloc (Nat.le_refl _) _).alloc (by simp) _⟩
    case assign =>
      intro l x V K hK
      dsimp only [encAct]
      gi_wp2
      exact hK
    case body =>
      intro l pre x V _ h
      exact h.elim
    case done =>
      rintro D xs V rfl rfl ⟨⟨_, h3⟩, h4⟩ hD
      have e0 := blk_cell h3 (i := 0) rfl
      have HD : Hd _ := ⟨hD⟩
      have H4 : Hd _ := ⟨h4⟩
      clear h3 h4 hD
      gi_wp2
      refine leaves_marks (B := wr.heap.size) _ _ ⟨fun d hd => ?_, List.pairwise_singleton _ _⟩ fun W' hs => ⟨_, results_tmp rfl _ _ _, rfl, shut_below H4.out hs⟩
      rw [List.mem_singleton.1 hd]
      exact ⟨_, rfl, by simp; omega, HD.out⟩
end Go.Proofs.Ythghndjfghdnnaa

/- strings.SplitSeq at a separator of one byte: the iterator, walked. No condition but those that each contract bears. -/
import Derived.Test.YtahbnpkhkhdmaaaDoorFlSplit
import Derived.LoopTactic
set_option linter.unusedVariables false
set_option linter.unusedSimpArgs false
namespace Go.Proofs.YtahbnpkhkhdmaaaDoor
open Go.RowKit Go.Shelf
attribute [local go_sem] Oper.semAt_some
def splitBk (bsep bs bsave : Nat) : Nat → Prop := fun k => k = bsep ∨ k = bs ∨ k = bsave
structure SplitSt (c : UInt8) (s : ByteArray) (bsep bs bsave : Nat) (W : World) : Prop where
  sep : W.cell? ⟨bsep, 0, none⟩ = some (.string ⟨#[c]⟩)
  s : W.cell? ⟨bs, 0, none⟩ = some (.string s)
  save : W.cell? ⟨bsave, 0, none⟩ = some (.int .i64 0)
  fr : W.frozen? ⟨bs, 0, none⟩ = false
  n1 : bsep ≠ bs
  n2 : bsave ≠ bs
theorem SplitSt.on {c : UInt8} {s : ByteArray} {bsep bs bsave : Nat} {W W' : World} (h : SplitSt c s bsep bs bsave W) (hs : Stood (splitBk bsep bs bsave) W W') : SplitSt c s bsep bs bsave W' :=
  ⟨(World.cell?_of_block (w := W) (hs bsep (.inl rfl))).trans h.sep, (World.cell?_of_block (w := W) (hs bs (.inr (.inl rfl)))).trans h.s, (World.cell?_of_block (w := W) (hs bsave (.inr (.inr rfl)))).trans h.save, (World.frozen?_of_block (w := W) (hs bs (.inr (.inl rfl)))).trans h.fr, h.n1, h.n2⟩
theorem SplitSt.put {c : UInt8} {s : ByteArray} {bsep bs bsave : Nat} {W : World} (h : SplitSt c s bsep bs bsave W) (r : ByteArray) : SplitSt c r bsep bs bsave (W.setCell ⟨bs, 0, none⟩ (.string r)) := by
  have hb : ∀ k, k ≠ bs → (W.setCell ⟨bs, 0, none⟩ (.string r)).heap[k]? = W.heap[k]? := fun k hk => Below.heap_setCell _ _ _ _ hk
  exact ⟨(World.cell?_of_block (w := W) (hb bsep h.n1)).trans h.sep, by rw [setCell_get _ _ _ _ _ _ h.s, if_pos rfl], (World.cell?_of_block (w := W) (hb bsave h.n2)).trans h.save, by rw [World.frozen?_setCell]; exact h.fr, h.n1, h.n2⟩
def restSize (w : World) (b : Nat) : Nat := match w.cell? ⟨b, 0, none⟩ with
  | some (.string r) => r.size
  | _ => 0
theorem splitSeq_any (s sep : ByteArray) (w : World) : Calls Tryd.prog 34 #[.string s, .string sep] w fun e w' => e = .returned (.func (.func 64) #[] #[.pointer (some ⟨w.heap.size + 1, 0, none⟩), .pointer (some ⟨w.heap.size, 0, none⟩), .pointer (some ⟨w.heap.size + 1 + 1, 0, none⟩)]) ∧ w' = ((w.alloc (.cells #[.string s] 9)).alloc (.cells #[.string sep] 9)).alloc (.cells #[.int .i64 0] 3) := by
  go_enter Tryd.func34, Tryd.ntmps34
  go_wp2
  go_ret
  exact ⟨rfl, rfl⟩
theorem wide_fn (f : Nat) : Fence.wide.fn f := trivial
set_option maxRecDepth 100000 in
set_option maxHeartbeats 2000000 in
theorem split_state (c : UInt8) (s : ByteArray) (bsep bs bsave : Nat) (hs : s.size ≤ 140737488351232) (m : Nat) :
    SeqState Fence.wide m Tryd.prog 64 #[.pointer (some ⟨bsep, 0, none⟩), .pointer (some ⟨bs, 0, none⟩), .pointer (some ⟨bsave, 0, none⟩)] (fun x : ByteArray => #[.string x]) (splitBk bsep bs bsave) (SplitSt c s bsep bs bsave)
      (fun pre x => ∃ post, parts c s = pre ++ x :: post) (fun xs => xs = parts c s) (fun _ => True) := by
  intro l J Jx W aJ aJx hSt h0 hY
  have HY : Hd _ := ⟨hY⟩
  have HJ : Hd _ := ⟨aJ⟩
  have HJx : Hd _ := ⟨aJx⟩
  have c0 := hSt.sep
  have H0 : Hd (∃ r pre, J pre W ∧ SplitSt c r bsep bs bsave W ∧ parts c s = pre ++ parts c r ∧ r.size ≤ s.size) := ⟨s, [], h0, hSt, rfl, Nat.le_refl _⟩
  have h1 : (⟨#[c]⟩ : ByteArray).size = 1 := rfl
  clear hY aJ aJx hSt h0
  refine callsIn_of_wp Tryd.func64 rfl trivial ?_ rfl
  simp only [Tryd.ntmps64, List.size_toArray, List.length_cons, List.length_nil, Nat.reduceAdd, Nat.reduceSub, Array.replicate_succ, Array.replicate_zero, List.push_toArray, List.append_toArray, List.nil_append, List.cons_append]
  gi_wp2
  gi_loopw [7] (fun u wr => Hd (∃ r pre, J pre wr ∧ SplitSt c r bsep bs bsave wr ∧ parts c s = pre ++ parts c r ∧ r.size ≤ s.size)) (fun u wr => restSize wr bs)
  case atStart => exact H0
  case round =>
    obtain ⟨r, pre, hJ, hSt, hp, hr⟩ := hrel.out
    have k0 := hSt.sep
    have k1 := hSt.s
    have k2 := hSt.save
    have k3 := hSt.fr
    have hn1 := hSt.n1
    have hn2 := hSt.n2
    have HS : Hd _ := ⟨hSt⟩
    have HK : Hd _ := ⟨hJ⟩
    have hge := Lib.indexByte_ge r.data.toList c
    have hrl : r.data.toList.length = r.size := by simp
    clear hSt hJ
    gi_wp2
    refine And.intro trivial (And.intro (fun h => absurd h (by simp [Fence.wide])) ((callsIn_wide.2 (Tryd.strings_Index_one r c wr)).mono ?_))
    rintro e wr ⟨rfl, rfl⟩
    by_cases hi : Lib.indexByte r.data.toList c = -1
    · rw [hi]
      have hpp := parts_none (s := r) hi
      rw [hpp] at hp
      obtain ⟨fn, tmps, assign, body, hy, hR⟩ := HY.out pre r wr HK.out ⟨[], hp⟩
      have HR : Hd _ := ⟨hR⟩
      clear hR
      try dsimp only at hy
      gi_wp2
      refine And.intro (fun h => absurd h (by simp [Fence.wide])) (HR.out.mono ?_)
      rintro e W2 (⟨rfl, hJ2, _⟩ | ⟨rfl, hJ2⟩)
      · rw [← hp] at hJ2
        gi_wp2
        go_end0
        exact ⟨⟨_, rfl⟩, .inl ⟨_, rfl, hJ2⟩⟩
      · gi_wp2
        go_end0
        exact ⟨⟨_, rfl⟩, .inr ⟨_, trivial, hJ2⟩⟩
    · obtain ⟨i, hii⟩ : ∃ i : Nat, Lib.indexByte r.data.toList c = i := ⟨(Lib.indexByte r.data.toList c).toNat, by omega⟩
      obtain ⟨hir, hpp⟩ := parts_some (s := r) hii
      rw [hpp] at hp
      rw [hii]
      obtain ⟨fn, tmps, assign, body, hy, hR⟩ := HY.out pre (r.extract 0 i) wr HK.out ⟨_, hp⟩
      have HR : Hd _ := ⟨hR⟩
      clear hR
      try dsimp only at hy
      have g0 : ¬ ((i : Int) < 0) := by omega
      gi_wp2
      refine And.intro (fun h => absurd h (by simp [Fence.wide])) (HR.out.mono ?_)
      rintro e W2 (⟨rfl, hJ2, hst⟩ | ⟨rfl, hJ2⟩)
      · have HS2 := HS.out.on hst
        have k0 := HS2.sep
        have k1 := HS2.s
        have k2 := HS2.save
        have k3 := HS2.fr
        have HJ2 : Hd _ := ⟨hJ2⟩
        clear hJ2 hst
        have g1 : (i : Int) + 1 ≤ (r.size : Int) := by omega
        gi_wp2
        go_roundw
        case rel =>
          refine ⟨r.extract (i + 1) r.size, pre ++ [r.extract 0 i], HJ.out _ _ _ HJ2.out ((Touch.refl _ _).setCell (p := ⟨bs, 0, none⟩) (.inl (.inr (.inl rfl))) _), HS2.put _, by rw [hp, List.append_assoc]; rfl, ?_⟩
          rw [ByteArray.size_extract]; omega
        case measure =>
          have q0 := (HS2.put (r.extract (i + 1) r.size)).s
          have q1 := HS.out.s
          unfold restSize
          rw [q0, q1]
          show (r.extract (i + 1) r.size).size < r.size
          rw [ByteArray.size_extract]; omega
      · gi_wp2
        refine bodyPost_ret (results_none rfl _ _ _) rfl ?_
        exact ⟨⟨_, rfl⟩, .inr ⟨_, trivial, hJ2⟩⟩
end Go.Proofs.YtahbnpkhkhdmaaaDoor

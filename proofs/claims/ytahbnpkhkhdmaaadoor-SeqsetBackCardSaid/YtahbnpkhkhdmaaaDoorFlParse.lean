/- Package flags: Parse. No condition but those that each contract bears. -/
import Derived.Test.YtahbnpkhkhdmaaaDoorFlIter
import Derived.Test.YtahbnpkhkhdmaaaDoorFlFlag
import Derived.Test.YtahbnpkhkhdmaaaDoorRange
set_option linter.unusedVariables false
set_option linter.unusedSimpArgs false
namespace Go.Proofs.YtahbnpkhkhdmaaaDoor
open Go.RowKit Go.Shelf
attribute [local go_sem] Oper.semAt_some
/-- The flags of the words in turn; none: a word is no flag. -/
def orAll : List ByteArray → Int → Option Int
  | [], o => some o
  | x :: xs, o => if (flagOf x).2 then orAll xs (Go.bits .or .u8 o (flagOf x).1) else none
def orOut : Option Int → Int × Int
  | some o => (o, 0)
  | none => (0, 2)
/-- What lies between the brackets. -/
def inner (s : ByteArray) : ByteArray := ⟨(Lib.trimSuffix (Lib.trimPrefix s.data.toList [40]) [41]).toArray⟩
/-- A text's flags and its error. -/
def parseS (s : ByteArray) : Int × Int :=
  if (Lib.hasPrefix s.data.toList [40] && Lib.hasSuffix (Lib.trimPrefix s.data.toList [40]) [41]) = true then
    if (inner s).size = 0 then (0, 0) else orOut (orAll (parts 32 (inner s)) 0)
  else (0, 2)
theorem results_cells2 {fn : Func} {a b : Tmp} {ta tb : TypeId} (h : fn.results = #[.cell a ta, .cell b tb]) (tmps : Array Value) (P : Program) (w : World) :
    (results fn tmps).run P w =
      ((asAddr (tmps.getD a undef)).run P w).andThen fun x w₁ => ((loadVar ta x).run P w₁).andThen fun v w₂ => ((asAddr (tmps.getD b undef)).run P w₂).andThen fun y w₃ => ((loadVar tb y).run P w₃).andThen fun u w₄ => .ok (.tuple #[v, u]) w₄ := by
  simp only [results, h]
  simp [Sem.run_bind, Result.andThen]
theorem splitN_len (c : UInt8) : ∀ (l : List UInt8), ∀ p ∈ splitN c l, p.length ≤ l.length
  | [], p, hp => by simp [splitN] at hp; subst hp; simp
  | b :: l, p, hp => by
    have ih := splitN_len c l
    unfold splitN at hp
    split at hp
    · rcases List.mem_cons.1 hp with rfl | h
      · simp
      · have := ih p h; simp; omega
    · split at hp
      · next q qs e =>
        rw [e] at ih
        rcases List.mem_cons.1 hp with rfl | h
        · have := ih q (by simp); simp; omega
        · have := ih p (by simp [h]); simp; omega
      · simp at hp; subst hp; simp
theorem parts_size {c : UInt8} {s x : ByteArray} {pre post : List ByteArray} (h : parts c s = pre ++ x :: post) : x.size ≤ s.size := by
  have hx : x ∈ parts c s := by rw [h]; simp
  unfold parts at hx
  obtain ⟨l, hl, rfl⟩ := List.mem_map.1 hx
  have := splitN_len c _ l hl
  have hls : s.data.toList.length = s.size := by simp
  show l.toArray.size ≤ _
  simp; omega
theorem orAll_append : ∀ (pre : List ByteArray) (x : ByteArray) (o : Int), orAll (pre ++ [x]) o = (orAll pre o).bind fun u => if (flagOf x).2 then some (Go.bits .or .u8 u (flagOf x).1) else none
  | [], x, o => by simp [orAll]
  | y :: ys, x, o => by
    simp only [List.cons_append, orAll]
    split
    · exact orAll_append ys x _
    · rfl
theorem orAll_none : ∀ (pre post : List ByteArray) (o : Int), orAll pre o = none → orAll (pre ++ post) o = none
  | [], post, o, h => by cases h
  | y :: ys, post, o, h => by
    simp only [List.cons_append, orAll] at h ⊢
    split
    · next e => rw [if_pos e] at h; exact orAll_none ys post _ h
    · rfl
/-- What Parse keeps: its two results, and the set so far. -/
structure OutAt (w0 : World) (o a e : Int) (W : World) : Prop where
  below : Below w0.heap.size w0 W
  c0 : W.cell? ⟨w0.heap.size, 0, none⟩ = some (.int .u8 a)
  c1 : W.cell? ⟨w0.heap.size + 1, 0, none⟩ = some (.int .i64 e)
  c2 : W.cell? ⟨w0.heap.size + 1 + 1, 0, none⟩ = some (.int .u8 o)
  f0 : W.frozen? ⟨w0.heap.size, 0, none⟩ = false
  f1 : W.frozen? ⟨w0.heap.size + 1, 0, none⟩ = false
  f2 : W.frozen? ⟨w0.heap.size + 1 + 1, 0, none⟩ = false
  size : w0.heap.size + 6 ≤ W.heap.size
theorem OutAt.on {w0 : World} {o a e : Int} {W W' : World} (h : OutAt w0 o a e W) (hb : Below (w0.heap.size + 3) W W') : OutAt w0 o a e W' :=
  ⟨h.below.trans (hb.mono (by omega)), (World.cell?_of_block (w := W) (hb.block _ (by simp))).trans h.c0, (World.cell?_of_block (w := W) (hb.block _ (by simp))).trans h.c1, (World.cell?_of_block (w := W) (hb.block _ (by simp))).trans h.c2,
    (World.frozen?_of_block (w := W) (hb.block _ (by simp))).trans h.f0, (World.frozen?_of_block (w := W) (hb.block _ (by simp))).trans h.f1, (World.frozen?_of_block (w := W) (hb.block _ (by simp))).trans h.f2, Nat.le_trans h.size hb.size⟩
theorem OutAt.put2 {w0 : World} {o a e : Int} {W : World} (h : OutAt w0 o a e W) (u : Int) : OutAt w0 u a e (W.setCell ⟨w0.heap.size + 1 + 1, 0, none⟩ (.int .u8 u)) :=
  ⟨h.below.trans ((Touch.refl (fun k => w0.heap.size ≤ k) W).setCell (p := ⟨w0.heap.size + 1 + 1, 0, none⟩) (.inl (by simp; omega)) _ |>.below (Nat.le_trans h.below.size (Nat.le_refl _)) (fun k hk e => by omega)),
    (World.cell?_setCell_other _ _ _ _ (by intro h; injection h; omega)).trans h.c0, (World.cell?_setCell_other _ _ _ _ (by intro h; injection h; omega)).trans h.c1, World.cell?_setCell_same' _ _ _ (by rw [h.c2]; rfl), by rw [World.frozen?_setCell]; exact h.f0, by rw [World.frozen?_setCell]; exact h.f1, by rw [World.frozen?_setCell]; exact h.f2, by have := h.size; simpa [World.setCell] using this⟩
theorem OutAt.put0 {w0 : World} {o a e : Int} {W : World} (h : OutAt w0 o a e W) (u : Int) : OutAt w0 o u e (W.setCell ⟨w0.heap.size, 0, none⟩ (.int .u8 u)) :=
  ⟨h.below.trans ((Touch.refl (fun k => w0.heap.size ≤ k) W).setCell (p := ⟨w0.heap.size, 0, none⟩) (.inl (by simp)) _ |>.below (Nat.le_trans h.below.size (Nat.le_refl _)) (fun k hk e => by omega)),
    World.cell?_setCell_same' _ _ _ (by rw [h.c0]; rfl), (World.cell?_setCell_other _ _ _ _ (by intro h; injection h; omega)).trans h.c1, (World.cell?_setCell_other _ _ _ _ (by intro h; injection h; omega)).trans h.c2, by rw [World.frozen?_setCell]; exact h.f0, by rw [World.frozen?_setCell]; exact h.f1, by rw [World.frozen?_setCell]; exact h.f2, by have := h.size; simpa [World.setCell] using this⟩
theorem OutAt.put1 {w0 : World} {o a e : Int} {W : World} (h : OutAt w0 o a e W) (u : Int) : OutAt w0 o a u (W.setCell ⟨w0.heap.size + 1, 0, none⟩ (.int .i64 u)) :=
  ⟨h.below.trans ((Touch.refl (fun k => w0.heap.size ≤ k) W).setCell (p := ⟨w0.heap.size + 1, 0, none⟩) (.inl (by simp)) _ |>.below (Nat.le_trans h.below.size (Nat.le_refl _)) (fun k hk e => by omega)),
    (World.cell?_setCell_other _ _ _ _ (by intro h; injection h; omega)).trans h.c0, World.cell?_setCell_same' _ _ _ (by rw [h.c1]; rfl), (World.cell?_setCell_other _ _ _ _ (by intro h; injection h; omega)).trans h.c2, by rw [World.frozen?_setCell]; exact h.f0, by rw [World.frozen?_setCell]; exact h.f1, by rw [World.frozen?_setCell]; exact h.f2, by have := h.size; simpa [World.setCell] using this⟩
theorem keeps_below {B : Nat} {V V2 : World} (h : Below V.heap.size V V2) : KeepsFrom B V V2 := ⟨h.size, fun k o _ hk _ => (h.block k (Array.getElem?_eq_some_iff.1 hk).1).trans hk⟩
theorem keeps_put {B : Nat} {V V2 : World} (h : KeepsFrom B V V2) (p : Addr) (u : Value) (hp : p.block < B) : KeepsFrom B V (V2.setCell p u) :=
  ⟨by have := h.size; simpa [World.setCell] using this, fun k o hk ho hc => (Below.heap_setCell _ _ _ _ (by omega)).trans (h.same k o hk ho hc)⟩
theorem stood_put {Bk : Nat → Prop} {V V2 : World} (h : Stood Bk V V2) (p : Addr) (u : Value) (hp : ∀ k, Bk k → k ≠ p.block) : Stood Bk V (V2.setCell p u) :=
  fun k hk => (Below.heap_setCell _ _ _ _ (hp k hk)).trans (h k hk)
theorem parse_end0 {w0 W W' : World} {a e : Int} {B : Nat} (tmps : Array Value) (hB : w0.heap.size + 2 ≤ B) (hb : Below w0.heap.size w0 W)
    (k0 : W.cell? ⟨w0.heap.size, 0, none⟩ = some (.int .u8 a)) (k1 : W.cell? ⟨w0.heap.size + 1, 0, none⟩ = some (.int .i64 e)) (hs : Shut B W W')
    (h2 : tmps.getD 2 undef = .pointer (some ⟨w0.heap.size, 0, none⟩)) (h3 : tmps.getD 3 undef = .pointer (some ⟨w0.heap.size + 1, 0, none⟩)) :
    (results Tryd.f9 tmps).run Tryd.prog W' = .ok (.tuple #[.int .u8 a, .int .i64 e]) W' := by
  have hl := lt_of_cell k1
  have hO := hs.touch.below (B := w0.heap.size + 2) hl (fun k hk e => by omega)
  have k0 := (World.cell?_of_block (w := W) (hO.block _ (show w0.heap.size < _ by omega))).trans k0
  have k1 := (World.cell?_of_block (w := W) (hO.block _ (show w0.heap.size + 1 < _ by omega))).trans k1
  rw [results_cells2 rfl, h2, h3]
  go_simp
theorem parse_below0 {w0 W W' : World} {v : Value} {B : Nat} (hB : w0.heap.size + 2 ≤ B) (hb : Below w0.heap.size w0 W)
    (k1 : W.cell? ⟨w0.heap.size + 1, 0, none⟩ = some v) (hs : Shut B W W') : Below w0.heap.size w0 W' :=
  hb.trans (hs.touch.below (B := w0.heap.size) (by have := lt_of_cell k1; simp at this; omega) (fun k hk e => by omega))
theorem parse_end {w0 W W' : World} {o a e : Int} {B : Nat} (tmps : Array Value) (hB : w0.heap.size + 3 ≤ B) (h : OutAt w0 o a e W) (hs : Shut B W W')
    (h2 : tmps.getD 2 undef = .pointer (some ⟨w0.heap.size, 0, none⟩)) (h3 : tmps.getD 3 undef = .pointer (some ⟨w0.heap.size + 1, 0, none⟩)) :
    (results Tryd.f9 tmps).run Tryd.prog W' = .ok (.tuple #[.int .u8 a, .int .i64 e]) W' ∧ Below w0.heap.size w0 W' :=
  ⟨parse_end0 tmps (by omega) h.below h.c0 h.c1 hs h2 h3, parse_below0 (by omega) h.below h.c1 hs⟩
theorem parse_below {w0 W W' : World} {o a e : Int} {B : Nat} (hB : w0.heap.size + 3 ≤ B) (h : OutAt w0 o a e W) (hs : Shut B W W') : Below w0.heap.size w0 W' :=
  (h.on (hs.touch.below (B := w0.heap.size + 3) (lt_of_cell h.c2) (fun k hk e => by omega))).below
set_option maxRecDepth 100000 in
set_option maxHeartbeats 1000000 in
theorem parse_any (s : ByteArray) (w : World) (hs : s.size ≤ 140737488351232) {bn on cn : Nat} (hN : NamesAt w bn on cn) (m : Nat) (hm : 10 ≤ m) :
    CallsIn Fence.wide m Tryd.prog 9 #[.string s] w fun e w' => e = .returned (.tuple #[.int .u8 (parseS s).1, .int .i64 (parseS s).2]) ∧ Below w.heap.size w w' := by
  have n0 := hN.v
  have HN : Hd _ := ⟨hN⟩
  clear hN
  refine callsIn_of_wp_marks Tryd.func9 rfl trivial ?_ rfl
  simp only [Tryd.ntmps9, List.size_toArray, List.length_cons, List.length_nil, Nat.reduceAdd, Nat.reduceSub, Array.replicate_succ, Array.replicate_zero, List.push_toArray, List.append_toArray, List.nil_append, List.cons_append]
  obtain ⟨t1, ht1⟩ : ∃ t1, Lib.trimPrefix s.data.toList [40] = t1 := ⟨_, rfl⟩
  obtain ⟨p1, hp1⟩ : ∃ p1, Lib.hasPrefix s.data.toList [40] = p1 := ⟨_, rfl⟩
  obtain ⟨p2, hp2⟩ : ∃ p2, Lib.hasSuffix t1 [41] = p2 := ⟨_, rfl⟩
  obtain ⟨si, hsi⟩ : ∃ si : ByteArray, ⟨(Lib.trimSuffix t1 [41]).toArray⟩ = si := ⟨_, rfl⟩
  have hls : s.data.toList.length = s.size := by simp
  have ht1l : t1.length ≤ s.size := by rw [← ht1, ← hls]; unfold Lib.trimPrefix; split <;> simp
  have hsil : si.size ≤ t1.length := by rw [← hsi]; show (Lib.trimSuffix t1 [41]).toArray.size ≤ _; unfold Lib.trimSuffix; split <;> simp
  have hC1 : Hd (∀ W : World, Calls Tryd.prog 32 #[.string s, .string ⟨#[40]⟩] W fun e w' => e = .returned (.tuple #[.string ⟨t1.toArray⟩, .bool p1]) ∧ w' = W) := ⟨fun W => by
    rw [← ht1, ← hp1]; exact Tryd.strings_CutPrefix s ⟨#[40]⟩ W⟩
  have hC2 : Hd (∀ W : World, Calls Tryd.prog 33 #[.string ⟨t1.toArray⟩, .string ⟨#[41]⟩] W fun e w' => e = .returned (.tuple #[.string si, .bool p2]) ∧ w' = W) := ⟨fun W => by
    rw [← hp2, ← hsi]; exact Tryd.strings_CutSuffix ⟨t1.toArray⟩ ⟨#[41]⟩ W (by show t1.toArray.size ≤ _; simp; omega)⟩
  have hP : Hd (parseS s = if (p1 && p2) = true then if si.size = 0 then (0, 0) else orOut (orAll (parts 32 si) 0)
    else (0, 2)) := ⟨by unfold parseS inner; rw [ht1, hp1, hp2, hsi]⟩
  clear ht1 hp1 hp2 hsi
  gi_wp2
  refine And.intro trivial (And.intro (fun h => absurd h (by simp [Fence.wide])) ((callsIn_wide.2 (hC1.out _)).mono ?_))
  rintro e w1 ⟨rfl, rfl⟩
  gi_wp2
  refine And.intro trivial (And.intro (fun h => absurd h (by simp [Fence.wide])) ((callsIn_wide.2 (hC2.out _)).mono ?_))
  rintro e w2 ⟨rfl, rfl⟩
  cases p1 with
  | false =>
    gi_wp2
    refine leaves_marks (B := w.heap.size + 2) _ _ ⟨fun d hd => by simp at hd, List.Pairwise.nil⟩ fun W' hs => ⟨_, parse_end0 _ (Nat.le_refl _) ?_ ?_ ?_ hs rfl rfl, by rw [hP.out], parse_below0 (v := .int .i64 2) (Nat.le_refl _) ?_ ?_ hs⟩
    all_goals first | (go_simp; done) | exact ((Below.refl _ w).alloc (Nat.le_refl _) _).alloc (by simp) _ | skip
  | true =>
    cases p2 with
    | false =>
      gi_wp2
      refine leaves_marks (B := w.heap.size + 2) _ _ ⟨fun d hd => by simp at hd, List.Pairwise.nil⟩ fun W' hs => ⟨_, parse_end0 _ (Nat.le_refl _) ?_ ?_ ?_ hs rfl rfl, by rw [hP.out], parse_below0 (v := .int .i64 2) (Nat.le_refl _) ?_ ?_ hs⟩
      all_goals first | (go_simp; done) | exact ((Below.refl _ w).alloc (Nat.le_refl _) _).alloc (by simp) _ | skip
    | true =>
      by_cases h0 : si.size = 0
      · have h1 : si.toList.isEmpty = true := by rw [ByteArray.toList_eq]; rw [ByteArray.size_eq_zero_iff.1 h0]; rfl
        gi_wp2
        refine leaves_marks (B := w.heap.size + 2) _ _ ⟨fun d hd => by simp at hd, List.Pairwise.nil⟩ fun W' hs => ⟨_, parse_end0 _ (Nat.le_refl _) ?_ ?_ ?_ hs rfl rfl, by rw [hP.out, if_pos (show (true && true) = true from rfl), if_pos h0], parse_below0 (v := .int .i64 0) (Nat.le_refl _) ?_ ?_ hs⟩
        all_goals first | (go_simp; done) | exact ((Below.refl _ w).alloc (Nat.le_refl _) _).alloc (by simp) _
      · have h1 : si.toList.isEmpty = false := by rw [ByteArray.toList_eq]; cases hd : si.data.toList with
          | nil => exact absurd (show si.data.toList.length = 0 by rw [hd]; rfl) (by simpa using h0)
          | cons => rfl
        gi_wp2
        refine And.intro trivial (And.intro (fun h => absurd h (by simp [Fence.wide])) ((callsIn_wide.2 (splitSeq_any si ⟨#[32]⟩ _)).mono ?_))
        rintro e w3 ⟨rfl, rfl⟩
        gi_wp2
        refine wpIn_rangeFunc_state rfl (by omega) (gf := 64) (lb := #[.pointer (some ⟨w.heap.size + 1 + 1 + 1 + 1, 0, none⟩), .pointer (some ⟨w.heap.size + 1 + 1 + 1, 0, none⟩), .pointer (some ⟨w.heap.size + 1 + 1 + 1 + 1 + 1, 0, none⟩)]) rfl trivial
          (enters_of Tryd.func64 (by kernel_rfl) rfl) (split_state 32 si (w.heap.size + 1 + 1 + 1 + 1) (w.heap.size + 1 + 1 + 1) (w.heap.size + 1 + 1 + 1 + 1 + 1) (by omega) _)
          ?blocks ?stands (fun _ => rfl)
          (fun pre W => ∃ o, orAll pre 0 = some o ∧ OutAt w o 0 0 W) (fun c pre W => c = .ret ∧ (∃ o, OutAt w o 0 2 W) ∧ (∃ post, parts 32 si = pre ++ post) ∧ orAll pre 0 = none)
          ?own ?ownx ?abide ?abidex ?zero
          (fun x => { tmps := #[.string s, undef, .pointer (some ⟨w.heap.size, 0, none⟩), .pointer (some ⟨w.heap.size + 1, 0, none⟩), .string si, .bool true,
            .bool true, .pointer (some ⟨w.heap.size + 1 + 1, 0, none⟩), .string x, undef, undef,
            .tuple #[.string ⟨t1.toArray⟩, .bool true], .string s, .tuple #[.string ⟨t1.toArray⟩, .bool true], .string ⟨t1.toArray⟩,
            .bool true, .tuple #[.string si, .bool true], .string ⟨t1.toArray⟩, .tuple #[.string si, .bool true], .string si, .bool true, .bool false,
            .bool true, .bool false, .bool false, .bool true, .bool false, .bool false, .bool false, .string si, .bool false, .string si,
            .func (.func 64) #[] #[.pointer (some ⟨w.heap.size + 1 + 1 + 1 + 1, 0, none⟩), .pointer (some ⟨w.heap.size + 1 + 1 + 1, 0, none⟩), .pointer (some ⟨w.heap.size + 1 + 1 + 1 + 1 + 1, 0, none⟩)],
            .string x, undef, undef, undef, undef, undef, undef, undef, undef, undef, undef, undef], defers := [] }) ?assign ?body ?done ?stop
        case blocks =>
          intro k hk
          simp only [World.size_alloc]
          rcases hk with rfl | rfl | rfl <;> omega
        case stands =>
          intro W hW
          refine SplitSt.on ?_ hW
          refine ⟨by go_simp, by go_simp, by go_simp, by go_simp, by omega, by omega⟩
        case own =>
          rintro pre X Y row ⟨o, ho, hX⟩ hg hr
          exact ⟨o, ho, hX.on ((Below.refl _ X).grown hg (lt_of_cell hX.c2) (fun k e => by have := (hr k e).1; simp only [World.size_alloc] at this; omega))⟩
        case ownx =>
          rintro c pre X Y row ⟨hc, ⟨o, hX⟩, h3⟩ hg hr
          exact ⟨hc, ⟨o, hX.on ((Below.refl _ X).grown hg (lt_of_cell hX.c2) (fun k e => by have := (hr k e).1; simp only [World.size_alloc] at this; omega))⟩, h3⟩
        case abide =>
          rintro pre X Y ⟨o, ho, hX⟩ ht
          exact ⟨o, ho, hX.on (ht.below (lt_of_cell hX.c2) (fun k hk e => by rcases e with rfl | rfl | rfl <;> omega))⟩
        case abidex =>
          rintro c pre X Y ⟨hc, ⟨o, hX⟩, h3⟩ ht
          exact ⟨hc, ⟨o, hX.on (ht.below (lt_of_cell hX.c2) (fun k hk e => by rcases e with rfl | rfl | rfl <;> omega))⟩, h3⟩
        case zero =>
          refine ⟨0, rfl, ?_, by go_simp, by go_simp, by go_simp, by go_simp, by go_simp, by go_simp, by simp⟩
          exact (((((((Below.refl _ w).alloc (Nat.le_refl _) _).alloc (by simp) _).alloc (by simp; omega) _).alloc (by simp; omega) _).alloc (by simp; omega) _).alloc (by simp; omega) _)
        case assign =>
          intro l x V K hK
          gi_wp2
          exact hK
        case body =>
          rintro l pre x V ⟨o, ho, hV⟩ ⟨post, hp⟩
          have hxs := parts_size hp
          have hF := flag_any x V (by omega) (HN.out.on hV.below)
          have ha := orAll_append pre x 0
          rw [ho] at ha
          unfold FlagPost at hF
          obtain ⟨⟨fx, b⟩, hfx⟩ : ∃ fb, flagOf x = fb := ⟨_, rfl⟩
          rw [hfx] at hF ha
          have HF : Hd _ := ⟨hF⟩
          have HA : Hd _ := ⟨ha⟩
          have HV : Hd _ := ⟨hV⟩
          have HP : Hd _ := ⟨hp⟩
          clear hF ha hV hp hfx ho
          gi_wp2
          refine And.intro trivial (And.intro (fun h => absurd h (by simp [Fence.wide])) ((callsIn_wide.2 HF.out).mono ?_))
          rintro e V2 ⟨rfl, hB⟩
          have hV2 := HV.out.on (hB.mono (lt_of_cell HV.out.c2))
          have k0 := hV2.c0
          have k1 := hV2.c1
          have k2 := hV2.c2
          have g0 := hV2.f0
          have g1 := hV2.f1
          have g2 := hV2.f2
          have HB : Hd _ := ⟨hB⟩
          have HV2 : Hd _ := ⟨hV2⟩
          clear hB hV2
          cases b with
          | false =>
            gi_wp2
            refine ⟨keeps_put (keeps_put (keeps_below HB.out) _ _ (by simp only [World.size_alloc]; omega)) _ _ (by simp only [World.size_alloc]; omega), rfl, ⟨_, (HV2.out.put0 0).put1 2⟩, ⟨post, by rw [HP.out]; simp⟩, HA.out⟩
          | true =>
            gi_wp2
            refine ⟨keeps_put (keeps_below HB.out) _ _ (by simp only [World.size_alloc]; omega), stood_put (fun k hk => HB.out.block k ?_) _ _ ?_, _, HA.out, HV2.out.put2 _⟩
            · have := HV.out.size
              rcases hk with rfl | rfl | rfl <;> omega
            · intro k hk
              rcases hk with rfl | rfl | rfl <;> simp <;> omega
        case done =>
          rintro D xs V rfl rfl ⟨o, ho, hV⟩ hD
          have k0 := hV.c0
          have k1 := hV.c1
          have k2 := hV.c2
          have g0 := hV.f0
          have g1 := hV.f1
          have g2 := hV.f2
          have HV : Hd _ := ⟨hV⟩
          have HD : Hd _ := ⟨hD⟩
          have HO : Hd _ := ⟨ho⟩
          clear hV hD ho
          gi_wp2
          refine leaves_marks (B := w.heap.size + 3) _ _ ⟨fun d hd => ?_, List.pairwise_singleton _ _⟩ fun W' hs => ⟨_, (parse_end _ (Nat.le_refl _) ((HV.out.put0 _).put1 _) hs rfl rfl).1, by rw [hP.out, if_pos (show (true && true) = true from rfl), if_neg h0, HO.out]; rfl, parse_below (Nat.le_refl _) ((HV.out.put0 _).put1 _) hs⟩
          rw [List.mem_singleton.1 hd]
          exact ⟨_, rfl, by simp only [World.size_alloc]; omega, (Below.heap_setCell _ _ _ _ (by simp; omega)).trans ((Below.heap_setCell _ _ _ _ (by simp; omega)).trans HD.out)⟩
        case stop =>
          rintro D c pre V rfl - ⟨rfl, ⟨o, hV⟩, ⟨post, hp⟩, hn⟩ hD
          have HD : Hd _ := ⟨hD⟩
          clear hD
          gi_wp2
          refine leaves_marks (B := w.heap.size + 3) _ _ ⟨fun d hd => ?_, List.pairwise_singleton _ _⟩ fun W' hs => ⟨_, (parse_end _ (Nat.le_refl _) hV hs rfl rfl).1, by rw [hP.out, if_pos (show (true && true) = true from rfl), if_neg h0, hp, orAll_none _ _ _ hn]; rfl, parse_below (Nat.le_refl _) hV hs⟩
          rw [List.mem_singleton.1 hd]
          exact ⟨_, rfl, by simp only [World.size_alloc]; omega, HD.out⟩
end Go.Proofs.YtahbnpkhkhdmaaaDoor

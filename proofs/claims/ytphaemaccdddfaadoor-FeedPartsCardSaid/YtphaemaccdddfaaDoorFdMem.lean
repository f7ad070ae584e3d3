/- Package feed: a feed in memory, what a step may turn; again, skip, literal and told, walked. No condition but those that each contract bears. -/
import Derived.Test.YtphaemaccdddfaaDoorQTk0
import Derived.Test.YtphaemaccdddfaaDoorBytes
import Derived.Deep.RegionHeld3
import Derived.Laws.EntriesVeiled
import Derived.Laws.ResultCell
set_option linter.unusedVariables false
set_option linter.unusedSimpArgs false
namespace Go.Proofs.YtphaemaccdddfaaDoor.PTk
open Go.RowKit Go.Shelf Go.Proofs.YtphaemaccdddfaaDoorW.PrintWords Go.Proofs.YtphaemaccdddfaaDoorW.PrintLast Go.Proofs.YtphaemaccdddfaaDoorW.PrintMore
/-- What came of a command. -/
structure FS where
  s : List UInt8
  fr : Int
  own : Int
  all : Int
  lft : Int
  last : UInt8
  md : Nat
def FS.zero : FS := ⟨[], 0, 0, 0, 0, 0, 0⟩
def bv (c : UInt8) : Value := .int .u8 ((c.toNat : Nat) : Int)
/-- The state's method value. -/
def mv (md b : Nat) : Value := .func (.func (if md = 0 then 50 else if md = 1 then 81 else 63)) #[.pointer (some ⟨b, 0, none⟩)] #[]
def fcells (sv : Value) (F : FS) (b : Nat) : Array Value := #[sv, .int .i64 F.fr, .int .i64 F.own, .int .i64 F.all, .int .i64 F.lft, .int .u8 ((F.last.toNat : Nat) : Int), mv F.md b]
/-- A feed at block b, its bytes in a row of its own from base on. -/
structure FdAt (base b : Nat) (F : FS) (sv : Value) (W : World) : Prop where
  lt : b < base
  le : base ≤ W.heap.size
  blk : W.heap[b]? = some (.cells (fcells sv F b) 68 (0, 0))
  row : W.ownsRow base 5 1 sv F.s.length (F.s.map bv)
/-- What a step may turn: the feed's block, rows of bytes from base on, and what is new. -/
structure Kp (base b : Nat) (W W' : World) : Prop where
  os : W'.os = W.os
  tape : W'.tape = W.tape
  output : W'.output = W.output
  size : W.heap.size ≤ W'.heap.size
  block : ∀ k, k < W.heap.size → k ≠ b → (k < base ∨ ∀ cur, W.heap[k]? ≠ some (.cells cur 5 (0, 0))) → W'.heap[k]? = W.heap[k]?
theorem Kp.refl (base b : Nat) (W : World) : Kp base b W W := ⟨rfl, rfl, rfl, Nat.le_refl _, fun _ _ _ _ => rfl⟩
theorem Kp.trans {base b : Nat} {W X Y : World} (h : Kp base b W X) (k : Kp base b X Y) : Kp base b W Y :=
  ⟨k.os.trans h.os, k.tape.trans h.tape, k.output.trans h.output, Nat.le_trans h.size k.size, fun i hi hb hn => by
    have e := h.block i hi hb hn
    exact (k.block i (Nat.lt_of_lt_of_le hi h.size) hb (hn.imp id fun hn cur => by rw [e]; exact hn cur)).trans e⟩
theorem Kp.of_below {base b : Nat} {W X : World} (h : Below W.heap.size W X) : Kp base b W X := ⟨h.os, h.tape, h.output, h.size, fun k hk _ _ => h.block k hk⟩
theorem Kp.set {base b : Nat} {W X : World} (h : Kp base b W X) (j : Nat) (u : Value) : Kp base b W (X.setCell ⟨b, j, none⟩ u) :=
  ⟨h.os, h.tape, h.output, by have := h.size; simpa [World.setCell] using this, fun k hk hb hn => (Below.heap_setCell _ _ _ _ hb).trans (h.block k hk hb hn)⟩
/-- A cell of what is new since is written. -/
theorem Kp.setNew {base b : Nat} {W X : World} (h : Kp base b W X) {p : Addr} (hp : W.heap.size ≤ p.block) (u : Value) : Kp base b W (X.setCell p u) :=
  ⟨h.os, h.tape, h.output, by have := h.size; simpa [World.setCell] using this, fun k hk hb hn => (Below.heap_setCell _ _ _ _ (by omega)).trans (h.block k hk hb hn)⟩
theorem Kp.alloc {base b : Nat} {W X : World} (h : Kp base b W X) (o : Obj) : Kp base b W (X.alloc o) :=
  ⟨h.os, h.tape, h.output, by have := h.size; simp; omega, fun k hk hb hn => (Below.heap_alloc _ _ _ (by have := h.size; omega)).trans (h.block k hk hb hn)⟩
theorem Kp.drewN {base b : Nat} {W X : World} (h : Kp base b W X) (n : Nat) : Kp base b W (X.drewN n) := ⟨h.os, h.tape, h.output, h.size, h.block⟩
theorem fd_row_at {base : Nat} {W : World} {sv : Value} {n : Nat} {xs : List Value} {e : TypeId} {sz : Nat} (h : W.ownsRow base e sz sv n xs) {g : Nat} (hg : sv.ownBlock = some g) : base ≤ g ∧ ∃ cur, W.heap[g]? = some (.cells cur e (0, 0)) := by
  rcases h.2 with ⟨rfl, _⟩ | ⟨g', cap, cur, rfl, hb, hgb, _⟩
  · simp [Value.ownBlock] at hg
  · have : g' = g := by simpa [Value.ownBlock] using hg
    subst this
    exact ⟨hb, cur, hgb⟩
/-- A row that grows: of bytes, from base on. -/
theorem Kp.grown {base b : Nat} {W X Y : World} {sv : Value} {n : Nat} {xs : List Value} (h : Kp base b W X) (hr : W.ownsRow base 5 1 sv n xs) (hg : X.grownBy Y sv.ownBlock) : Kp base b W Y :=
  ⟨hg.os.trans h.os, hg.tape.trans h.tape, hg.output.trans h.output, Nat.le_trans h.size hg.size, fun k hk hb hn => by
    refine (hg.block k (Nat.lt_of_lt_of_le hk h.size) (fun e => ?_)).trans (h.block k hk hb hn)
    obtain ⟨h1, cur, h2⟩ := fd_row_at hr e.symm
    rcases hn with hn | hn
    · omega
    · exact hn cur h2⟩
theorem Kp.below {base b : Nat} {W X : World} (h : Kp base b W X) {B : Nat} (hB : B ≤ W.heap.size) (h1 : B ≤ b) (h2 : B ≤ base) : Below B W X :=
  ⟨h.os, h.tape, h.output, h.size, fun k hk => h.block k (by omega) (by omega) (.inl (by omega))⟩
theorem fd_row_move {W X : World} {base : Nat} {e : TypeId} {sz : Nat} {v : Value} {n : Nat} {xs : List Value} (h : W.ownsRow base e sz v n xs) (hb : ∀ g cur, v.ownBlock = some g → base ≤ g → W.heap[g]? = some (.cells cur e (0, 0)) → X.heap[g]? = W.heap[g]?) : X.ownsRow base e sz v n xs := by
  obtain ⟨h1, h2⟩ := h
  refine ⟨h1, ?_⟩
  rcases h2 with h2 | ⟨g, cap, cur, e1, e2, e3, e4⟩
  · exact .inl h2
  · exact .inr ⟨g, cap, cur, e1, e2, (hb g cur (by rw [e1]; rfl) e2 e3).trans e3, e4⟩
/-- A row of another type stays. -/
theorem Kp.row {base b : Nat} {W X : World} (h : Kp base b W X) {F : FS} {sv : Value} (hF : FdAt base b F sv W) {base' : Nat} {e : TypeId} {sz : Nat} {v : Value} {n : Nat} {xs : List Value} (hr : W.ownsRow base' e sz v n xs) (he : e ≠ 5) (he2 : e ≠ 68) : X.ownsRow base' e sz v n xs := by
  refine fd_row_move hr fun g cur hg hb hc => h.block g (Array.getElem?_eq_some_iff.1 hc).1 (fun e2 => ?_) (.inr fun cur2 h2 => ?_)
  · subst e2
    have := hF.blk
    rw [hc] at this
    injection this with this
    injection this with _ this
    exact he2 this
  · rw [hc] at h2
    injection h2 with h2
    injection h2 with _ h2
    exact he h2
section
variable {base b : Nat} {F : FS} {sv : Value} {W : World} (h : FdAt base b F sv W)
include h
theorem FdAt.c0 : W.cell? ⟨b, 0, none⟩ = some sv := (blk_cell h.blk 0).trans rfl
theorem FdAt.c1 : W.cell? ⟨b, 1, none⟩ = some (.int .i64 F.fr) := (blk_cell h.blk 1).trans rfl
theorem FdAt.c2 : W.cell? ⟨b, 2, none⟩ = some (.int .i64 F.own) := (blk_cell h.blk 2).trans rfl
theorem FdAt.c3 : W.cell? ⟨b, 3, none⟩ = some (.int .i64 F.all) := (blk_cell h.blk 3).trans rfl
theorem FdAt.c4 : W.cell? ⟨b, 4, none⟩ = some (.int .i64 F.lft) := (blk_cell h.blk 4).trans rfl
theorem FdAt.c5 : W.cell? ⟨b, 5, none⟩ = some (.int .u8 ((F.last.toNat : Nat) : Int)) := (blk_cell h.blk 5).trans rfl
theorem FdAt.c6 : W.cell? ⟨b, 6, none⟩ = some (mv F.md b) := (blk_cell h.blk 6).trans rfl
theorem FdAt.free (i : Nat) : W.frozen? ⟨b, i, none⟩ = false := by simp [World.frozen?, h.blk]
theorem FdAt.blt : b < W.heap.size := Nat.lt_of_lt_of_le h.lt h.le
/-- Where neither the feed's block nor rows turn it stands. -/
theorem FdAt.on {X : World} (hb : Below W.heap.size W X) : FdAt base b F sv X :=
  ⟨h.lt, Nat.le_trans h.le hb.size, (hb.block b h.blt).trans h.blk, fd_row_move h.row fun g cur _ _ hc => hb.block g (Array.getElem?_eq_some_iff.1 hc).1⟩
theorem FdAt.row_ne : sv.ownBlock ≠ some b := fun e => by
  have := (fd_row_at h.row e).1
  have := h.lt
  omega
end
/-- The block is written, its row lies elsewhere: whatever it now says of the row's length is told anew. -/
theorem FdAt.setB {base b : Nat} {F : FS} {sv : Value} {W : World} (h : FdAt base b F sv W) (j : Nat) (u : Value) : (W.setCell ⟨b, j, none⟩ u).heap[b]? = some (.cells ((fcells sv F b).setIfInBounds j u) 68 (0, 0)) := blk_set h.blk j u
theorem set_size (W : World) (p : Addr) (u : Value) : (W.setCell p u).heap.size = W.heap.size := by simp [World.setCell]
set_option maxHeartbeats 1000000 in
theorem again_any {base b : Nat} {F : FS} {sv : Value} {W : World} (h : FdAt base b F sv W) :
    Calls Tryd.prog 82 #[.pointer (some ⟨b, 0, none⟩)] W fun e w' => e = .returned (.tuple #[]) ∧ Hd (FdAt base b FS.zero (.slice none 0 0) w' ∧ Kp base b W w') := by
  have c0 := h.c0
  have c1 := h.c1
  have c2 := h.c2
  have c3 := h.c3
  have c4 := h.c4
  have c5 := h.c5
  have c6 := h.c6
  have f0 := h.free 0
  have f1 := h.free 1
  have f2 := h.free 2
  have f3 := h.free 3
  have f4 := h.free 4
  have f5 := h.free 5
  have f6 := h.free 6
  have H := Hd.mk h
  clear h
  generalize mv F.md b = m6 at c6
  go_enter Tryd.func82, Tryd.ntmps82
  go_wp2
  go_end0
  have h := H.out
  refine ⟨rfl, ⟨⟨h.lt, ?_, ?_, World.ownsRow_nil _ _ _ _⟩, ?_⟩⟩
  · simp only [set_size]; exact h.le
  · have := blk_set (blk_set (blk_set (blk_set (blk_set (blk_set (blk_set h.blk 0 (.slice none 0 0)) 1 (.int .i64 0)) 2 (.int .i64 0)) 3 (.int .i64 0)) 4 (.int .i64 0)) 5 (.int .u8 0)) 6 (mv 0 b)
    exact this
  · exact ((((((((Kp.refl _ _ _).set _ _).set _ _).set _ _).set _ _).set _ _).set _ _).set _ _)
theorem FdAt.slice {base b : Nat} {F : FS} {sv : Value} {W : World} (h : FdAt base b F sv W) : ∃ A c, sv = .slice A F.s.length c := by
  rcases h.row.2 with ⟨rfl, h0⟩ | ⟨g, cap, cur, rfl, _⟩
  · exact ⟨_, _, by rw [h0]⟩
  · exact ⟨_, _, rfl⟩
theorem kept_any {base b : Nat} {F : FS} {sv : Value} {W : World} (h : FdAt base b F sv W) :
    Calls Tryd.prog 26 #[.pointer (some ⟨b, 0, none⟩)] W fun e w' => e = .returned (.int .i64 (F.s.length : Int)) ∧ w' = W := by
  obtain ⟨A, c, rfl⟩ := h.slice
  have c0 := h.c0
  have H := Hd.mk h
  clear h
  go_enter Tryd.func26, Tryd.ntmps26
  go_wp2
  go_ret
  exact ⟨rfl, rfl⟩
theorem new_any (W : World) :
    Calls Tryd.prog 22 #[] W fun e w' => e = .returned (.pointer (some ⟨W.heap.size, 0, none⟩)) ∧ Hd (w'.heap.size = W.heap.size + 1 ∧ Below W.heap.size W w' ∧ w'.heap[W.heap.size]? = some (.cells (fcells (.slice none 0 0) FS.zero W.heap.size) 68 (0, 0))) := by
  go_enter Tryd.func22, Tryd.ntmps22
  go_wp2
  go_ret
  exact ⟨rfl, ⟨by simp, (Below.refl _ W).alloc (Nat.le_refl _) _, heap_alloc_new W _⟩⟩
/-- A field is written. -/
theorem FdAt.put {base b : Nat} {F G : FS} {sv : Value} {W : World} (h : FdAt base b F sv W) (j : Nat) (u : Value) (hs : G.s = F.s) (hc : (fcells sv F b).setIfInBounds j u = fcells sv G b) : FdAt base b G sv (W.setCell ⟨b, j, none⟩ u) :=
  ⟨h.lt, by rw [set_size]; exact h.le, by rw [h.setB, hc], by
    rw [hs]
    exact fd_row_move h.row fun g cur _ hb _ => Below.heap_setCell _ _ _ _ (by have := h.lt; show g ≠ b; omega)⟩
theorem FdAt.grown {base b : Nat} {F : FS} {sv : Value} {X Y : World} {o : Obj} (h : FdAt base b F sv X) (hg : (X.alloc o).grownBy Y sv.ownBlock) : Y.heap[b]? = some (.cells (fcells sv F b) 68 (0, 0)) :=
  ((hg.block b (by rw [World.size_alloc]; have := h.blt; omega) (fun e => h.row_ne e.symm)).trans (Below.heap_alloc _ _ _ h.blt)).trans h.blk
theorem grown_new {base : Nat} {W X Y : World} {o : Obj} {sv : Value} {n : Nat} {xs : List Value} {e : TypeId} {sz k : Nat} (h : W.ownsRow base e sz sv n xs) (hg : (X.alloc o).grownBy Y sv.ownBlock) (hk : k < X.heap.size) (hw : W.heap.size ≤ k) : Y.heap[k]? = X.heap[k]? :=
  (hg.block k (by rw [World.size_alloc]; omega) (fun e => by
    obtain ⟨_, cur, h2⟩ := fd_row_at h e.symm
    have := (Array.getElem?_eq_some_iff.1 h2).1
    omega)).trans (Below.heap_alloc _ _ _ hk)
/-- The slice that has grown is stored. -/
theorem FdAt.put0 {base b : Nat} {F : FS} {sv v : Value} {Y : World} {x : UInt8} (hlt : b < base) (hle : base ≤ Y.heap.size) (hb : Y.heap[b]? = some (.cells (fcells sv F b) 68 (0, 0))) (hr : Y.ownsRow base 5 1 v (F.s.length + 1) (F.s.map bv ++ [bv x])) :
    FdAt base b ⟨F.s ++ [x], F.fr, F.own, F.all, F.lft, F.last, F.md⟩ v (Y.setCell ⟨b, 0, none⟩ v) :=
  ⟨hlt, by rw [set_size]; exact hle, by rw [blk_set hb 0 v]; rfl, by
    rw [List.length_append, List.map_append]
    exact fd_row_move hr fun g cur _ hb _ => Below.heap_setCell _ _ _ _ (by show g ≠ b; omega)⟩
/-- A cell of a piece's block is written: the feed stands. -/
theorem FdAt.setP {base b : Nat} {F : FS} {sv : Value} {W : World} (h : FdAt base b F sv W) {k j : Nat} {u : Value} {cs : Array Value} (hp : W.heap[k]? = some (.cells cs 70 (0, 0))) : FdAt base b F sv (W.setCell ⟨k, j, none⟩ u) := by
  have hkb : k ≠ b := by
    rintro rfl
    have := h.blk
    rw [hp] at this
    injection this with this
    injection this with _ this
    exact absurd this (by decide)
  refine ⟨h.lt, by rw [set_size]; exact h.le, (Below.heap_setCell _ _ _ _ (Ne.symm hkb)).trans h.blk, fd_row_move h.row fun g cur _ _ hc => Below.heap_setCell _ _ _ _ ?_⟩
  rintro rfl
  rw [hp] at hc
  injection hc with hc
  injection hc with _ hc
  exact absurd hc (by decide)
theorem FdAt.setP2 {base b : Nat} {F : FS} {sv : Value} {W : World} (h : FdAt base b F sv W) {k : Nat} {u v : Value} {cs : Array Value} (hp : W.heap[k]? = some (.cells cs 70 (0, 0))) : FdAt base b F sv ((W.setCell ⟨k, 0, none⟩ u).setCell ⟨k, 1, none⟩ v) :=
  (h.setP hp).setP (blk_set hp 0 u)
theorem fd_far {W : World} {k b j : Nat} {u : Value} {o : Obj} (hp : W.heap[k]? = some o) (h : k ≠ b) : (W.setCell ⟨b, j, none⟩ u).heap[k]? = some o := (Below.heap_setCell _ _ _ _ h).trans hp
theorem res_piece {fn : Func} {p u : Tmp} (h : fn.results = #[.cell p 70, .tmp u]) (tmps : Array Value) (w : World) (g : Nat) (k : Int) (t : ByteArray) (bb : Bool) (hp : tmps.getD p undef = .pointer (some ⟨g, 0, none⟩)) (hu : tmps.getD u undef = .bool bb)
    (hg : w.heap[g]? = some (.cells #[.int .i64 k, .string t] 70 (0, 0))) : (results fn tmps).run Tryd.prog w = .ok (.tuple #[.agg #[.int .i64 k, .string t], .bool bb]) w := by
  have c0 : w.cell? ⟨g, 0, none⟩ = some (.int .i64 k) := (blk_cell hg 0).trans rfl
  have c1 : w.cell? ⟨g, 1, none⟩ = some (.string t) := (blk_cell hg 1).trans rfl
  rw [results_cell_tmp h, hp, hu]
  go_simp
theorem piece_set {W : World} {k : Nat} {cs : Array Value} {a : Value} {c : Value} (hc : cs.size = 2) (hp : W.heap[k]? = some (.cells cs 70 (0, 0))) : ((W.setCell ⟨k, 0, none⟩ a).setCell ⟨k, 1, none⟩ c).heap[k]? = some (.cells #[a, c] 70 (0, 0)) := by
  rw [blk_set (blk_set hp 0 a) 1 c]
  obtain ⟨l⟩ := cs
  match l, hc with
  | [_, _], _ => rfl
theorem fd_new_at (w : World) (o : Obj) {k : Nat} (hk : k = w.heap.size) : (w.alloc o).heap[k]? = some o := by subst hk; exact heap_alloc_new w o
theorem info_u8 : (Tryd.prog.info? 5).map (fun i => (i.zero, i.size, i.bytes)) = some (some (.int .u8 0), 1, 1) := by kernel_rfl
theorem inf_parts {t : TypeId} {z : Value} {n k : Nat} (h : (Tryd.prog.info? t).map (fun i => (i.zero, i.size, i.bytes)) = some (some z, n, k)) : ∃ i, Tryd.prog.info? t = some i ∧ i.zero = some z ∧ i.size = n ∧ i.bytes = k := by
  cases hi : Tryd.prog.info? t with
  | none => rw [hi] at h; cases h
  | some i => rw [hi] at h; simp only [Option.map_some, Option.some.injEq, Prod.mk.injEq] at h; exact ⟨i, rfl, h.1, h.2.1, h.2.2⟩
/-- What a step's call leaves. -/
def StepPost (base b : Nat) (W : World) (r : FS × Option (Int × ByteArray)) (e : Ending) (w' : World) : Prop :=
  e = .returned (.tuple #[.agg #[.int .i64 (r.2.getD (0, ⟨#[]⟩)).1, .string (r.2.getD (0, ⟨#[]⟩)).2], .bool r.2.isSome]) ∧ Hd (∃ sv, FdAt base b r.1 sv w' ∧ Kp base b W w')
def FS.literal (F : FS) (x : UInt8) : FS × Option (Int × ByteArray) :=
  (⟨F.s ++ [x], F.fr, F.own, F.all, F.lft - 1, F.last, if F.lft - 1 = 0 then 0 else 1⟩, none)
def FS.skip (F : FS) (x : UInt8) : FS × Option (Int × ByteArray) :=
  if F.last = 13 ∧ x = 10 then (FS.zero, none) else (⟨F.s, F.fr, F.own, F.all, F.lft, x, F.md⟩, none)
set_option maxRecDepth 100000 in
set_option maxHeartbeats 1000000 in
theorem literal_any {base b : Nat} {F : FS} {sv : Value} {W : World} (h : FdAt base b F sv W) (hm : F.md = 1) (hn : F.s.length ≤ 1000000) (hl : 0 < F.lft) (hl2 : F.lft ≤ 65536) (x : UInt8) :
    Calls Tryd.prog 81 #[.pointer (some ⟨b, 0, none⟩), .int .u8 ((x.toNat : Nat) : Int)] W (StepPost base b W (F.literal x)) := by
  obtain ⟨A0, cap0, hsv⟩ := h.slice
  have c0 := h.c0
  have c4 := h.c4
  have f0 := h.free 0
  have f4 := h.free 4
  have f6 := h.free 6
  have H := Hd.mk h
  have hbl := h.blt
  have hne : b ≠ W.heap.size := by omega
  have hne' : W.heap.size ≠ b := by omega
  obtain ⟨i0, hi, hz0, hz1, hz2⟩ := inf_parts info_u8
  have h1 : F.lft ≤ 9223372036854775807 := by omega
  rw [hsv] at c0
  clear h
  go_enter Tryd.func81, Tryd.ntmps81
  go_wp2_with (first
    | (at_builtin; refine wpList_append_own _ rfl _ _ 39 rfl base 5 i0 (.int .u8 0) 1 1 Tryd.underlying39 hi hz0 hz1 hz2 rfl (by decide) sv F.s.length (F.s.map bv) hsv.symm ((H.out.on (below_alloc (Below.refl _ _) _)).on (below_alloc (Below.refl _ _) _)).row ⟨W.heap.size + 1, 0, none⟩ 1 1 [bv x] rfl rfl (World.news_of_block (cs := #[bv x]) (t := 5) (fr := (0, 0)) (fd_new_at _ _ (by simp))) (by simp [Value.oneCell', bv]) (by unfold maxLen; omega) (by omega) (by have := H.out.le; simp; omega) ?_
       intro v3 w3 hown3 hg3 hnil3
       obtain ⟨g3, cap3, rfl⟩ : ∃ g cap, v3 = .slice (some ⟨g, 0, none⟩) (F.s.length + 1) cap := by
         rcases hown3.2 with ⟨_, h0⟩ | ⟨g, c, cu, h1, _⟩
         · exact absurd h0 (by omega)
         · exact ⟨g, c, h1⟩
       have hb3 := (H.out.on (below_alloc (Below.refl _ _) _)).grown hg3
       have hp3 := (grown_new H.out.row hg3 (by simp) (Nat.le_refl _)).trans (heap_alloc_new W _)
       have d4 : w3.cell? ⟨b, 4, none⟩ = some (.int .i64 F.lft) := (blk_cell hb3 4).trans rfl
       have d0 : w3.cell? ⟨b, 0, none⟩ = some sv := (blk_cell hb3 0).trans rfl
       have d6 : w3.cell? ⟨b, 6, none⟩ = some (mv F.md b) := (blk_cell hb3 6).trans rfl
       have g0 : w3.frozen? ⟨b, 0, none⟩ = false := by simp [World.frozen?, hb3]
       have g4 : w3.frozen? ⟨b, 4, none⟩ = false := by simp [World.frozen?, hb3]
       have g6 : w3.frozen? ⟨b, 6, none⟩ = false := by simp [World.frozen?, hb3]
       have p0 : w3.cell? ⟨W.heap.size, 0, none⟩ = some (.int .i64 0) := (blk_cell hp3 0).trans rfl
       have p1 : w3.cell? ⟨W.heap.size, 1, none⟩ = some (.string ⟨#[]⟩) := (blk_cell hp3 1).trans rfl
       have q0 : w3.frozen? ⟨W.heap.size, 0, none⟩ = false := by simp [World.frozen?, hp3]
       have q1 : w3.frozen? ⟨W.heap.size, 1, none⟩ = false := by simp [World.frozen?, hp3]
       have HB3 := Hd.mk hb3
       have HP3 := Hd.mk hp3
       have HG3 := Hd.mk hg3
       have HO3 := Hd.mk hown3
       clear hown3 hg3 hnil3 hb3 hp3))
  · rename_i hz
    have k0 := FdAt.put0 (F := F) (x := x) H.out.lt (Nat.le_trans H.out.le (by have := HG3.out.size; simp at this; omega)) HB3.out HO3.out
    have k1 := k0.put (G := ⟨F.s ++ [x], F.fr, F.own, F.all, F.lft - 1, F.last, F.md⟩) 4 (.int .i64 (F.lft - 1)) rfl rfl
    have k2 := k1.put (G := ⟨F.s ++ [x], F.fr, F.own, F.all, F.lft - 1, F.last, 0⟩) 6 (mv 0 b) rfl rfl
    have hp4 := fd_far (b := b) (j := 6) (u := mv 0 b) (fd_far (b := b) (j := 4) (u := .int .i64 (F.lft - 1)) (fd_far (b := b) (j := 0) (u := .slice (some ⟨g3, 0, none⟩) (F.s.length + 1) cap3) HP3.out hne') hne') hne'
    refine bodyPost_ret (res_piece rfl _ _ W.heap.size 0 ⟨#[]⟩ false rfl rfl (piece_set rfl hp4)) rfl ?_
    refine ⟨rfl, ⟨.slice (some ⟨g3, 0, none⟩) (F.s.length + 1) cap3, ?_, ((((((((Kp.refl base b W).alloc _).alloc _).grown H.out.row HG3.out).set 0 _).set 4 _).set 6 _).setNew (Nat.le_refl _) _).setNew (Nat.le_refl _) _⟩⟩
    have hl : F.literal x = (⟨F.s ++ [x], F.fr, F.own, F.all, F.lft - 1, F.last, 0⟩, none) := by unfold FS.literal; rw [if_pos (by simpa using hz)]
    rw [hl]
    exact k2.setP2 hp4
  · rename_i hz
    have k0 := FdAt.put0 (F := F) (x := x) H.out.lt (Nat.le_trans H.out.le (by have := HG3.out.size; simp at this; omega)) HB3.out HO3.out
    have k1 := k0.put (G := ⟨F.s ++ [x], F.fr, F.own, F.all, F.lft - 1, F.last, F.md⟩) 4 (.int .i64 (F.lft - 1)) rfl rfl
    have hp4 := fd_far (b := b) (j := 4) (u := .int .i64 (F.lft - 1)) (fd_far (b := b) (j := 0) (u := .slice (some ⟨g3, 0, none⟩) (F.s.length + 1) cap3) HP3.out hne') hne'
    refine bodyPost_ret (res_piece rfl _ _ W.heap.size 0 ⟨#[]⟩ false rfl rfl (piece_set rfl hp4)) rfl ?_
    refine ⟨rfl, ⟨.slice (some ⟨g3, 0, none⟩) (F.s.length + 1) cap3, ?_, (((((((Kp.refl base b W).alloc _).alloc _).grown H.out.row HG3.out).set 0 _).set 4 _).setNew (Nat.le_refl _) _).setNew (Nat.le_refl _) _⟩⟩
    have hl : F.literal x = (⟨F.s ++ [x], F.fr, F.own, F.all, F.lft - 1, F.last, F.md⟩, none) := by unfold FS.literal; rw [if_neg (by simpa using hz), hm]
    rw [hl]
    exact k1.setP2 hp4
end Go.Proofs.YtphaemaccdddfaaDoor.PTk

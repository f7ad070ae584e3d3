/- Package feed: what the law says of pieces, in plain terms; what stands between the law's rounds. No condition. -/
import Derived.Test.YtphaemaccdddfaaDoorFdAwake
import Derived.Test.YtphaemaccdddfaaDoorQFd1
import Derived.Test.YtphaemaccdddfaaDoorOpen
set_option linter.unusedVariables false
set_option linter.unusedSimpArgs false
namespace Go.Proofs.YtphaemaccdddfaaDoor.PTk
open Go.RowKit Go.Shelf Go.Proofs.YtphaemaccdddfaaDoorW.PrintWords Go.Proofs.YtphaemaccdddfaaDoorW.PrintLast Go.Proofs.YtphaemaccdddfaaDoorW.PrintMore
theorem fw64 {i : Int} (h0 : -4611686018427387904 < i) (h1 : i < 4611686018427387904) : wrap64 i = i := by
  unfold wrap64; omega
def toP (p : Int × ByteArray) : PFd.S70 := ⟨p.1, p.2⟩
def toQ (p : Int × ByteArray) : PFd.S72 := ⟨p.1, p.2⟩
theorem back_l0 (l : List (Int × ByteArray)) (hl : l.length ≤ 1000000) : ∀ (d i k : Nat), d + i = l.length → d < k → PFd.postchaiselaw16_back.l0 k (l.map toP) ((l.take i).map toQ) (i : Int) = some (l.map toQ)
  | 0, i, k, h, hk => by
    obtain ⟨m, rfl⟩ : ∃ m, k = m + 1 := ⟨k - 1, by omega⟩
    simp only [PFd.postchaiselaw16_back.l0]
    rw [if_neg (by rw [List.length_map]; omega), show i = l.length by omega, List.take_length]
  | d + 1, i, k, h, hk => by
    obtain ⟨m, rfl⟩ : ∃ m, k = m + 1 := ⟨k - 1, by omega⟩
    have hi : i < l.length := by omega
    simp only [PFd.postchaiselaw16_back.l0]
    rw [if_pos (by rw [List.length_map]; omega), if_pos (by omega), if_pos (by rw [List.length_map, List.length_take]; omega)]
    have ew : wrap64 ((i : Int) + 1) = ((i + 1 : Nat) : Int) := by rw [fw64 (by omega) (by omega)]; omega
    have er : PFd.rd_T70 (l.map toP) (i : Int) = toP l[i] := by
      unfold PFd.rd_T70
      rw [Int.toNat_natCast, List.getD_eq_getElem?_getD, List.getElem?_map, List.getElem?_eq_getElem hi]
      rfl
    have et : (l.take i).map toQ ++ [(⟨(toP l[i]).f0, (toP l[i]).f1⟩ : PFd.S72)] = (l.take (i + 1)).map toQ := by
      rw [List.take_add_one, List.getElem?_eq_getElem hi, List.map_append]
      rfl
    rw [ew, er, et]
    exact back_l0 l hl d (i + 1) m (by omega) (by omega)
theorem back_f (l : List (Int × ByteArray)) (hl : l.length ≤ 1000000) (k : Nat) (hk : l.length < k) : PFd.postchaiselaw16_back.f k (l.map toP) = some (l.map toQ) := back_l0 l hl l.length 0 k (by omega) hk
theorem same_l0 (l : List PFd.S72) (hl : l.length ≤ 1000000) : ∀ (d i k : Nat), d + i = l.length → d < k → PFd.postchaiseref16_Same.l0 k l l (i : Int) = some true
  | 0, i, k, h, hk => by
    obtain ⟨m, rfl⟩ : ∃ m, k = m + 1 := ⟨k - 1, by omega⟩
    simp only [PFd.postchaiseref16_Same.l0]
    rw [if_neg (by omega)]
  | d + 1, i, k, h, hk => by
    obtain ⟨m, rfl⟩ : ∃ m, k = m + 1 := ⟨k - 1, by omega⟩
    simp only [PFd.postchaiseref16_Same.l0]
    have ew : wrap64 ((i : Int) + 1) = ((i + 1 : Nat) : Int) := by rw [fw64 (by omega) (by omega)]; omega
    rw [if_pos (by omega), if_pos (by omega), if_pos (by omega), if_neg (by simp), ew]
    exact same_l0 l hl d (i + 1) m (by omega) (by omega)
theorem same_f (l : List PFd.S72) (hl : l.length ≤ 1000000) (k : Nat) (hk : l.length < k) : PFd.postchaiseref16_Same.f k l l = some true := by
  unfold PFd.postchaiseref16_Same.f
  rw [if_pos rfl]
  exact same_l0 l hl l.length 0 k (by omega) hk
theorem pcells_get : ∀ (l : List (Int × ByteArray)) (j : Nat) (p : Int × ByteArray), l[j]? = some p → (pcells l)[j * 2]? = some (.int .i64 p.1) ∧ (pcells l)[j * 2 + 1]? = some (.string p.2)
  | [], j, p, h => by simp at h
  | q :: l, 0, p, h => by
    obtain rfl : q = p := by simpa using h
    exact ⟨rfl, rfl⟩
  | q :: l, j + 1, p, h => by
    have := pcells_get l j p (by simpa using h)
    show (Value.int .i64 q.1 :: Value.string q.2 :: pcells l)[(j + 1) * 2]? = _ ∧ (Value.int .i64 q.1 :: Value.string q.2 :: pcells l)[(j + 1) * 2 + 1]? = _
    rw [show (j + 1) * 2 = j * 2 + 1 + 1 by omega, List.getElem?_cons_succ, List.getElem?_cons_succ, List.getElem?_cons_succ, List.getElem?_cons_succ]
    exact this
/-- A row of pieces, as the print reads it. -/
theorem c_pieces {W : World} {base : Nat} {v : Value} {l : List (Int × ByteArray)} (h : W.ownsRow base 70 2 v l.length (pcells l)) (hl : l.length ≤ 1000000) : ∃ A c, v = .slice A (l.map toP).length c ∧ (l.map toP).length ≤ c ∧ Kd.C PFd.k70 W A (l.map toP).length (l.map toP) := by
  rw [List.length_map]
  rcases h.2 with ⟨hv, h0⟩ | ⟨g, cap, cur, hv, _, _, hc, _⟩
  · refine ⟨none, 0, by rw [h0]; exact hv, by omega, by rw [List.length_map], by omega, fun hn => by omega⟩
  · subst hv
    refine ⟨some ⟨g, 0, none⟩, cap, rfl, hc, by rw [List.length_map], by omega, fun hn => ⟨_, rfl, fun j p hj => ?_⟩⟩
    rw [List.getElem?_map] at hj
    obtain ⟨q, hq, rfl⟩ := Option.map_eq_some_iff.1 hj
    have hjl : j < l.length := (List.getElem?_eq_some_iff.1 hq).1
    obtain ⟨e0, e1⟩ := pcells_get l j q hq
    refine ⟨_, rfl, PFd.k70_mk W (toP q), fun i u hu => ?_⟩
    rw [add_off, Nat.zero_add]
    have hk2 : (PFd.k70).sz = 2 := rfl
    rw [hk2]
    match i, hu with
    | 0, hu => rw [h.cellAt (j * 2 + 0) (by omega), Nat.add_zero, e0]; simpa [toP] using hu
    | 1, hu => rw [h.cellAt (j * 2 + 1) (by omega), e1]; simpa [toP] using hu
    | i + 2, hu => simp at hu
/-- Rows of the document's pieces stay while a feed is stepped. -/
theorem Kp.keepR {base b : Nat} {X Y : World} (h : Kp base b X Y) {F : FS} {sv : Value} (hF : FdAt base b F sv X) {base' : Nat} {ok : Nat → Prop} {v : Value} {xs : List PFd.S72} (hr : Kd.R PFd.k72 72 X base' ok v xs) : Kd.R PFd.k72 72 Y base' ok v xs :=
  Kd.R_mono (Kd.R_move (Kd.R_bound hr) (fun k hk => by
    obtain ⟨_, _, hlt, q, hq, cells, hc⟩ := hk
    obtain rfl : q = 72 := by
      have : q ∈ [72] := hq
      simpa using this
    refine h.block k hlt (fun e => ?_) (.inr fun cur h2 => ?_)
    · subst e
      have := hF.blk
      rw [hc] at this
      injection this with this
      injection this with _ this
      exact absurd this (by decide)
    · rw [hc] at h2
      injection h2 with h2
      injection h2 with _ h2
      exact absurd h2 (by decide))) (fun _ hk => hk.1)
/-- What stands at the head of the law's round. -/
structure LoopAt (w : World) (bf bg base : Nat) (L : List UInt8) (a : Nat) (v : Value) (X : World) : Prop where
  fd : ∃ sv, FdAt base bf (FS.zero.run (L.take a)).1 sv X
  gd : FdAt base bg FS.zero (.slice none 0 0) X
  row : X.ownsRow base 70 2 v (FS.zero.run (L.take a)).2.length (pcells (FS.zero.run (L.take a)).2)
  below : Below w.heap.size w X
theorem part_eq (L : List UInt8) {a t : Nat} (h : a ≤ t) : L.take t = L.take a ++ (L.take t).drop a := by
  have : L.take a = (L.take t).take a := by rw [List.take_take, Nat.min_eq_left h]
  rw [this, List.take_append_drop]
theorem run_part (L : List UInt8) {a t : Nat} (h : a ≤ t) : FS.zero.run (L.take t) = (((FS.zero.run (L.take a)).1.run ((L.take t).drop a)).1, (FS.zero.run (L.take a)).2 ++ ((FS.zero.run (L.take a)).1.run ((L.take t).drop a)).2) := by
  rw [part_eq L h, FS.run_append, ← part_eq L h]
/-- The other feed stands. -/
theorem Kp.other {base b g : Nat} {X Y : World} (h : Kp base b X Y) (hne : g ≠ b) (hg : FdAt base g FS.zero (.slice none 0 0) X) : FdAt base g FS.zero (.slice none 0 0) Y :=
  FdAt.new hg.lt (Nat.le_trans hg.le h.size) ((h.block g hg.blt hne (.inl hg.lt)).trans hg.blk)
/-- A part that tells nothing. -/
theorem LoopAt.none {w : World} {bf bg base : Nat} {L : List UInt8} {a t : Nat} {v : Value} {X Y : World} (h : LoopAt w bf bg base L a v X) (hat : a ≤ t) (hw : w.heap.size ≤ bf) (hne : bg ≠ bf) {u : Value} (ht : TkAt base bf X (FS.zero.run (L.take a)).1 ((L.take t).drop a) u Y) (hp : ((FS.zero.run (L.take a)).1.run ((L.take t).drop a)).2 = []) : LoopAt w bf bg base L t v Y := by
  obtain ⟨sv, hF⟩ := h.fd
  have hr := run_part L hat
  rw [hp, List.append_nil] at hr
  refine ⟨?_, ht.keep.other hne h.gd, ?_, h.below.trans (ht.keep.below h.below.size hw (by have := hF.lt; omega))⟩
  · rw [hr]; exact ht.fd
  · rw [hr]; exact ht.keep.row hF h.row (by decide) (by decide)
/-- A part that tells something. -/
theorem LoopAt.some {w : World} {bf bg base : Nat} {L : List UInt8} {a t : Nat} {v v' : Value} {X Y Z : World} (h : LoopAt w bf bg base L a v X) (hat : a ≤ t) (hw : w.heap.size ≤ bf) (hne : bg ≠ bf) {u : Value} (ht : TkAt base bf X (FS.zero.run (L.take a)).1 ((L.take t).drop a) u Y)
    (ho : Z.ownsRow base 70 2 v' ((FS.zero.run (L.take a)).2.length + ((FS.zero.run (L.take a)).1.run ((L.take t).drop a)).2.length) (pcells (FS.zero.run (L.take a)).2 ++ pcells ((FS.zero.run (L.take a)).1.run ((L.take t).drop a)).2)) (hg : Y.grownBy Z v.ownBlock) : LoopAt w bf bg base L t v' Z := by
  obtain ⟨sv, hF⟩ := h.fd
  obtain ⟨sv2, hF2⟩ := ht.fd
  have hr := run_part L hat
  have hrow := ht.keep.row hF h.row (by decide) (by decide)
  have hB := h.below.trans (ht.keep.below h.below.size hw (by have := hF.lt; omega))
  refine ⟨⟨sv2, ?_⟩, (ht.keep.other hne h.gd).grownP hrow hg, ?_, ?_⟩
  · rw [hr]; exact hF2.grownP hrow hg
  · rw [hr]
    rw [List.length_append, pcells_append]
    exact ho
  · exact hB.grown hg hB.size (fun k e => by have := (fd_row_at hrow e).1; have := hF.lt; omega)
end Go.Proofs.YtphaemaccdddfaaDoor.PTk

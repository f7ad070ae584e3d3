/- Trees: messages in rows as the row's proof hands them; the law's awake, walked. No condition but those that each contract bears. -/
import Derived.Test.YtkcnakaneiocjaaTrStd
set_option linter.unusedVariables false
set_option linter.unusedSimpArgs false
namespace Go.Proofs.Ytkcnakaneiocjaa
def RRec (p : Int × Int × ByteArray) (cs : List Value) : Prop := cs = [.int .u32 p.1, .int .u8 p.2.1, .string p.2.2] ∧ (Lit.int .u32 p.1).wf = true ∧ (Lit.int .u8 p.2.1).wf = true ∧ p.2.2.size ≤ maxLen
end Go.Proofs.Ytkcnakaneiocjaa
namespace Go.Proofs.Ytkcnakaneiocjaa.PTr
open Go.RowKit Go.Proofs.YtkcnakaneiocjaaW.PrintWords Go.Proofs.YtkcnakaneiocjaaW.PrintLast Go.Proofs.YtkcnakaneiocjaaW.PrintMore
/-- Messages in memory, as each contract wants them. -/
structure InAt (A : Option Addr) (l : List Rec) (W : World) : Prop where
  rd : RdAt A l W
  c : Kd.C k41 W A l.length l
theorem InAt.on {A : Option Addr} {l : List Rec} {W X : World} (h : InAt A l W) (hb : Below W.heap.size W X) : InAt A l X := ⟨h.rd.on hb, Kd.C_below h.c hb⟩
theorem inAt_of {A : Option Addr} {l : List Rec} {W : World} (hl : l.length ≤ 9223372036854775807) (h : RdAt A l W) : InAt A l W := by
  refine ⟨h, rfl, hl, fun hn => ?_⟩
  obtain ⟨g, o, rfl, hg, hc⟩ := h.cell hn
  refine ⟨_, rfl, fun j p hj => ?_⟩
  obtain ⟨hj1, rfl⟩ := List.getElem?_eq_some_iff.1 hj
  obtain ⟨h0, h1, h2⟩ := hc j hj1
  refine ⟨_, rfl, k41_mk W _, fun i u hu => ?_⟩
  match i, hu with
  | 0, hu => injection hu with hu; subst hu; rw [add_off, ← Nat.add_assoc]; exact h0
  | 1, hu => injection hu with hu; subst hu; rw [add_off, ← Nat.add_assoc]; exact h1
  | 2, hu => injection hu with hu; subst hu; rw [add_off, ← Nat.add_assoc]; exact h2
def toRec (p : Int × Int × ByteArray) : Rec := ⟨p.1, p.2.1, p.2.2⟩
theorem u32_wf {a : Int} (h : (Lit.int .u32 a).wf = true) : 0 ≤ a ∧ a < 4294967296 := by
  have e : (Lit.int .u32 a).wf = (decide (IntKind.u32.min ≤ a) && decide (a ≤ IntKind.u32.max)) := rfl
  rw [e, Bool.and_eq_true, decide_eq_true_eq, decide_eq_true_eq] at h
  have h1 : IntKind.u32.min = 0 := rfl
  have h2 : IntKind.u32.max = 4294967295 := rfl
  omega
theorem recs_in {w : World} {A : Option Addr} {n : Nat} {l : List (Int × Int × ByteArray)} (h : Recs RRec 3 w A n l) : InAt A (l.map toRec) w ∧ (∀ x ∈ l.map toRec, 0 ≤ x.f0 ∧ x.f0 < 4294967296) ∧ l.length = n := by
  obtain ⟨hl, hn2, h⟩ := h
  refine ⟨inAt_of (by rw [List.length_map]; omega) ⟨fun hn => ?_⟩, fun x hx => ?_, hl⟩
  · rw [List.length_map] at hn
    obtain ⟨ad, rfl, hc⟩ := h (by omega)
    have each : ∀ i (hi : i < l.length), ∀ j u, [Value.int .u32 l[i].1, .int .u8 l[i].2.1, .string l[i].2.2][j]? = some u → w.cell? (ad.add (i * 3 + j)) = some u := by
      intro i hi j u hu
      obtain ⟨c, _, ⟨rfl, _⟩, hcell⟩ := hc i _ (List.getElem?_eq_getElem hi)
      exact hcell j u hu
    have h0 := each 0 hn 0 _ rfl
    have hp := plain_of_cell (a := ad) (by simpa [Addr.add] using h0)
    have hb : ad.block < w.heap.size := lt_of_cell (a := ad) (by simpa [Addr.add] using h0)
    refine ⟨ad.block, ad.off, congrArg some hp, hb, fun i hi => ?_⟩
    rw [List.length_map] at hi
    have e : ∀ j, (⟨ad.block, ad.off + i * 3 + j, none⟩ : Addr) = ad.add (i * 3 + j) := fun j => by rw [hp, add_off, Nat.add_assoc]
    have e2 : (l.map toRec)[i]'(by rw [List.length_map]; exact hi) = toRec l[i] := List.getElem_map _
    rw [e2]
    exact ⟨(e 0) ▸ each i hi 0 _ rfl, (e 1) ▸ each i hi 1 _ rfl, (e 2) ▸ each i hi 2 _ rfl⟩
  · obtain ⟨q, hq, rfl⟩ := List.mem_map.1 hx
    obtain ⟨j, hj⟩ := List.mem_iff_getElem?.1 hq
    have hlt := (List.getElem?_eq_some_iff.1 hj).1
    obtain ⟨ad, _, hc⟩ := h (by omega)
    obtain ⟨c, _, a2, _⟩ := hc j q hj
    exact u32_wf a2.2.1
def awkL : List Rec := [⟨1, 0, ⟨#[]⟩⟩, ⟨17, 0, ⟨#[]⟩⟩, ⟨300, 0, ⟨#[120]⟩⟩]
theorem awk_in {X : World} {g : Nat} (h : X.heap[g]? = some (.cells #[.int .u32 1, .int .u8 0, .string ⟨#[]⟩, .int .u32 17, .int .u8 0, .string ⟨#[]⟩, .int .u32 300, .int .u8 0, .string ⟨#[120]⟩] 41 (0, 0))) : InAt (some ⟨g, 0, none⟩) awkL X := by
  refine inAt_of (by decide) ⟨fun _ => ⟨g, 0, rfl, (Array.getElem?_eq_some_iff.1 h).1, fun i hi => ?_⟩⟩
  match i, hi with
  | 0, _ => exact ⟨(blk_cell h 0).trans rfl, (blk_cell h 1).trans rfl, (blk_cell h 2).trans rfl⟩
  | 1, _ => exact ⟨(blk_cell h 3).trans rfl, (blk_cell h 4).trans rfl, (blk_cell h 5).trans rfl⟩
  | 2, _ => exact ⟨(blk_cell h 6).trans rfl, (blk_cell h 7).trans rfl, (blk_cell h 8).trans rfl⟩
theorem awk_inc : Inc awkL 0 := fun j hj _ => by
  match j, hj with
  | 0, _ => exact ⟨by simp [awkL], fun h => absurd h (by decide)⟩
  | 1, _ => exact ⟨by simp [awkL], fun _ => by simp [awkL]⟩
  | 2, _ => exact ⟨by simp [awkL], fun _ => by simp [awkL]⟩
theorem awk_rng : ∀ x ∈ awkL, 0 ≤ x.f0 ∧ x.f0 < 4294967296 := fun x hx => by
  rcases List.mem_cons.1 hx with rfl | hx
  · decide
  rcases List.mem_cons.1 hx with rfl | hx
  · decide
  rcases List.mem_cons.1 hx with rfl | hx
  · decide
  · cases hx
theorem awk_hgt : hgtOf awkL 0 = 3 := by decide
/-- The message at a place, as Select tells it. -/
def selL (l : List Rec) (k : Int) : Rec × Bool := if h : 0 ≤ k ∧ k < l.length then (l[k.toNat]'(by omega), true) else (rc0, false)
theorem tree_sel {l : List Rec} {N : List Nd} {root : Int} {hgt : Nat} (hT : IsTree l N root hgt) (hl : l.length ≤ 1000) {A : Option Addr} {X : World} (hX : ShAt A N X) (c : Nat) (k : Int) :
    Calls Try.prog 8 #[.agg #[.int .i64 root, .int .i64 (hgt : Int)], .iface 25 (.slice A N.length c), .int .i64 k] X fun e w' => e = .returned (.tuple #[.agg (recA (selL l k).1), .bool (selL l k).2]) ∧ Hd (Below X.heap.size X w') := by
  have h := select_any hX hT.len hT.bl c root hgt hT.hh (by rw [hT.cnt]; omega) k
  rw [hT.cnt] at h
  unfold selL
  by_cases hk : 0 ≤ k ∧ k < l.length
  · rw [if_pos hk, decide_eq_true hk] at h
    rw [dif_pos hk]
    have h2 := hT.sel k.toNat (by omega)
    rw [Int.toNat_of_nonneg hk.1] at h2
    rw [h2] at h
    exact h
  · rw [if_neg hk, decide_eq_false hk] at h
    rw [dif_neg hk]
    exact h
theorem tree_rank {l : List Rec} {N : List Nd} {root : Int} {hgt : Nat} (hT : IsTree l N root hgt) {A : Option Addr} {X : World} (hX : ShAt A N X) (c : Nat) (uid : Int) (h0 : 0 ≤ uid) (h1 : uid < 4294967296) :
    Calls Try.prog 10 #[.agg #[.int .i64 root, .int .i64 (hgt : Int)], .iface 25 (.slice A N.length c), .int .u32 uid] X fun e w' => e = .returned (.int .i64 (cntL (ltU uid) l)) ∧ Hd (Below X.heap.size X w') := by
  have h := rank_any hX hT.len hT.bl c root hgt hT.hh uid h0 h1
  rw [hT.rank uid h0 h1] at h
  exact h
theorem tree_len {l : List Rec} {N : List Nd} {root : Int} {hgt : Nat} (hT : IsTree l N root hgt) {A : Option Addr} {X : World} (hX : ShAt A N X) (c : Nat) :
    Calls Try.prog 15 #[.agg #[.int .i64 root, .int .i64 (hgt : Int)], .iface 25 (.slice A N.length c)] X fun e w' => e = .returned (.int .i64 l.length) ∧ Hd (Below X.heap.size X w') := by
  have h := len_any hX hT.len c root hgt
  rw [hT.cnt] at h
  exact h
theorem tree_get {l : List Rec} {N : List Nd} {root : Int} {hgt : Nat} (hT : IsTree l N root hgt) {A : Option Addr} {X : World} (hX : ShAt A N X) (c : Nat) (uid : Int) (h0 : 0 ≤ uid) (h1 : uid < 4294967296) :
    Calls Try.prog 9 #[.agg #[.int .i64 root, .int .i64 (hgt : Int)], .iface 25 (.slice A N.length c), .int .u32 uid] X fun e w' => e = .returned (.tuple #[.agg (recA (foundV (findU l uid)).1), .bool (foundV (findU l uid)).2]) ∧ Hd (Below X.heap.size X w') := by
  have h := get_any hX hT.len c root hgt hT.hh uid h0 h1
  rw [hT.get uid h0 h1] at h
  exact h
theorem awk_tree {w1 w2 : World} {a b : Int} (h : Hd (Below (w1.alloc (.cells #[.int .i64 a, .int .i64 b] 27)).heap.size (w1.alloc (.cells #[.int .i64 a, .int .i64 b] 27)) w2)) : Hd (w2.heap[w1.heap.size]? = some (.cells #[.int .i64 a, .int .i64 b] 27 (0, 0))) :=
  ⟨(h.out.block w1.heap.size (by simp)).trans (heap_alloc_new w1 _)⟩
theorem awk_b1 {w1 w2 : World} {o : Obj} (h : Hd (Below (w1.alloc o).heap.size (w1.alloc o) w2)) : Below w1.heap.size w1 w2 :=
  (below_alloc (Below.refl w1.heap.size w1) o).trans (h.out.mono (by simp))
theorem awk_rec {w1 w2 : World} {a b : Int} {c : ByteArray} (h : Hd (Below (w1.alloc (.cells #[.int .u32 a, .int .u8 b, .string c] 33)).heap.size (w1.alloc (.cells #[.int .u32 a, .int .u8 b, .string c] 33)) w2)) : Hd (w2.heap[w1.heap.size]? = some (.cells #[.int .u32 a, .int .u8 b, .string c] 33 (0, 0))) :=
  ⟨(h.out.block w1.heap.size (by simp)).trans (heap_alloc_new w1 _)⟩
theorem awk_keep {w1 w2 : World} {o p : Obj} {b : Nat} (h : Hd (Below (w1.alloc o).heap.size (w1.alloc o) w2)) (hp : Hd (w1.heap[b]? = some p)) : Hd (w2.heap[b]? = some p) :=
  ⟨((awk_b1 h).block b (Array.getElem?_eq_some_iff.1 hp.out).1).trans hp.out⟩
set_option maxRecDepth 100000 in
theorem awake_any (W : World) : Calls Try.prog 11 #[] W fun e w' => e = .returned (.bool true) ∧ Hd (Below W.heap.size W w') := by
  have HI := Hd.mk (awk_in (heap_alloc_new W (.cells #[.int .u32 1, .int .u8 0, .string ⟨#[]⟩, .int .u32 17, .int .u8 0, .string ⟨#[]⟩, .int .u32 300, .int .u8 0, .string ⟨#[120]⟩] 41)))
  have HB0 := Hd.mk (below_alloc (Below.refl W.heap.size W) (.cells #[.int .u32 1, .int .u8 0, .string ⟨#[]⟩, .int .u32 17, .int .u8 0, .string ⟨#[]⟩, .int .u32 300, .int .u8 0, .string ⟨#[120]⟩] 41))
  obtain ⟨X0, hX0⟩ : ∃ X0, W.alloc (.cells #[.int .u32 1, .int .u8 0, .string ⟨#[]⟩, .int .u32 17, .int .u8 0, .string ⟨#[]⟩, .int .u32 300, .int .u8 0, .string ⟨#[120]⟩] 41) = X0 := ⟨_, rfl⟩
  rw [hX0] at HI HB0
  have hS := stand_good (W := X0) 3 awkL HI.out.rd (by decide) HI.out.c (by decide) awk_rng awk_inc 2 (by decide) 0 (by decide)
  rw [awk_hgt] at hS
  obtain ⟨hT, hS⟩ := hS
  have er : rootOf awkL 2 = 2 := by decide
  rw [er] at hT hS
  obtain ⟨N, hN⟩ : ∃ N, treeN awkL 2 0 = N := ⟨_, rfl⟩
  rw [hN] at hT hS
  have HT := Hd.mk hT
  have HS : Hd (Calls Try.prog 7 #[.slice (some ⟨W.heap.size, 0, none⟩) 3 3, .int .i64 2, .int .i64 0] X0 fun e w' => ∃ A' c', e = .returned (.tuple #[.slice A' N.length c', .agg #[.int .i64 2, .int .i64 3]]) ∧ Hd (ShAt A' N w' ∧ Below X0.heap.size X0 w')) := ⟨hS⟩
  clear hT hS hN er
  have HSel : Hd (∀ (A : Option Addr) (c : Nat) (X : World), ShAt A N X → Calls Try.prog 8 #[.agg #[.int .i64 2, .int .i64 3], .iface 25 (.slice A N.length c), .int .i64 2] X fun e w' => e = .returned (.tuple #[.agg #[.int .u32 300, .int .u8 0, .string ⟨#[120]⟩], .bool true]) ∧ Hd (Below X.heap.size X w')) := ⟨fun A c X hX => by
    exact tree_sel HT.out (by decide) hX c 2⟩
  have HRk : Hd (∀ (A : Option Addr) (c : Nat) (X : World), ShAt A N X → Calls Try.prog 10 #[.agg #[.int .i64 2, .int .i64 3], .iface 25 (.slice A N.length c), .int .u32 18] X fun e w' => e = .returned (.int .i64 2) ∧ Hd (Below X.heap.size X w')) := ⟨fun A c X hX => by
    exact tree_rank HT.out hX c 18 (by decide) (by decide)⟩
  have HLn : Hd (∀ (A : Option Addr) (c : Nat) (X : World), ShAt A N X → Calls Try.prog 15 #[.agg #[.int .i64 2, .int .i64 3], .iface 25 (.slice A N.length c)] X fun e w' => e = .returned (.int .i64 3) ∧ Hd (Below X.heap.size X w')) := ⟨fun A c X hX => by
    exact tree_len HT.out hX c⟩
  clear HT
  go_enter Try.func11, Try.ntmps11
  go_wp2_with (first
    | (go_at_call 7; (try rw [hX0]); have hx := HS.out; (with_reducible refine hx.mono ?_); clear hx; rintro e w1 ⟨A1, c1, rfl, HD1⟩)
    | (go_at_call 8; have hx := HSel.out A1 c1 (w1.alloc (.cells #[.int .i64 2, .int .i64 3] 27)) (HD1.out.1.on (below_alloc (Below.refl w1.heap.size w1) (.cells #[.int .i64 2, .int .i64 3] 27))); (with_reducible refine hx.mono ?_); clear hx; rintro e w2 ⟨rfl, HD2⟩; have HP2 := awk_tree HD2; have e0 : w2.cell? ⟨w1.heap.size, 0, none⟩ = some (.int .i64 2) := blk_cell HP2.out 0; have e1 : w2.cell? ⟨w1.heap.size, 1, none⟩ = some (.int .i64 3) := blk_cell HP2.out 1; have hs : w1.heap.size < w2.heap.size := (Array.getElem?_eq_some_iff.1 HP2.out).1; have hn1 : (w1.heap.size = w2.heap.size) = False := eq_false (by omega); have hn2 : (w2.heap.size = w1.heap.size) = False := eq_false (by omega))
    | (go_at_call 10; have hx := HRk.out A1 c1 (w2.alloc (.cells #[.int .u32 300, .int .u8 0, .string ⟨#[120]⟩] 33)) ((HD1.out.1.on (awk_b1 HD2)).on (below_alloc (Below.refl w2.heap.size w2) _)); (with_reducible refine hx.mono ?_); clear hx; rintro e w3 ⟨rfl, HD3⟩; have HP3 := awk_rec HD3; have HP4 := awk_keep HD3 HP2; have e2 : w3.cell? ⟨w1.heap.size, 0, none⟩ = some (.int .i64 2) := blk_cell HP4.out 0; have e3 : w3.cell? ⟨w1.heap.size, 1, none⟩ = some (.int .i64 3) := blk_cell HP4.out 1; have e4 : w3.cell? ⟨w2.heap.size, 0, none⟩ = some (.int .u32 300) := blk_cell HP3.out 0; have e5 : w3.cell? ⟨w2.heap.size, 2, none⟩ = some (.string ⟨#[120]⟩) := blk_cell HP3.out 2)
    | (go_at_call 15; have hx := HLn.out A1 c1 w3 (((HD1.out.1.on (awk_b1 HD2)).on (below_alloc (Below.refl w2.heap.size w2) _)).on HD3.out); (with_reducible refine hx.mono ?_); clear hx; rintro e w4 ⟨rfl, HD4⟩))
  go_ret
  refine ⟨rfl, ⟨?_⟩⟩
  have h1 := HB0.out.trans (HD1.out.2.mono HB0.out.size)
  have h2 := h1.trans ((awk_b1 HD2).mono h1.size)
  have h3 := h2.trans ((awk_b1 HD3).mono h2.size)
  exact h3.trans (HD4.out.mono h3.size)
end Go.Proofs.Ytkcnakaneiocjaa.PTr

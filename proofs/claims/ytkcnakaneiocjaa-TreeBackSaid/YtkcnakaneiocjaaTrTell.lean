/- Trees: TreeTells, walked. No condition but those of the row. -/
import Derived.Test.YtkcnakaneiocjaaTrAwk
set_option linter.unusedVariables false
set_option linter.unusedSimpArgs false
namespace Go.Proofs.Ytkcnakaneiocjaa.PTr
open Go.RowKit Go.Proofs.YtkcnakaneiocjaaW.PrintWords Go.Proofs.YtkcnakaneiocjaaW.PrintLast Go.Proofs.YtkcnakaneiocjaaW.PrintMore
attribute [local go_sem high] eqA41
theorem tell_b {W w0 w1 w2 : World} {P : Prop} {o p : Obj} (h0 : Drawn0 W w0) (h1 : Hd (P ∧ Below w0.heap.size w0 w1)) (h2 : Hd (Below (w1.alloc o).heap.size (w1.alloc o) w2)) : Below W.heap.size W (w2.alloc p) := by
  have a := h0.below
  have b := a.trans (h1.out.2.mono a.size)
  exact below_alloc (b.trans ((awk_b1 h2).mono b.size)) _
theorem tell_w {W w0 w1 w2 w3 : World} {A1 : Option Addr} {N : List Nd} {o p : Obj} (h0 : Drawn0 W w0) (h1 : Hd (ShAt A1 N w1 ∧ Below w0.heap.size w0 w1)) (h2 : Hd (Below (w1.alloc o).heap.size (w1.alloc o) w2)) (h3 : Hd (Below (w2.alloc p).heap.size (w2.alloc p) w3)) (q : Obj) :
    Below W.heap.size W (w3.alloc q) ∧ ShAt A1 N (w3.alloc q) ∧ W.heap.size ≤ w1.heap.size ∧ w1.heap.size < w2.heap.size ∧ w2.heap.size < w3.heap.size := by
  have a := h0.below
  have b := a.trans (h1.out.2.mono a.size)
  have c := b.trans ((awk_b1 h2).mono b.size)
  have d := c.trans ((awk_b1 h3).mono c.size)
  refine ⟨below_alloc d _, ((h1.out.1.on (awk_b1 h2)).on (awk_b1 h3)).on (below_alloc (Below.refl _ _) _), b.size, ?_, ?_⟩
  · have := h2.out.size; simp at this; omega
  · have := h3.out.size; simp at this; omega
theorem tell_p {w1 w2 w3 : World} {a b c : Obj} (h2 : Hd (Below (w1.alloc a).heap.size (w1.alloc a) w2)) (h3 : Hd (Below (w2.alloc b).heap.size (w2.alloc b) w3)) :
    (w3.alloc c).heap[w1.heap.size]? = some a ∧ (w3.alloc c).heap[w2.heap.size]? = some b ∧ (w3.alloc c).heap[w3.heap.size]? = some c := by
  have x1 : w2.heap[w1.heap.size]? = some a := (h2.out.block w1.heap.size (by simp)).trans (heap_alloc_new w1 _)
  have x2 : w3.heap[w2.heap.size]? = some b := (h3.out.block w2.heap.size (by simp)).trans (heap_alloc_new w2 _)
  have x3 : w3.heap[w1.heap.size]? = some a := ((awk_b1 h3).block w1.heap.size (Array.getElem?_eq_some_iff.1 x1).1).trans x1
  have hb := below_alloc (Below.refl w3.heap.size w3) c
  exact ⟨(hb.block _ (Array.getElem?_eq_some_iff.1 x3).1).trans x3, (hb.block _ (Array.getElem?_eq_some_iff.1 x2).1).trans x2, heap_alloc_new w3 _⟩
theorem tell_cells {W6 X : World} {b8 b9 b11 : Nat} {root hgt g0 g1 : Int} {g2 : ByteArray} (h : Below W6.heap.size W6 X)
    (hp : Hd (W6.heap[b8]? = some (.cells #[.int .i64 root, .int .i64 hgt] 27 (0, 0)) ∧ W6.heap[b9]? = some (.cells #[.int .u32 g0, .int .u8 g1, .string g2] 33 (0, 0)) ∧ W6.heap[b11]? = some (.cells #[.int .u32 g0, .int .u8 g1, .string g2] 41 (0, 0)))) :
    X.cell? ⟨b8, 0, none⟩ = some (.int .i64 root) ∧ X.cell? ⟨b8, 1, none⟩ = some (.int .i64 hgt) ∧ X.cell? ⟨b9, 0, none⟩ = some (.int .u32 g0) ∧ X.cell? ⟨b9, 1, none⟩ = some (.int .u8 g1) ∧ X.cell? ⟨b9, 2, none⟩ = some (.string g2) ∧ X.cell? ⟨b11, 0, none⟩ = some (.int .u32 g0) ∧ X.cell? ⟨b11, 1, none⟩ = some (.int .u8 g1) ∧ X.cell? ⟨b11, 2, none⟩ = some (.string g2) := by
  obtain ⟨h8, h9, h11⟩ := hp.out
  have k8 := (h.block b8 (Array.getElem?_eq_some_iff.1 h8).1).trans h8
  have k9 := (h.block b9 (Array.getElem?_eq_some_iff.1 h9).1).trans h9
  have k11 := (h.block b11 (Array.getElem?_eq_some_iff.1 h11).1).trans h11
  exact ⟨blk_cell k8 0, blk_cell k8 1, blk_cell k9 0, blk_cell k9 1, blk_cell k9 2, blk_cell k11 0, blk_cell k11 1, blk_cell k11 2⟩
theorem tell_x {W6 Y X : World} (h : Below W6.heap.size W6 Y) (h2 : Hd (Below Y.heap.size Y X)) : Below W6.heap.size W6 X := h.trans (h2.out.mono h.size)
theorem tell_p9 {W6 X : World} {b8 b9 b11 : Nat} {o p q : Obj} (h : Hd (Below W6.heap.size W6 X)) (hp : Hd (W6.heap[b8]? = some o ∧ W6.heap[b9]? = some p ∧ W6.heap[b11]? = some q)) : Hd (X.heap[b9]? = some p) :=
  ⟨(h.out.block b9 (Array.getElem?_eq_some_iff.1 hp.out.2.1).1).trans hp.out.2.1⟩
theorem tell_r {W W6 x7 : World} {P : Prop} {a b9 c : Nat} (h : Hd (Below W.heap.size W W6 ∧ P ∧ W.heap.size ≤ a ∧ a < b9 ∧ b9 < c)) (h7 : Hd (Below W6.heap.size W6 x7)) (u v x : Value) : Below W.heap.size W (((x7.setCell ⟨b9, 0, none⟩ u).setCell ⟨b9, 1, none⟩ v).setCell ⟨b9, 2, none⟩ x) := by
  obtain ⟨h1, h2, h3, h4, h5⟩ := h.out
  exact below_rec (h1.trans (h7.out.mono h1.size)) (by omega) _ _ _
theorem tell_done {W X x8 x9 : World} (h : Below W.heap.size W X) (h8 : Hd (Below X.heap.size X x8)) (h9 : Hd (Below x8.heap.size x8 x9)) : Hd (Below W.heap.size W x9) := by
  have a := h.trans (h8.out.mono h.size)
  exact ⟨a.trans (h9.out.mono a.size)⟩
theorem tell_c8 {W X8 X : World} {b9 g n : Nat} {s0 s1 : Int} {s2 : ByteArray} (h : Below X8.heap.size X8 X) (hp : Hd (X8.heap[b9]? = some (.cells #[.int .u32 s0, .int .u8 s1, .string s2] 33 (0, 0)))) (h8 : Hd (Below W.heap.size W X8))
    (hz : Hd (g < W.heap.size ∧ W.cell? ⟨g, n, none⟩ = some (.int .u32 s0) ∧ W.cell? ⟨g, n + 1, none⟩ = some (.int .u8 s1) ∧ W.cell? ⟨g, n + 2, none⟩ = some (.string s2))) :
    X.cell? ⟨b9, 0, none⟩ = some (.int .u32 s0) ∧ X.cell? ⟨b9, 1, none⟩ = some (.int .u8 s1) ∧ X.cell? ⟨b9, 2, none⟩ = some (.string s2) ∧ X.cell? ⟨g, n, none⟩ = some (.int .u32 s0) ∧ X.cell? ⟨g, n + 1, none⟩ = some (.int .u8 s1) ∧ X.cell? ⟨g, n + 2, none⟩ = some (.string s2) := by
  have k9 := (h.block b9 (Array.getElem?_eq_some_iff.1 hp.out).1).trans hp.out
  obtain ⟨z, z0, z1, z2⟩ := hz.out
  have hb := h8.out.trans (h.mono h8.out.size)
  exact ⟨blk_cell k9 0, blk_cell k9 1, blk_cell k9 2, (hb.cell (p := ⟨g, n, none⟩) z).trans z0, (hb.cell (p := ⟨g, n + 1, none⟩) z).trans z1, (hb.cell (p := ⟨g, n + 2, none⟩) z).trans z2⟩
set_option maxRecDepth 100000 in
set_option maxHeartbeats 4000000 in
theorem tells_any (W : World) (A : Option Addr) (cap : Nat) (l : List Rec) (hin : InAt A l W) (hu : ∀ x ∈ l, 0 ≤ x.f0 ∧ x.f0 < 4294967296) (hcap : l.length ≤ cap) (uid : Int) (u0 : 0 ≤ uid) (u1 : uid < 4294967296) (k : Int) (k0 : -9223372036854775808 ≤ k) (k1 : k < 9223372036854775808) :
    Calls Try.prog 4 #[.slice A l.length cap, .int .u32 uid, .int .i64 k] W fun e w' => e = .returned (.bool true) ∧ Hd (Below W.heap.size W w') := by
  obtain ⟨r, hr, hgr⟩ := great_f l 120 (by decide) 400 (by decide)
  have HGr : Hd (Calls Try.prog 6 #[.slice A l.length cap, .int .i64 120] W fun e w' => e = .returned (.bool r) ∧ Drawn0 W w') := ⟨postchaiselaw07_great.calls 400 A cap l 120 r W hin.c hcap hr⟩
  cases r with
  | true =>
    clear hin hr hgr
    go_enter Try.func4, Try.ntmps4
    go_wp2_with (first
      | (go_at_call 6; have hx := HGr.out; (with_reducible refine hx.mono ?_); clear hx; rintro e w1 ⟨rfl, HD0⟩))
    go_ret
    exact ⟨rfl, ⟨HD0.below⟩⟩
  | false =>
    obtain ⟨hln, hinc⟩ := hgr rfl
    clear hr hgr
    obtain ⟨m, hm, hm2⟩ : ∃ m : Nat, uid % 3 = (m : Int) ∧ m ≤ 1000 := ⟨(uid % 3).toNat, by omega, by omega⟩
    have hT := (stand_good (W := W) cap l hin.rd (by omega) hin.c hcap hu hinc 3 (by decide) m hm2).1
    have hS : ∀ w0, Below W.heap.size W w0 → _ := fun w0 h0 => (stand_good (W := w0) cap l (hin.on h0).rd (by omega) (hin.on h0).c hcap hu hinc 3 (by decide) m hm2).2
    obtain ⟨N, hN⟩ : ∃ N, treeN l 3 m = N := ⟨_, rfl⟩
    obtain ⟨root, hroot⟩ : ∃ root, rootOf l 3 = root := ⟨_, rfl⟩
    obtain ⟨hgt, hhgt⟩ : ∃ hgt, hgtOf l m = hgt := ⟨_, rfl⟩
    simp only [hN, hroot, hhgt] at hT hS
    have HSt : Hd (∀ w0, Below W.heap.size W w0 → Calls Try.prog 7 #[.slice A l.length cap, .int .i64 3, .int .i64 (m : Int)] w0 fun e w' => ∃ A' c', e = .returned (.tuple #[.slice A' N.length c', .agg #[.int .i64 root, .int .i64 (hgt : Int)]]) ∧ Hd (ShAt A' N w' ∧ Below w0.heap.size w0 w')) := ⟨hS⟩
    have HT := Hd.mk hT
    have HM := Hd.mk hm
    have HI := Hd.mk hin
    have HU := Hd.mk (And.intro u0 u1)
    have HL := Hd.mk hln
    clear hS hN hroot hhgt hT hin hm hm2 hinc
    have HGt : Hd (∀ (A1 : Option Addr) (c : Nat) (X : World), ShAt A1 N X → Calls Try.prog 9 #[.agg #[.int .i64 root, .int .i64 (hgt : Int)], .iface 25 (.slice A1 N.length c), .int .u32 uid] X fun e w' => e = .returned (.tuple #[.agg #[.int .u32 (foundV (findU l uid)).1.f0, .int .u8 (foundV (findU l uid)).1.f1, .string (foundV (findU l uid)).1.f2], .bool (foundV (findU l uid)).2]) ∧ Hd (Below X.heap.size X w')) := ⟨fun A1 c X hX => tree_get HT.out hX c uid u0 u1⟩
    have HRg : Hd (∀ X, Below W.heap.size W X → Calls Try.prog 12 #[.slice A l.length cap, .int .u32 uid] X fun e w' => e = .returned (.tuple #[.agg #[.int .u32 (foundV (findU l uid)).1.f0, .int .u8 (foundV (findU l uid)).1.f1, .string (foundV (findU l uid)).1.f2], .bool (foundV (findU l uid)).2]) ∧ Below X.heap.size X w') := ⟨fun X hX => postchaiseref07_Get.calls 400 A cap l uid _ _ _ _ X (HI.out.on hX).c hcap (rget_f l (by omega) uid 400 (by omega))⟩
    have HBk : Hd (∀ (X : World) (a b : Int) (c : ByteArray), Calls Try.prog 13 #[.agg #[.int .u32 a, .int .u8 b, .string c]] X fun e w' => e = .returned (.agg #[.int .u32 a, .int .u8 b, .string c]) ∧ Hd (Below X.heap.size X w')) := ⟨fun X a b c => (postchaiselaw07_Back.calls a b c a b c X rfl).mono fun e w' h => ⟨h.1, ⟨h.2⟩⟩⟩
    have HRk : Hd (∀ (A1 : Option Addr) (c : Nat) (X : World), ShAt A1 N X → Calls Try.prog 10 #[.agg #[.int .i64 root, .int .i64 (hgt : Int)], .iface 25 (.slice A1 N.length c), .int .u32 uid] X fun e w' => e = .returned (.int .i64 (cntL (ltU uid) l)) ∧ Hd (Below X.heap.size X w')) := ⟨fun A1 c X hX => tree_rank HT.out hX c uid u0 u1⟩
    have HRr : Hd (∀ X, Below W.heap.size W X → Calls Try.prog 14 #[.slice A l.length cap, .int .u32 uid] X fun e w' => e = .returned (.int .i64 (cntL (ltU uid) l)) ∧ Hd (Below X.heap.size X w')) := ⟨fun X hX => (postchaiseref07_Rank.calls 400 A cap l uid _ X (HI.out.on hX).c hcap (rrank_f l (by omega) uid 400 (by omega))).mono fun e w' h => ⟨h.1, ⟨h.2.below⟩⟩⟩
    have HLn : Hd (∀ (A1 : Option Addr) (c : Nat) (X : World), ShAt A1 N X → Calls Try.prog 15 #[.agg #[.int .i64 root, .int .i64 (hgt : Int)], .iface 25 (.slice A1 N.length c)] X fun e w' => e = .returned (.int .i64 l.length) ∧ Hd (Below X.heap.size X w')) := ⟨fun A1 c X hX => tree_len HT.out hX c⟩
    have HNd : Hd (∀ X, Calls Try.prog 16 #[.int .u32 uid] X fun e w' => e = .returned (.int .i64 (needN uid : Int)) ∧ Hd (Below X.heap.size X w')) := ⟨fun X => (tree_Need.calls 20 uid _ X (need_f uid u0 u1 20 (by decide))).mono fun e w' h => ⟨h.1, ⟨h.2.below⟩⟩⟩
    have HNr : Hd (∀ X, Calls Try.prog 17 #[.int .u32 uid] X fun e w' => e = .returned (.int .i64 (needN uid : Int)) ∧ Hd (Below X.heap.size X w')) := ⟨fun X => (postchaiseref07_Need.calls 20 uid _ X (rneed_f uid u0 u1 20 (by decide))).mono fun e w' h => ⟨h.1, ⟨h.2.below⟩⟩⟩
    have HSl : Hd (∀ (A1 : Option Addr) (c : Nat) (X : World), ShAt A1 N X → Calls Try.prog 8 #[.agg #[.int .i64 root, .int .i64 (hgt : Int)], .iface 25 (.slice A1 N.length c), .int .i64 k] X fun e w' => e = .returned (.tuple #[.agg #[.int .u32 (selL l k).1.f0, .int .u8 (selL l k).1.f1, .string (selL l k).1.f2], .bool (selL l k).2]) ∧ Hd (Below X.heap.size X w')) := ⟨fun A1 c X hX => tree_sel HT.out (by omega) hX c k⟩
    obtain ⟨rv, hrv⟩ : ∃ v, (cntL (ltU uid) l : Int) = v := ⟨_, rfl⟩
    obtain ⟨nv, hnv⟩ : ∃ v, (needN uid : Int) = v := ⟨_, rfl⟩
    rw [hrv] at HRk HRr
    rw [hnv] at HNd HNr
    clear hrv hnv
    obtain ⟨g0, hg0⟩ : ∃ v, (foundV (findU l uid)).1.f0 = v := ⟨_, rfl⟩
    obtain ⟨g1, hg1⟩ : ∃ v, (foundV (findU l uid)).1.f1 = v := ⟨_, rfl⟩
    obtain ⟨g2, hg2⟩ : ∃ v, (foundV (findU l uid)).1.f2 = v := ⟨_, rfl⟩
    obtain ⟨gb, hgb⟩ : ∃ v, (foundV (findU l uid)).2 = v := ⟨_, rfl⟩
    rw [hg0, hg1, hg2, hgb] at HGt HRg
    clear hg0 hg1 hg2 hgb
    go_enter Try.func4, Try.ntmps4
    go_wp2_with (first
      | (go_at_call 6; have hx := HGr.out; (with_reducible refine hx.mono ?_); clear hx; rintro e w0 ⟨rfl, HD0⟩)
      | (go_at_call 7; rw [HM.out]; have hx := HSt.out w0 HD0.below; (with_reducible refine hx.mono ?_); clear hx; rintro e w1 ⟨A1, c1, rfl, HD1⟩)
      | (go_at_call 9; have hx := HGt.out A1 c1 (w1.alloc (.cells #[.int .i64 root, .int .i64 (hgt : Int)] 27)) (HD1.out.1.on (below_alloc (Below.refl w1.heap.size w1) (.cells #[.int .i64 root, .int .i64 (hgt : Int)] 27))); (with_reducible refine hx.mono ?_); clear hx; rintro e w2 ⟨rfl, HD2⟩)
      | (go_at_call 12; have hx := HRg.out (w2.alloc (.cells #[.int .u32 g0, .int .u8 g1, .string g2] 33)) (tell_b HD0 HD1 HD2); (with_reducible refine hx.mono ?_); clear hx; rintro e w3 ⟨rfl, hD3⟩; have HD3 := Hd.mk hD3; clear hD3)
      | fail)
    have HW6 := Hd.mk (tell_w HD0 HD1 HD2 HD3 (.cells #[.int .u32 g0, .int .u8 g1, .string g2] 41))
    have HP := Hd.mk (tell_p HD2 HD3 (c := .cells #[.int .u32 g0, .int .u8 g1, .string g2] 41))
    obtain ⟨W6, hW6⟩ : ∃ X, w3.alloc (.cells #[.int .u32 g0, .int .u8 g1, .string g2] 41) = X := ⟨_, rfl⟩
    obtain ⟨b8, hb8⟩ : ∃ b, w1.heap.size = b := ⟨_, rfl⟩
    obtain ⟨b9, hb9⟩ : ∃ b, w2.heap.size = b := ⟨_, rfl⟩
    obtain ⟨b11, hb11⟩ : ∃ b, w3.heap.size = b := ⟨_, rfl⟩
    rw [hW6, hb8, hb9, hb11] at HP
    rw [hW6, hb8, hb9, hb11] at HW6
    rw [hW6, hb8, hb9, hb11]
    clear HD0 HD1 HD2 HD3 hW6 hb8 hb9 hb11 HGr HSt HGt HRg HM
    obtain ⟨m0, m1, m2, m3, m4, m5, m6, m7⟩ := tell_cells (Below.refl _ _) HP
    go_region_held3 (fun w' => w'.cell? ⟨b8, 0, none⟩ = some (.int .i64 root) ∧ w'.cell? ⟨b8, 1, none⟩ = some (.int .i64 (hgt : Int)) ∧ w'.cell? ⟨b9, 0, none⟩ = some (.int .u32 g0) ∧ w'.cell? ⟨b9, 1, none⟩ = some (.int .u8 g1) ∧ w'.cell? ⟨b9, 2, none⟩ = some (.string g2) ∧ w'.cell? ⟨b11, 0, none⟩ = some (.int .u32 g0) ∧ w'.cell? ⟨b11, 1, none⟩ = some (.int .u8 g1) ∧ w'.cell? ⟨b11, 2, none⟩ = some (.string g2))
      (first | (simp [go_sem, *]; done))
      (first
        | (go_at_call 13; (with_reducible refine (HBk.out _ g0 g1 g2).mono ?_); rintro e x1 ⟨rfl, hb1⟩; have HX1 : Hd (Below W6.heap.size W6 x1) := ⟨tell_x (by repeat (first | (with_reducible exact Below.refl _ _) | apply below_drew1 | apply pw_below_drewN)) hb1⟩; obtain ⟨m0, m1, m2, m3, m4, m5, m6, m7⟩ := tell_cells HX1.out HP; clear hb1)
        | (go_at_call 10; (with_reducible refine (HRk.out A1 c1 _ (HW6.out.2.1.on (by repeat (first | (with_reducible exact HX1.out) | (with_reducible exact Below.refl _ _) | apply below_drew1 | apply pw_below_drewN)))).mono ?_); rintro e x2 ⟨rfl, hb1⟩; have HX2 : Hd (Below W6.heap.size W6 x2) := ⟨tell_x (by repeat (first | (with_reducible exact HX1.out) | (with_reducible exact Below.refl _ _) | apply below_drew1 | apply pw_below_drewN)) hb1⟩; obtain ⟨m0, m1, m2, m3, m4, m5, m6, m7⟩ := tell_cells HX2.out HP; clear hb1)
        | (go_at_call 14; (with_reducible refine (HRr.out _ (HW6.out.1.trans (Below.mono (by repeat (first | (with_reducible exact HX2.out) | (with_reducible exact Below.refl _ _) | apply below_drew1 | apply pw_below_drewN)) HW6.out.1.size))).mono ?_); rintro e x3 ⟨rfl, hb1⟩; have HX3 : Hd (Below W6.heap.size W6 x3) := ⟨tell_x (by repeat (first | (with_reducible exact HX2.out) | (with_reducible exact Below.refl _ _) | apply below_drew1 | apply pw_below_drewN)) hb1⟩; obtain ⟨m0, m1, m2, m3, m4, m5, m6, m7⟩ := tell_cells HX3.out HP; clear hb1)
        | (go_at_call 15; (with_reducible refine (HLn.out A1 c1 _ (HW6.out.2.1.on (by repeat (first | (with_reducible exact HX3.out) | (with_reducible exact Below.refl _ _) | apply below_drew1 | apply pw_below_drewN)))).mono ?_); rintro e x4 ⟨rfl, hb1⟩; have HX4 : Hd (Below W6.heap.size W6 x4) := ⟨tell_x (by repeat (first | (with_reducible exact HX3.out) | (with_reducible exact Below.refl _ _) | apply below_drew1 | apply pw_below_drewN)) hb1⟩; obtain ⟨m0, m1, m2, m3, m4, m5, m6, m7⟩ := tell_cells HX4.out HP; clear hb1)
        | (go_at_call 16; (with_reducible refine (HNd.out _).mono ?_); rintro e x5 ⟨rfl, hb1⟩; have HX5 : Hd (Below W6.heap.size W6 x5) := ⟨tell_x (by repeat (first | (with_reducible exact HX4.out) | (with_reducible exact Below.refl _ _) | apply below_drew1 | apply pw_below_drewN)) hb1⟩; obtain ⟨m0, m1, m2, m3, m4, m5, m6, m7⟩ := tell_cells HX5.out HP; clear hb1)
        | (go_at_call 17; (with_reducible refine (HNr.out _).mono ?_); rintro e x6 ⟨rfl, hb1⟩; have HX6 : Hd (Below W6.heap.size W6 x6) := ⟨tell_x (by repeat (first | (with_reducible exact HX5.out) | (with_reducible exact Below.refl _ _) | apply below_drew1 | apply pw_below_drewN)) hb1⟩; obtain ⟨m0, m1, m2, m3, m4, m5, m6, m7⟩ := tell_cells HX6.out HP; clear hb1))
    clear m0 m1 m2 m3 m4 m5 m6 m7 HX1 HX2 HX3 HX4 HX5 HRk HRr HLn HNd HNr
    obtain ⟨m0, m1, m2, m3, m4, m5, m6, m7⟩ := tell_cells HX6.out HP
    clear m2 m3 m4 m5 m6 m7
    by_cases hk : 0 ≤ k ∧ k < l.length
    · obtain ⟨j, rfl⟩ : ∃ j : Nat, k = (j : Int) := ⟨k.toNat, by omega⟩
      have hsel : selL l (j : Int) = (l[j]'(by omega), true) := dif_pos hk
      have hkl : j < l.length := by omega
      obtain ⟨s0, hs0⟩ : ∃ v, l[j].f0 = v := ⟨_, rfl⟩
      obtain ⟨s1, hs1⟩ : ∃ v, l[j].f1 = v := ⟨_, rfl⟩
      obtain ⟨s2, hs2⟩ : ∃ v, l[j].f2 = v := ⟨_, rfl⟩
      have HSl2 : Hd (∀ (A1 : Option Addr) (c : Nat) (X : World), ShAt A1 N X → Calls Try.prog 8 #[.agg #[.int .i64 root, .int .i64 (hgt : Int)], .iface 25 (.slice A1 N.length c), .int .i64 (j : Int)] X fun e w' => e = .returned (.tuple #[.agg #[.int .u32 s0, .int .u8 s1, .string s2], .bool true]) ∧ Hd (Below X.heap.size X w')) := by
        rw [hsel] at HSl
        simp only [hs0, hs1, hs2] at HSl
        exact HSl
      obtain ⟨g, o, rfl, hgl, hce⟩ := HI.out.rd.cell (by omega)
      obtain ⟨z0, z1, z2⟩ := hce j hkl
      rw [hs0] at z0
      rw [hs1] at z1
      rw [hs2] at z2
      have HZ := Hd.mk (And.intro hgl (And.intro z0 (And.intro z1 z2)))
      have q1 : decide ((j : Int) < 0) = false := decide_eq_false (by omega)
      have q2 : decide ((l.length : Int) ≤ (j : Int)) = false := decide_eq_false (by omega)
      have q3 : decide (l.length ≤ j) = false := decide_eq_false (by omega)
      have q4 : (l.length ≤ j) = False := eq_false (by omega)
      have HK := Hd.mk hkl
      clear hsel HSl hce z0 z1 z2 hgl hs0 hs1 hs2 hkl hk k0 k1
      go_wp2_with (first
        | (go_at_call 8; (with_reducible refine (HSl2.out A1 c1 _ (HW6.out.2.1.on (by repeat (first | (with_reducible exact HX6.out) | apply below_drew1 | apply pw_below_drewN)))).mono ?_); rintro e x7 ⟨rfl, hb1⟩; have HX7 : Hd (Below W6.heap.size W6 x7) := ⟨tell_x (by repeat (first | (with_reducible exact HX6.out) | apply below_drew1 | apply pw_below_drewN)) hb1⟩; have HP7 := tell_p9 HX7 HP; obtain ⟨n0, n1, n2, n3, n4, n5⟩ := rec_cells (r := ⟨g0, g1, g2⟩) HP7.out; clear hb1)
        | fail)
      have HX8 := Hd.mk (tell_r HW6 HX7 (.int .u32 s0) (.int .u8 s1) (.string s2))
      have HP8 := Hd.mk (rec_set (r := ⟨g0, g1, g2⟩) (r' := ⟨s0, s1, s2⟩) HP7.out)
      obtain ⟨X8, hX8⟩ : ∃ X, ((x7.setCell ⟨b9, 0, none⟩ (.int .u32 s0)).setCell ⟨b9, 1, none⟩ (.int .u8 s1)).setCell ⟨b9, 2, none⟩ (.string s2) = X := ⟨_, rfl⟩
      rw [hX8] at HX8
      replace HP8 : Hd (X8.heap[b9]? = some (.cells #[.int .u32 s0, .int .u8 s1, .string s2] 33 (0, 0))) := ⟨hX8 ▸ HP8.out⟩
      rw [hX8]
      clear hX8 n0 n1 n2 n3 n4 n5 HP7 HX7 m0 m1
      obtain ⟨n0, n1, n2, n3, n4, n5⟩ := tell_c8 (Below.refl X8.heap.size X8) HP8 HX8 HZ
      have HB8 := Hd.mk (Below.refl X8.heap.size X8)
      have hj : j < l.length := HK.out
      go_region_held3 (fun w' => w'.cell? ⟨b9, 0, none⟩ = some (.int .u32 s0) ∧ w'.cell? ⟨b9, 1, none⟩ = some (.int .u8 s1) ∧ w'.cell? ⟨b9, 2, none⟩ = some (.string s2) ∧ w'.cell? ⟨g, o + j * 3, none⟩ = some (.int .u32 s0) ∧ w'.cell? ⟨g, o + j * 3 + 1, none⟩ = some (.int .u8 s1) ∧ w'.cell? ⟨g, o + j * 3 + 2, none⟩ = some (.string s2))
        (first | (simp [go_sem, *]; done))
        (first
          | (go_at_call 13; (with_reducible refine (HBk.out _ s0 s1 s2).mono ?_); rintro e x9 ⟨rfl, hb1⟩; have HX9 : Hd (Below X8.heap.size X8 x9) := ⟨tell_x (by repeat (first | (with_reducible exact Below.refl _ _) | apply below_drew1 | apply pw_below_drewN)) hb1⟩; obtain ⟨n0, n1, n2, n3, n4, n5⟩ := tell_c8 HX9.out HP8 HX8 HZ; clear hb1)
          | (go_at_call 11; (with_reducible refine (awake_any _).mono ?_); rintro e y9 ⟨rfl, hb2⟩; have HX10 : Hd (Below X8.heap.size X8 y9) := ⟨tell_x (by repeat (first | (with_reducible exact HX9.out) | (with_reducible exact Below.refl _ _) | apply below_drew1 | apply pw_below_drewN)) hb2⟩; obtain ⟨n0, n1, n2, n3, n4, n5⟩ := tell_c8 HX10.out HP8 HX8 HZ; clear hb2))
      go_wp2_with fail
      go_ret
      exact ⟨rfl, ⟨HX8.out.trans (Below.mono HX10.out HX8.out.size)⟩⟩
    · have hsel : selL l k = (rc0, false) := dif_neg hk
      have HSl2 : Hd (∀ (A1 : Option Addr) (c : Nat) (X : World), ShAt A1 N X → Calls Try.prog 8 #[.agg #[.int .i64 root, .int .i64 (hgt : Int)], .iface 25 (.slice A1 N.length c), .int .i64 k] X fun e w' => e = .returned (.tuple #[.agg #[.int .u32 0, .int .u8 0, .string ⟨#[]⟩], .bool false]) ∧ Hd (Below X.heap.size X w')) := by rw [hsel] at HSl; exact HSl
      clear hsel HSl
      have q0 : (decide (k < 0) || decide ((l.length : Int) ≤ k)) = true := by
        rw [Bool.or_eq_true, decide_eq_true_eq, decide_eq_true_eq]; omega
      by_cases hk0 : k < 0
      · have q1 : decide (k < 0) = true := decide_eq_true hk0
        clear hk q0 hk0
        go_wp2_with (first
          | (go_at_call 8; (with_reducible refine (HSl2.out A1 c1 _ (HW6.out.2.1.on (by repeat (first | (with_reducible exact HX6.out) | apply below_drew1 | apply pw_below_drewN)))).mono ?_); rintro e x7 ⟨rfl, hb1⟩; have HX7 : Hd (Below W6.heap.size W6 x7) := ⟨tell_x (by repeat (first | (with_reducible exact HX6.out) | apply below_drew1 | apply pw_below_drewN)) hb1⟩; have HP7 := tell_p9 HX7 HP; obtain ⟨n0, n1, n2, n3, n4, n5⟩ := rec_cells (r := ⟨g0, g1, g2⟩) HP7.out; clear hb1)
          | (go_at_call 13; (with_reducible refine (HBk.out _ 0 0 ⟨#[]⟩).mono ?_); rintro e x8 ⟨rfl, HB8⟩)
          | (go_at_call 11; (with_reducible refine (awake_any _).mono ?_); rintro e x9 ⟨rfl, HB9⟩)
          | fail)
        go_ret
        exact ⟨rfl, tell_done (tell_r HW6 HX7 _ _ _) HB8 HB9⟩
      · have q1 : decide (k < 0) = false := decide_eq_false hk0
        have q2 : decide ((l.length : Int) ≤ k) = true := decide_eq_true (by omega)
        clear hk q0 hk0
        go_wp2_with (first
          | (go_at_call 8; (with_reducible refine (HSl2.out A1 c1 _ (HW6.out.2.1.on (by repeat (first | (with_reducible exact HX6.out) | apply below_drew1 | apply pw_below_drewN)))).mono ?_); rintro e x7 ⟨rfl, hb1⟩; have HX7 : Hd (Below W6.heap.size W6 x7) := ⟨tell_x (by repeat (first | (with_reducible exact HX6.out) | apply below_drew1 | apply pw_below_drewN)) hb1⟩; have HP7 := tell_p9 HX7 HP; obtain ⟨n0, n1, n2, n3, n4, n5⟩ := rec_cells (r := ⟨g0, g1, g2⟩) HP7.out; clear hb1)
          | (go_at_call 13; (with_reducible refine (HBk.out _ 0 0 ⟨#[]⟩).mono ?_); rintro e x8 ⟨rfl, HB8⟩)
          | (go_at_call 11; (with_reducible refine (awake_any _).mono ?_); rintro e x9 ⟨rfl, HB9⟩)
          | fail)
        go_ret
        exact ⟨rfl, tell_done (tell_r HW6 HX7 _ _ _) HB8 HB9⟩
theorem i64_wf {a : Int} (h : (Lit.int .i64 a).wf = true) : -9223372036854775808 ≤ a ∧ a < 9223372036854775808 := by
  have e : (Lit.int .i64 a).wf = (decide (IntKind.i64.min ≤ a) && decide (a ≤ IntKind.i64.max)) := rfl
  rw [e, Bool.and_eq_true, decide_eq_true_eq, decide_eq_true_eq] at h
  have h1 : IntKind.i64.min = -9223372036854775808 := rfl
  have h2 : IntKind.i64.max = 9223372036854775807 := rfl
  omega
theorem treeTells_any (w : World) (A : Option Addr) (len cap : Nat) (l : List (Int × Int × ByteArray)) (hr : Recs RRec 3 w A len l) (hc : len ≤ cap) (hb : len * 24 ≤ 140737488351232) (uid : Int) (wu : (Lit.int .u32 uid).wf = true) (k : Int) (wk : (Lit.int .i64 k).wf = true) :
    Calls Try.prog 4 #[.slice A len cap, .int .u32 uid, .int .i64 k] w fun e w' => e = .returned (.bool true) ∧ Below w.heap.size w w' := by
  obtain ⟨hi, hu, hl⟩ := recs_in hr
  have e : (l.map toRec).length = len := by rw [List.length_map, hl]
  have h := tells_any w A cap (l.map toRec) hi hu (by omega) uid (u32_wf wu).1 (u32_wf wu).2 k (i64_wf wk).1 (i64_wf wk).2
  rw [e] at h
  exact h.mono fun e w' x => ⟨x.1, x.2.out⟩
end Go.Proofs.Ytkcnakaneiocjaa.PTr

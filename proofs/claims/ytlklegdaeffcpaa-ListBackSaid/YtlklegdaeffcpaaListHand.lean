/- What the print leaves to be proved by hand of chapter 11: Seq of a list (its closure, slices.IndexFunc), slices.Clone, and slices.Delete of one entry. No condition but those that each bears. -/
import Derived.Test.YtlklegdaeffcpaaQList0
import Derived.Lib.SliceRun
import Derived.Shelf.Abstract
import Derived.Deep.RegionLaw
namespace Go.Proofs.Ytlklegdaeffcpaa.PList
open Go.RowKit Go.Shelf Go.Proofs.YtlklegdaeffcpaaW.PrintWords Go.Proofs.YtlklegdaeffcpaaW.PrintLast Go.Proofs.YtlklegdaeffcpaaW.PrintMore
def fnd : List S35 → Int → Int
  | [], _ => -1
  | e :: l, u => if e.f0 = u then 0 else if fnd l u < 0 then -1 else fnd l u + 1
def list_List_Seq.f (l : List S35) (u : Int) : Option Int := some (fnd l u + 1)
theorem fnd_hit (u : Int) : ∀ (l : List S35) (k : Nat), k < l.length → (∀ j : Nat, j < k → (l.getD j z35).f0 ≠ u) → (l.getD k z35).f0 = u → fnd l u = k
  | [], k, h, _, _ => absurd h (Nat.not_lt_zero _)
  | e :: l, 0, _, _, h => by unfold fnd; rw [if_pos (by simpa using h)]; rfl
  | e :: l, k + 1, hk, ha, h => by
    have h0 : e.f0 ≠ u := by simpa using ha 0 (by omega)
    have ih := fnd_hit u l k (by simpa using hk) (fun j hj => by simpa using ha (j + 1) (by omega)) (by simpa using h)
    unfold fnd
    rw [if_neg h0, ih, if_neg (by omega)]
    omega
theorem fnd_miss (u : Int) : ∀ (l : List S35), (∀ j : Nat, j < l.length → (l.getD j z35).f0 ≠ u) → fnd l u = -1
  | [], _ => rfl
  | e :: l, ha => by
    have h0 : e.f0 ≠ u := by simpa using ha 0 (by simp)
    have ih := fnd_miss u l (fun j hj => by simpa using ha (j + 1) (by simpa using hj))
    unfold fnd
    rw [if_neg h0, ih, if_pos (by omega)]
theorem fnd_le (l : List S35) (u : Int) : -1 ≤ fnd l u ∧ fnd l u < l.length := by
  induction l with
  | nil => exact ⟨by simp [fnd], by simp [fnd]⟩
  | cons e l ih =>
    unfold fnd
    split
    · exact ⟨by omega, by simp⟩
    · split
      · exact ⟨by omega, by simp; omega⟩
      · exact ⟨by omega, by simp; omega⟩
theorem lt_of_cell0 {w : World} {a : Addr} {v : Value} (h : w.cell? a = some v) : a.block < w.heap.size := by
  unfold World.cell? at h
  cases e : w.heap[a.block]? with
  | none => rw [e] at h; cases h
  | some o => exact (Array.getElem?_eq_some_iff.1 e).1
theorem seq_pred (W : World) (x y u : Int) (B : Nat) (hu : W.cell? ⟨B, 0, none⟩ = some (.int .u32 u)) :
    Calls Try.prog 43 #[.agg #[.int .u32 x, .int .u8 y], .pointer (some ⟨B, 0, none⟩)] W fun e w' => e = .returned (.bool (x == u)) ∧ w' = W.alloc (.cells #[.int .u32 x, .int .u8 y] 35) := by
  have hu2 := Go.Lib.cell?_alloc_some (.cells #[.int .u32 x, .int .u8 y] 35) hu
  clear hu
  go_enter Try.func43, Try.ntmps43
  go_wp2
  go_ret
  exact ⟨rfl, rfl⟩
set_option maxHeartbeats 2000000 in
theorem seq_index (A0 : Option Addr) (c0 : Nat) (l0 : List S35) (u : Int) (B : Nat) (w : World) (hr0 : Kd.C k35 w A0 l0.length l0) (hB : w.cell? ⟨B, 0, none⟩ = some (.int .u32 u)) (hm : l0.length ≤ 9223372036854775807) :
    Calls Try.prog 42 #[.slice A0 l0.length c0, .func (.func 43) #[] #[.pointer (some ⟨B, 0, none⟩)]] w fun e w' => e = .returned (.int .i64 (fnd l0 u)) ∧ Below w.heap.size w w' := by
  have eg := enters_of Try.func43 (by kernel_rfl) rfl
  have HR := Aside0.mk hr0
  have HB := Aside0.mk hB
  clear hr0 hB
  go_enter Try.func42, Try.ntmps42
  go_wp2
  go_loopw [8] (fun v8 wr => ∃ k : Nat, k ≤ l0.length ∧ v8 = .int .i64 k ∧ Aside0 (Below w.heap.size w wr) ∧ Aside0 (∀ j : Nat, j < k → (l0.getD j z35).f0 ≠ u)) (fun v8 _ => l0.length - (intOf v8).toNat)
  case atStart => exact ⟨0, Nat.zero_le _, rfl, ⟨Below.refl _ _⟩, ⟨fun j hj => absurd hj (Nat.not_lt_zero _)⟩⟩
  case round =>
    obtain ⟨k, hk, rfl, HW, HN⟩ := hrel
    by_cases hlt : k < l0.length
    · have hlo : (0 : Int) ≤ (k : Int) := by omega
      have hhi : (k : Int) < (l0.length : Int) := by omega
      obtain ⟨ad, rfl, hx0, hx1⟩ := at_T35 (Kd.C_below HR.out HW.out) (k : Int) hlo hhi
      rw [Int.toNat_natCast] at hx0 hx1
      have hb2 : wr.cell? ⟨B, 0, none⟩ = some (.int .u32 u) := (HW.out.cell (p := ⟨B, 0, none⟩) (lt_of_cell0 HB.out)).trans HB.out
      have hp := seq_pred wr (rd_T35 l0 k).f0 (rd_T35 l0 k).f1 u B hb2
      by_cases he : (rd_T35 l0 k).f0 = u
      · rw [show ((rd_T35 l0 k).f0 == u) = true from beq_iff_eq.2 he] at hp
        have HP := Aside0.mk hp
        have HE := Aside0.mk he
        clear hp hb2 he
        go_wp2_with (go_at_call 43; refine HP.out.mono ?_; rintro e w2 ⟨rfl, rfl⟩)
        go_ret
        exact ⟨by rw [fnd_hit u l0 k hlt HN.out (by simpa [rd_T35] using HE.out)]; first | done | rfl, HW.out.alloc HW.out.size _⟩
      · rw [show ((rd_T35 l0 k).f0 == u) = false from beq_eq_false_iff_ne.2 he] at hp
        have HP := Aside0.mk hp
        have HE := Aside0.mk he
        clear hp hb2 he
        go_wp2_with (go_at_call 43; refine HP.out.mono ?_; rintro e w2 ⟨rfl, rfl⟩)
        go_roundw
        case rel => exact ⟨k + 1, by omega, by go_num, ⟨HW.out.alloc HW.out.size _⟩, ⟨fun j hj => by
          by_cases e : j = k
          · subst e; simpa [rd_T35] using HE.out
          · exact HN.out j (by omega)⟩⟩
        case measure => simp [intOf]; omega
    · obtain rfl : k = l0.length := by omega
      go_wp2
      go_ret
      exact ⟨by rw [fnd_miss u l0 HN.out]; rfl, HW.out⟩
theorem list_List_Seq.calls (A0 : Option Addr) (c0 : Nat) (l0 : List S35) (a1 : Int) (r : Int) (w : World) (hr0 : Kd.C k35 w A0 l0.length l0) (_hc0 : l0.length ≤ c0) (h : list_List_Seq.f l0 a1 = some r) :
    Calls Try.prog 19 #[.slice A0 l0.length c0, .int .u32 a1] w fun e w' => e = .returned (.int .i64 r) ∧ Below w.heap.size w w' := by
  obtain rfl := Option.some.inj h
  have hm : l0.length ≤ 9223372036854775807 := hr0.2.1
  have hb : Below w.heap.size w (w.alloc (.cells #[.int .u32 a1] 32)) := (Below.refl _ w).alloc (Nat.le_refl _) _
  have hi := seq_index A0 c0 l0 a1 w.heap.size (w.alloc (.cells #[.int .u32 a1] 32)) (Kd.C_below hr0 hb) (by simp [go_sem]) hm
  have HI := Aside0.mk hi
  have HB := Aside0.mk hb
  clear hi hb hr0
  have hf := fnd_le l0 a1
  go_enter Try.func19, Try.ntmps19
  go_wp2_with (go_at_call 42; refine HI.out.mono ?_; rintro e w2 ⟨rfl, hb2⟩)
  go_ret
  exact ⟨by simp, HB.out.trans (hb2.mono (by simp))⟩
def list_Entry_40.f (l : List S35) : Option (List S35) := if l.length * 8 ≤ 140737488355328 then some l else none
set_option maxHeartbeats 4000000 in
set_option maxRecDepth 100000 in
theorem list_Entry_40.calls (A0 : Option Addr) (c0 : Nat) (l0 : List S35) (r : List S35) (w : World) (hr0 : Kd.C k35 w A0 l0.length l0) (_hc0 : l0.length ≤ c0) (h : list_Entry_40.f l0 = some r) :
    Calls Try.prog 40 #[.slice A0 l0.length c0] w fun e w' => ∃ v0_ : Value, e = .returned v0_ ∧ Kd.R k35 35 w' w.heap.size (fun _ => True) v0_ r ∧ Below w.heap.size w w' := by
  have hu := Try.underlying35
  unfold list_Entry_40.f at h
  by_cases hb : l0.length * 8 ≤ 140737488355328
  · rw [if_pos hb] at h
    obtain rfl := Option.some.inj h
    clear h
    rcases A0 with _ | ad
    · have h0 : l0 = [] := by
        rcases Nat.eq_zero_or_pos l0.length with e | e
        · exact List.eq_nil_of_length_eq_zero e
        · obtain ⟨ad, e2, _⟩ := hr0.2.2 e
          cases e2
      subst h0
      have hq : ∀ w, (binOp .eql 26 (.slice none 0 c0) (.slice none 0 0)).run Try.prog w = .ok (.bool true) w := fun w => by rw [Go.Lib.run_eql_slice_nil w 26 35 _ _ _ _ _ Try.underlying26]; rfl
      clear hr0
      go_enter Try.func40, Try.ntmps40
      go_wp2
      go_ret
      exact ⟨_, rfl, Kd.R_nil _ _ _ _ _, Below.refl _ _⟩
    · have hq : ∀ w, (binOp .eql 26 (.slice (some ad) l0.length c0) (.slice none 0 0)).run Try.prog w = .ok (.bool false) w := fun w => by rw [Go.Lib.run_eql_slice_nil w 26 35 _ _ _ _ _ Try.underlying26]; rfl
      have HR0 := Aside0.mk hr0
      have HL := Aside0.mk hb
      clear hr0 hb
      go_enter Try.func40, Try.ntmps40
      go_wp2_with (first
        | ((with_reducible refine gate_dst (N := 5) rfl ?_); refine Kd.R_lit k35 _ 35 ?hg (N := 5) ?hd (xs := ([] : List S35)) (inner := []) (ok := fun _ => True) (okp := fun _ => True) ?hr ?hp (fun _ hk => hk) trivial (Below.refl _ _) (Nat.le_refl _) (by simp) ?_; (case hd => rfl); (case hg => rfl); (case hr => first | (go_simp; done) | (go_simp; rfl)); (case hp => exact (Reps.none _ _)); intro v1 w1 ho1 hb1 hg1 hn1; have HO1 := Aside0.mk ho1; have HB1 := Aside0.mk hb1; clear ho1 hb1 hg1 hn1)
        | ((with_reducible refine gate_builtin (b := .append) (xs := #[.tmp 5, .tmp 6]) rfl ?_); at_builtin; refine Kd.R_append_rows k35 (w0 := w) w.heap.size rfl (.tmp 5) (.tmp 6) 26 35 (.agg #[(.int .u32 0), (.int .u8 0)]) 8 rfl Try.underlying26 info35 rfl (by decide) (by omega) v1 [] l0 _ _ _ (fun _ => True) (fun _ => False) rfl rfl ?aO ?aR (fun _ _ h => h) (fun _ h => h.elim) ?aF ?aB ?aS ?aL ?_; (case aR => exact Kd.C_below HR0.out HB1.out); (case aB => exact HB1.out); (case aF => exact (fun _ _ => trivial)); (case aO => exact HO1.out); (case aS => exact HB1.out.size); (case aL => have := HL.out; simpa using this); intro v2 w2 ho2 hb2 hg2 ha2; have HO2 := Aside0.mk ho2; have HB2 := Aside0.mk hb2; clear ho2 hb2 hg2 ha2))
      go_ret
      exact ⟨_, rfl, HO2.out, HB2.out⟩
  · rw [if_neg hb] at h
    cases h
theorem heap_setCells_at {g t : Nat} {fr : Nat × Nat} : ∀ (vs : List Value) (o : Nat) (w : World) (cur : Array Value), w.heap[g]? = some (.cells cur t fr) → o + vs.length ≤ cur.size →
    ∃ cur2 : Array Value, (w.setCells g o vs).heap[g]? = some (.cells cur2 t fr) ∧ cur2.size = cur.size ∧ ∀ k : Nat, cur2[k]? = if o ≤ k ∧ k < o + vs.length then vs[k - o]? else cur[k]?
  | [], o, w, cur, h, _ => ⟨cur, h, rfl, fun k => by simp; omega⟩
  | v :: vs, o, w, cur, h, hl => by
    have hl2 : o + 1 + vs.length ≤ cur.size := by simp at hl; omega
    have h1 : (w.setCell ⟨g, o, none⟩ v).heap[g]? = some (.cells (cur.setIfInBounds o v) t fr) := by
      simp [World.setCell, Array.getElem?_modify, h]
    obtain ⟨cur2, h2, h3, h4⟩ := heap_setCells_at vs (o + 1) (w.setCell ⟨g, o, none⟩ v) (cur.setIfInBounds o v) h1 (by simpa using hl2)
    refine ⟨cur2, h2, by simpa using h3, fun k => ?_⟩
    rw [h4 k]
    by_cases e : k = o
    · subst e
      rw [if_neg (by omega), if_pos (by simp)]
      simp [Array.getElem?_setIfInBounds]
      omega
    · by_cases e2 : o + 1 ≤ k ∧ k < o + 1 + vs.length
      · rw [if_pos e2, if_pos (by simp; omega)]
        obtain ⟨q, rfl⟩ : ∃ q, k = o + 1 + q := ⟨k - (o + 1), by omega⟩
        rw [show o + 1 + q - (o + 1) = q by omega, show o + 1 + q - o = q + 1 by omega]
        simp
      · rw [if_neg e2, if_neg (by simp; omega)]
        rw [Array.getElem?_setIfInBounds, if_neg (by omega)]
theorem setCells_far (g : Nat) : ∀ (vs : List Value) (o : Nat) (w : World), (w.setCells g o vs).os = w.os ∧ (w.setCells g o vs).tape = w.tape ∧ (w.setCells g o vs).output = w.output ∧ ∀ k, k ≠ g → (w.setCells g o vs).heap[k]? = w.heap[k]?
  | [], _, _ => ⟨rfl, rfl, rfl, fun _ _ => rfl⟩
  | v :: vs, o, w => by
    obtain ⟨h1, h2, h3, h4⟩ := setCells_far g vs (o + 1) (w.setCell ⟨g, o, none⟩ v)
    exact ⟨h1, h2, h3, fun k hk => (h4 k hk).trans (Below.heap_setCell w ⟨g, o, none⟩ v k hk)⟩
theorem heap_setCells_size (g : Nat) : ∀ (vs : List Value) (o : Nat) (w : World), (w.setCells g o vs).heap.size = w.heap.size
  | [], _, _ => rfl
  | v :: vs, o, w => (heap_setCells_size g vs (o + 1) (w.setCell ⟨g, o, none⟩ v)).trans (by simp [World.setCell])
def list_Entry_54.f (l : List S35) (i j : Int) : Option (List S35) := if 0 ≤ i ∧ j = i + 1 ∧ j ≤ l.length ∧ l.length ≤ 1000000000 then some (l.take i.toNat ++ l.drop j.toNat) else none
set_option maxHeartbeats 4000000 in
set_option maxRecDepth 100000 in
theorem list_Entry_54.calls (P0_ : Nat → Prop) (u9000_ : Value) (l0 : List S35) (a1 a2 : Int) (r : List S35) (w0 w : World) (hB : Below w0.heap.size w0 w) (ho0 : Kd.R k35 35 w w0.heap.size P0_ u9000_ l0) (h : list_Entry_54.f l0 a1 a2 = some r) :
    Calls Try.prog 54 #[u9000_, .int .i64 a1, .int .i64 a2] w fun e w' => ∃ v0_ : Value, e = .returned v0_ ∧ Kd.R k35 35 w' w0.heap.size (fun k_ => (P0_ k_ ∨ w.heap.size ≤ k_)) v0_ r ∧ Below w0.heap.size w0 w' ∧ Kept w w' (fun k_ => P0_ k_) := by
  have hu := Try.underlying35
  unfold list_Entry_54.f at h
  by_cases hc : 0 ≤ a1 ∧ a2 = a1 + 1 ∧ a2 ≤ l0.length ∧ l0.length ≤ 1000000000
  · rw [if_pos hc] at h
    obtain rfl := Option.some.inj h
    clear h
    obtain ⟨c0, c1, c2, c3⟩ := hc
    obtain ⟨i, rfl⟩ : ∃ i : Nat, a1 = i := ⟨a1.toNat, by omega⟩
    obtain ⟨j, rfl⟩ : ∃ j : Nat, a2 = j := ⟨a2.toNat, by omega⟩
    have hij : j = i + 1 := by omega
    have hin : i < l0.length := by omega
    clear c1
    rw [Int.toNat_natCast, Int.toNat_natCast]
    obtain ⟨hP, inner, ⟨hlen, hcase⟩, hreps⟩ := ho0
    rcases hcase with ⟨_, h0⟩ | ⟨g, cap, cur, rfl, hg0, hg, hnc, hcm, hcs, hpre⟩
    · omega
    obtain ⟨i0, hi0, hii⟩ := Option.map_eq_some_iff.1 info35
    simp only [Prod.mk.injEq] at hii
    obtain ⟨_, hz1, _⟩ := hii
    have hlen : inner.length = l0.length * 2 := hlen
    have hcs : cur.size = cap * 2 := hcs
    have hpre : cur.toList.take (l0.length * 2) = inner := hpre
    have hcm2 : cap ≤ 9223372036854775807 := by simpa [maxLen] using hcm
    have hcur : ∀ k : Nat, k < l0.length * 2 → cur[k]? = inner[k]? := fun k hk => by
      rw [← hpre, List.getElem?_take_of_lt hk, Array.getElem?_toList]
    have hcell : ∀ k : Nat, w.cell? ⟨g, k, none⟩ = cur[k]? := fun k => by simp [World.cell?, hg]
    have hfree : ∀ k : Nat, w.frozen? ⟨g, k, none⟩ = false := fun k => by simp [World.frozen?, hg]
    obtain ⟨news, hnews⟩ : ∃ news, news = inner.drop (j * 2) := ⟨_, rfl⟩
    have hnl : news.length = (l0.length - j) * 2 := by rw [hnews, List.length_drop, hlen]; omega
    obtain ⟨A, hA, hsrc⟩ : ∃ A : Addr, (if cap = j then some (⟨g, 0, none⟩ : Addr) else some ⟨g, j * 2, none⟩) = some A ∧ Hid (∀ t u, news[t]? = some u → w.drew.cell? (A.add t) = some u) := by
      by_cases hx : cap = j
      · refine ⟨⟨g, 0, none⟩, by simp [hx], fun t u hu => ?_⟩
        have := (List.getElem?_eq_some_iff.1 hu).1
        omega
      · refine ⟨⟨g, j * 2, none⟩, by simp [hx], fun t u hu => ?_⟩
        have ht := (List.getElem?_eq_some_iff.1 hu).1
        rw [Addr.add_lit]
        show w.cell? ⟨g, j * 2 + t, none⟩ = some u
        rw [hcell, hcur _ (by omega), ← hu, hnews, List.getElem?_drop]
    have s2 : Hid (∀ u ∈ news, u.oneCell' = true) := by
      intro u hu
      rw [hnews] at hu
      exact Kd.reps_one hreps (by decide) (fun p c hk u hu => by obtain rfl := k35_openM hk; simp at hu; rcases hu with rfl | rfl <;> rfl) u (List.mem_of_mem_drop hu)
    have s3 : Hid (∀ t, t < news.length → (w.drew.cell? ⟨g, 0 + i * 2 + t, none⟩).isSome = true ∧ w.drew.frozen? ⟨g, 0 + i * 2 + t, none⟩ = false) := by
      intro t ht
      refine ⟨?_, hfree _⟩
      show (w.cell? _).isSome = true
      rw [hcell, Array.getElem?_eq_getElem (by omega)]
      rfl
    obtain ⟨W1, hW1⟩ : ∃ W1, W1 = w.drew.setCells g (0 + i * 2) news := ⟨_, rfl⟩
    obtain ⟨cur1, hg1, hs1, hk1⟩ := heap_setCells_at (g := g) (t := 35) (fr := (0, 0)) news (0 + i * 2) w.drew cur hg (by omega)
    rw [← hW1] at hg1
    have hcell1 : ∀ k : Nat, W1.cell? ⟨g, k, none⟩ = cur1[k]? := fun k => by simp [World.cell?, hg1]
    have hfree1 : ∀ k : Nat, W1.frozen? ⟨g, k, none⟩ = false := fun k => by simp [World.frozen?, hg1]
    have hcl : ∀ ty, (Builtin.clear_ #[26] ty #[.slice (some ⟨g, (i + (l0.length - j)) * 2, none⟩) (l0.length - (i + (l0.length - j))) (cap - (i + (l0.length - j)))]).run Try.prog W1 = .ok (.tuple #[]) (W1.setCells g ((i + (l0.length - j)) * 2) [.int .u32 0, .int .u8 0]) := by
      intro ty
      have hz : (Builtin.zeroCells (Value.agg #[(.int .u32 0), (.int .u8 0)]).cells 1).toList = [.int .u32 0, .int .u8 0]  := by
        simp [Builtin.zeroCells, Value.cells]
        rfl
      have hst := run_storeCells_cells (P := Try.prog) g ((i + (l0.length - j)) * 2) [.int .u32 0, .int .u8 0] 0 W1
        (fun q hq => by rw [hcell1, Array.getElem?_eq_getElem (by simp at hq; omega)]; rfl) (fun q hq => hfree1 _) (fun v hv => by simp at hv; rcases hv with rfl | rfl <;> rfl)
      simp only [Nat.add_zero] at hst
      rw [show l0.length - (i + (l0.length - j)) = 1 by omega]
      simp [Builtin.clear_, run_underlying Try.underlying26, Try.zeroValue35, hz, hst]
    obtain ⟨W2, hW2⟩ : ∃ W2, W2 = W1.setCells g ((i + (l0.length - j)) * 2) [.int .u32 0, .int .u8 0] := ⟨_, rfl⟩
    obtain ⟨cur2, hg2, hs2, hk2⟩ := heap_setCells_at (g := g) (t := 35) (fr := (0, 0)) [.int .u32 0, .int .u8 0] ((i + (l0.length - j)) * 2) W1 cur1 hg1 (by simp; omega)
    rw [← hW2] at hg2 hcl
    have hz2 : W2.heap.size = w.heap.size := by rw [hW2, heap_setCells_size, hW1, heap_setCells_size]; rfl
    have hfar : ∀ k, k < w.heap.size → k ≠ g → W2.heap[k]? = w.heap[k]? := fun k hk hne => by
      rw [hW2, (setCells_far g _ _ W1).2.2.2 k hne, hW1, (setCells_far g _ _ w.drew).2.2.2 k hne]
      rfl
    have hos : W2.os = w.os ∧ W2.tape = w.tape ∧ W2.output = w.output := by
      have k1 := setCells_far g news (0 + i * 2) w.drew
      have k2 := setCells_far g [.int .u32 0, .int .u8 0] ((i + (l0.length - j)) * 2) W1
      rw [← hW1] at k1
      rw [← hW2] at k2
      exact ⟨k2.1.trans k1.1, k2.2.1.trans k1.2.1, k2.2.2.1.trans k1.2.2.1⟩
    have hfin : Kd.R k35 35 W2 w0.heap.size (fun k_ => (P0_ k_ ∨ w.heap.size ≤ k_)) (.slice (some ⟨g, 0, none⟩) (i + (l0.length - j)) cap) (l0.take i ++ l0.drop j) := by
      have hln : (l0.take i ++ l0.drop j).length = i + (l0.length - j) := by simp; omega
      have hr1 : Reps (k35.M W2 w0.heap.size (fun k => (P0_ k ∨ w.heap.size ≤ k) ∧ some k ≠ (Value.slice (some ⟨g, 0, none⟩) (i + (l0.length - j)) cap).ownBlock)) 2 (l0.take i ++ l0.drop j) (inner.take (i * 2) ++ inner.drop (j * 2)) :=
        (Kd.reps_append (Kd.reps_take hreps (by omega)) (Kd.reps_drop hreps)).imp_ (fun p c hk => by obtain rfl := k35_openM hk; exact k35_mkM _ _ _ p)
      refine ⟨fun k hk => .inl (hP k hk), inner.take (i * 2) ++ inner.drop (j * 2), ⟨hr1.1, .inr ⟨g, cap, cur2, by rw [hln], hg0, hg2, by omega, hcm, by rw [hs2, hs1]; exact hcs, ?_⟩⟩, hr1⟩
      rw [hln]
      show cur2.toList.take ((i + (l0.length - j)) * 2) = _
      apply List.ext_getElem?
      intro k
      by_cases hk : k < (i + (l0.length - j)) * 2
      · rw [List.getElem?_take_of_lt hk, Array.getElem?_toList, hk2 k, if_neg (by omega), hk1 k]
        by_cases hki : k < i * 2
        · rw [if_neg (by omega), hcur k (by omega), List.getElem?_append_left (by simp; omega), List.getElem?_take_of_lt hki]
        · rw [if_pos (by omega), hnews, List.getElem?_append_right (by simp; omega), List.getElem?_drop, List.getElem?_drop, List.length_take]
          congr 1
          omega
      · rw [List.getElem?_eq_none (by simp; omega), List.getElem?_eq_none (by simp; omega)]
    have HCL := Aside0.mk hcl
    have HFIN := Aside0.mk hfin
    have HFAR := Aside0.mk hfar
    have HOS := Aside0.mk hos
    have HZ2 := Aside0.mk hz2
    clear hW2 hk2 hs2 hg2 hfin hfar hos hz2 hg1 hs1 hk1 hcell1 hfree1
    have hlo : (0 : Int) ≤ (i : Int) := by omega
    have hic : i ≤ cap := by omega
    have hjn : j ≤ l0.length := by omega
    have hne : ¬ i = j := by omega
    have hjc : j ≤ cap := by omega
    have HW1 := Aside0.mk hW1
    have HNL := Aside0.mk hnl
    have HI0 := Aside0.mk hi0
    have HZ1 := Aside0.mk (show i0.size = 2 from hz1)
    have HG := Aside0.mk hg
    have HREP := Aside0.mk hreps
    have HLEN := Aside0.mk hlen
    have HCUR := Aside0.mk hcur
    have HCS := Aside0.mk hcs
    have HP := Aside0.mk hP
    have HNW := Aside0.mk hnews
    have HIJ := Aside0.mk hij
    have hji : (i : Int) < (j : Int) := by omega
    have hjn2 : (j : Int) ≤ (l0.length : Int) := by omega
    have hdif : i + (l0.length - j) < l0.length := by omega
    clear hij c2 hnews
    clear hW1 hcell hfree hcur hpre hcs hg hreps hlen hcm hP hi0 hz1 hnl
    go_enter Try.func54, Try.ntmps54
    go_wp2_with fail
    go_region_law
    (refine step_append_room (by rfl) (.tmp 22) (.tmp 25) 26 (by rfl) 35 i0 2 Try.underlying26 HI0.out HZ1.out g 0 i cap (by simp [Act.eval, Act.put]) A (l0.length - j) (cap - j) news (by simp [Act.eval, Act.put]) HNL.out hsrc.out s2.out (by omega) s3.out ?_; rw [← HW1.out])
    go_wp2
    go_ret
    refine ⟨_, rfl, HFIN.out, ?_, ?_⟩
    · refine ⟨HOS.out.1.trans hB.os, HOS.out.2.1.trans hB.tape, HOS.out.2.2.trans hB.output, by rw [HZ2.out]; exact hB.size, fun k hk => ?_⟩
      exact (HFAR.out k (by have := hB.size; omega) (by omega)).trans (hB.block k hk)
    · exact ⟨by rw [HZ2.out]; exact Nat.le_refl _, fun k hk hn => HFAR.out k hk (fun e => hn (HP.out k (by rw [e]; rfl)))⟩
  · rw [if_neg hc] at h
    cases h
end Go.Proofs.Ytlklegdaeffcpaa.PList

/- Package token: Upper. No condition but those that each contract bears. -/
import Derived.Test.YtphaemaccdddfaaDoorBytes
import Derived.Test.YtphaemaccdddfaaDoorRows
import Derived.WalkKit
import Derived.Below
import Derived.ProofKit
import Derived.Shelf.Abstract
import Derived.OwnWalk
import Derived.Deep.Draws
import Derived.LoopTactic
import Derived.Lib.ConvBytes
import Derived.Laws.IdiomStrings
set_option linter.unusedVariables false
set_option linter.unusedSimpArgs false
namespace Go.Proofs.YtphaemaccdddfaaDoor
open Go.RowKit Go.Shelf
def upB (c : UInt8) : UInt8 := if 97 ≤ c.toNat ∧ c.toNat ≤ 122 then UInt8.ofNat (c.toNat - 32) else c
def upS (s : ByteArray) : ByteArray := ⟨(s.data.toList.map upB).toArray⟩
theorem up_byte (c : UInt8) : ((upB c).toNat : Int) = if 97 ≤ (c.toNat : Int) ∧ (c.toNat : Int) ≤ 122 then (c.toNat : Int) - 32 else (c.toNat : Int) := by
  unfold upB
  by_cases h : 97 ≤ c.toNat ∧ c.toNat ≤ 122
  · rw [if_pos h, if_pos (by omega)]
    have : (UInt8.ofNat (c.toNat - 32)).toNat = c.toNat - 32 := by rw [UInt8.toNat_ofNat']; omega
    rw [this]; omega
  · rw [if_neg h, if_neg (by omega)]
set_option maxRecDepth 100000 in
set_option maxHeartbeats 1000000 in
theorem upper_any (s : ByteArray) (w : World) (hs : s.size ≤ 140737488351232) :
    Calls Tryd.prog 30 #[.string s] w fun e w' => e = .returned (.string (upS s)) ∧ Below w.heap.size w w' := by
  have hsz : s.data.toList.length = s.size := by simp
  have hk := Lib.run_convert_string_bytes (P := Tryd.prog) w 9 39 5 s Tryd.underlying9 Tryd.underlying39 Tryd.underlying5
  have hB := bytes_new w s
  obtain ⟨w1, hw1⟩ : ∃ w1, Lib.bytesWorld w 5 s = w1 := ⟨_, rfl⟩
  obtain ⟨cap, hcap⟩ : ∃ cap, grownCap w s.size 0 5 = cap := ⟨_, rfl⟩
  rw [hw1] at hk hB
  rw [hcap] at hk
  obtain ⟨b, hb⟩ : ∃ b, w.heap.size = b := ⟨_, rfl⟩
  have HB : Hd (BytesAt w w1 b (mapK upB s.data.toList 0)) := ⟨by rw [← hb]; exact hB.of rfl⟩
  rw [hb] at hk
  have HN : Hd _ := ⟨hb⟩
  clear hw1 hcap hB hb
  go_enter Tryd.func30, Tryd.ntmps30
  go_wp2
  clear hk
  have hsb : s.size ≤ 140737488351232 := hs
  go_loopw [10] (fun i wr => ∃ k : Nat, k ≤ s.size ∧ i = .int .i64 k ∧ Hd (BytesAt w wr b (mapK upB s.data.toList k))) (fun i _ => s.size - (intOf i).toNat)
  case atStart => exact ⟨0, Nat.zero_le _, rfl, HB⟩
  case round =>
    obtain ⟨k, hk, rfl, HR⟩ := hrel
    clear HB
    by_cases hlt : k < s.size
    · have hlk : k < s.data.toList.length := by omega
      have c0 := HR.out.cell k (by rw [mapK_length]; exact hlk)
      have f0 := HR.out.free k (by rw [mapK_length]; exact hlk)
      have e1 : (mapK upB s.data.toList k)[k]'(by rw [mapK_length]; exact hlk) = s.data.toList[k] := by
        have := Option.some.inj ((List.getElem?_eq_getElem (l := mapK upB s.data.toList k) (i := k) (by rw [mapK_length]; exact hlk)).symm.trans (mapK_get upB s.data.toList k k hlk))
        rw [if_neg (by omega)] at this
        exact this
      rw [e1] at c0
      have hlow := up_byte s.data.toList[k]
      have hput := HR.out.putM hlk
      have hsame := HR.out.sameM hlk
      obtain ⟨ch, hch⟩ : ∃ ch, s.data.toList[k] = ch := ⟨_, rfl⟩
      rw [hch] at c0 hlow hput hsame
      have hz255 : (ch.toNat : Int) ≤ 255 := by have := ch.toNat_lt; omega
      have hz0 : (0 : Int) ≤ (ch.toNat : Int) := by omega
      obtain ⟨z, hz⟩ : ∃ z : Int, (ch.toNat : Int) = z := ⟨_, rfl⟩
      rw [hz] at c0 hlow hz255 hz0
      have hlo : (0 : Int) ≤ (k : Int) := by omega
      have hhi : (k : Int) < (s.size : Int) := by omega
      by_cases hr : 97 ≤ z ∧ z ≤ 122
      · rw [if_pos hr] at hlow
        rw [hlow] at hput
        have HP : Hd _ := ⟨hput⟩
        obtain ⟨hr1, hr2⟩ := hr
        clear e1 hlow hput hsame hch hz
        go_wp2
        go_roundw
        case rel => exact ⟨k + 1, by omega, by go_num, ⟨by first | exact HP.out | (have h3 := HP.out; rw [show z - 32 = z - 97 + 65 by omega] at h3; exact h3)⟩⟩
        case measure => simp [intOf]; omega
      · rw [if_neg hr] at hlow
        have heq : upB ch = ch := by
          apply UInt8.toNat_inj.1
          omega
        have HP : Hd _ := ⟨hsame heq⟩
        clear e1 hlow hput hsame hch hz heq
        by_cases hr1 : 97 ≤ z
        · have hr2 : ¬ z ≤ 122 := fun e => hr ⟨hr1, e⟩
          clear hr
          go_wp2
          go_roundw
          case rel => exact ⟨k + 1, by omega, by go_num, HP⟩
          case measure => simp [intOf]; omega
        · clear hr
          go_wp2
          go_roundw
          case rel => exact ⟨k + 1, by omega, by go_num, HP⟩
          case measure => simp [intOf]; omega
    · obtain rfl : k = s.size := by omega
      have hl : mapK upB s.data.toList s.size = s.data.toList.map upB := by
        unfold mapK
        rw [← hsz, List.take_length, List.drop_length, List.append_nil]
      rw [hl] at HR
      have hlen : (s.data.toList.map upB).length = s.size := by rw [List.length_map, hsz]
      have hback := run_convert_bytes_back (P := Tryd.prog) wr 39 9 5 ⟨b, 0, none⟩ cap (s.data.toList.map upB) Tryd.underlying39 Tryd.underlying5 Tryd.underlying9 (fun j hj => by
        rw [add_off, Nat.zero_add]
        exact HR.out.cell j hj)
      rw [hlen] at hback
      go_wp2
      go_ret
      exact ⟨rfl, HN.out ▸ HR.out.below⟩
end Go.Proofs.YtphaemaccdddfaaDoor

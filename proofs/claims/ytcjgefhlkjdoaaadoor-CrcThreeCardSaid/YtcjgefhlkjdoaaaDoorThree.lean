/-
  PROVED HERE: the walk of CrcThree returns true and writes nothing that was there.
  Conditions: the table lies in its variable.
-/
import Derived.Test.YtcjgefhlkjdoaaaDoorThreeLast
import Derived.Laws.OwnMore
import Derived.Deep.DeepCutAuto
import Derived.Deep.RegionHeld3
import Derived.RegionTactic
namespace Go.Proofs.YtcjgefhlkjdoaaaDoor
open Go.RowKit Crc

theorem sx_drewn {w w' : World} {B n : Nat} {l : List UInt8} (h : SX w B n l w') : SX w B n l { w' with drawn := w'.drawn + 1 } := ⟨h.cells, h.len, h.tab, h.below.drew⟩

theorem none_listed (n i : Nat) : (Array.replicate n false).getD i false = false := by
  by_cases h : i < n <;> simp [h]

attribute [local go_sem] bits_num
set_option maxHeartbeats 40000000 in
theorem three_walk (a b c : ByteArray) (w : World) (ha : a.size ≤ maxLen) (hb : b.size ≤ maxLen) (hc : c.size ≤ maxLen) (ht : Tab w) :
    Calls Tryd.prog 7 #[.string a, .string b, .string c] w fun e w' => e = .returned (.bool true) ∧ Below w.heap.size w w' := by
  unfold maxLen at ha hb hc
  have HT := Lib.hid ht; clear ht
  obtain ⟨i0, hi, hz0, hz1, hz2⟩ := info_parts info5
  go_enter Tryd.func7, Tryd.ntmps7
  go_wp2_with fail
  refine (awake_any _ HT.out).mono ?_; rintro e w1 ⟨rfl, hbb⟩
  have HB := Lib.hid hbb; clear hbb
  have HT1 := Lib.hid (tab_below HB.out (tab_pos HT.out) HT.out)
  go_upto_if 17 with fail
  go_cut [8] (fun v wx => w1 = wx ∧ ∃ m : Nat, v = .int .i64 m ∧ m ≤ a.size ∧ m ≤ b.size)
  case first =>
    by_cases h : b.size < a.size
    · go_wp2_with fail
      go_meet
      case rel => exact ⟨rfl, b.size, rfl, by omega, by omega⟩
    · go_wp2_with fail
      go_meet
      case rel => exact ⟨rfl, a.size, rfl, by omega, by omega⟩
  case rest =>
  obtain ⟨rfl, m1, rfl, h1a, h1b⟩ := hcut
  go_upto_if 23 with fail
  go_cut [8] (fun v wx => w1 = wx ∧ ∃ m : Nat, v = .int .i64 m ∧ m ≤ a.size ∧ m ≤ b.size ∧ m ≤ c.size)
  case first =>
    by_cases h : c.size < m1
    · go_wp2_with fail
      go_meet
      case rel => exact ⟨rfl, c.size, rfl, by omega, by omega, by omega⟩
    · go_wp2_with fail
      go_meet
      case rel => exact ⟨rfl, m1, rfl, by omega, by omega, by omega⟩
  case rest =>
  obtain ⟨rfl, m2, rfl, h2a, h2b, h2c⟩ := hcut
  go_upto_if 27 with fail
  go_cut [8] (fun v wx => w1 = wx ∧ ∃ m : Nat, v = .int .i64 m ∧ m ≤ a.size ∧ m ≤ b.size ∧ m ≤ c.size ∧ m ≤ 200)
  case first =>
    by_cases h : 200 < m2
    · go_wp2_with fail
      go_meet
      case rel => exact ⟨rfl, 200, rfl, by omega, by omega, by omega, by omega⟩
    · go_wp2_with fail
      go_meet
      case rel => exact ⟨rfl, m2, rfl, by omega, by omega, by omega, by omega⟩
  case rest =>
  obtain ⟨rfl, m, rfl, hma, hmb, hmc, hm⟩ := hcut
  clear h1a h1b h2a h2b h2c
  go_wp2_with (at_make; refine wpList_make_full w1 rfl _ _ 32 rfl w1.heap.size 5 i0 (.int .u8 0) 1 Tryd.underlying32 hi hz0 hz1 _ _ m m m rfl rfl rfl rfl ?c1 ?c2 (Nat.le_refl _) ?_)
  case c1 => rw [hz2]; omega
  case c2 => unfold maxLen; omega
  intro w2 hown hgrow
  rw [toList_madeCells_one] at hown
  have HNew := Lib.hid (holds8_made hown ((Below.refl _ _).grown hgrow (Nat.le_refl _) (fun k h => by cases h)) (Nat.le_refl _))
  clear hown hgrow
  go_wp2_with fail
  go_loopw [10] (fun i wr => ∃ k : Nat, k ≤ m ∧ i = .int .i64 k ∧ ∃ l : List UInt8, l.length = m ∧ Holds8 w1 w1.heap.size wr l ∧ ∀ j, j < k → l[j]? = some (xor3 a.data.toList b.data.toList c.data.toList j)) (fun i _ => m - (intOf i).toNat)
  case atStart => exact ⟨0, Nat.zero_le _, rfl, List.replicate m 0, by simp, HNew.out, fun j h => absurd h (by omega)⟩
  case round =>
    obtain ⟨k, hk, rfl, l, hl, hold, hdone⟩ := hrel
    have HLen := Lib.hid hl; clear hl
    have HDone := Lib.hid hdone; clear hdone
    by_cases hlt : k < m
    · have hka : k < a.size := by omega
      have hkb : k < b.size := by omega
      have hkc : k < c.size := by omega
      have hkl : k < l.length := by rw [HLen.out]; exact hlt
      have hcell := hold.2.2.1 k hkl
      have hfz := hold.2.2.2 k hkl
      have HOLD := Lib.hid hold; clear hold
      have i0' : (0 : Int) ≤ (k : Int) := by omega
      have ia : (k : Int) < (a.size : Int) := by omega
      have ib : (k : Int) < (b.size : Int) := by omega
      have ic : (k : Int) < (c.size : Int) := by omega
      have im : (k : Int) < (m : Int) := by omega
      go_wp2_with fail
      go_region
      all_goals go_wp2_with fail
      go_roundw
      case rel =>
        have hv := holds8_set HOLD.out k hkl (a[k] ^^^ b[k] ^^^ c[k])
        rw [← xor_u8, ← xor_u8] at hv
        refine ⟨k + 1, by omega, by go_num, l.set k (a[k] ^^^ b[k] ^^^ c[k]), by rw [List.length_set, HLen.out], holds8_drew hv, fun j hj => ?_⟩
        by_cases e : j = k
        · subst e
          rw [List.getElem?_set_self hkl, xor3_data a b c j hka hkb hkc]
        · rw [List.getElem?_set_ne (fun h => e h.symm)]
          exact HDone.out j (by omega)
      case measure => simp [intOf]; omega
    · obtain rfl : k = m := by omega
      have hl3 := three_done a.data.toList b.data.toList c.data.toList l k HLen.out (by simpa using hma) (by simpa using hmb) (by simpa using hmc) HDone.out
      have hadd := add_three (a.data.toList.take k) (b.data.toList.take k) (c.data.toList.take k) (by simp; omega) (by simp; omega)
      rw [← hl3, ← extract_list a, ← extract_list b, ← extract_list c, ← packed_list l] at hadd
      have hsz := packed_size l
      rw [HLen.out] at hsz
      have H0 : Hid (Conv1 w1.heap.size k l wr ∧ SX w w1.heap.size k l wr) := by
        have hbel := HB.out.trans (hold.1.mono HB.out.size)
        have k0 : SX w w1.heap.size k l wr := ⟨hold.2.2.1, HLen.out, tab_below hbel (tab_pos HT.out) HT.out, hbel⟩
        exact Lib.hid ⟨k0.conv, k0⟩
      have hea : (a.extract 0 k).size ≤ 200 := by simp; omega
      have heb : (b.extract 0 k).size ≤ 200 := by simp; omega
      have hec : (c.extract 0 k).size ≤ 200 := by simp; omega
      unfold Conv1 at H0
      clear hold hl3 HNew HDone
      obtain ⟨xl, hxl⟩ : ∃ x, packed l = x := ⟨_, rfl⟩
      obtain ⟨xa, hxa⟩ : ∃ x, a.extract 0 k = x := ⟨_, rfl⟩
      obtain ⟨xb, hxb⟩ : ∃ x, b.extract 0 k = x := ⟨_, rfl⟩
      obtain ⟨xc, hxc⟩ : ∃ x, c.extract 0 k = x := ⟨_, rfl⟩
      rw [hxl] at hsz H0
      rw [hxa] at hea; rw [hxb] at heb; rw [hxc] at hec
      rw [hxl, hxa, hxb, hxc] at hadd
      have heq : (num (add 0#32 xl.data.toList) == num (add 0#32 xa.data.toList ^^^ add 0#32 xb.data.toList ^^^ add 0#32 xc.data.toList)) = true := by rw [hadd]; simp
      clear hadd
      have HXL : Hid (xl.size ≤ maxLen) := Lib.hid (by unfold maxLen; omega)
      have HXA : Hid (xa.size ≤ maxLen) := Lib.hid (by unfold maxLen; omega)
      have HXB : Hid (xb.size ≤ maxLen) := Lib.hid (by unfold maxLen; omega)
      have HXC : Hid (xc.size ≤ maxLen) := Lib.hid (by unfold maxLen; omega)
      have HXX : Hid (Value.string xl = .string (packed l)) := Lib.hid (by rw [hxl])
      clear hsz hea heb hec hxl
      have i0' : (0 : Int) ≤ (k : Int) := by omega
      have ia : (k : Int) ≤ (a.size : Int) := by omega
      have ib : (k : Int) ≤ (b.size : Int) := by omega
      have ic : (k : Int) ≤ (c.size : Int) := by omega
      go_upto_region 14 with fail
      have hend : ∀ (a' : Act) (w' : World), a'.tmps.getD 6 undef = .bool true → a'.defers = [] → Below w.heap.size w w' → Code.wp Tryd.prog Code.ret (bodyPost Tryd.prog Tryd.f7 fun e w' => e = Ending.returned (Value.bool true) ∧ Below w.heap.size w w') a' w' := fun a' w' h6 hd hbel =>
        wp_ret (bodyPost_ret (v := .bool true) (by rw [results_tmp (t := 6) rfl, h6]) hd ⟨rfl, hbel⟩)
      refine last_walk (D := ⟨w, w1.heap.size, k, l, a, b, c, xl, xa, xb, xc⟩) ⟨?_, hxa, hxb, hxc, ia, ib, ic, HXL.out, HXA.out, HXB.out, HXC.out, heq⟩ rfl ⟨rfl, rfl, sx_drewn H0.out.2, rfl, rfl, rfl, rfl, rfl, rfl, rfl, fun i hi hl => ?_⟩ ?_
      · have := HXX.out; injection this
      · exfalso
        rw [none_listed] at hl
        cases hl
      · intro a' w' h6 hd hbel
        have hq := hend a' w' h6 hd hbel
        refine ‹∀ (a : Act) (w : World), Code.wp Tryd.prog Code.ret _ a w → _› a' w' ?_
        exact hq
end Go.Proofs.YtcjgefhlkjdoaaaDoor

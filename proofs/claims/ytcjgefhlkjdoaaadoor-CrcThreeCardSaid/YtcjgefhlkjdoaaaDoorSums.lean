/-
  PROVED HERE: the walk of CrcSums returns true and writes nothing that was there.
  Conditions: the table lies in its variable.
-/
import Derived.Test.YtcjgefhlkjdoaaaDoorAwake
namespace Go.Proofs.YtcjgefhlkjdoaaaDoor
open Go.RowKit Crc

theorem short2000 (s : ByteArray) (w : World) : Calls Tryd.prog 11 #[.string s, .int .i64 2000] w fun e w' => e = .returned (.string (cutS s 2000)) ∧ w = w' := short_any s 2000 w (by decide)
theorem short500 (s : ByteArray) (w : World) : Calls Tryd.prog 11 #[.string s, .int .i64 500] w fun e w' => e = .returned (.string (cutS s 500)) ∧ w = w' := short_any s 500 w (by decide)
theorem short300 (s : ByteArray) (w : World) : Calls Tryd.prog 11 #[.string s, .int .i64 300] w fun e w' => e = .returned (.string (cutS s 300)) ∧ w = w' := short_any s 300 w (by decide)
theorem short200 (s : ByteArray) (w : World) : Calls Tryd.prog 11 #[.string s, .int .i64 200] w fun e w' => e = .returned (.string (cutS s 200)) ∧ w = w' := short_any s 200 w (by decide)

theorem cut_max (s : ByteArray) (n : Nat) (h : n ≤ 4000) : (cutS s n).size ≤ maxLen := by
  have := cutS_le s n; unfold maxLen; omega

set_option maxHeartbeats 400000 in
theorem sums_walk (c : W) (s : ByteArray) (w : World) (_hs : s.size ≤ maxLen) (ht : Tab w) :
    Calls Tryd.prog 3 #[.int .u32 (num c), .string s] w fun e w' => e = .returned (.bool true) ∧ Below w.heap.size w w' := by
  have HT := Lib.hid ht; clear ht
  go_enter Tryd.func3, Tryd.ntmps3
  go_wp2_with fail
  refine (awake_any _ HT.out).mono ?_; rintro e w1 ⟨rfl, hb⟩
  have HB := Lib.hid hb; clear hb
  have HT1 := Lib.hid (tab_below HB.out (tab_pos HT.out) HT.out)
  go_wp2_with fail
  refine (short2000 _ _).mono ?_; rintro e w' ⟨rfl, rfl⟩
  have hx := cut_max s 2000 (by decide)
  generalize cutS s 2000 = x at *
  have HX := Lib.hid hx; clear hx
  go_wp2_with fail
  refine (of_one _ _ x _ (HX.out) (by rw [World.cell?_alloc_at _ _ _ _ (by simp)]; rfl) (tab_alloc HT1.out _)).mono ?_; rintro e w' ⟨rfl, rfl⟩
  go_wp2_with fail
  refine (refOf_any x _ HX.out).mono ?_; rintro e w' ⟨rfl, rfl⟩
  go_wp2_with fail
  refine (add_tab c x _ HX.out (tab_alloc HT1.out _)).mono ?_; rintro e w' ⟨rfl, rfl⟩
  go_wp2_with fail
  refine (refAdd_any c x _ HX.out).mono ?_; rintro e w' ⟨rfl, hw⟩
  subst hw
  go_wp2_with fail
  go_ret
  exact ⟨rfl, below_alloc HB.out _⟩
end Go.Proofs.YtcjgefhlkjdoaaaDoor

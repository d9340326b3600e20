/-
  PROVED HERE: the walk of CrcSteps returns true and writes nothing that was there.
  Conditions: the table lies in its variable.
-/
import Derived.Test.YtcjgefhlkjdoaaaDoorSums
namespace Go.Proofs.YtcjgefhlkjdoaaaDoor
open Go.RowKit Crc

theorem num_beq (a b : W) : (num a == num b) = decide (a = b) := by
  by_cases h : a = b
  · subst h; simp
  · have : num a ≠ num b := fun e => h (num_inj e)
    simp [h, this]
theorem add_beq (l : List UInt8) (a b : W) : (num (add a l) == num (add b l)) = decide (a = b) := by
  rw [num_beq]
  by_cases h : a = b
  · subst h; simp
  · have : add a l ≠ add b l := fun e => h (add_inj l e)
    simp [h, this]
theorem add_empty (a : W) (w : World) (ht : Tab w) : Calls Tryd.prog 14 #[.int .u32 (num a), .string ⟨#[]⟩] w fun e w' => e = .returned (.int .u32 (num a)) ∧ w = w' :=
  (add_tab a ⟨#[]⟩ w (by decide +kernel) ht).mono fun _ _ ⟨h1, h2⟩ => ⟨by rw [h1, show add a (⟨#[]⟩ : ByteArray).data.toList = a from add_nil a], h2⟩

set_option maxHeartbeats 400000 in
theorem steps_walk (a b : W) (s : ByteArray) (w : World) (_hs : s.size ≤ maxLen) (ht : Tab w) :
    Calls Tryd.prog 6 #[.int .u32 (num a), .int .u32 (num b), .string s] w fun e w' => e = .returned (.bool true) ∧ Below w.heap.size w w' := by
  have HT := Lib.hid ht; clear ht
  go_enter Tryd.func6, Tryd.ntmps6
  go_wp2_with fail
  refine (awake_any _ HT.out).mono ?_; rintro e w1 ⟨rfl, hb⟩
  have HB := Lib.hid hb; clear hb
  have HT1 := Lib.hid (tab_below HB.out (tab_pos HT.out) HT.out)
  go_wp2_with fail
  refine (short300 _ _).mono ?_; rintro e w' ⟨rfl, rfl⟩
  have hx := cut_max s 300 (by decide)
  generalize cutS s 300 = x at *
  have HX := Lib.hid hx; clear hx
  go_wp2_with fail
  refine (add_tab a x _ HX.out HT1.out).mono ?_; rintro e w' ⟨rfl, rfl⟩
  go_wp2_with fail
  refine (add_tab b x _ HX.out HT1.out).mono ?_; rintro e w' ⟨rfl, hw⟩
  subst hw
  have e1 := add_beq x.data.toList a b
  have e2 := num_beq a b
  by_cases hab : a = b
  · rw [decide_eq_true hab] at e1 e2; clear hab
    go_wp2_with fail
    refine (add_empty a _ HT1.out).mono ?_; rintro e w' ⟨rfl, hw⟩
    subst hw
    go_wp2_with fail
    go_ret
    exact ⟨rfl, HB.out⟩
  · rw [decide_eq_false hab] at e1 e2; clear hab
    go_wp2_with fail
    refine (add_empty a _ HT1.out).mono ?_; rintro e w' ⟨rfl, hw⟩
    subst hw
    go_wp2_with fail
    go_ret
    exact ⟨rfl, HB.out⟩
end Go.Proofs.YtcjgefhlkjdoaaaDoor

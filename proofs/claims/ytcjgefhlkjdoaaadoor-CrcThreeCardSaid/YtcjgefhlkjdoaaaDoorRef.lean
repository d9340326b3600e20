/-
  PROVED HERE: a call of the reference's Add tells the same sum.
  Conditions: the text is a string of the model.
-/
import Derived.Test.YtcjgefhlkjdoaaaDoorProg
import Derived.Test.YtcjgefhlkjdoaaaDoorBits
import Derived.WalkKit
import Derived.WalkSpells
import Derived.Lib.Hide
namespace Go.Proofs.YtcjgefhlkjdoaaaDoor
open Go.RowKit Crc

attribute [local go_sem] not_num xor_byte
theorem ret_num' {a b : W} (h : a = b) : Ending.returned (.int .u32 (num a)) = .returned (.int .u32 (num b)) := by rw [h]

set_option maxHeartbeats 400000 in
theorem refAdd_any (c : W) (s : ByteArray) (w : World) (hs : s.size ≤ maxLen) :
    Calls Tryd.prog 15 #[.int .u32 (num c), .string s] w fun e w' => e = .returned (.int .u32 (num (add c s.data.toList))) ∧ w' = w := by
  unfold maxLen at hs
  go_enter Tryd.func15, Tryd.ntmps15
  go_wp2
  go_loop [0, 5] (fun t i => ∃ k : Nat, k ≤ s.size ∧ i = .int .i64 k ∧ t = .int .u32 (num (run (~~~ c) (s.data.toList.take k)))) (fun _ i => s.size - (intOf i).toNat)
  case atStart =>
    exact ⟨0, Nat.zero_le _, rfl, rfl⟩
  case round =>
    obtain ⟨k, hk, rfl, rfl⟩ := hrel
    generalize hr : run (~~~ c) (s.data.toList.take k) = r
    have HR := Lib.hid hr; clear hr
    by_cases hlt : k < s.size
    · go_wp2
      generalize hd : r ^^^ wide s[k] = d
      have HD := Lib.hid hd; clear hd
      go_loop [0, 6] (fun t i => ∃ m : Nat, m ≤ 8 ∧ i = .int .i64 m ∧ t = .int .u32 (num (steps m d))) (fun _ i => 8 - (intOf i).toNat)
      case atStart => exact ⟨0, Nat.zero_le _, rfl, rfl⟩
      case round =>
        obtain ⟨m, hm, rfl, rfl⟩ := hrel
        by_cases hlm : m < 8
        · generalize hx : steps m d = x
          have HX := Lib.hid hx; clear hx
          by_cases hg : (2147483648 : Int) ≤ num x
          · have hst := step_great x hg
            go_wp2
            go_round
            case rel => exact ⟨m + 1, by omega, by go_num, by rw [steps_succ, HX.out]⟩
            case measure => simp [intOf]; omega
          · have hst := step_small x hg
            go_wp2
            go_round
            case rel => exact ⟨m + 1, by omega, by go_num, by rw [steps_succ, HX.out, hst]⟩
            case measure => simp [intOf]; omega
        · have hfin : byteStep r s[k] = steps m d := by
            have hme : m = 8 := by omega
            rw [hme, ← HD.out]; rfl
          have HF := Lib.hid hfin; clear hfin
          go_wp2
          go_round
          case rel => exact ⟨k + 1, by omega, by go_num, by rw [run_take s.data.toList k hlt, HR.out, ← HF.out]; rfl⟩
          case measure => simp [intOf]; omega
    · have hfin : add c s.data.toList = ~~~ r := by
        have hke : k = s.size := by omega
        unfold add
        rw [← HR.out, hke, List.take_of_length_le (by simp)]
      have HF := Lib.hid hfin; clear hfin
      go_wp2
      go_ret
      exact ⟨ret_num' HF.out.symm, rfl⟩
end Go.Proofs.YtcjgefhlkjdoaaaDoor

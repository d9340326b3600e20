/-
  PROVED HERE: a call of crc.Add tells the sum that goes on from its number by its text.
  Conditions: the text is a string of the model; the table lies in its variable.
-/
import Derived.Test.YtcjgefhlkjdoaaaDoorProg
import Derived.Test.YtcjgefhlkjdoaaaDoorBits
import Derived.WalkKit
import Derived.WalkSpells
import Derived.Lib.Hide
import Derived.Lib.LaidTab
namespace Go.Proofs.YtcjgefhlkjdoaaaDoor
open Go.RowKit Crc


attribute [local go_sem] not_num xor_byte nib_num

theorem ret_num {a b : W} (h : a = b) : Ending.returned (.int .u32 (num a)) = .returned (.int .u32 (num b)) := by rw [h]

theorem table_cell {w : World} (ht : ∀ i : Nat, i < 16 → w.cell? ⟨0, i, none⟩ = some (.int .u32 (tabL.getD i 0))) (c : W) :
    w.cell? ⟨0, (num c / 268435456).toNat, none⟩ = some (.int .u32 (num (tabAt c))) := by
  have hb := top_bounds c
  rw [ht _ (by omega), top_num]

set_option maxHeartbeats 400000 in
theorem add_any (c : W) (s : ByteArray) (w : World) (hs : s.size ≤ maxLen) (ht : ∀ i : Nat, i < 16 → w.cell? ⟨0, i, none⟩ = some (.int .u32 (tabL.getD i 0))) :
    Calls Tryd.prog 14 #[.int .u32 (num c), .string s] w fun e w' => e = .returned (.int .u32 (num (add c s.data.toList))) ∧ w' = w := by
  unfold maxLen at hs
  have HT := Lib.hid ht; clear ht
  go_enter Tryd.func14, Tryd.ntmps14
  go_wp2
  go_loop [0, 10] (fun t i => ∃ k : Nat, k ≤ s.size ∧ i = .int .i64 k ∧ t = .int .u32 (num (run (~~~ c) (s.data.toList.take k)))) (fun _ i => s.size - (intOf i).toNat)
  case atStart =>
    exact ⟨0, Nat.zero_le _, rfl, rfl⟩
  case round =>
    obtain ⟨k, hk, rfl, rfl⟩ := hrel
    generalize hr : run (~~~ c) (s.data.toList.take k) = r
    have HR := Lib.hid hr; clear hr
    by_cases hlt : k < s.size
    · have hc1 := table_cell HT.out (r ^^^ wide s[k])
      have hb1 := top_bounds (r ^^^ wide s[k])
      have hc2 := table_cell HT.out (nib (r ^^^ wide s[k]))
      have hb2 := top_bounds (nib (r ^^^ wide s[k]))
      go_wp2
      go_round
      case rel => exact ⟨k + 1, by omega, by go_num, by rw [run_take s.data.toList k hlt, HR.out, byte_nibs]; rfl⟩
      case measure => simp [intOf]; omega
    · have hfin : add c s.data.toList = ~~~ r := by
        have hke : k = s.size := by omega
        unfold add
        rw [← HR.out, hke, List.take_of_length_le (by simp)]
      have HF := Lib.hid hfin; clear hfin
      go_wp2
      go_ret
      exact ⟨ret_num HF.out.symm, rfl⟩
end Go.Proofs.YtcjgefhlkjdoaaaDoor

/-
  PROVED HERE: calls of crc.Of and of the reference's Of tell the sum of their texts.
  Conditions: the texts are strings of the model; the table lies in its variable.
-/
import Derived.Test.YtcjgefhlkjdoaaaDoorAdd
import Derived.Test.YtcjgefhlkjdoaaaDoorRef
namespace Go.Proofs.YtcjgefhlkjdoaaaDoor
open Go.RowKit Crc

/-- the table lies in its variable -/
def Tab (w : World) : Prop := ∀ i : Nat, i < 16 → w.cell? ⟨0, i, none⟩ = some (.int .u32 (tabL.getD i 0))

theorem zero_num : (0 : Int) = num 0#32 := by decide

set_option maxHeartbeats 400000 in
theorem add_tab (c : W) (s : ByteArray) (w : World) (hs : s.size ≤ maxLen) (ht : Tab w) :
    Calls Tryd.prog 14 #[.int .u32 (num c), .string s] w fun e w' => e = .returned (.int .u32 (num (add c s.data.toList))) ∧ w = w' :=
  (add_any c s w hs ht).mono fun _ _ ⟨h1, h2⟩ => ⟨h1, h2.symm⟩

set_option maxHeartbeats 400000 in
theorem refOf_any (s : ByteArray) (w : World) (hs : s.size ≤ maxLen) :
    Calls Tryd.prog 13 #[.string s] w fun e w' => e = .returned (.int .u32 (num (add 0#32 s.data.toList))) ∧ w = w' := by
  have h := refAdd_any 0#32 s w hs
  go_enter Tryd.func13, Tryd.ntmps13
  go_wp2_with (go_at_call 15; rw [zero_num]; refine h.mono ?_; rintro e w' ⟨rfl, rfl⟩)
  go_ret
  exact ⟨rfl, rfl⟩

set_option maxHeartbeats 400000 in
theorem of_nil (w : World) : Calls Tryd.prog 12 #[.slice none 0 0] w fun e w' => e = .returned (.int .u32 (num 0#32)) ∧ w = w' := by
  go_enter Tryd.func12, Tryd.ntmps12
  go_wp2
  go_loop [3, 8] (fun t i => i = .int .i64 0 ∧ t = .int .u32 (num 0#32)) (fun _ _ => 0)
  case atStart => exact ⟨rfl, by rw [← zero_num]⟩
  case round =>
    obtain ⟨rfl, rfl⟩ := hrel
    go_wp2
    go_ret
    exact ⟨rfl, rfl⟩

set_option maxHeartbeats 400000 in
theorem of_some (b off cap : Nat) (ss : List ByteArray) (w : World) (hn : ss.length ≤ maxLen) (hs : ∀ i : Nat, (h : i < ss.length) → ss[i].size ≤ maxLen) (hc : ∀ i : Nat, (h : i < ss.length) → w.cell? ⟨b, off + i, none⟩ = some (.string ss[i])) (ht : Tab w) :
    Calls Tryd.prog 12 #[.slice (some ⟨b, off, none⟩) ss.length cap] w fun e w' => e = .returned (.int .u32 (num (ofL ss))) ∧ w = w' := by
  unfold maxLen at hn
  have HS := Lib.hid hs; clear hs
  have HC := Lib.hid hc; clear hc
  have HT := Lib.hid ht; clear ht
  go_enter Tryd.func12, Tryd.ntmps12
  go_wp2
  go_loop [3, 8] (fun t i => ∃ k : Nat, k ≤ ss.length ∧ i = .int .i64 k ∧ t = .int .u32 (num (ofL (ss.take k)))) (fun _ i => ss.length - (intOf i).toNat)
  case atStart => exact ⟨0, Nat.zero_le _, rfl, rfl⟩
  case round =>
    obtain ⟨k, hk, rfl, rfl⟩ := hrel
    by_cases hlt : k < ss.length
    · have hck := HC.out k hlt
      have HK := Lib.hid (ofL_take ss k hlt)
      generalize ofL (ss.take k) = r at *
      generalize hx : ss[k] = x at *
      have HX := Lib.hid hx; clear hx
      go_wp2_with (go_at_call 14; refine (add_tab r x _ (by rw [← HX.out]; exact HS.out k hlt) HT.out).mono ?_; rintro e w' ⟨rfl, rfl⟩)
      go_round
      case rel => exact ⟨k + 1, by omega, by go_num, by rw [HK.out]⟩
      case measure => simp [intOf]; omega
    · have hfin : ofL ss = ofL (ss.take k) := by rw [List.take_of_length_le (by omega)]
      generalize ofL (ss.take k) = r at *
      have HF := Lib.hid hfin; clear hfin
      go_wp2
      go_ret
      exact ⟨ret_num HF.out.symm, rfl⟩

theorem of_one (b cap : Nat) (x : ByteArray) (w : World) (hx : x.size ≤ maxLen) (hc : w.cell? ⟨b, 0, none⟩ = some (.string x)) (ht : Tab w) :
    Calls Tryd.prog 12 #[.slice (some ⟨b, 0, none⟩) 1 cap] w fun e w' => e = .returned (.int .u32 (num (add 0#32 x.data.toList))) ∧ w = w' :=
  of_some b 0 cap [x] w (by unfold maxLen; simp) (fun i h => by obtain rfl : i = 0 := by simp at h; omega
                                                                exact hx) (fun i h => by obtain rfl : i = 0 := by simp at h; omega
                                                                                         exact hc) ht
theorem of_two (b cap : Nat) (x y : ByteArray) (w : World) (hx : x.size ≤ maxLen) (hy : y.size ≤ maxLen) (hc : w.cell? ⟨b, 0, none⟩ = some (.string x)) (hd : w.cell? ⟨b, 1, none⟩ = some (.string y)) (ht : Tab w) :
    Calls Tryd.prog 12 #[.slice (some ⟨b, 0, none⟩) 2 cap] w fun e w' => e = .returned (.int .u32 (num (add (add 0#32 x.data.toList) y.data.toList))) ∧ w = w' :=
  of_some b 0 cap [x, y] w (by unfold maxLen; simp)
    (fun i h => by
      have h2 : i < 2 := h
      rcases (by omega : i = 0 ∨ i = 1) with rfl | rfl
      · exact hx
      · exact hy)
    (fun i h => by
      have h2 : i < 2 := h
      rcases (by omega : i = 0 ∨ i = 1) with rfl | rfl
      · exact hc
      · exact hd) ht

theorem tab_below {w w' : World} (h : Below w.heap.size w w') (h0 : 0 < w.heap.size) (ht : Tab w) : Tab w' := fun i hi => by
  rw [h.cell (p := ⟨0, i, none⟩) h0]; exact ht i hi
end Go.Proofs.YtcjgefhlkjdoaaaDoor

/-
  PROVED HERE: a call of the reference's Num at a number of at most 200, in 8 bytes, tells seven zeros and the number.
  Conditions: the number is at most 200.
-/
import Derived.Test.YtcjgefhlkjdoaaaDoorParts
import Derived.Laws.IdiomStrings
namespace Go.Proofs.YtcjgefhlkjdoaaaDoor
open Go.RowKit Crc

/-- the last k bytes of a number's eight -/
def lastK (n k : Nat) : List UInt8 := if k = 0 then [] else List.replicate (k - 1) 0 ++ [UInt8.ofNat n]
def restK (n k : Nat) : Nat := if k = 0 then n else 0
def headS (n : Nat) : ByteArray := ⟨#[0, 0, 0, 0, 0, 0, 0, UInt8.ofNat n]⟩
theorem lastK_eight (n : Nat) : (⟨(lastK n 8).toArray⟩ : ByteArray) = headS n := rfl
theorem lastK_succ (n k : Nat) : lastK n (k + 1) = UInt8.ofNat (restK n k) :: lastK n k := by
  unfold lastK restK
  cases k with
  | zero => rfl
  | succ k => simp [List.replicate_succ]
theorem restK_le (n k : Nat) (hn : n ≤ 200) : restK n k ≤ 200 := by unfold restK; split <;> omega
theorem restK_succ (n k : Nat) (hn : n ≤ 200) : restK n (k + 1) = restK n k / 256 := by
  unfold restK; rw [if_neg (by omega)]; split <;> omega

/-- one byte as a text -/
theorem conv_one (w : World) (n : Nat) (hn : n ≤ 200) :
    (convert 32 9 (.slice (some ⟨w.heap.size, 0, none⟩) 1 1)).run Tryd.prog (w.alloc (.cells #[.int .u8 (n : Int)] 5)) = .ok (.string ⟨#[UInt8.ofNat n]⟩) (w.alloc (.cells #[.int .u8 (n : Int)] 5)) :=
  run_convert_bytes_back (P := Tryd.prog) _ 32 9 5 ⟨w.heap.size, 0, none⟩ 1 [UInt8.ofNat n] Tryd.underlying32 Tryd.underlying5 Tryd.underlying9 (fun j hj => by
    obtain rfl : j = 0 := by simp at hj; omega
    rw [Addr.add_zero', World.cell?_alloc_at _ _ _ _ rfl]
    have : (UInt8.ofNat n).toNat = n := by simp; omega
    simp [this])

theorem str_cons (r : Nat) (t : List UInt8) : Value.string ((⟨#[UInt8.ofNat r]⟩ : ByteArray) ++ ⟨t.toArray⟩) = .string ⟨(UInt8.ofNat r :: t).toArray⟩ := by
  congr 1
set_option maxHeartbeats 1000000 in
theorem num_any (n : Nat) (w : World) (hn : n ≤ 200) :
    Calls Tryd.prog 20 #[.int .u64 (n : Int), .int .i64 8] w fun e w' => e = .returned (.string (headS n)) ∧ Below w.heap.size w w' := by
  go_enter Tryd.func20, Tryd.ntmps20
  go_wp2_with fail
  go_loopw [0, 5, 6] (fun m s i wr => ∃ k : Nat, k ≤ 8 ∧ i = .int .i64 k ∧ m = .int .u64 (restK n k : Nat) ∧ s = .string ⟨(lastK n k).toArray⟩ ∧ Below w.heap.size w wr) (fun _ _ i _ => 8 - (intOf i).toNat)
  case atStart => exact ⟨0, Nat.zero_le _, rfl, rfl, rfl, Below.refl _ _⟩
  case round =>
    obtain ⟨k, hk, rfl, rfl, rfl, hbel⟩ := hrel
    have HB := Lib.hid hbel; clear hbel
    by_cases hlt : k < 8
    · have h1 := Lib.hid (lastK_succ n k)
      have h2 := Lib.hid (restK_succ n k hn)
      have h3 := restK_le n k hn
      have hl : (lastK n k).length ≤ 8 := by unfold lastK; split <;> simp <;> omega
      generalize restK n k = r at *
      generalize lastK n k = t at *
      have hconv := conv_one wr r h3
      have hm : ((r : Int) % 256) = (r : Int) := by omega
      go_wp2_with fail
      go_roundw
      case rel => exact ⟨k + 1, by omega, by go_num, by rw [h2.out]; go_num, by rw [h1.out]; exact str_cons r t, below_alloc HB.out _⟩
      case measure => simp [intOf]; omega
    · obtain rfl : k = 8 := by omega
      go_wp2_with fail
      go_ret
      exact ⟨ret_str (lastK_eight n), HB.out⟩
end Go.Proofs.YtcjgefhlkjdoaaaDoor

/-
  PROVED HERE: how the operations of the walk on numbers of 32 bits read as operations on bit vectors.
  Conditions: each theorem names its own.
-/
import Derived.Test.YtcjgefhlkjdoaaaDoorPlain
import Derived.WalkKit
namespace Go.Proofs.YtcjgefhlkjdoaaaDoor.Crc
open Go

/-- a state as Go's uint32 -/
def num (c : W) : Int := (c.toNat : Int)
theorem num_bound (c : W) : 0 ≤ num c ∧ num c ≤ 4294967295 := by unfold num; have := c.isLt; omega
theorem num_ofInt (c : W) : BitVec.ofInt 32 (num c) = c := by unfold num; simp
theorem wrap_num (c : W) : IntKind.u32.wrap (c.toNat : Int) = num c := IntWalk.u32_in _ (num_bound c)
theorem bits_num (a b : W) : bits .xor .u32 (num a) (num b) = num (a ^^^ b) := by
  show IntKind.u32.wrap ((BitVec.ofInt 32 (num a) ^^^ BitVec.ofInt 32 (num b)).toNat : Int) = _
  rw [num_ofInt, num_ofInt]; exact wrap_num _
theorem num_inj {a b : W} (h : num a = num b) : a = b := by unfold num at h; apply BitVec.eq_of_toNat_eq; omega
theorem shl_num (c : W) (k : Nat) : IntKind.u32.wrap (num c * 2 ^ k) = num (c <<< k) := by
  rw [IntKind.wrap_u32]
  unfold num
  rw [BitVec.toNat_shiftLeft, Nat.shiftLeft_eq]
  simp
theorem shr_num (c : W) : num c / (268435456 : Int) = num (c >>> 28) := by
  unfold num
  rw [BitVec.toNat_ushiftRight, Nat.shiftRight_eq_div_pow]
  simp

/-! In the walk's own spelling. -/
theorem not_num (c : W) : bits .xor .u32 IntKind.u32.max (num c) = num (~~~ c) := by
  have e : IntKind.u32.max = num (~~~ 0#32) := by decide
  rw [e, bits_num, show ~~~ (0#32) = BitVec.allOnes 32 from by decide, BitVec.allOnes_xor]
theorem byte_num (b : UInt8) : ((b.toNat : Int) % 4294967296 * 16777216 % 4294967296) = num (wide b) := by
  have hb : b.toNat < 256 := b.toNat_lt
  unfold num wide
  rw [BitVec.toNat_shiftLeft, Nat.shiftLeft_eq, BitVec.toNat_setWidth]
  show _ = (((b.toNat % 2 ^ 32) * 2 ^ 24 % 2 ^ 32 : Nat) : Int)
  omega
theorem xor_byte (c : W) (b : UInt8) : bits .xor .u32 (num c) ((b.toNat : Int) % 4294967296 * 16777216 % 4294967296) = num (c ^^^ wide b) := by
  rw [byte_num, bits_num]
theorem shl4_num (c : W) : num c * (16 : Int) % (4294967296 : Int) = num (c <<< 4) := by
  have := shl_num c 4
  rw [IntKind.wrap_u32] at this
  simpa using this
theorem top_bounds (c : W) : 0 ≤ num c / 268435456 ∧ num c / 268435456 < 16 := by have := num_bound c; omega
theorem tabW_num (k : Nat) (hk : k < 16) : num (tabW k) = tabL.getD k 0 := by
  have : ∀ k : Fin 16, num (tabW k.val) = tabL.getD k.val 0 := by decide
  exact this ⟨k, hk⟩
/-- the table's number that a state picks by its four greatest bits -/
def tabAt (c : W) : W := tabW (c >>> 28).toNat
theorem top_num (c : W) : tabL.getD (num c / 268435456).toNat 0 = num (tabAt c) := by
  have hb := top_bounds c
  rw [shr_num] at hb ⊢
  have e : (num (c >>> 28)).toNat = (c >>> 28).toNat := by unfold num; rw [Int.toNat_natCast]
  have hk : (c >>> 28).toNat < 16 := by unfold num at hb; omega
  rw [e, ← tabW_num _ hk]; rfl
theorem nib_num (c : W) : bits .xor .u32 (num c * (16 : Int) % (4294967296 : Int)) (num (tabAt c)) = num (nib c) := by rw [shl4_num, bits_num]; rfl

/-! The document's own steps, in the walk's spelling. -/
theorem steps_succ (n : Nat) (c : W) : steps (n + 1) c = step (steps n c) := by
  rw [steps_add n 1]; rfl
theorem dbl_num (c : W) : num c * (2 : Int) % (4294967296 : Int) = num (c <<< 1) := by
  have := shl_num c 1
  rw [IntKind.wrap_u32] at this
  simpa using this
theorem great_num (c : W) : ((2147483648 : Int) ≤ num c) ↔ c.msb = true := by
  unfold num; rw [BitVec.msb_eq_decide]; simp; omega
theorem step_great (c : W) (h : (2147483648 : Int) ≤ num c) : bits .xor .u32 (num c * (2 : Int) % (4294967296 : Int)) (79764919 : Int) = num (step c) := by
  have hm := (great_num c).1 h
  have e : (79764919 : Int) = num poly := by decide
  rw [dbl_num, e, bits_num]; unfold step; rw [hm]; rfl
theorem step_small (c : W) (h : ¬ (2147483648 : Int) ≤ num c) : num c * (2 : Int) % (4294967296 : Int) = num (step c) := by
  have hm : c.msb = false := by
    cases h2 : c.msb with
    | false => rfl
    | true => exact absurd ((great_num c).2 h2) h
  rw [dbl_num]; unfold step; rw [hm]; simp
end Go.Proofs.YtcjgefhlkjdoaaaDoor.Crc

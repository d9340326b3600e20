/-
  PROVED HERE: the walk of CrcTurned returns true and writes nothing that was there.
  Conditions: the table lies in its variable.
-/
import Derived.Test.YtcjgefhlkjdoaaaDoorSteps
import Derived.Laws.IdiomStrings
namespace Go.Proofs.YtcjgefhlkjdoaaaDoor
open Go.RowKit Crc

/-- the block B, the call's own, holds the bytes l -/
def Holds8 (w0 : World) (B : Nat) (w : World) (l : List UInt8) : Prop :=
  Below w0.heap.size w0 w ∧ w0.heap.size ≤ B ∧ (∀ j : Nat, (h : j < l.length) → w.cell? ⟨B, j, none⟩ = some (.int .u8 (l[j].toNat : Int))) ∧ (∀ j, j < l.length → w.frozen? ⟨B, j, none⟩ = false)

theorem holds8_drew {w0 w : World} {B : Nat} {l : List UInt8} (h : Holds8 w0 B w l) : Holds8 w0 B w.drew l := ⟨h.1.drew, h.2.1, h.2.2.1, h.2.2.2⟩

theorem holds8_new (w : World) (x : ByteArray) (cp : Nat) (hcp : x.size ≤ cp) :
    Holds8 w w.heap.size (w.alloc (.cells (bytesRow x cp) 5 ((bytesRow x cp).size, (bytesRow x cp).size + 1))) x.data.toList := by
  refine ⟨(Below.refl _ _).alloc (Nat.le_refl _) _, Nat.le_refl _, fun j h => ?_, fun j h => ?_⟩
  · rw [World.cell?_alloc_mark, bytesRow_at x cp j (by simpa using h)]; rfl
  · rw [World.frozen?_alloc_mark]
    have hs : (bytesRow x cp).size = cp := by
      unfold bytesRow; simp
      have : x.data.size = x.size := rfl
      omega
    have hj : j < x.size := by simpa using h
    rw [hs]; simp; omega

theorem holds8_set {w0 w : World} {B : Nat} {l : List UInt8} (h : Holds8 w0 B w l) (j : Nat) (hj : j < l.length) (v : UInt8) :
    Holds8 w0 B (w.setCell ⟨B, j, none⟩ (.int .u8 (v.toNat : Int))) (l.set j v) := by
  obtain ⟨h1, h2, h3, h4⟩ := h
  refine ⟨h1.setCell h2 _, h2, fun i hi => ?_, fun i hi => ?_⟩
  · have hi' : i < l.length := by simpa using hi
    by_cases e : j = i
    · subst e
      rw [World.cell?_setCell_same _ _ _ (h3 j hj)]; simp
    · rw [World.cell?_setCell_other _ _ _ _ (by simp), h3 i hi']; simp [e]
  · have hi' : i < l.length := by simpa using hi
    rw [World.frozen?_setCell]; exact h4 i hi'

theorem xor_u8 (a b : UInt8) : Go.bits .xor .u8 (a.toNat : Int) (b.toNat : Int) = ((a ^^^ b).toNat : Int) := by
  have e : ∀ c : UInt8, BitVec.ofInt 8 (c.toNat : Int) = c.toBitVec := fun c => by
    apply BitVec.eq_of_toNat_eq
    rw [BitVec.toNat_ofInt]
    have h := c.toBitVec.isLt
    show ((c.toBitVec.toNat : Int) % 256).toNat = c.toBitVec.toNat
    omega
  show IntKind.u8.wrap ((BitVec.ofInt 8 (a.toNat : Int) ^^^ BitVec.ofInt 8 (b.toNat : Int)).toNat : Int) = _
  rw [e, e, ← UInt8.toBitVec_xor]
  have h := (a ^^^ b).toBitVec.isLt
  exact IntWalk.u8_in _ ⟨by omega, by show (((a ^^^ b).toBitVec.toNat : Nat) : Int) ≤ 255; omega⟩
theorem turn_u8 (a : UInt8) (r : Nat) (hr : r < 8) : Go.bits .xor .u8 (a.toNat : Int) (128 / 2 ^ r) = ((a ^^^ (128 >>> UInt8.ofNat r)).toNat : Int) := by
  rw [← xor_u8]
  have : ∀ r : Fin 8, (128 / 2 ^ r.val : Int) = ((128 >>> UInt8.ofNat r.val : UInt8).toNat : Int) := by decide
  rw [← this ⟨r, hr⟩]

theorem turned_on (bits : W) (n : Nat) (s : List UInt8) (k : Nat) (h : bits.getLsbD k = true) :
    turned bits n s (k + 1) = (turned bits n s k).set ((n + k) / 8) ((turned bits n s k).getD ((n + k) / 8) 0 ^^^ (128 >>> UInt8.ofNat ((n + k) % 8))) := by
  conv => lhs; unfold turned
  rw [if_pos h]
theorem turned_off (bits : W) (n : Nat) (s : List UInt8) (k : Nat) (h : ¬ bits.getLsbD k = true) : turned bits n s (k + 1) = turned bits n s k := by
  conv => lhs; unfold turned
  rw [if_neg h]
theorem bit_num (b : W) (k : Nat) : bits .and .u32 (num b / 2 ^ k) 1 = if b.getLsbD k then 1 else 0 := by
  have e : num b / 2 ^ k = num (b >>> k) := by
    unfold num; rw [BitVec.toNat_ushiftRight, Nat.shiftRight_eq_div_pow]; simp
  show IntKind.u32.wrap ((BitVec.ofInt 32 (num b / 2 ^ k) &&& BitVec.ofInt 32 1).toNat : Int) = _
  rw [e, num_ofInt, IntKind.wrap_u32, BitVec.toNat_and, show (BitVec.ofInt 32 1).toNat = 1 from rfl, Nat.and_one_is_mod, BitVec.toNat_ushiftRight]
  have h : b.getLsbD k = (b.toNat >>> k % 2 == 1) := by
    rw [BitVec.getLsbD, Nat.testBit]; simp
  rw [h]
  by_cases hm : b.toNat >>> k % 2 = 1
  · rw [hm]; rfl
  · have h0 : b.toNat >>> k % 2 = 0 := by omega
    rw [h0]; rfl

set_option maxHeartbeats 1000000 in
theorem turned_walk_big (s : ByteArray) (at_ : Int) (bits : W) (w : World) (ha : (Lit.int .i64 at_).wf = true) (ht : Tab w) (h5 : 5 ≤ (cutS s 500).size) (h0 : bits ≠ 0#32) :
    Calls Tryd.prog 5 #[.string s, .int .i64 at_, .int .u32 (num bits)] w fun e w' => e = .returned (.bool true) ∧ Below w.heap.size w w' := by
  have HT := Lib.hid ht; clear ht
  have H0 := Lib.hid h0; clear h0
  go_enter Tryd.func5, Tryd.ntmps5
  go_wp2_with fail
  refine (awake_any _ HT.out).mono ?_; rintro e w1 ⟨rfl, hb⟩
  have HB := Lib.hid hb; clear hb
  have HT1 := Lib.hid (tab_below HB.out (tab_pos HT.out) HT.out)
  go_wp2_with fail
  refine (short500 _ _).mono ?_; rintro e w' ⟨rfl, rfl⟩
  have hx := cutS_le s 500
  generalize cutS s 500 = x at *
  have hz : (num bits == 0) = false := by
    have : num bits ≠ num 0#32 := fun e => H0.out (num_inj e)
    rw [← zero_num] at this
    simpa using this
  have hab : -9223372036854775808 ≤ at_ ∧ at_ ≤ 9223372036854775807 := by
    simp [Lit.wf, IntKind.min, IntKind.max, IntKind.signed, IntKind.bits] at ha; omega
  clear ha
  have hconv := run_bytes_of_string (P := Tryd.prog) w1 9 32 5 x Tryd.underlying9 Tryd.underlying32 Tryd.underlying5
  have hcp := grownCap_ge w1 x.size 0 5
  generalize grownCap w1 x.size 0 5 = cp at *
  have HNew := Lib.hid (holds8_new w1 x cp hcp)
  by_cases hneg : at_ < 0
  all_goals first
    | (obtain ⟨n, hn⟩ : ∃ n : Nat, (-(at_ + 1)).tmod (8 * (x.size : Int) - 31) = n := ⟨((-(at_ + 1)) % (8 * (x.size : Int) - 31)).toNat, by have := Int.emod_nonneg (-(at_ + 1)) (by omega : (8 * (x.size : Int) - 31) ≠ 0); rw [Int.tmod_eq_emod_of_nonneg (by omega)]; omega⟩
       have hn2 : n + 32 ≤ 8 * x.size := by have := Int.emod_lt_of_pos (-(at_ + 1)) (by omega : (0 : Int) < 8 * (x.size : Int) - 31); rw [Int.tmod_eq_emod_of_nonneg (by omega)] at hn; omega
       go_wp2_with fail
       clear hn hconv)
    | (obtain ⟨n, hn⟩ : ∃ n : Nat, at_ % (8 * (x.size : Int) - 31) = n := ⟨(at_ % (8 * (x.size : Int) - 31)).toNat, by have := Int.emod_nonneg at_ (by omega : (8 * (x.size : Int) - 31) ≠ 0); omega⟩
       have hn2 : n + 32 ≤ 8 * x.size := by have := Int.emod_lt_of_pos at_ (by omega : (0 : Int) < 8 * (x.size : Int) - 31); omega
       go_wp2_with fail
       rw [hn]
       clear hn hconv)
  all_goals
    have HN2 := Lib.hid hn2
    go_loopw [10] (fun i wr => ∃ k : Nat, k ≤ 32 ∧ i = .int .i64 k ∧ Holds8 w1 w1.heap.size wr (turned bits n x.data.toList k)) (fun i _ => 32 - (intOf i).toNat)
    case atStart => exact ⟨0, Nat.zero_le _, rfl, holds8_drew HNew.out⟩
    case round =>
      obtain ⟨k, hk, rfl, hold⟩ := hrel
      by_cases hlt : k < 32
      · have hlen := turned_length bits n x.data.toList k
        have hj : (n + k) / 8 < (turned bits n x.data.toList k).length := by rw [hlen]; simp; omega
        have hc := hold.2.2.1 _ hj
        have hfz := hold.2.2.2 _ hj
        have hjx : (n + k) / 8 < x.size := by omega
        have HOLD := Lib.hid hold; clear hold
        have HLen := Lib.hid hlen; clear hlen
        have hbit := bit_num bits k
        by_cases hb : bits.getLsbD k = true
        · have HStep := Lib.hid (turned_on bits n x.data.toList k hb)
          generalize turned bits n x.data.toList k = l at *
          rw [if_pos hb] at hbit
          clear hb
          go_wp2_with fail
          go_roundw
          case rel =>
            refine ⟨k + 1, by omega, by go_num, ?_⟩
            rw [HStep.out, turn_u8 _ _ (Nat.mod_lt _ (by omega)), List.getD_eq_getElem?_getD, List.getElem?_eq_getElem hj]
            exact holds8_set HOLD.out _ hj _
          case measure => simp [intOf]; omega
        · have HStep := Lib.hid (turned_off bits n x.data.toList k hb)
          generalize turned bits n x.data.toList k = l at *
          rw [if_neg hb] at hbit
          clear hb
          go_wp2_with fail
          go_roundw
          case rel => exact ⟨k + 1, by omega, by go_num, by rw [HStep.out]; exact HOLD.out⟩
          case measure => simp [intOf]; omega
      · obtain rfl : k = 32 := by omega
        have hlen := turned_length bits n x.data.toList 32
        have hne := add_turned bits H0.out n x.data.toList (by simpa using HN2.out)
        generalize turned bits n x.data.toList 32 = l at *
        have hls : l.length = x.size := by simpa using hlen
        have hback := run_convert_bytes_back (P := Tryd.prog) wr 32 9 5 ⟨w1.heap.size, 0, none⟩ cp l Tryd.underlying32 Tryd.underlying5 Tryd.underlying9 (fun j hj => by
          have e : (⟨w1.heap.size, 0, none⟩ : Addr).add j = ⟨w1.heap.size, j, none⟩ := by unfold Addr.add; split <;> simp_all
          rw [e]; exact hold.2.2.1 j hj)
        rw [hls] at hback
        have hneq : (num (add 0#32 l) != num (add 0#32 x.data.toList)) = true := by
          have : num (add 0#32 l) ≠ num (add 0#32 x.data.toList) := fun e => hne (num_inj e)
          simpa using this
        have hlm : (⟨l.toArray⟩ : ByteArray).size ≤ maxLen := by
          have : (⟨l.toArray⟩ : ByteArray).size = l.length := by simp [ByteArray.size]
          unfold maxLen; omega
        have HLM := Lib.hid hlm
        have HBel := Lib.hid (HB.out.trans (hold.1.mono HB.out.size))
        have HTab := Lib.hid (tab_below HBel.out (tab_pos HT.out) HT.out)
        clear hne hls hlen hlm hold HNew
        go_wp2_with fail
        refine (of_one _ _ ⟨l.toArray⟩ _ HLM.out (by rw [World.cell?_alloc_at _ _ _ _ (by simp)]; rfl) (tab_alloc HTab.out _)).mono ?_; rintro e w' ⟨rfl, rfl⟩
        go_wp2_with fail
        refine (of_one _ _ x _ (by unfold maxLen; omega) (by rw [World.cell?_alloc_at _ _ _ _ (by simp)]; rfl) (tab_alloc (tab_alloc HTab.out _) _)).mono ?_; rintro e w' ⟨rfl, rfl⟩
        go_wp2_with fail
        go_ret
        exact ⟨rfl, below_alloc (below_alloc HBel.out _) _⟩

set_option maxHeartbeats 400000 in
theorem turned_walk_short (s : ByteArray) (at_ : Int) (bits : W) (w : World) (ht : Tab w) (h5 : (cutS s 500).size < 5) :
    Calls Tryd.prog 5 #[.string s, .int .i64 at_, .int .u32 (num bits)] w fun e w' => e = .returned (.bool true) ∧ Below w.heap.size w w' := by
  have HT := Lib.hid ht; clear ht
  go_enter Tryd.func5, Tryd.ntmps5
  go_wp2_with fail
  refine (awake_any _ HT.out).mono ?_; rintro e w1 ⟨rfl, hb⟩
  have HB := Lib.hid hb; clear hb
  go_wp2_with fail
  refine (short500 _ _).mono ?_; rintro e w' ⟨rfl, rfl⟩
  generalize cutS s 500 = x at *
  go_wp2_with fail
  go_ret
  exact ⟨rfl, HB.out⟩

set_option maxHeartbeats 400000 in
theorem turned_walk_none (s : ByteArray) (at_ : Int) (w : World) (ht : Tab w) (h5 : 5 ≤ (cutS s 500).size) :
    Calls Tryd.prog 5 #[.string s, .int .i64 at_, .int .u32 (num 0#32)] w fun e w' => e = .returned (.bool true) ∧ Below w.heap.size w w' := by
  rw [← zero_num]
  have HT := Lib.hid ht; clear ht
  have hx := cutS_le s 500
  go_enter Tryd.func5, Tryd.ntmps5
  go_wp2_with fail
  refine (awake_any _ HT.out).mono ?_; rintro e w1 ⟨rfl, hb⟩
  have HB := Lib.hid hb; clear hb
  go_wp2_with fail
  refine (short500 _ _).mono ?_; rintro e w' ⟨rfl, rfl⟩
  generalize cutS s 500 = x at *
  go_wp2_with fail
  go_ret
  exact ⟨rfl, HB.out⟩

theorem turned_walk (s : ByteArray) (at_ : Int) (bits : W) (w : World) (_hs : s.size ≤ maxLen) (ha : (Lit.int .i64 at_).wf = true) (ht : Tab w) :
    Calls Tryd.prog 5 #[.string s, .int .i64 at_, .int .u32 (num bits)] w fun e w' => e = .returned (.bool true) ∧ Below w.heap.size w w' := by
  by_cases h5 : (cutS s 500).size < 5
  · exact turned_walk_short s at_ bits w ht h5
  · by_cases h0 : bits = 0#32
    · subst h0; exact turned_walk_none s at_ w ht (by omega)
    · exact turned_walk_big s at_ bits w ha ht (by omega) h0
end Go.Proofs.YtcjgefhlkjdoaaaDoor

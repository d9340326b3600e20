/-
  PROVED HERE: the walk of CrcRowed returns true and writes nothing that was there.
  Conditions: the table lies in its variable.
-/
import Derived.Test.YtcjgefhlkjdoaaaDoorRowsW
namespace Go.Proofs.YtcjgefhlkjdoaaaDoor
open Go.RowKit Crc

theorem conv_eight (w : World) (n : Nat) (hn : n ≤ 200) :
    (convert 32 9 (.slice (some ⟨w.heap.size, 0, none⟩) 8 8)).run Tryd.prog (w.alloc (.cells #[.int .u8 0, .int .u8 0, .int .u8 0, .int .u8 0, .int .u8 0, .int .u8 0, .int .u8 0, .int .u8 (n : Int)] 5)) =
      .ok (.string (headS n)) (w.alloc (.cells #[.int .u8 0, .int .u8 0, .int .u8 0, .int .u8 0, .int .u8 0, .int .u8 0, .int .u8 0, .int .u8 (n : Int)] 5)) :=
  run_convert_bytes_back (P := Tryd.prog) _ 32 9 5 ⟨w.heap.size, 0, none⟩ 8 [0, 0, 0, 0, 0, 0, 0, UInt8.ofNat n] Tryd.underlying32 Tryd.underlying5 Tryd.underlying9 (fun j hj => by
    have e : (⟨w.heap.size, 0, none⟩ : Addr).add j = ⟨w.heap.size, j, none⟩ := by unfold Addr.add; split <;> simp_all
    have h8 : j < 8 := hj
    have hn2 : (UInt8.ofNat n).toNat = n := by simp; omega
    rw [e, World.cell?_alloc_at _ _ _ _ rfl]
    match j, h8, hj with
    | 0, _, _ => rfl
    | 1, _, _ => rfl
    | 2, _, _ => rfl
    | 3, _, _ => rfl
    | 4, _, _ => rfl
    | 5, _, _ => rfl
    | 6, _, _ => rfl
    | 7, _, _ => show some (Value.int .u8 (n : Int)) = some (.int .u8 (((UInt8.ofNat n).toNat : Nat) : Int)); rw [hn2])

theorem row_one (b cap : Nat) (x : ByteArray) (w : World) (hx : x.size ≤ 200) (hc : w.cell? ⟨b, 0, none⟩ = some (.string x)) (ht : Tab w) :
    Calls Tryd.prog 17 #[.slice (some ⟨b, 0, none⟩) 1 cap] w fun e w' => e = .returned (.int .u32 (num (add 0#32 (headS x.size ++ x).data.toList))) ∧ Below w.heap.size w w' := by
  refine (row_some b cap [x] w (by simp) (fun z hz => by simp at hz; rw [hz]; exact hx) (fun i h => by
    obtain rfl : i = 0 := by simp at h; omega
    exact hc) ht).mono fun e w' ⟨h1, h2⟩ => ⟨?_, h2⟩
  rw [h1, bytes_append, add_append]; rfl
theorem row_two (b cap : Nat) (x y : ByteArray) (w : World) (hx : x.size ≤ 200) (hy : y.size ≤ 200) (hc : w.cell? ⟨b, 0, none⟩ = some (.string x)) (hd : w.cell? ⟨b, 1, none⟩ = some (.string y)) (ht : Tab w) :
    Calls Tryd.prog 17 #[.slice (some ⟨b, 0, none⟩) 2 cap] w fun e w' => e = .returned (.int .u32 (num (add (add 0#32 (headS x.size ++ x).data.toList) (headS y.size ++ y).data.toList))) ∧ Below w.heap.size w w' := by
  refine (row_some b cap [x, y] w (by simp) (fun z hz => by
    simp at hz
    rcases hz with rfl | rfl
    · exact hx
    · exact hy) (fun i h => by
    have h2 : i < 2 := h
    rcases (by omega : i = 0 ∨ i = 1) with rfl | rfl
    · exact hc
    · exact hd) ht).mono fun e w' ⟨h1, h2⟩ => ⟨?_, h2⟩
  rw [h1, bytes_append, bytes_append, add_append, add_append]; rfl

set_option maxHeartbeats 1000000 in
theorem rowed_walk (a b : ByteArray) (w : World) (_ha : a.size ≤ maxLen) (_hb : b.size ≤ maxLen) (ht : Tab w) :
    Calls Tryd.prog 9 #[.string a, .string b] w fun e w' => e = .returned (.bool true) ∧ Below w.heap.size w w' := by
  have HT := Lib.hid ht; clear ht
  go_enter Tryd.func9, Tryd.ntmps9
  go_wp2_with fail
  refine (awake_any _ HT.out).mono ?_; rintro e w1 ⟨rfl, hb⟩
  have HB := Lib.hid hb; clear hb
  have HT1 := Lib.hid (tab_below HB.out (tab_pos HT.out) HT.out)
  go_wp2_with fail
  refine (short200 _ _).mono ?_; rintro e w' ⟨rfl, rfl⟩
  go_wp2_with fail
  refine (short200 _ _).mono ?_; rintro e w' ⟨rfl, rfl⟩
  have hxs := cutS_le a 200
  have hys := cutS_le b 200
  generalize cutS a 200 = x at *
  generalize cutS b 200 = y at *
  have hc1 := conv_eight w1 x.size hxs
  have hc2 := conv_eight (w1.alloc (.cells #[.int .u8 0, .int .u8 0, .int .u8 0, .int .u8 0, .int .u8 0, .int .u8 0, .int .u8 0, .int .u8 (x.size : Int)] 5)) y.size hys
  have e1 : (headS x.size).size = 8 := rfl
  have e2 : (headS y.size).size = 8 := rfl
  have ha1 : ∀ w, (Op.stringOp .add (headS x.size) x).run Tryd.prog w = .ok (.string (headS x.size ++ x)) w := fun w => run_string_add_sum w _ _ (by omega)
  have ha2 : ∀ w, (Op.stringOp .add (headS y.size) y).run Tryd.prog w = .ok (.string (headS y.size ++ y)) w := fun w => run_string_add_sum w _ _ (by omega)
  have hxm : (headS x.size ++ x).size ≤ maxLen := by rw [ByteArray.size_append]; unfold maxLen; omega
  have hym : (headS y.size ++ y).size ≤ maxLen := by rw [ByteArray.size_append]; unfold maxLen; omega
  have HXM := Lib.hid hxm
  have HYM := Lib.hid hym
  have HXS := Lib.hid hxs
  have HYS := Lib.hid hys
  clear e1 e2 hxm hym
  rw [show (w1.alloc (.cells #[.int .u8 0, .int .u8 0, .int .u8 0, .int .u8 0, .int .u8 0, .int .u8 0, .int .u8 0, .int .u8 (x.size : Int)] 5)).heap.size = w1.heap.size + 1 from by simp] at hc2
  go_wp2_with fail
  have HTx := Lib.hid (tab_alloc (tab_alloc HT1.out (.cells #[.int .u8 0, .int .u8 0, .int .u8 0, .int .u8 0, .int .u8 0, .int .u8 0, .int .u8 0, .int .u8 (x.size : Int)] 5)) (.cells #[.int .u8 0, .int .u8 0, .int .u8 0, .int .u8 0, .int .u8 0, .int .u8 0, .int .u8 0, .int .u8 (y.size : Int)] 5))
  have HBx := Lib.hid (below_alloc (below_alloc HB.out (.cells #[.int .u8 0, .int .u8 0, .int .u8 0, .int .u8 0, .int .u8 0, .int .u8 0, .int .u8 0, .int .u8 (x.size : Int)] 5)) (.cells #[.int .u8 0, .int .u8 0, .int .u8 0, .int .u8 0, .int .u8 0, .int .u8 0, .int .u8 0, .int .u8 (y.size : Int)] 5))
  clear hc1 hc2 ha1 ha2
  refine (row_one _ _ x _ HXS.out (by rw [World.cell?_alloc_at _ _ _ _ (by simp)]; rfl) (tab_alloc HTx.out _)).mono ?_; rintro e w3 ⟨rfl, hb3⟩
  have HB3 := Lib.hid ((below_alloc HBx.out _).trans (hb3.mono (below_alloc HBx.out _).size)); clear hb3
  have HT3 := Lib.hid (tab_below HB3.out (tab_pos HT.out) HT.out)
  generalize hu : headS x.size ++ x = u at *
  generalize hv : headS y.size ++ y = v at *
  have HU := Lib.hid hu; clear hu
  have HV := Lib.hid hv; clear hv
  go_wp2_with fail
  refine (of_one _ _ u _ HXM.out (by rw [World.cell?_alloc_at _ _ _ _ (by simp)]; rfl) (tab_alloc HT3.out _)).mono ?_; rintro e w' ⟨rfl, rfl⟩
  go_wp2_with fail
  refine (row_two _ _ x y _ HXS.out HYS.out (by rw [World.cell?_alloc_at _ _ _ _ (by simp)]; rfl) (by rw [World.cell?_alloc_at _ _ _ _ (by simp)]; rfl) (tab_alloc (tab_alloc HT3.out _) _)).mono ?_; rintro e w4 ⟨rfl, hb4⟩
  rw [HU.out, HV.out]
  have HB4 := Lib.hid ((below_alloc (below_alloc HB3.out _) _).trans (hb4.mono (below_alloc (below_alloc HB3.out _) _).size)); clear hb4
  have HT4 := Lib.hid (tab_below HB4.out (tab_pos HT.out) HT.out)
  go_wp2_with fail
  refine (of_one _ _ u _ HXM.out (by rw [World.cell?_alloc_at _ _ _ _ (by simp)]; rfl) (tab_alloc HT4.out _)).mono ?_; rintro e w' ⟨rfl, rfl⟩
  go_wp2_with fail
  refine (add_tab _ v _ HYM.out (tab_alloc HT4.out _)).mono ?_; rintro e w' ⟨rfl, rfl⟩
  go_wp2_with fail
  refine (row_nil _).mono ?_; rintro e w5 ⟨rfl, hb5⟩
  have HB5 := Lib.hid ((below_alloc HB4.out _).trans (hb5.mono (below_alloc HB4.out _).size)); clear hb5
  go_wp2_with fail
  go_ret
  exact ⟨rfl, HB5.out⟩
end Go.Proofs.YtcjgefhlkjdoaaaDoor

/-
  PROVED HERE: the walk of CrcRows returns true and writes nothing that was there.
  Conditions: the table lies in its variable; the slice that came in lies in memory as a row of strings.
-/
import Derived.Test.YtcjgefhlkjdoaaaDoorRow
namespace Go.Proofs.YtcjgefhlkjdoaaaDoor
open Go.RowKit Crc

theorem own_below {w w' : World} {B n : Nat} {v : Value} {l : List ByteArray} (hown : w.ownsRow B 9 1 v n (strV l)) (hb : Below w.heap.size w w') : w'.ownsRow B 9 1 v n (strV l) := by
  obtain ⟨h1, h | ⟨g, cp, cur, rfl, h2, h3, h4, h5, h6, h7⟩⟩ := hown
  · exact ⟨h1, .inl h⟩
  · exact ⟨h1, .inr ⟨g, cp, cur, rfl, h2, by rw [hb.block g (Array.getElem?_eq_some_iff.1 h3).1]; exact h3, h4, h5, h6, h7⟩⟩

set_option maxHeartbeats 400000 in
theorem rows_walk (a : Option Addr) (len cap : Nat) (ss : List ByteArray) (w : World) (hs : IsStrs w a len ss) (ht : Tab w) :
    Calls Tryd.prog 8 #[.slice a len cap] w fun e w' => e = .returned (.bool true) ∧ Below w.heap.size w w' := by
  have HT := Lib.hid ht; clear ht
  have HS := Lib.hid hs; clear hs
  go_enter Tryd.func8, Tryd.ntmps8
  go_wp2_with fail
  refine (awake_any _ HT.out).mono ?_; rintro e w1 ⟨rfl, hb⟩
  have HB := Lib.hid hb; clear hb
  go_wp2_with fail
  refine (few_any a len cap ss _ (isStrs_below HB.out HS.out)).mono ?_; rintro e w2 ⟨v, rfl, hown, hb2⟩
  have HB2 := Lib.hid (HB.out.trans (hb2.mono HB.out.size)); clear hb2
  have HT2 := Lib.hid (tab_below HB2.out (tab_pos HT.out) HT.out)
  have HL := Lib.hid (fewL_le ss 20)
  have HN := Lib.hid (fewL_len ss 20)
  generalize fewL ss 20 = F at *
  have HO := Lib.hid hown; clear hown
  go_wp2_with fail
  refine (row_own HO.out HN.out HL.out HT2.out).mono ?_; rintro e w3 ⟨rfl, hb3⟩
  have HO3 := Lib.hid (own_below HO.out hb3)
  have HB3 := Lib.hid (HB2.out.trans (hb3.mono HB2.out.size)); clear hb3
  go_wp2_with fail
  refine (refRow_own HO3.out HN.out HL.out).mono ?_; rintro e w4 ⟨rfl, hb4⟩
  have HB4 := Lib.hid (HB3.out.trans (hb4.mono HB3.out.size)); clear hb4
  go_wp2_with fail
  go_ret
  exact ⟨rfl, HB4.out⟩
end Go.Proofs.YtcjgefhlkjdoaaaDoor

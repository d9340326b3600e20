/-
  PROVED HERE: a call of the reference's Row tells the sum of the texts, each with its length ahead.
  Conditions: at most 20 texts, of 200 bytes at most, lie in memory as a row of strings.
-/
import Derived.Test.YtcjgefhlkjdoaaaDoorNum
import Derived.Deep.RegionHeld3
namespace Go.Proofs.YtcjgefhlkjdoaaaDoor
open Go.RowKit Crc

/-- the texts, each with its length ahead, one behind the other -/
def rowJ (l : List ByteArray) : ByteArray := l.foldl (fun s x => s ++ headS x.size ++ x) ⟨#[]⟩
theorem rowJ_take (l : List ByteArray) (k : Nat) (hk : k < l.length) : rowJ (l.take (k + 1)) = rowJ (l.take k) ++ headS l[k].size ++ l[k] := by
  unfold rowJ; rw [List.take_succ_eq_append_getElem hk, List.foldl_append]; rfl
theorem rowJ_size (l : List ByteArray) (hl : ∀ x ∈ l, x.size ≤ 200) : ∀ k, k ≤ l.length → (rowJ (l.take k)).size ≤ 208 * k := by
  intro k
  induction k with
  | zero => intro _; exact Nat.zero_le _
  | succ k ih =>
    intro hk
    rw [rowJ_take l k (by omega), ByteArray.size_append, ByteArray.size_append]
    have h1 := ih (by omega)
    have h2 := hl l[k] (List.getElem_mem _)
    have h3 : (headS l[k].size).size = 8 := rfl
    omega

theorem cell_keep {w w' : World} {a : Addr} {v : Value} (h : w.cell? a = some v) (hb : Below w.heap.size w w') : w'.cell? a = some v := by
  rw [hb.cell (World.block_lt_of_cell? w a h)]; exact h

set_option maxHeartbeats 2000000 in
theorem refRow_some (g cp : Nat) (F : List ByteArray) (w : World) (hn : F.length ≤ 20) (hl : ∀ x ∈ F, x.size ≤ 200) (hc : ∀ i : Nat, (h : i < F.length) → w.cell? ⟨g, i, none⟩ = some (.string F[i])) :
    Calls Tryd.prog 18 #[.slice (some ⟨g, 0, none⟩) F.length cp] w fun e w' => e = .returned (.int .u32 (num (add 0#32 (rowJ F).data.toList))) ∧ Below w.heap.size w w' := by
  have HC := Lib.hid hc; clear hc
  have HL := Lib.hid hl; clear hl
  go_enter Tryd.func18, Tryd.ntmps18
  go_wp2_with fail
  go_loopw [3, 4] (fun s i wr => ∃ k : Nat, k ≤ F.length ∧ i = .int .i64 k ∧ s = .string (rowJ (F.take k)) ∧ Below w.heap.size w wr) (fun _ i _ => F.length - (intOf i).toNat)
  case atStart => exact ⟨0, Nat.zero_le _, rfl, rfl, Below.refl _ _⟩
  case round =>
    obtain ⟨k, hk, rfl, rfl, hbel⟩ := hrel
    have HB := Lib.hid hbel; clear hbel
    by_cases hlt : k < F.length
    · have hck := cell_keep (HC.out k hlt) HB.out
      have hs := Lib.hid (rowJ_take F k hlt)
      have hxs := HL.out F[k] (List.getElem_mem _)
      have hjs := rowJ_size F HL.out k hk
      generalize rowJ (F.take k) = J at *
      generalize F[k] = x at *
      have HW : Hid (IntKind.u64.wrap (x.size : Int) = (x.size : Int)) := Lib.hid (IntWalk.u64_in _ (by omega))
      have h8 : (headS x.size).size = 8 := rfl
      have hadd1 : ∀ w, (Op.stringOp .add J (headS x.size)).run Tryd.prog w = .ok (.string (J ++ headS x.size)) w := fun w => run_string_add_sum w _ _ (by omega)
      have hadd2 : ∀ w, (Op.stringOp .add (J ++ headS x.size) x).run Tryd.prog w = .ok (.string (J ++ headS x.size ++ x)) w := fun w => run_string_add_sum w _ _ (by rw [ByteArray.size_append]; omega)
      clear h8
      have iz : (0 : Int) ≤ (k : Int) := by omega
      have ik : (k : Int) < (F.length : Int) := by omega
      go_wp2_with fail
      go_region_held3 (fun w' => w'.cell? ⟨g, k, none⟩ = some (.string x))
        (first | exact hck | exact cell_keep (w := wr.drew) hck hb)
        (first
          | (go_at_call 20; rw [HW.out]; refine (num_any x.size _ hxs).mono ?_; rintro e w' ⟨rfl, hb⟩))
      have HBel := Lib.hid (HB.out.trans ((Below.drew (Below.refl wr.heap.size wr)).trans hb |>.mono HB.out.size)); clear hb
      go_wp2_with fail
      go_roundw
      case rel => exact ⟨k + 1, by omega, by go_num, by rw [hs.out], HBel.out⟩
      case measure => simp [intOf]; omega
    · have hJ : F.take k = F := List.take_of_length_le (by omega)
      rw [hJ]
      have hjm : (rowJ F).size ≤ maxLen := by
        have := rowJ_size F HL.out F.length (Nat.le_refl _)
        rw [List.take_of_length_le (Nat.le_refl _)] at this
        unfold maxLen; omega
      have HJM := Lib.hid hjm; clear hjm hJ
      generalize hJ2 : rowJ F = J at *
      have HE := Lib.hid hJ2; clear hJ2
      go_wp2_with (go_at_call 13; refine (refOf_any J _ HJM.out).mono ?_; rintro e w' ⟨rfl, rfl⟩)
      go_ret
      exact ⟨ret_num (by rw [HE.out]), HB.out⟩

set_option maxHeartbeats 400000 in
theorem refRow_nil (w : World) : Calls Tryd.prog 18 #[.slice none 0 0] w fun e w' => e = .returned (.int .u32 (num (add 0#32 (rowJ []).data.toList))) ∧ Below w.heap.size w w' := by
  have HF : Hid (num (add 0#32 (⟨#[]⟩ : ByteArray).data.toList) = num (add 0#32 (rowJ []).data.toList)) := Lib.hid rfl
  go_enter Tryd.func18, Tryd.ntmps18
  go_wp2_with fail
  refine wp_loop_rounds 1 ?_
  rw [rounds_succ]
  go_wp2_with (go_at_call 13; refine (refOf_any ⟨#[]⟩ _ (by decide +kernel)).mono ?_; rintro e w' ⟨rfl, rfl⟩)
  go_ret
  exact ⟨by rw [← HF.out]; rfl, Below.refl _ _⟩

theorem refRow_own {w : World} {B n : Nat} {v : Value} {l : List ByteArray} (hown : w.ownsRow B 9 1 v n (strV l)) (hn : l.length ≤ 20) (hl : ∀ x ∈ l, x.size ≤ 200) :
    Calls Tryd.prog 18 #[v] w fun e w' => e = .returned (.int .u32 (num (add 0#32 (rowJ l).data.toList))) ∧ Below w.heap.size w w' := by
  rcases own_form hown with ⟨rfl, rfl⟩ | ⟨g, cp, rfl, hc⟩
  · exact refRow_nil w
  · exact refRow_some g cp l w hn hl hc
end Go.Proofs.YtcjgefhlkjdoaaaDoor

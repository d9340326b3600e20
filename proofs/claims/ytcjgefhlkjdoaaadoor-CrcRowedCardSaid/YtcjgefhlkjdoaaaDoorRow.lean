/-
  PROVED HERE: a call of crc.Row tells the sum of the texts, each with its length ahead.
  Conditions: at most 20 texts, of 200 bytes at most, lie in memory as a row of strings; the table lies in its variable.
-/
import Derived.Test.YtcjgefhlkjdoaaaDoorRefRow
import Derived.Test.YtcjgefhlkjdoaaaDoorTurned
namespace Go.Proofs.YtcjgefhlkjdoaaaDoor
open Go.RowKit Crc

/-- the sum of the texts, each with its length ahead, step by step -/
def rowA (l : List ByteArray) : W := l.foldl (fun c x => add (add c (headS x.size).data.toList) x.data.toList) 0#32
theorem rowA_take (l : List ByteArray) (k : Nat) (hk : k < l.length) : rowA (l.take (k + 1)) = add (add (rowA (l.take k)) (headS l[k].size).data.toList) l[k].data.toList := by
  unfold rowA; rw [List.take_succ_eq_append_getElem hk, List.foldl_append]; rfl

set_option maxHeartbeats 400000 in
/-- the closure: what was summed goes on by one text -/
theorem put_any (c : W) (s : ByteArray) (C : Nat) (w : World) (hs : s.size ≤ maxLen) (ht : Tab w) (hc : w.cell? ⟨C, 0, none⟩ = some (.int .u32 (num c))) (hf : w.frozen? ⟨C, 0, none⟩ = false) :
    Calls Tryd.prog 19 #[.string s, .pointer (some ⟨C, 0, none⟩)] w fun e w' => e = .returned (.tuple #[]) ∧ w' = w.setCell ⟨C, 0, none⟩ (.int .u32 (num (add c s.data.toList))) := by
  have HA := Lib.hid (add_tab c s w hs ht); clear ht
  go_enter Tryd.func19, Tryd.ntmps19
  go_wp2_with fail
  refine HA.out.mono ?_; rintro e w' ⟨rfl, rfl⟩
  go_wp2_with fail
  go_end0
  exact ⟨rfl, rfl⟩

/-- the eight bytes once the first m are laid -/
def headK (n m : Nat) : List UInt8 := if m = 8 then [0, 0, 0, 0, 0, 0, 0, UInt8.ofNat n] else List.replicate 8 0
theorem headK_length (n m : Nat) : (headK n m).length = 8 := by unfold headK; split <;> rfl
def headB (n m : Nat) : UInt8 := if m = 7 then UInt8.ofNat n else 0
theorem headK_set (n m : Nat) (hm : m < 8) : headK n (m + 1) = (headK n m).set m (headB n m) := by
  unfold headK headB
  rw [if_neg (by omega : ¬ m = 8)]
  by_cases h : m = 7
  · subst h; rfl
  · rw [if_neg (by omega), if_neg h]
    have : ∀ k : Fin 8, List.replicate 8 (0 : UInt8) = (List.replicate 8 0).set k.val 0 := by decide
    exact this ⟨m, hm⟩

theorem holds8_zero {w wo : World} (n : Nat) (hb : Below w.heap.size w wo) :
    Holds8 w wo.heap.size (wo.alloc (.cells #[.int .u8 0, .int .u8 0, .int .u8 0, .int .u8 0, .int .u8 0, .int .u8 0, .int .u8 0, .int .u8 0] 43)) (headK n 0) := by
  refine ⟨below_alloc hb _, hb.size, fun j h => ?_, fun j _ => World.frozen?_alloc_at _ _ _ _ rfl⟩
  have h8 : j < 8 := by rw [headK_length] at h; exact h
  rw [World.cell?_alloc_at _ _ _ _ rfl]
  match j, h8, h with
  | 0, _, _ => rfl
  | 1, _, _ => rfl
  | 2, _, _ => rfl
  | 3, _, _ => rfl
  | 4, _, _ => rfl
  | 5, _, _ => rfl
  | 6, _, _ => rfl
  | 7, _, _ => rfl

theorem head_val (n m : Nat) (hn : n ≤ 200) (hm : m < 8) : ((n : Int) / 2 ^ (8 * (7 - m)) % 256) = ((headB n m).toNat : Int) := by
  by_cases h : m = 7
  · subst h
    have : (UInt8.ofNat n).toNat = n := by simp; omega
    unfold headB
    rw [if_pos rfl, this]
    simp
    omega
  · unfold headB
    rw [if_neg h]
    have hp : ∀ k : Fin 7, (256 : Int) ≤ 2 ^ (8 * (7 - k.val)) := by decide
    have h2 := hp ⟨m, by omega⟩
    have h3 : (n : Int) / 2 ^ (8 * (7 - m)) = 0 := Int.ediv_eq_zero_of_lt (by omega) (by simp only at h2; omega)
    rw [h3]; rfl

theorem conv_head {w wr : World} {B n : Nat} (h : Holds8 w B wr (headK n 8)) : (convert 32 9 (.slice (some ⟨B, 0, none⟩) 8 8)).run Tryd.prog wr = .ok (.string (headS n)) wr :=
  run_convert_bytes_back (P := Tryd.prog) wr 32 9 5 ⟨B, 0, none⟩ 8 (headK n 8) Tryd.underlying32 Tryd.underlying5 Tryd.underlying9 (fun j hj => by
    have e : (⟨B, 0, none⟩ : Addr).add j = ⟨B, j, none⟩ := by unfold Addr.add; split <;> simp_all
    rw [e]; exact h.2.2.1 j hj)

set_option maxHeartbeats 2000000 in
theorem row_some (g cp : Nat) (F : List ByteArray) (w : World) (hn : F.length ≤ 20) (hl : ∀ x ∈ F, x.size ≤ 200) (hc : ∀ i : Nat, (h : i < F.length) → w.cell? ⟨g, i, none⟩ = some (.string F[i])) (ht : Tab w) :
    Calls Tryd.prog 17 #[.slice (some ⟨g, 0, none⟩) F.length cp] w fun e w' => e = .returned (.int .u32 (num (rowA F))) ∧ Below w.heap.size w w' := by
  have HC := Lib.hid hc; clear hc
  have HL := Lib.hid hl; clear hl
  have HT := Lib.hid ht; clear ht
  go_enter Tryd.func17, Tryd.ntmps17
  go_wp2_with fail
  go_loopw [13] (fun i wr => ∃ k : Nat, k ≤ F.length ∧ i = .int .i64 k ∧ Below w.heap.size w wr ∧ w.heap.size < wr.heap.size ∧ wr.cell? ⟨w.heap.size, 0, none⟩ = some (.int .u32 (num (rowA (F.take k)))) ∧ wr.frozen? ⟨w.heap.size, 0, none⟩ = false) (fun i _ => F.length - (intOf i).toNat)
  case atStart => exact ⟨0, Nat.zero_le _, rfl, (Below.refl _ _).alloc (Nat.le_refl _) _, by simp, by rw [World.cell?_alloc_at _ _ _ _ rfl]; rfl, World.frozen?_alloc_at _ _ _ _ rfl⟩
  case round =>
    obtain ⟨k, hk, rfl, hbel, hsz, hcc, hcf⟩ := hrel
    have HB := Lib.hid hbel; clear hbel
    by_cases hlt : k < F.length
    · have hck := HB.out.cell (p := ⟨g, k, none⟩) (World.block_lt_of_cell? w ⟨g, k, none⟩ (HC.out k hlt)) |>.trans (HC.out k hlt)
      have hs := Lib.hid (rowA_take F k hlt)
      have hxs := HL.out F[k] (List.getElem_mem _)
      generalize rowA (F.take k) = c at *
      generalize F[k] = x at *
      go_wp2_with fail
      obtain ⟨wo, rfl⟩ : ∃ wo : World, wo = wr := ⟨_, rfl⟩
      go_loopw [20] (fun i wi => ∃ m : Nat, m ≤ 8 ∧ i = .int .i64 m ∧ Holds8 w wo.heap.size wi (headK x.size m) ∧ wi.cell? ⟨w.heap.size, 0, none⟩ = some (.int .u32 (num c)) ∧ wi.frozen? ⟨w.heap.size, 0, none⟩ = false) (fun i _ => 8 - (intOf i).toNat)
      case atStart =>
        exact ⟨0, Nat.zero_le _, rfl, holds8_zero x.size HB.out, by rw [World.cell?_alloc_past _ _ _ (by omega)]; exact hcc, by rw [World.frozen?_alloc_past _ _ _ (by omega)]; exact hcf⟩
      case round =>
        obtain ⟨m, hm, rfl, hold, hci, hfi⟩ := hrel
        by_cases hml : m < 8
        · have hlen : (headK x.size m).length = 8 := headK_length _ _
          have hj : m < (headK x.size m).length := by omega
          have hcell := hold.2.2.1 m hj
          have hfz := hold.2.2.2 m hj
          have HOLD := Lib.hid hold; clear hold
          have HStep := Lib.hid (headK_set x.size m hml)
          have hA0 : (w.heap.size : Int) < (wo.heap.size : Int) := by omega
          generalize headK x.size m = l at *
          go_wp2_with fail
          go_roundw
          case rel =>
            have hv := holds8_set HOLD.out m hj (headB x.size m)
            rw [← head_val x.size m hxs hml] at hv
            refine ⟨m + 1, by omega, by go_num, by rw [HStep.out]; exact hv, ?_, ?_⟩
            · rw [World.cell?_setCell_other _ _ _ _ (by simp)]; exact hci
            · rw [World.frozen?_setCell]; exact hfi
          case measure => simp [intOf]; omega
        · obtain rfl : m = 8 := by omega
          have hconv := conv_head hold
          have HBi := Lib.hid hold.1
          have HTi := Lib.hid (tab_below hold.1 (tab_pos HT.out) HT.out)
          clear hold hcc hcf hck
          have HCI := Lib.hid hci; clear hci
          have HFI := Lib.hid hfi; clear hfi
          have HXM : Hid (x.size ≤ maxLen) := Lib.hid (by unfold maxLen; omega)
          have HHM : Hid ((headS x.size).size ≤ maxLen) := Lib.hid (by show 8 ≤ maxLen; unfold maxLen; omega)
          go_wp2_with fail
          refine (put_any c (headS x.size) w.heap.size _ HHM.out HTi.out HCI.out HFI.out).mono ?_; rintro e w' ⟨rfl, hw'⟩
          have HB1 : Hid (Below w.heap.size w w') := Lib.hid (by rw [hw']; exact HBi.out.setCell (Nat.le_refl _) _)
          have HC1 : Hid (w'.cell? ⟨w.heap.size, 0, none⟩ = some (.int .u32 (num (add c (headS x.size).data.toList)))) := Lib.hid (by rw [hw', World.cell?_setCell_same _ _ _ HCI.out])
          have HF1 : Hid (w'.frozen? ⟨w.heap.size, 0, none⟩ = false) := Lib.hid (by rw [hw', World.frozen?_setCell]; exact HFI.out)
          have HZ1 : Hid (w.heap.size < w'.heap.size) := Lib.hid (World.block_lt_of_cell? w' _ HC1.out)
          clear hw'
          go_wp2_with fail
          refine (put_any (add c (headS x.size).data.toList) x w.heap.size _ HXM.out (tab_below HB1.out (tab_pos HT.out) HT.out) HC1.out HF1.out).mono ?_; rintro e w'' ⟨rfl, hw'⟩
          have HB2 : Hid (Below w.heap.size w w'') := Lib.hid (by rw [hw']; exact HB1.out.setCell (Nat.le_refl _) _)
          have HC2 : Hid (w''.cell? ⟨w.heap.size, 0, none⟩ = some (.int .u32 (num (add (add c (headS x.size).data.toList) x.data.toList)))) := Lib.hid (by rw [hw', World.cell?_setCell_same _ _ _ HC1.out])
          have HF2 : Hid (w''.frozen? ⟨w.heap.size, 0, none⟩ = false) := Lib.hid (by rw [hw', World.frozen?_setCell]; exact HF1.out)
          have HZ2 : Hid (w.heap.size < w''.heap.size) := Lib.hid (World.block_lt_of_cell? w'' _ HC2.out)
          clear hw'
          go_wp2_with fail
          go_roundw
          case rel => exact ⟨k + 1, by omega, by go_num, HB2.out, HZ2.out, by rw [hs.out]; exact HC2.out, HF2.out⟩
          case measure => simp [intOf]; omega
    · have hJ : F.take k = F := List.take_of_length_le (by omega)
      rw [hJ] at hcc
      have HCC := Lib.hid hcc
      go_wp2_with fail
      go_ret
      exact ⟨rfl, HB.out⟩

set_option maxHeartbeats 400000 in
theorem row_nil (w : World) : Calls Tryd.prog 17 #[.slice none 0 0] w fun e w' => e = .returned (.int .u32 0) ∧ Below w.heap.size w w' := by
  go_enter Tryd.func17, Tryd.ntmps17
  go_wp2_with fail
  refine wp_loop_rounds 1 ?_
  rw [rounds_succ]
  go_wp2_with fail
  go_ret
  exact ⟨rfl, below_alloc (Below.refl _ _) _⟩

/-- both ways of saying it -/
theorem rowA_join (l : List ByteArray) : ∀ k, k ≤ l.length → rowA (l.take k) = add 0#32 (rowJ (l.take k)).data.toList := by
  intro k
  induction k with
  | zero => intro _; exact (add_nil 0#32).symm
  | succ k ih =>
    intro hk
    rw [rowA_take l k (by omega), rowJ_take l k (by omega), bytes_append, bytes_append, add_append, add_append, ih (by omega)]
theorem row_own {w : World} {B n : Nat} {v : Value} {l : List ByteArray} (hown : w.ownsRow B 9 1 v n (strV l)) (hn : l.length ≤ 20) (hl : ∀ x ∈ l, x.size ≤ 200) (ht : Tab w) :
    Calls Tryd.prog 17 #[v] w fun e w' => e = .returned (.int .u32 (num (add 0#32 (rowJ l).data.toList))) ∧ Below w.heap.size w w' := by
  have hj := rowA_join l l.length (Nat.le_refl _)
  rw [List.take_of_length_le (Nat.le_refl _)] at hj
  rcases own_form hown with ⟨rfl, rfl⟩ | ⟨g, cp, rfl, hc⟩
  · refine (row_nil w).mono fun e w' ⟨h1, h2⟩ => ⟨?_, h2⟩
    rw [h1, ← hj]; rfl
  · refine (row_some g cp l w hn hl hc ht).mono fun e w' ⟨h1, h2⟩ => ⟨?_, h2⟩
    rw [h1, hj]
end Go.Proofs.YtcjgefhlkjdoaaaDoor

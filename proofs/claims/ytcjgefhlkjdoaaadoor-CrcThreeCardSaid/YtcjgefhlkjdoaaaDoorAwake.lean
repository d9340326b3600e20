/-
  PROVED HERE: the chapter's examples answer true; a text is cut to its first bytes.
  Conditions: the table lies in its variable.
-/
import Derived.Test.YtcjgefhlkjdoaaaDoorOf
namespace Go.Proofs.YtcjgefhlkjdoaaaDoor
open Go.RowKit Crc

theorem tab_pos {w : World} (ht : Tab w) : 0 < w.heap.size := World.block_lt_of_cell? w ⟨0, 0, none⟩ (ht 0 (by omega))
theorem tab_alloc {w : World} (ht : Tab w) (o : Obj) : Tab (w.alloc o) :=
  tab_below ((Below.refl w.heap.size w).alloc (Nat.le_refl _) o) (tab_pos ht) ht

theorem below_alloc {a w : World} (h : Below a.heap.size a w) (o : Obj) : Below a.heap.size a (w.alloc o) := h.alloc h.size o

def exA : ByteArray := ⟨#[97]⟩
def exB : ByteArray := ⟨#[49, 50, 51, 52]⟩
def exC : ByteArray := ⟨#[53, 54, 55, 56, 57]⟩
theorem ex1 : num (add 0#32 exA.data.toList) = 429103979 := by decide +kernel
theorem ex2 : num (add (add 0#32 exB.data.toList) exC.data.toList) = 4236843288 := by decide +kernel

theorem aw0 (w : World) : Calls Tryd.prog 12 #[.slice none 0 0] w fun e w' => e = .returned (.int .u32 0) ∧ w = w' :=
  (of_nil w).mono fun _ _ ⟨h1, h2⟩ => ⟨by rw [h1, ← zero_num], h2⟩
theorem aw1 (b cap : Nat) (w : World) (hc : w.cell? ⟨b, 0, none⟩ = some (.string exA)) (ht : Tab w) :
    Calls Tryd.prog 12 #[.slice (some ⟨b, 0, none⟩) 1 cap] w fun e w' => e = .returned (.int .u32 429103979) ∧ w = w' :=
  (of_one b cap exA w (by decide +kernel) hc ht).mono fun _ _ ⟨h1, h2⟩ => ⟨by rw [h1, ex1], h2⟩
theorem aw2 (b cap : Nat) (w : World) (hc : w.cell? ⟨b, 0, none⟩ = some (.string exB)) (hd : w.cell? ⟨b, 1, none⟩ = some (.string exC)) (ht : Tab w) :
    Calls Tryd.prog 12 #[.slice (some ⟨b, 0, none⟩) 2 cap] w fun e w' => e = .returned (.int .u32 4236843288) ∧ w = w' :=
  (of_two b cap exB exC w (by decide +kernel) (by decide +kernel) hc hd ht).mono fun _ _ ⟨h1, h2⟩ => ⟨by rw [h1, ex2], h2⟩
theorem aw3 (b cap : Nat) (w : World) (hc : w.cell? ⟨b, 0, none⟩ = some (.string exB)) (ht : Tab w) :
    Calls Tryd.prog 12 #[.slice (some ⟨b, 0, none⟩) 1 cap] w fun e w' => e = .returned (.int .u32 (num (add 0#32 exB.data.toList))) ∧ w = w' :=
  of_one b cap exB w (by decide +kernel) hc ht
theorem aw4 (w : World) (ht : Tab w) :
    Calls Tryd.prog 14 #[.int .u32 (num (add 0#32 exB.data.toList)), .string exC] w fun e w' => e = .returned (.int .u32 4236843288) ∧ w = w' :=
  (add_tab _ exC w (by decide +kernel) ht).mono fun _ _ ⟨h1, h2⟩ => ⟨by rw [h1, ex2], h2⟩

set_option maxHeartbeats 400000 in
theorem awake_any (w : World) (ht : Tab w) :
    Calls Tryd.prog 10 #[] w fun e w' => e = .returned (.bool true) ∧ Below w.heap.size w w' := by
  have HT := Lib.hid ht; clear ht
  go_enter Tryd.func10, Tryd.ntmps10
  go_wp2_with fail
  refine (aw0 _).mono ?_; rintro e w' ⟨rfl, rfl⟩
  go_wp2_with fail
  refine (aw1 _ _ _ (by simp; rfl) (tab_alloc HT.out _)).mono ?_; rintro e w' ⟨rfl, rfl⟩
  go_wp2_with fail
  refine (aw2 _ _ _ (by simp; rfl) (by simp; rfl) (tab_alloc (tab_alloc HT.out _) _)).mono ?_; rintro e w' ⟨rfl, rfl⟩
  go_wp2_with fail
  refine (aw3 _ _ _ (by rw [World.cell?_alloc_at _ _ _ _ (by simp)]; rfl) (tab_alloc (tab_alloc (tab_alloc HT.out _) _) _)).mono ?_; rintro e w' ⟨rfl, rfl⟩
  go_wp2_with fail
  refine (aw4 _ (tab_alloc (tab_alloc (tab_alloc HT.out _) _) _)).mono ?_; rintro e w' ⟨rfl, rfl⟩
  go_wp2_with fail
  go_ret
  exact ⟨rfl, below_alloc (below_alloc (below_alloc (Below.refl _ _) _) _) _⟩

/-- a text of at most n bytes -/
def cutS (s : ByteArray) (n : Nat) : ByteArray := s.extract 0 n
theorem cutS_le (s : ByteArray) (n : Nat) : (cutS s n).size ≤ n := by unfold cutS; simp; omega
theorem cutS_le' (s : ByteArray) (n : Nat) : (cutS s n).size ≤ s.size := by unfold cutS; simp; omega

theorem ret_str {a b : ByteArray} (h : a = b) : Ending.returned (.string a) = .returned (.string b) := by rw [h]
set_option maxHeartbeats 400000 in
theorem short_any (s : ByteArray) (n : Nat) (w : World) (hn : n ≤ 4000) :
    Calls Tryd.prog 11 #[.string s, .int .i64 n] w fun e w' => e = .returned (.string (cutS s n)) ∧ w = w' := by
  by_cases hlt : n < s.size
  · go_enter Tryd.func11, Tryd.ntmps11
    go_wp2
    go_ret
    exact ⟨rfl, rfl⟩
  · have hfin : cutS s n = s := by
      apply ByteArray.ext
      unfold cutS
      simp
      omega
    have HF := Lib.hid hfin; clear hfin
    go_enter Tryd.func11, Tryd.ntmps11
    go_wp2
    go_ret
    exact ⟨ret_str HF.out.symm, rfl⟩
end Go.Proofs.YtcjgefhlkjdoaaaDoor

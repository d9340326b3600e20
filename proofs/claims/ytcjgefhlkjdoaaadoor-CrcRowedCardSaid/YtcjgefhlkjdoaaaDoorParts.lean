/-
  PROVED HERE: the walk of CrcParts returns true and writes nothing that was there.
  Conditions: the table lies in its variable; the slice that came in lies in memory as a row of strings.
-/
import Derived.Test.YtcjgefhlkjdoaaaDoorFew
import Derived.Test.YtcjgefhlkjdoaaaDoorSteps
namespace Go.Proofs.YtcjgefhlkjdoaaaDoor
open Go.RowKit Crc

/-- the texts, one behind the other -/
def joinS (l : List ByteArray) : ByteArray := l.foldl (· ++ ·) ⟨#[]⟩
theorem joinS_take (l : List ByteArray) (k : Nat) (hk : k < l.length) : joinS (l.take (k + 1)) = joinS (l.take k) ++ l[k] := by
  unfold joinS; rw [List.take_succ_eq_append_getElem hk, List.foldl_append]; rfl
theorem bytes_append (a b : ByteArray) : (a ++ b).data.toList = a.data.toList ++ b.data.toList := by
  rw [ByteArray.data_append, Array.toList_append]
theorem ofL_join (l : List ByteArray) : ∀ k, k ≤ l.length → ofL (l.take k) = add 0#32 (joinS (l.take k)).data.toList := by
  intro k
  induction k with
  | zero => intro _; exact (add_nil 0#32).symm
  | succ k ih =>
    intro hk
    rw [ofL_take l k (by omega), joinS_take l k (by omega), bytes_append, add_append, ih (by omega)]
theorem joinS_size (l : List ByteArray) (n : Nat) (hl : ∀ x ∈ l, x.size ≤ n) : ∀ k, k ≤ l.length → (joinS (l.take k)).size ≤ n * k := by
  intro k
  induction k with
  | zero => intro _; exact Nat.zero_le _
  | succ k ih =>
    intro hk
    rw [joinS_take l k (by omega), ByteArray.size_append]
    have h1 := ih (by omega)
    have h2 := hl l[k] (List.getElem_mem _)
    rw [Nat.mul_succ]; omega
theorem fewL_le (ss : List ByteArray) (k : Nat) : ∀ x ∈ fewL ss k, x.size ≤ 200 := by
  intro x hx
  unfold fewL at hx
  obtain ⟨y, _, rfl⟩ := List.mem_map.1 hx
  exact cutS_le y 200
theorem fewL_len (ss : List ByteArray) (k : Nat) : (fewL ss k).length ≤ k := by
  unfold fewL; simp; omega

theorem own_form {w : World} {B n : Nat} {v : Value} {l : List ByteArray} (hown : w.ownsRow B 9 1 v n (strV l)) :
    (v = .slice none 0 0 ∧ l = []) ∨ ∃ g cp, v = .slice (some ⟨g, 0, none⟩) l.length cp ∧ ∀ i : Nat, (h : i < l.length) → w.cell? ⟨g, i, none⟩ = some (.string l[i]) := by
  have hn : l.length = n := by have := hown.1; simpa [strV] using this
  have hcs := hown
  obtain ⟨_, ⟨rfl, rfl⟩ | ⟨g, cp, cur, rfl, _, _, hle, hcap, _, _⟩⟩ := hown
  · exact .inl ⟨rfl, List.length_eq_zero_iff.1 hn⟩
  · subst hn
    refine .inr ⟨g, cp, rfl, fun i h => ?_⟩
    have := hcs.cells rfl i (.string l[i]) (by simp [strV, h])
    rw [add_at] at this
    simpa using this

theorem add_zero (s : ByteArray) (w : World) (hs : s.size ≤ maxLen) (ht : Tab w) :
    Calls Tryd.prog 14 #[.int .u32 0, .string s] w fun e w' => e = .returned (.int .u32 (num (add 0#32 s.data.toList))) ∧ w = w' := by
  have h := add_tab 0#32 s w hs ht
  rw [← zero_num] at h
  exact h
theorem bare : num (add 0#32 (⟨#[]⟩ : ByteArray).data.toList) = 0 := by decide +kernel
theorem zero_bare (w : World) (ht : Tab w) : Calls Tryd.prog 14 #[.int .u32 0, .string ⟨#[]⟩] w fun e w' => e = .returned (.int .u32 0) ∧ w = w' :=
  (add_zero ⟨#[]⟩ w (by decide +kernel) ht).mono fun _ _ ⟨h1, h2⟩ => ⟨by rw [h1, bare], h2⟩
theorem of_bare (b cap : Nat) (w : World) (hc : w.cell? ⟨b, 0, none⟩ = some (.string ⟨#[]⟩)) (ht : Tab w) :
    Calls Tryd.prog 12 #[.slice (some ⟨b, 0, none⟩) 1 cap] w fun e w' => e = .returned (.int .u32 0) ∧ w = w' :=
  (of_one b cap ⟨#[]⟩ w (by decide +kernel) hc ht).mono fun _ _ ⟨h1, h2⟩ => ⟨by rw [h1, bare], h2⟩
theorem of_joined {w : World} {B n : Nat} {v : Value} {l : List ByteArray} (hown : w.ownsRow B 9 1 v n (strV l)) (hl : ∀ x ∈ l, x.size ≤ maxLen) (ht : Tab w) :
    Calls Tryd.prog 12 #[v] w fun e w' => e = .returned (.int .u32 (num (add 0#32 (joinS l).data.toList))) ∧ w = w' :=
  (of_own hown hl ht).mono fun _ _ ⟨h1, h2⟩ => ⟨by
    have := ofL_join l l.length (Nat.le_refl _)
    rw [List.take_of_length_le (Nat.le_refl _)] at this
    rw [h1, this], h2⟩

set_option maxHeartbeats 400000 in
theorem parts_walk (a : Option Addr) (len cap : Nat) (ss : List ByteArray) (c : W) (w : World) (hs : IsStrs w a len ss) (ht : Tab w) :
    Calls Tryd.prog 4 #[.slice a len cap, .int .u32 (num c)] w fun e w' => e = .returned (.bool true) ∧ Below w.heap.size w w' := by
  have HT := Lib.hid ht; clear ht
  have HS := Lib.hid hs; clear hs
  go_enter Tryd.func4, Tryd.ntmps4
  go_wp2_with fail
  refine (awake_any _ HT.out).mono ?_; rintro e w1 ⟨rfl, hb⟩
  have HB := Lib.hid hb; clear hb
  have HT1 := Lib.hid (tab_below HB.out (tab_pos HT.out) HT.out)
  go_wp2_with fail
  refine (few_any a len cap ss _ (isStrs_below HB.out HS.out)).mono ?_; rintro e w2 ⟨v, rfl, hown, hb2⟩
  have HB2 := Lib.hid (HB.out.trans (hb2.mono HB.out.size)); clear hb2
  have HT2 := Lib.hid (tab_below HB2.out (tab_pos HT.out) HT.out)
  have HL := Lib.hid (fewL_le ss 20)
  have HN := Lib.hid (fewL_len ss 20)
  generalize fewL ss 20 = F at *
  have HO := Lib.hid hown
  have hform := own_form hown; clear hown
  rcases hform with ⟨rfl, hF⟩ | ⟨g, cp, rfl, hcell⟩
  · subst hF
    go_wp2_with fail
    refine wp_loop_rounds 1 ?_
    rw [rounds_succ]
    go_wp2_with fail
    refine (aw0 _).mono ?_; rintro e w' ⟨rfl, rfl⟩
    go_wp2_with fail
    refine (of_bare _ _ _ (by rw [World.cell?_alloc_at _ _ _ _ (by simp)]; rfl) (tab_alloc HT2.out _)).mono ?_; rintro e w' ⟨rfl, rfl⟩
    go_wp2_with fail
    refine (add_empty c _ (tab_alloc HT2.out _)).mono ?_; rintro e w' ⟨rfl, rfl⟩
    go_wp2_with fail
    refine (zero_bare _ (tab_alloc HT2.out _)).mono ?_; rintro e w' ⟨rfl, rfl⟩
    go_wp2_with fail
    refine (of_bare _ _ _ (by rw [World.cell?_alloc_at _ _ _ _ (by simp)]; rfl) (tab_alloc (tab_alloc HT2.out _) _)).mono ?_; rintro e w' ⟨rfl, rfl⟩
    go_wp2_with fail
    go_ret
    exact ⟨rfl, below_alloc (below_alloc HB2.out _) _⟩
  · have HCell := Lib.hid hcell; clear hcell
    have hFn := HN.out
    go_wp2_with fail
    go_loop [7, 8, 9] (fun t u i => ∃ k : Nat, k ≤ F.length ∧ i = .int .i64 k ∧ t = .string (joinS (F.take k)) ∧ u = .int .u32 (num (add c (joinS (F.take k)).data.toList))) (fun _ _ i => F.length - (intOf i).toNat)
    case atStart => exact ⟨0, Nat.zero_le _, rfl, rfl, by rw [show add c (joinS (F.take 0)).data.toList = c from add_nil c]⟩
    case round =>
      obtain ⟨k, hk, rfl, rfl, rfl⟩ := hrel
      by_cases hlt : k < F.length
      · have hck := HCell.out k hlt
        have HJ := Lib.hid (joinS_take F k hlt)
        have hjs := joinS_size F 200 HL.out k hk
        have hxs := HL.out F[k] (List.getElem_mem _)
        generalize joinS (F.take k) = J at *
        generalize F[k] = x at *
        have hxm : x.size ≤ maxLen := by unfold maxLen; omega
        have HXM := Lib.hid hxm; clear hxm
        go_wp2_with (go_at_call 14; refine (add_tab (add c J.data.toList) x _ HXM.out HT2.out).mono ?_; rintro e w' ⟨rfl, rfl⟩)
        go_round
        case rel => exact ⟨k + 1, by omega, by go_num, by rw [HJ.out], by rw [HJ.out, bytes_append, add_append]⟩
        case measure => simp [intOf]; omega
      · have hJ : F.take k = F := List.take_of_length_le (by omega)
        rw [hJ]
        have hjm : (joinS F).size ≤ maxLen := by
          have := joinS_size F 200 HL.out F.length (Nat.le_refl _)
          rw [List.take_of_length_le (Nat.le_refl _)] at this
          unfold maxLen; omega
        have HJM := Lib.hid hjm; clear hjm
        have HOF := Lib.hid (of_joined HO.out (fun x hx => by have := HL.out x hx; unfold maxLen; omega) HT2.out)
        generalize joinS F = J at *
        go_wp2_with fail
        refine HOF.out.mono ?_; rintro e w' ⟨rfl, rfl⟩
        go_wp2_with fail
        refine (of_one _ _ J _ HJM.out (by rw [World.cell?_alloc_at _ _ _ _ (by simp)]; rfl) (tab_alloc HT2.out _)).mono ?_; rintro e w' ⟨rfl, rfl⟩
        go_wp2_with fail
        refine (add_tab c J _ HJM.out (tab_alloc HT2.out _)).mono ?_; rintro e w' ⟨rfl, rfl⟩
        go_wp2_with fail
        refine (add_zero J _ HJM.out (tab_alloc HT2.out _)).mono ?_; rintro e w' ⟨rfl, rfl⟩
        go_wp2_with fail
        refine (of_one _ _ J _ HJM.out (by rw [World.cell?_alloc_at _ _ _ _ (by simp)]; rfl) (tab_alloc (tab_alloc HT2.out _) _)).mono ?_; rintro e w' ⟨rfl, rfl⟩
        go_wp2_with fail
        go_ret
        exact ⟨rfl, below_alloc (below_alloc HB2.out _) _⟩
end Go.Proofs.YtcjgefhlkjdoaaaDoor

/-
  PROVED HERE: a call of 'few' tells the first 20 texts, each cut to 200 bytes, in memory of the call's own; nothing that was there is written.
  Conditions: the slice that came in lies in memory as a row of strings.
-/
import Derived.Test.YtcjgefhlkjdoaaaDoorSums
namespace Go.Proofs.YtcjgefhlkjdoaaaDoor
open Go.RowKit Crc

theorem info9 : (Tryd.prog.info? 9).map (fun i => (i.zero, i.size, i.bytes)) = some (some (.string ⟨#[]⟩), 1, 16) := by kernel_rfl

/-- a slice of strings that came in -/
def IsStrs (w : World) (a : Option Addr) (len : Nat) (ss : List ByteArray) : Prop :=
  (len = 0 ∧ ss = []) ∨
  ∃ b off, a = some ⟨b, off, none⟩ ∧ ss.length = len ∧ b < w.heap.size ∧ ∀ i : Nat, (h : i < ss.length) → w.cell? ⟨b, off + i, none⟩ = some (.string ss[i])

def fewL (ss : List ByteArray) (k : Nat) : List ByteArray := (ss.take k).map (cutS · 200)
theorem fewL_succ (ss : List ByteArray) (k : Nat) (hk : k < ss.length) : fewL ss (k + 1) = fewL ss k ++ [cutS ss[k] 200] := by
  unfold fewL; rw [List.take_succ_eq_append_getElem hk, List.map_append]; rfl
theorem fewL_length (ss : List ByteArray) (k : Nat) (hk : k ≤ ss.length) : (fewL ss k).length = k := by
  unfold fewL; simp; omega
def strV (l : List ByteArray) : List Value := l.map Value.string

set_option maxHeartbeats 400000 in
theorem few_some (b off cap : Nat) (ss : List ByteArray) (w : World) (hb : b < w.heap.size)
    (hc : ∀ i : Nat, (h : i < ss.length) → w.cell? ⟨b, off + i, none⟩ = some (.string ss[i])) :
    Calls Tryd.prog 16 #[.slice (some ⟨b, off, none⟩) ss.length cap] w fun e w' => ∃ v, e = .returned v ∧
      w'.ownsRow w.heap.size 9 1 v (fewL ss 20).length (strV (fewL ss 20)) ∧ Below w.heap.size w w' := by
  obtain ⟨i0, hi, hz0, hz1, hz2⟩ := info_parts info9
  have HC := Lib.hid hc; clear hc
  have HBB := Lib.hid hb; clear hb
  go_enter Tryd.func16, Tryd.ntmps16
  go_wp2
  go_loopw [3, 4] (fun v i wr => ∃ k : Nat, k ≤ ss.length ∧ k ≤ 20 ∧ i = .int .i64 k ∧ wr.ownsRow w.heap.size 9 1 v k (strV (fewL ss k)) ∧ Below w.heap.size w wr)
    (fun _ i _ => 20 - (intOf i).toNat)
  case atStart => exact ⟨0, Nat.zero_le _, by omega, rfl, World.ownsRow_nil _ _ _ _, Below.refl _ _⟩
  case round =>
    obtain ⟨k, hk, hk20, rfl, hown, hnx⟩ := hrel
    by_cases hlt : k < ss.length
    · by_cases h20 : k < 20
      · have hck : wr.cell? ⟨b, off + k, none⟩ = some (.string ss[k]) := (hnx.cell (by exact HBB.out)).trans (HC.out k hlt)
        have HS := Lib.hid (fewL_succ ss k hlt)
        have HN := Lib.hid hnx; clear hnx
        have HO := Lib.hid hown; clear hown
        have hsz := HN.out.size
        generalize ss[k] = x at *
        go_wp2_with (first
          | (go_at_call 11; refine (short200 _ _).mono ?_; rintro e w' ⟨rfl, rfl⟩)
          | (at_builtin; refine wpList_append_own _ rfl _ _ 29 rfl w.heap.size 9 i0 (.string ⟨#[]⟩) 1 16 Tryd.underlying29 hi hz0 hz1 hz2 rfl (by decide) _ _ _ rfl (HO.out.alloc _) ⟨wr.heap.size, 0, none⟩ 1 1 [.string (cutS x 200)] rfl rfl ?c1 ?c2 ?c3 ?c4 ?c5 ?_))
        case c1 =>
          intro j u hj
          match j, hj with
          | 0, hj => simp at hj; subst hj; simp [Addr.add]
        case c2 => intro u hu; simp at hu; subst hu; rfl
        case c3 => unfold maxLen; omega
        case c4 => omega
        case c5 => simp; omega
        · intro v' w1 hown' hgrow _
          have HO1 := Lib.hid hown'; clear hown'
          have HB1 := Lib.hid ((HN.out.alloc hsz _).grown hgrow (by simp; omega) (fun j hj => (HO.out.lt j hj).1)); clear hgrow
          go_wp2
          go_roundw
          case rel => exact ⟨k + 1, by omega, by omega, by go_num, by rw [HS.out]; simpa [strV] using HO1.out, HB1.out⟩
          case measure => simp [intOf]; omega
      · go_wp2
        go_ret
        have he : k = 20 := by omega
        refine ⟨_, rfl, ?_, hnx⟩
        rw [← he, fewL_length ss k hk]; exact hown
    · go_wp2
      go_ret
      have he : fewL ss 20 = fewL ss k := by unfold fewL; rw [List.take_of_length_le (by omega), List.take_of_length_le (by omega)]
      refine ⟨_, rfl, ?_, hnx⟩
      rw [he, fewL_length ss k hk]; exact hown

set_option maxHeartbeats 400000 in
theorem few_nil (a : Option Addr) (cap : Nat) (w : World) : Calls Tryd.prog 16 #[.slice a 0 cap] w fun e w' => e = .returned (.slice none 0 0) ∧ w = w' := by
  go_enter Tryd.func16, Tryd.ntmps16
  go_wp2
  refine wp_loop_rounds 1 ?_
  rw [rounds_succ]
  go_wp2
  go_ret
  exact ⟨rfl, rfl⟩

theorem add_at (g i : Nat) : (⟨g, 0, none⟩ : Addr).add i = ⟨g, 0 + i, none⟩ := by
  unfold Addr.add; split <;> simp_all

theorem isStrs_below {w w' : World} {a : Option Addr} {len : Nat} {ss : List ByteArray} (hb : Below w.heap.size w w') (h : IsStrs w a len ss) : IsStrs w' a len ss := by
  rcases h with h | ⟨b, off, rfl, rfl, hn, hc⟩
  · exact .inl h
  · refine .inr ⟨b, off, rfl, rfl, Nat.lt_of_lt_of_le hn hb.size, fun i h => ?_⟩
    rw [hb.cell (p := ⟨b, off + i, none⟩) hn]; exact hc i h

/-- what 'few' tells, whatever came in -/
theorem few_any (a : Option Addr) (len cap : Nat) (ss : List ByteArray) (w : World) (hs : IsStrs w a len ss) :
    Calls Tryd.prog 16 #[.slice a len cap] w fun e w' => ∃ v, e = .returned v ∧ w'.ownsRow w.heap.size 9 1 v (fewL ss 20).length (strV (fewL ss 20)) ∧ Below w.heap.size w w' := by
  rcases hs with ⟨rfl, rfl⟩ | ⟨b, off, rfl, rfl, hb, hc⟩
  · exact (few_nil a cap w).mono fun e w' ⟨h1, h2⟩ => ⟨_, h1, by subst h2; exact ⟨World.ownsRow_nil _ _ _ _, Below.refl _ _⟩⟩
  · exact few_some b off cap ss w hb hc

/-- the sum of what the call itself owns -/
theorem of_own {w : World} {B n : Nat} {v : Value} {l : List ByteArray} (hown : w.ownsRow B 9 1 v n (strV l)) (hl : ∀ x ∈ l, x.size ≤ maxLen) (ht : Tab w) :
    Calls Tryd.prog 12 #[v] w fun e w' => e = .returned (.int .u32 (num (ofL l))) ∧ w = w' := by
  have hn : l.length = n := by have := hown.1; simpa [strV] using this
  have hcs := hown
  obtain ⟨_, ⟨rfl, rfl⟩ | ⟨g, cp, cur, rfl, _, _, hle, hcap, _, _⟩⟩ := hown
  · obtain rfl : l = [] := List.length_eq_zero_iff.1 hn
    exact of_nil w
  · subst hn
    refine of_some g 0 cp l w (by omega) (fun i h => hl _ (List.getElem_mem h)) (fun i h => ?_) ht
    have := hcs.cells rfl i (.string l[i]) (by simp [strV, h])
    rwa [add_at] at this
end Go.Proofs.YtcjgefhlkjdoaaaDoor

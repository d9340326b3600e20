/-
  PROVED HERE: calls of mode.Safe tell whether the claims are safe; nothing that was there is written.
  Conditions: the claims lie in memory as a row of pairs.
-/
import Derived.Test.YtaooimlannbenaaScal
namespace Go.Proofs.Ytaooimlannbenaa
open Go.RowKit Pm

theorem below_alloc {a w : World} (h : Below a.heap.size a w) (o : Obj) : Below a.heap.size a (w.alloc o) := h.alloc h.size o

/-- a row of claims from b, off on -/
def Row (w : World) (b off : Nat) (l : List (Int × Int)) : Prop :=
  b < w.heap.size ∧ ∀ i : Nat, (h : i < l.length) → w.cell? ⟨b, off + i * 2, none⟩ = some (.int .i64 l[i].1) ∧ w.cell? ⟨b, off + i * 2 + 1, none⟩ = some (.int .i64 l[i].2)
theorem row_below {w w' : World} {b off : Nat} {l : List (Int × Int)} (h : Row w b off l) (hb : Below w.heap.size w w') : Row w' b off l :=
  ⟨Nat.lt_of_lt_of_le h.1 hb.size, fun i hi => by rw [hb.cell (p := ⟨b, off + i * 2, none⟩) h.1, hb.cell (p := ⟨b, off + i * 2 + 1, none⟩) h.1]; exact h.2 i hi⟩

/-- does b stand in the way of a? -/
def wrongB (a b : Int × Int) : Bool := (a.1 == b.1) || !fitB a.2 b.2
theorem wrongB_false {a b : Int × Int} : wrongB a b = false ↔ okR b a := by
  unfold wrongB okR
  rw [Bool.or_eq_false_iff, fitB_comm a.2 b.2]
  simp
  intro _
  exact ⟨fun h e => h e.symm, fun h e => h e.symm⟩

set_option maxHeartbeats 400000 in
theorem wrong_any (n m x y : Int) (A : Nat) (w : World) (hn : w.cell? ⟨A, 0, none⟩ = some (.int .i64 n)) (hm : w.cell? ⟨A, 1, none⟩ = some (.int .i64 m)) :
    Calls Try.prog 27 #[.agg #[.int .i64 x, .int .i64 y], .pointer (some ⟨A, 0, none⟩)] w fun e w' => e = .returned (.bool (wrongB (n, m) (x, y))) ∧ Below w.heap.size w w' := by
  have hA : A < w.heap.size := World.block_lt_of_cell? w _ hn
  have hn2 : ∀ o, (w.alloc o).cell? ⟨A, 0, none⟩ = some (.int .i64 n) := fun o => by rw [World.cell?_alloc_past _ _ _ hA]; exact hn
  have hm2 : ∀ o, (w.alloc o).cell? ⟨A, 1, none⟩ = some (.int .i64 m) := fun o => by rw [World.cell?_alloc_past _ _ _ hA]; exact hm
  clear hn hm
  by_cases he : n = x
  · have hf : Hid (wrongB (n, m) (x, y) = true) := Lib.hid (by unfold wrongB; simp [he])
    have h2 : (n == x) = true := by simpa using he
    clear he
    go_enter Try.func27, Try.ntmps27
    go_wp2_with fail
    go_ret
    exact ⟨ret_bool hf.out.symm, below_alloc (Below.refl _ _) _⟩
  · have hf : Hid (wrongB (n, m) (x, y) = !fitB m y) := Lib.hid (by unfold wrongB; simp [he])
    have h2 : (n == x) = false := by simpa using he
    clear he
    go_enter Try.func27, Try.ntmps27
    go_wp2_with (go_at_call 13; refine (fit_any _ _ _).mono ?_; rintro e w' ⟨rfl, rfl⟩)
    go_ret
    exact ⟨ret_bool hf.out.symm, below_alloc (Below.refl _ _) _⟩

/-- what a search for a claim in the way tells -/
def Found (p : Bool) (w : World) (e : Ending) (w' : World) : Prop := ∃ j : Int, e = .returned (.int .i64 j) ∧ (0 ≤ j ↔ p = true) ∧ Below w.heap.size w w'

set_option maxHeartbeats 800000 in
theorem index_any (n m : Int) (A b off cap : Nat) (l : List (Int × Int)) (w : World) (hl : l.length ≤ 1000) (hr : Row w b off l)
    (hn : w.cell? ⟨A, 0, none⟩ = some (.int .i64 n)) (hm : w.cell? ⟨A, 1, none⟩ = some (.int .i64 m)) :
    Calls Try.prog 29 #[.slice (some ⟨b, off, none⟩) l.length cap, .func (.func 27) #[] #[.pointer (some ⟨A, 0, none⟩)]] w (Found (l.any (wrongB (n, m))) w) := by
  have hA : A < w.heap.size := World.block_lt_of_cell? w _ hn
  have HR := Lib.hid hr; clear hr
  have HN := Lib.hid hn; clear hn
  have HM := Lib.hid hm; clear hm
  go_enter Try.func29, Try.ntmps29
  go_wp2_with fail
  go_loopw [8] (fun i wr => ∃ k : Nat, k ≤ l.length ∧ i = .int .i64 k ∧ Below w.heap.size w wr ∧ ∀ j : Nat, (h : j < k) → (h2 : j < l.length) → wrongB (n, m) l[j] = false) (fun i _ => l.length - (intOf i).toNat)
  case atStart => exact ⟨0, Nat.zero_le _, rfl, Below.refl _ _, fun j h => absurd h (by omega)⟩
  case round =>
    obtain ⟨k, hk, rfl, hbel, hdone⟩ := hrel
    have HB := Lib.hid hbel; clear hbel
    have HD := Lib.hid hdone; clear hdone
    by_cases hlt : k < l.length
    · have hc := (row_below HR.out HB.out).2 k hlt
      have hc0 := hc.1
      have hc1 := hc.2
      clear hc
      have hA0 := (HB.out.cell (p := ⟨A, 0, none⟩) hA).trans HN.out
      have hA1 := (HB.out.cell (p := ⟨A, 1, none⟩) hA).trans HM.out
      have HA0 := Lib.hid hA0; clear hA0
      have HA1 := Lib.hid hA1; clear hA1
      cases hw : wrongB (n, m) l[k] with
      | true =>
        have HX : Hid (wrongB (n, m) (l[k].1, l[k].2) = true) := Lib.hid hw
        have HW := Lib.hid hw; clear hw
        generalize l[k].1 = x at *
        generalize l[k].2 = y at *
        go_wp2_with fail
        refine (wrong_any n m x y A _ HA0.out HA1.out).mono ?_; rintro e w1 ⟨rfl, hb1⟩
        rw [HX.out]
        have HB1 := Lib.hid (HB.out.trans (hb1.mono HB.out.size)); clear hb1
        go_wp2_with fail
        go_ret
        refine ⟨k, rfl, ⟨fun _ => ?_, fun _ => by omega⟩, HB1.out⟩
        rw [List.any_eq_true]
        exact ⟨l[k], List.getElem_mem _, HW.out⟩
      | false =>
        have HX : Hid (wrongB (n, m) (l[k].1, l[k].2) = false) := Lib.hid hw
        have HW := Lib.hid hw; clear hw
        generalize l[k].1 = x at *
        generalize l[k].2 = y at *
        go_wp2_with fail
        refine (wrong_any n m x y A _ HA0.out HA1.out).mono ?_; rintro e w1 ⟨rfl, hb1⟩
        rw [HX.out]
        have HB1 := Lib.hid (HB.out.trans (hb1.mono HB.out.size)); clear hb1
        go_wp2_with fail
        go_roundw
        case rel =>
          refine ⟨k + 1, by omega, by go_num, HB1.out, fun j h h2 => ?_⟩
          by_cases e : j = k
          · subst e; exact HW.out
          · exact HD.out j (by omega) h2
        case measure => simp [intOf]; omega
    · go_wp2_with fail
      go_ret
      refine ⟨-1, rfl, ⟨fun h => by omega, fun h => ?_⟩, HB.out⟩
      rw [List.any_eq_true] at h
      obtain ⟨x, hx, hw⟩ := h
      obtain ⟨j, hj, e⟩ := List.getElem_of_mem hx
      have := HD.out j (by omega) hj
      rw [e, hw] at this
      cases this

set_option maxHeartbeats 400000 in
theorem contains_any (n m : Int) (A b off cap : Nat) (l : List (Int × Int)) (w : World) (hl : l.length ≤ 1000) (hr : Row w b off l)
    (hn : w.cell? ⟨A, 0, none⟩ = some (.int .i64 n)) (hm : w.cell? ⟨A, 1, none⟩ = some (.int .i64 m)) :
    Calls Try.prog 28 #[.slice (some ⟨b, off, none⟩) l.length cap, .func (.func 27) #[] #[.pointer (some ⟨A, 0, none⟩)]] w fun e w' => e = .returned (.bool (l.any (wrongB (n, m)))) ∧ Below w.heap.size w w' := by
  have HI := Lib.hid (index_any n m A b off cap l w hl hr hn hm)
  clear hr hn hm
  go_enter Try.func28, Try.ntmps28
  go_wp2_with fail
  refine HI.out.mono ?_; rintro e w' ⟨j, rfl, hj, hb⟩
  have HB := Lib.hid hb; clear hb
  have hd : Hid (decide (0 ≤ j) = l.any (wrongB (n, m))) := Lib.hid (by rw [Bool.eq_iff_iff, decide_eq_true_iff]; exact hj)
  clear hj HI
  go_wp2_with fail
  go_ret
  exact ⟨ret_bool hd.out, HB.out⟩

theorem any_wrong {l : List (Int × Int)} {a : Int × Int} : l.any (wrongB a) = false ↔ ∀ b ∈ l, okR b a := by
  rw [List.any_eq_false]
  constructor
  · intro h b hb; exact wrongB_false.1 (by simpa using h b hb)
  · intro h b hb; rw [wrongB_false.2 (h b hb)]; simp
theorem safe_step {l : List (Int × Int)} {k : Nat} (hk : k < l.length) (h : SafeP (l.take k)) (h1 : isB l[k].2 = true) (h2 : (l.take k).any (wrongB l[k]) = false) : SafeP (l.take (k + 1)) := by
  rw [List.take_succ_eq_append_getElem hk, safe_snoc]
  exact ⟨h, h1, any_wrong.1 h2⟩
theorem bad_mode {l : List (Int × Int)} {k : Nat} (hk : k < l.length) (h1 : isB l[k].2 = false) : ¬ SafeP l := fun h => by
  have := h.1 l[k] (List.getElem_mem _)
  rw [h1] at this; cases this
theorem bad_two {l : List (Int × Int)} {k : Nat} (hk : k < l.length) (h2 : (l.take k).any (wrongB l[k]) = true) : ¬ SafeP l := fun h => by
  have := safe_take h (k + 1)
  rw [List.take_succ_eq_append_getElem hk, safe_snoc] at this
  rw [any_wrong.2 this.2.2] at h2; cases h2

/-- does each one fit all behind it? -/
def pairsB : List (Int × Int) → Bool
  | [] => true
  | a :: l => l.all (fun b => !(a.1 == b.1) && fitB a.2 b.2) && pairsB l
theorem pairsB_true : ∀ l : List (Int × Int), pairsB l = true ↔ l.Pairwise okR
  | [] => ⟨fun _ => List.Pairwise.nil, fun _ => rfl⟩
  | a :: l => by
    rw [List.pairwise_cons, ← pairsB_true l]
    simp only [pairsB, Bool.and_eq_true, List.all_eq_true]
    constructor
    · rintro ⟨h1, h2⟩
      exact ⟨fun b hb => ⟨fun e => by have := (h1 b hb).1; rw [e] at this; simp at this, (h1 b hb).2⟩, h2⟩
    · rintro ⟨h1, h2⟩
      exact ⟨fun b hb => ⟨by have := (h1 b hb).1; simpa using this, (h1 b hb).2⟩, h2⟩
/-- are the claims safe? -/
def safeB (l : List (Int × Int)) : Bool := l.all (fun x => isB x.2) && pairsB l
theorem safeB_true {l : List (Int × Int)} : safeB l = true ↔ SafeP l := by
  unfold safeB SafeP
  rw [Bool.and_eq_true, pairsB_true, List.all_eq_true]
theorem safeB_false {l : List (Int × Int)} : safeB l = false ↔ ¬ SafeP l := by
  rw [← safeB_true]; simp

theorem row_take {w : World} {b off : Nat} {l : List (Int × Int)} (h : Row w b off l) (k : Nat) : Row w b off (l.take k) :=
  ⟨h.1, fun i hi => by
    have h2 : i < l.length := by simp at hi; omega
    have e : (l.take k)[i] = l[i] := List.getElem_take
    rw [e]; exact h.2 i h2⟩
theorem cell_new0 (w : World) (x y : Int) : (w.alloc (.cells #[.int .i64 x, .int .i64 y] 24)).cell? ⟨w.heap.size, 0, none⟩ = some (.int .i64 x) := by
  rw [World.cell?_alloc_at _ _ _ _ rfl]; rfl
theorem cell_new1 (w : World) (x y : Int) : (w.alloc (.cells #[.int .i64 x, .int .i64 y] 24)).cell? ⟨w.heap.size, 1, none⟩ = some (.int .i64 y) := by
  rw [World.cell?_alloc_at _ _ _ _ rfl]; rfl

set_option maxHeartbeats 800000 in
theorem safe_row (b off cap : Nat) (l : List (Int × Int)) (w : World) (hl : l.length ≤ 1000) (hcap : l.length ≤ cap) (hr : Row w b off l) :
    Calls Try.prog 11 #[.slice (some ⟨b, off, none⟩) l.length cap] w fun e w' => e = .returned (.bool (safeB l)) ∧ Below w.heap.size w w' := by
  have HR := Lib.hid hr; clear hr
  go_enter Try.func11, Try.ntmps11
  go_wp2_with fail
  go_loopw [8] (fun i wr => ∃ k : Nat, k ≤ l.length ∧ i = .int .i64 k ∧ Below w.heap.size w wr ∧ SafeP (l.take k)) (fun i _ => l.length - (intOf i).toNat)
  case atStart => exact ⟨0, Nat.zero_le _, rfl, Below.refl _ _, safe_nil⟩
  case round =>
    obtain ⟨k, hk, rfl, hbel, hsafe⟩ := hrel
    have HB := Lib.hid hbel; clear hbel
    have HS := Lib.hid hsafe; clear hsafe
    by_cases hlt : k < l.length
    · have hrow := row_below HR.out HB.out
      have hc := hrow.2 k hlt
      have hc0 := hc.1
      have hc1 := hc.2
      clear hc
      have HRow := Lib.hid hrow; clear hrow
      have hlen : (l.take k).length = k := by simp; omega
      cases hi : isB l[k].2 with
      | false =>
        have HF := Lib.hid (safeB_false.2 (bad_mode hlt hi))
        generalize l[k].1 = x at *
        generalize l[k].2 = y at *
        go_wp2_with fail
        refine (is_any _ _).mono ?_; rintro e w' ⟨rfl, rfl⟩
        go_wp2_with fail
        go_ret
        exact ⟨ret_bool HF.out.symm, below_alloc HB.out _⟩
      | true =>
        have HI := Lib.hid hi
        cases hw : (l.take k).any (wrongB (l[k].1, l[k].2)) with
        | true =>
          have HF := Lib.hid (safeB_false.2 (bad_two hlt hw))
          have HW := Lib.hid hw; clear hw
          generalize l[k].1 = x at *
          generalize l[k].2 = y at *
          go_wp2_with fail
          refine (is_any _ _).mono ?_; rintro e w' ⟨rfl, rfl⟩
          go_wp2_with fail
          have HCon := contains_any x y wr.heap.size b off cap (l.take k) (wr.alloc (.cells #[.int .i64 x, .int .i64 y] 24)) (by simp; omega)
            (row_below (row_take HRow.out k) ((Below.refl _ _).alloc (Nat.le_refl _) _)) (cell_new0 wr x y) (cell_new1 wr x y)
          rw [hlen, HW.out] at HCon
          refine HCon.mono ?_; rintro e w1 ⟨rfl, hb1⟩
          have HB1 := Lib.hid ((below_alloc HB.out _).trans (hb1.mono (below_alloc HB.out _).size)); clear hb1 HCon
          go_wp2_with fail
          go_ret
          exact ⟨ret_bool HF.out.symm, HB1.out⟩
        | false =>
          have HF := Lib.hid (safe_step hlt HS.out hi hw)
          have HW := Lib.hid hw; clear hw
          generalize l[k].1 = x at *
          generalize l[k].2 = y at *
          go_wp2_with fail
          refine (is_any _ _).mono ?_; rintro e w' ⟨rfl, rfl⟩
          go_wp2_with fail
          have HCon := contains_any x y wr.heap.size b off cap (l.take k) (wr.alloc (.cells #[.int .i64 x, .int .i64 y] 24)) (by simp; omega)
            (row_below (row_take HRow.out k) ((Below.refl _ _).alloc (Nat.le_refl _) _)) (cell_new0 wr x y) (cell_new1 wr x y)
          rw [hlen, HW.out] at HCon
          refine HCon.mono ?_; rintro e w1 ⟨rfl, hb1⟩
          have HB1 := Lib.hid ((below_alloc HB.out _).trans (hb1.mono (below_alloc HB.out _).size)); clear hb1 HCon
          go_wp2_with fail
          go_roundw
          case rel => exact ⟨k + 1, by omega, by go_num, HB1.out, HF.out⟩
          case measure => simp [intOf]; omega
    · have hf : Hid (safeB l = true) := Lib.hid (safeB_true.2 (by have := HS.out; rwa [List.take_of_length_le (by omega)] at this))
      go_wp2_with fail
      go_ret
      exact ⟨ret_bool hf.out.symm, HB.out⟩

set_option maxHeartbeats 400000 in
theorem safe_none (a : Option Addr) (cap : Nat) (w : World) : Calls Try.prog 11 #[.slice a 0 cap] w fun e w' => e = .returned (.bool true) ∧ Below w.heap.size w w' := by
  go_enter Try.func11, Try.ntmps11
  go_wp2_with fail
  refine wp_loop_rounds 1 ?_
  rw [rounds_succ]
  go_wp2_with fail
  go_ret
  exact ⟨rfl, Below.refl _ _⟩
end Go.Proofs.Ytaooimlannbenaa

/-
  PROVED HERE: closed facts on the loaded program that every row of this seat uses.
  Conditions: none.
-/
import Derived.Test.YtaooimlannbenaaRows
import Derived.Test.YtaooimlannbenaaBest
import Derived.Deep.SlicePairs
import Derived.Lib.SmallJoins
import Derived.WalkKit
import Derived.ProofKit
import Derived.OpenShut
import Derived.ChangeOld
import Derived.Below
namespace Go.Proofs.Ytaooimlannbenaa
open Go.ChangeShapes Go.WideShapes Go.ChangeAt Go.RowKit

theorem own : ownKnob Try.prog.godebug = none := by kernel_rfl
theorem laidOut : laidOutB Try.prog = true := by kernel_rfl
theorem int_range {n : Int} (h : (Lit.int .i64 n).wf = true) : -9223372036854775808 ≤ n ∧ n ≤ 9223372036854775807 := by
  simp [Lit.wf, IntKind.min, IntKind.max, IntKind.signed, IntKind.bits] at h; omega

theorem c24 : Try.prog.cellsOf 24 = 2 := by kernel_rfl
theorem c3 : Try.prog.cellsOf 3 = 1 := by kernel_rfl

/-- what a row of this seat gives of a slice of claims that came in -/
def ClaimsIn (w : World) (a : Option Addr) (len cap : Nat) (l : List (Int × Int)) : Prop := IsClaims w a len l ∧ len ≤ cap ∧ cap ≤ maxLen ∧ (a = none → cap = 0)

theorem claims_of {H : Type} {enc : TypeId × Value → H} {W : World} {a : Option Addr} {len cap : Nat} {d : DataW H} {p : List MemPlace}
    (h : DataW.Trod enc Try.prog W 0 (fun _ => true) true 22 (.slice a len cap) d p) : ∃ l, ClaimsIn W a len cap l := by
  obtain ⟨fuel, hf⟩ := h
  rcases Go.Deep.open_slice_pairs Try.underlying22 Try.underlying24 c24 rfl rfl c3 c3 hf with ⟨hcs, _⟩ | ⟨x, ln, c, m, n, V0, V1, D0, D1, P0, P1, hcs, _, hl, hm, hmm, _, hcell⟩
  · simp [Value.cells] at hcs
    obtain ⟨rfl, rfl, rfl⟩ := hcs
    exact ⟨[], .inl ⟨rfl, rfl⟩, Nat.le_refl _, Nat.zero_le _, fun _ => rfl⟩
  · simp [Value.cells] at hcs
    obtain ⟨rfl, rfl, rfl⟩ := hcs
    by_cases h0 : len = 0
    · exact ⟨[], .inl ⟨h0, rfl⟩, hl, hm, fun h => by cases h⟩
    · have hm' : m = cap := by simpa using hmm
      have ints : ∀ i, i < m → ∃ q : Int × Int, V0 i = .int .i64 q.1 ∧ V1 i = .int .i64 q.2 := fun i hi => by
        obtain ⟨_, _, h2, h3⟩ := hcell i hi
        obtain ⟨a0, e0, _, _⟩ := DataW.trod_int Try.underlying3 h2
        obtain ⟨a1, e1, _, _⟩ := DataW.trod_int Try.underlying3 h3
        simp at e0 e1
        exact ⟨(a0, a1), e0, e1⟩
      obtain ⟨q, hq⟩ := Go.Deep.choose_lt ints
      obtain ⟨b, off, spot⟩ := x
      have hc0 := (hcell 0 (by omega)).1
      have hspot : spot = none := by simpa [Addr.add] using World.cell?_spot hc0
      subst hspot
      have hb : b < W.heap.size := by have := World.block_lt_of_cell? W _ hc0; simpa [Addr.add] using this
      have hadd : ∀ i, (⟨b, off, none⟩ : Addr).add i = ⟨b, off + i, none⟩ := fun i => by unfold Addr.add; split <;> simp_all
      refine ⟨(List.range len).map q, .inr ⟨b, off, rfl, by simp, hb, fun i hi => ?_⟩, hl, hm, fun h => by cases h⟩
      have hi2 : i < len := by simpa using hi
      obtain ⟨g0, g1, _, _⟩ := hcell i (by omega)
      obtain ⟨k0, k1⟩ := hq i (by omega)
      rw [hadd, k0] at g0
      rw [hadd, k1, ← Nat.add_assoc] at g1
      have e : ((List.range len).map q)[i] = q i := by simp
      rw [e]
      exact ⟨g0, g1⟩

/-- one claim that came in by value -/
theorem claim_of {H : Type} {enc : TypeId × Value → H} {W : World} {r : Reach} {b0 : Nat} {v : Value} {d : DataW H} {p : List MemPlace} (hv : Value.okWide Try.prog W r b0 24 v)
    (h : DataW.Trod enc Try.prog W 0 (fun _ => true) true 24 v d p) : ∃ x y : Int, v = .agg #[.int .i64 x, .int .i64 y] ∧ (Lit.int .i64 x).wf = true ∧ (Lit.int .i64 y).wf = true := by
  obtain ⟨v0, v1, y0, y1, n, rfl, _, _, h0, h1⟩ := Go.Joins.open_agg2 Try.underlying24 (by kernel_rfl) c24 hv h
  obtain ⟨a0, e0, _, w0⟩ := DataW.trod_int Try.underlying3 h0
  obtain ⟨a1, e1, _, w1⟩ := DataW.trod_int Try.underlying3 h1
  simp at e0 e1
  subst e0 e1
  exact ⟨a0, a1, rfl, w0, w1⟩
end Go.Proofs.Ytaooimlannbenaa

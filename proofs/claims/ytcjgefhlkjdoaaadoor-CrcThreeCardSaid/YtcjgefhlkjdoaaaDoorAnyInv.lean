/-
  PROVED HERE: a statement whose operations come in any order is walked by an invariant: one step for each
  operation, whatever was carried out before it. No program in sight.
-/
import Derived.Test.YtcjgefhlkjdoaaaDoorTurned
import Derived.Orders
namespace Go.Proofs.YtcjgefhlkjdoaaaDoor
open Go.RowKit

theorem countP_lt {p q : Nat → Bool} (hqp : ∀ j, q j = true → p j = true) {i : Nat} (hp : p i = true) (hq : q i = false) :
    ∀ L : List Nat, i ∈ L → L.countP q < L.countP p
  | [], h => by cases h
  | x :: L, h => by
    have hle : ∀ M : List Nat, M.countP q ≤ M.countP p := fun M => List.countP_mono_left fun j _ => hqp j
    rw [List.countP_cons, List.countP_cons]
    by_cases e : x = i
    · subst e
      have := hle L
      simp only [hp, hq, if_true]
      simp
      omega
    · have hm : i ∈ L := by
        rcases List.mem_cons.1 h with h | h
        · exact absurd h.symm e
        · exact h
      have ih := countP_lt hqp hp hq L hm
      cases hx : q x
      · simp; split <;> omega
      · simp [hqp x hx]; omega

/-- how many operations are still to come -/
def todo (n : Nat) (listed : Array Bool) : Nat := (List.range n).countP fun i => !listed.getD i true

theorem todo_set {n i : Nat} {listed : Array Bool} (hi : i < n) (h : listed.getD i true = false) : todo n (listed.setIfInBounds i true) < todo n listed := by
  have hlt : i < listed.size := by
    rcases Nat.lt_or_ge i listed.size with h' | h'
    · exact h'
    · simp [Array.getElem?_eq_none h'] at h
  unfold todo
  refine countP_lt (i := i) (fun j hj => ?_) (by simp only [h]; rfl) (by simp [hlt]) _ (List.mem_range.2 hi)
  by_cases e : i = j
  · subst e; simp only [h]; rfl
  · rwa [getD_set_ne true e] at hj

theorem ready_lt {md : Region.Mode} {ops : Array Oper} {listed : Array Bool} {i : Nat} (h : i ∈ Region.ready md ops listed) : i < ops.size := by
  obtain ⟨_, o, ho, _⟩ := mem_ready.1 h
  exact (Array.getElem?_eq_some_iff.1 ho).1

theorem all_listed {md : Region.Mode} {ops : Array Oper} {listed : Array Bool} (hs : listed.size = ops.size)
    (hd : ∀ (i : Nat) (o : Oper), ops[i]? = some o → ∀ e ∈ o.after, Region.binds md e = true → e.on < i) (h : Region.ready md ops listed = []) :
    ∀ i, i < ops.size → listed.getD i false = true := by
  intro i
  induction i using Nat.strongRecOn with
  | ind i ih =>
    intro hi
    cases hl : listed.getD i true with
    | true =>
      have hlt : i < listed.size := by omega
      simpa [hlt] using hl
    | false =>
      exfalso
      have : i ∈ Region.ready md ops listed := mem_ready.2 ⟨hl, ops[i], by simp [hi], fun e he hb => ih e.on (hd i ops[i] (by simp [hi]) e he hb) (Nat.lt_trans (hd i ops[i] (by simp [hi]) e he hb) hi)⟩
      rw [h] at this
      cases this

theorem wpAny_inv {P : Program} {md : Region.Mode} {ops : Array Oper} {Q : Exit → Act → World → Prop} (I : Array Bool → Act → World → Prop)
    (hs : ∀ listed a w, I listed a w → listed.size = ops.size)
    (hd : ∀ (i : Nat) (o : Oper), ops[i]? = some o → ∀ e ∈ o.after, Region.binds md e = true → e.on < i)
    (hstep : ∀ listed a w, I listed a w → ∀ i ∈ Region.ready md ops listed, wpOp P ops Q i (fun a w => I (listed.setIfInBounds i true) a w) a w)
    (hend : ∀ listed a w, I listed a w → (∀ i, i < ops.size → listed.getD i false = true) → Q .normal a w) :
    ∀ fuel listed a w, todo ops.size listed ≤ fuel → I listed a w → wpAny P md ops Q fuel listed a w := by
  intro fuel
  induction fuel with
  | zero =>
    intro listed a w hf hI
    have hr : Region.ready md ops listed = [] := by
      cases hr : Region.ready md ops listed with
      | nil => rfl
      | cons i is =>
        have hm : i ∈ Region.ready md ops listed := by rw [hr]; simp
        have := todo_set (ready_lt hm) (mem_ready.1 hm).1
        omega
    exact ⟨hr, hend _ _ _ hI (all_listed (hs _ _ _ hI) hd hr)⟩
  | succ fuel ih =>
    intro listed a w hf hI
    refine ⟨fun hr => hend _ _ _ hI (all_listed (hs _ _ _ hI) hd hr), fun i hm => wpOp_mono (fun a w h => ih _ a w ?_ h) (hstep _ _ _ hI i hm)⟩
    have := todo_set (ready_lt hm) (mem_ready.1 hm).1
    omega

theorem todo_le (n : Nat) (listed : Array Bool) : todo n listed ≤ n := by
  unfold todo
  exact Nat.le_trans List.countP_le_length (by simp)

/-- the law of a drawn statement by an invariant -/
theorem wp_region_inv {P : Program} {ops : Array Oper} {Q : Exit → Act → World → Prop} {id : Nat} {a : Act} {w : World} (hm : P.follows .mixedOrders = true) (I : Array Bool → Act → World → Prop)
    (hs : ∀ listed a w, I listed a w → listed.size = ops.size)
    (hd : ∀ (i : Nat) (o : Oper), ops[i]? = some o → ∀ e ∈ o.after, Region.binds .any e = true → e.on < i)
    (hstep : ∀ listed a w, I listed a w → ∀ i ∈ Region.ready .any ops listed, wpOp P ops Q i (fun a w => I (listed.setIfInBounds i true) a w) a w)
    (hend : ∀ listed a w, I listed a w → (∀ i, i < ops.size → listed.getD i false = true) → Q .normal a w)
    (h0 : I (Array.replicate ops.size false) a { w with drawn := w.drawn + 1 }) : (Code.region id ops true).wp P Q a w :=
  wp_region_any hm (wpAny_inv I hs hd hstep hend _ _ _ _ (todo_le _ _) h0)

/-- an operation, as far as its step is concerned -/
def seen (md : Region.Mode) (o : Oper) : Option Tmp × Op × TypeId × Option (Nat × Bool) × List Nat :=
  (o.dst, o.op, o.type, o.guard, (o.after.toList.filter (Region.binds md)).map (·.on))

theorem wpOp_of {P : Program} {ops : Array Oper} {Q : Exit → Act → World → Prop} {md : Region.Mode} {listed : Array Bool} {i : Nat} {d : Option Tmp} {op : Op} {ty : TypeId} {g : Option (Nat × Bool)} {af : List Nat}
    {K : Act → World → Prop} {a : Act} {w : World} (h : (ops[i]?).map (seen md) = some (d, op, ty, g, af)) (hm : i ∈ Region.ready md ops listed)
    (next : (∀ j ∈ af, listed.getD j false = true) → Region.wanted ⟨d, op, ty, "", #[], g⟩ (yielded ops a.tmps) = true ∧ (⟨d, op, ty, "", #[], g⟩ : Oper).wp P a w K Q) : wpOp P ops Q i K a w := by
  obtain ⟨_, o, ho, hall⟩ := mem_ready.1 hm
  rw [ho] at h
  obtain ⟨dst, op', type, pos, after, guard⟩ := o
  simp only [Option.map_some, seen, Option.some.injEq, Prod.mk.injEq] at h
  obtain ⟨rfl, rfl, rfl, rfl, rfl⟩ := h
  obtain ⟨hw, hn⟩ := next (fun j hj => by
    obtain ⟨e, he, rfl⟩ := List.mem_map.1 hj
    obtain ⟨he, hb⟩ := List.mem_filter.1 he
    exact hall e (by simpa using he) hb)
  unfold wpOp
  rw [ho]
  simp only []
  rw [if_pos (by exact hw)]
  exact .inl hn
end Go.Proofs.YtcjgefhlkjdoaaaDoor

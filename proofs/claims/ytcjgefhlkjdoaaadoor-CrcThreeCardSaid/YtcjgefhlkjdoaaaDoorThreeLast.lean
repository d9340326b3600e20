/-
  PROVED HERE: the last statement of CrcThree's walk, in whatever order its operations come, gives true and
  writes nothing that was there.
-/
import Derived.Test.YtcjgefhlkjdoaaaDoorAnyInv
import Derived.Test.YtcjgefhlkjdoaaaDoorThreeFacts
namespace Go.Proofs.YtcjgefhlkjdoaaaDoor
open Go.RowKit Crc

/-- the statement numbered n of a body -/
def statement (n : Nat) : Code → Option (Array Oper)
  | .region id ops _ => if id == n then some ops else none
  | .seq a b => (statement n a).or (statement n b)
  | .cond _ a b => (statement n a).or (statement n b)
  | .block _ b => statement n b
  | .loop b => statement n b
  | _ => none
def lastOf (f : Func) : Array Oper := (f.body.bind (statement 14)).getD #[]


theorem last_size : (lastOf Tryd.f7).size = 26 := by kernel_rfl
theorem last_back : (List.range 26).all (fun i => ((lastOf Tryd.f7)[i]?).all fun o => o.after.all fun e => decide (e.on < i)) = true := by kernel_rfl

def SeenAs (i : Nat) (s : Option Tmp × Op × TypeId × Option (Nat × Bool) × List Nat) : Prop := ((lastOf Tryd.f7)[i]?).map (seen .any) = some s
theorem op0 : SeenAs 0 (some 49, .move (.tmp 7), 4, none, []) := by unfold SeenAs; kernel_rfl
theorem op1 : SeenAs 1 (some 50, .move (.tmp 49), 4, none, [0]) := by unfold SeenAs; kernel_rfl
theorem op2 : SeenAs 2 (some 51, .move (.tmp 9), 32, some (1, true), [1]) := by unfold SeenAs; kernel_rfl
theorem op3 : SeenAs 3 (some 52, .convert 32 9 (.tmp 51), 9, some (1, true), [2, 1]) := by unfold SeenAs; kernel_rfl
theorem op4 : SeenAs 4 (some 53, .buildSlice 29 1 #[(0, .tmp 52)], 29, some (1, true), [3, 1]) := by unfold SeenAs; kernel_rfl
theorem op5 : SeenAs 5 (some 54, .call { callee := .value (.func 12), args := #[.tmp 53], argTypes := #[29] }, 22, some (1, true), [4, 1, 1]) := by unfold SeenAs; kernel_rfl
theorem op6 : SeenAs 6 (some 55, .move (.tmp 0), 9, some (1, true), [1]) := by unfold SeenAs; kernel_rfl
theorem op7 : SeenAs 7 (some 56, .move (.tmp 8), 3, some (1, true), [1]) := by unfold SeenAs; kernel_rfl
theorem op8 : SeenAs 8 (some 57, .slice 9 (.tmp 55) none (some (.tmp 56)) none, 9, some (1, true), [6, 7, 1]) := by unfold SeenAs; kernel_rfl
theorem op9 : SeenAs 9 (some 58, .buildSlice 29 1 #[(0, .tmp 57)], 29, some (1, true), [8, 1]) := by unfold SeenAs; kernel_rfl
theorem op10 : SeenAs 10 (some 59, .call { callee := .value (.func 12), args := #[.tmp 58], argTypes := #[29] }, 22, some (1, true), [9, 5, 1]) := by unfold SeenAs; kernel_rfl
theorem op11 : SeenAs 11 (some 60, .move (.tmp 1), 9, some (1, true), [1]) := by unfold SeenAs; kernel_rfl
theorem op12 : SeenAs 12 (some 61, .move (.tmp 8), 3, some (1, true), [1]) := by unfold SeenAs; kernel_rfl
theorem op13 : SeenAs 13 (some 62, .slice 9 (.tmp 60) none (some (.tmp 61)) none, 9, some (1, true), [11, 12, 1]) := by unfold SeenAs; kernel_rfl
theorem op14 : SeenAs 14 (some 63, .buildSlice 29 1 #[(0, .tmp 62)], 29, some (1, true), [13, 1]) := by unfold SeenAs; kernel_rfl
theorem op15 : SeenAs 15 (some 64, .call { callee := .value (.func 12), args := #[.tmp 63], argTypes := #[29] }, 22, some (1, true), [14, 10, 1]) := by unfold SeenAs; kernel_rfl
theorem op16 : SeenAs 16 (some 65, .binOp .xor 22 (.tmp 59) (.tmp 64) 22, 22, some (1, true), [10, 15, 1]) := by unfold SeenAs; kernel_rfl
theorem op17 : SeenAs 17 (some 66, .move (.tmp 2), 9, some (1, true), [1]) := by unfold SeenAs; kernel_rfl
theorem op18 : SeenAs 18 (some 67, .move (.tmp 8), 3, some (1, true), [1]) := by unfold SeenAs; kernel_rfl
theorem op19 : SeenAs 19 (some 68, .slice 9 (.tmp 66) none (some (.tmp 67)) none, 9, some (1, true), [17, 18, 1]) := by unfold SeenAs; kernel_rfl
theorem op20 : SeenAs 20 (some 69, .buildSlice 29 1 #[(0, .tmp 68)], 29, some (1, true), [19, 1]) := by unfold SeenAs; kernel_rfl
theorem op21 : SeenAs 21 (some 70, .call { callee := .value (.func 12), args := #[.tmp 69], argTypes := #[29] }, 22, some (1, true), [20, 15, 1]) := by unfold SeenAs; kernel_rfl
theorem op22 : SeenAs 22 (some 71, .binOp .xor 22 (.tmp 65) (.tmp 70) 22, 22, some (1, true), [16, 21, 1]) := by unfold SeenAs; kernel_rfl
theorem op23 : SeenAs 23 (some 72, .binOp .eql 22 (.tmp 54) (.tmp 71) 22, 4, some (1, true), [5, 22, 1]) := by unfold SeenAs; kernel_rfl
theorem op24 : SeenAs 24 (some 73, .pick (.tmp 50) (.tmp 72) (.const (.bool false)), 4, none, [1, 23]) := by unfold SeenAs; kernel_rfl
theorem op25 : SeenAs 25 (some 6, .assign (.tmp 73), 4, none, [24, 21, 0, 1, 2, 3, 4, 5, 6, 7, 8, 9, 10, 11, 12, 13, 14, 15, 16, 17, 18, 19, 20, 21, 22, 23, 24]) := by unfold SeenAs; kernel_rfl

/-- what the statement reckons with -/
structure Dat where
  (base : World) (B k : Nat) (l : List UInt8) (a b c xl xa xb xc : ByteArray)

def crcOf (x : ByteArray) : BitVec 32 := add 0#32 x.data.toList
def boxAt (w : World) (v : Value) (x : ByteArray) : Prop := ∃ b, v = .slice (some ⟨b, 0, none⟩) 1 1 ∧ w.cell? ⟨b, 0, none⟩ = some (.string x)

/-- what the operation i has given -/
def okAt (D : Dat) (box : Value → ByteArray → Prop) (v : Value) : Nat → Prop
  | 0 => v = .bool true
  | 1 => v = .bool true
  | 2 => v = .slice (some ⟨D.B, 0, none⟩) D.k D.k
  | 3 => v = .string D.xl
  | 4 => box v D.xl
  | 5 => v = .int .u32 (num (crcOf D.xl))
  | 6 => v = .string D.a
  | 7 => v = .int .i64 D.k
  | 8 => v = .string D.xa
  | 9 => box v D.xa
  | 10 => v = .int .u32 (num (crcOf D.xa))
  | 11 => v = .string D.b
  | 12 => v = .int .i64 D.k
  | 13 => v = .string D.xb
  | 14 => box v D.xb
  | 15 => v = .int .u32 (num (crcOf D.xb))
  | 16 => v = .int .u32 (num (crcOf D.xa ^^^ crcOf D.xb))
  | 17 => v = .string D.c
  | 18 => v = .int .i64 D.k
  | 19 => v = .string D.xc
  | 20 => box v D.xc
  | 21 => v = .int .u32 (num (crcOf D.xc))
  | 22 => v = .int .u32 (num (crcOf D.xa ^^^ crcOf D.xb ^^^ crcOf D.xc))
  | 23 => v = .bool true
  | 24 => v = .bool true
  | 25 => v = .bool true
  | _ => True
theorem okAt_mono {D : Dat} {box box' : Value → ByteArray → Prop} (h : ∀ v x, box v x → box' v x) (v : Value) (i : Nat) (hv : okAt D box v i) : okAt D box' v i := by
  unfold okAt at hv ⊢
  split <;> first | exact h _ _ hv | exact hv | trivial

def slotOf (i : Nat) : Nat := if i = 25 then 6 else 49 + i
theorem slotOf_ne {i j : Nat} (hi : i < 26) (hj : j < 26) (h : i ≠ j) : slotOf i ≠ slotOf j := by
  unfold slotOf; split <;> split <;> omega

structure Inv (D : Dat) (listed : Array Bool) (a : Act) (w : World) : Prop where
  lsize : listed.size = 26
  size : a.tmps.size = 74
  s : SX D.base D.B D.k D.l w
  defers : a.defers = []
  t0 : a.tmps[0]? = some (.string D.a)
  t1 : a.tmps[1]? = some (.string D.b)
  t2 : a.tmps[2]? = some (.string D.c)
  t7 : a.tmps[7]? = some (.bool true)
  t8 : a.tmps[8]? = some (.int .i64 D.k)
  t9 : a.tmps[9]? = some (.slice (some ⟨D.B, 0, none⟩) D.k D.k)
  done : ∀ i, i < 26 → listed.getD i false = true → ∃ v, a.tmps[slotOf i]? = some v ∧ okAt D (boxAt w) v i

theorem Inv.set {D : Dat} {listed : Array Bool} {a : Act} {w w' : World} {i : Nat} {v : Value} {d : Option Tmp} (h : Inv D listed a w) (hi : i < 26) (hd : d = some (slotOf i)) (hs : SX D.base D.B D.k D.l w')
    (hb : ∀ u x, boxAt w u x → boxAt w' u x) (hv : okAt D (boxAt w') v i) : Inv D (listed.setIfInBounds i true) (a.put d v) w' := by
  subst hd
  have far : ∀ t : Nat, t ≠ slotOf i → (a.put (some (slotOf i)) v).tmps[t]? = a.tmps[t]? := fun t ht => by
    simp only [Act.put]; rw [Array.getElem?_setIfInBounds_ne (Ne.symm ht)]
  have hslot : slotOf i = 6 ∨ 49 ≤ slotOf i := by unfold slotOf; split <;> omega
  have hlt : slotOf i < 74 := by unfold slotOf; split <;> omega
  refine ⟨by simp [h.lsize], by simp [Act.put, h.size], hs, h.defers, ?_, ?_, ?_, ?_, ?_, ?_, fun j hj hl => ?_⟩
  · rw [far 0 (by omega)]; exact h.t0
  · rw [far 1 (by omega)]; exact h.t1
  · rw [far 2 (by omega)]; exact h.t2
  · rw [far 7 (by omega)]; exact h.t7
  · rw [far 8 (by omega)]; exact h.t8
  · rw [far 9 (by omega)]; exact h.t9
  · by_cases e : i = j
    · subst e
      refine ⟨v, ?_, hv⟩
      simp [Act.put, h.size, hlt]
    · rw [getD_set_ne false e] at hl
      obtain ⟨u, hu, hok⟩ := h.done j hj hl
      exact ⟨u, by rw [far _ (slotOf_ne hj hi (Ne.symm e))]; exact hu, okAt_mono hb u j hok⟩
/-- an operation that leaves the world as it was -/
theorem Inv.keep {D : Dat} {listed : Array Bool} {a : Act} {w : World} {i : Nat} {v : Value} {d : Option Tmp} (h : Inv D listed a w) (hi : i < 26) (hd : d = some (slotOf i))
    (hv : okAt D (boxAt w) v i) : Inv D (listed.setIfInBounds i true) (a.put d v) w := h.set hi hd h.s (fun _ _ h => h) hv
theorem boxAt_alloc {w : World} {o : Obj} {u : Value} {x : ByteArray} (h : boxAt w u x) : boxAt (w.alloc o) u x := by
  obtain ⟨b, hu, hc⟩ := h
  exact ⟨b, hu, by rw [World.cell?_alloc_some _ _ _ (by rw [hc]; rfl)]; exact hc⟩
theorem boxAt_new {w : World} {x : ByteArray} : boxAt (w.alloc (.cells #[.string x] 9)) (.slice (some ⟨w.heap.size, 0, none⟩) 1 1) x :=
  ⟨_, rfl, nc_new rfl⟩
theorem SX.alloc {w w' : World} {B n : Nat} {l : List UInt8} (h : SX w B n l w') (o : Obj) : SX w B n l (w'.alloc o) :=
  ⟨fun j hj => by rw [World.cell?_alloc_some _ _ _ (by rw [h.cells j hj]; rfl)]; exact h.cells j hj, h.len, tab_alloc h.tab o, below_alloc h.below o⟩
theorem Inv.new {D : Dat} {listed : Array Bool} {a : Act} {w : World} {i : Nat} {x : ByteArray} {d : Option Tmp} (h : Inv D listed a w) (hi : i < 26) (hd : d = some (slotOf i))
    (hv : ∀ box : Value → ByteArray → Prop, ∀ v, box v x → okAt D box v i) : Inv D (listed.setIfInBounds i true) (a.put d (.slice (some ⟨w.heap.size, 0, none⟩) 1 1)) (w.alloc (.cells #[.string x] 9)) :=
  h.set hi hd (h.s.alloc _) (fun _ _ h => boxAt_alloc h) (hv _ _ boxAt_new)

/-- what an operand that was carried out before holds -/
theorem Inv.got {D : Dat} {listed : Array Bool} {a : Act} {w : World} (h : Inv D listed a w) {i : Nat} (hi : i < 26) (hl : listed.getD i false = true) :
    okAt D (boxAt w) (a.eval (.tmp (slotOf i))) i := by
  obtain ⟨v, hv, hok⟩ := h.done i hi hl
  have : a.eval (.tmp (slotOf i)) = v := by simp [Act.eval, hv]
  rw [this]; exact hok
theorem eval_of {a : Act} {t : Nat} {v : Value} (h : a.tmps[t]? = some v) : a.eval (.tmp t) = v := by simp [Act.eval, h]
theorem Inv.guard {D : Dat} {listed : Array Bool} {a : Act} {w : World} (h : Inv D listed a w) (hl : listed.getD 1 false = true) (d : Option Tmp) (op : Op) (ty : TypeId) :
    Region.wanted ⟨d, op, ty, "", #[], some (1, true)⟩ (yielded (lastOf Tryd.f7) a.tmps) = true := by
  obtain ⟨v, hv, hok⟩ := h.done 1 (by omega) hl
  obtain rfl : v = .bool true := hok
  have h1 : ((lastOf Tryd.f7)[1]?).bind (·.dst) = some 50 := by
    have := op1; unfold SeenAs at this
    cases ho : (lastOf Tryd.f7)[1]? with
    | none => rw [ho] at this; cases this
    | some o => rw [ho] at this; simp only [Option.map_some, seen, Option.some.injEq, Prod.mk.injEq] at this; exact this.1
  have hv' : a.tmps[50]? = some (.bool true) := hv
  unfold Region.wanted yielded
  simp only [h1, Option.bind_some, hv']
  rfl
theorem wanted_none (d : Option Tmp) (op : Op) (ty : TypeId) (y : Nat → Option Bool) : Region.wanted ⟨d, op, ty, "", #[], none⟩ y = true := rfl

theorem wp_value {P : Program} {o : Oper} {a : Act} {w w' : World} {K : Act → World → Prop} {Q : Exit → Act → World → Prop} {v : Value} (h : (execOp a.eval o).run P w = .ok (.value v) w') (hk : K (a.put o.dst v) w') : o.wp P a w K Q := by
  unfold Oper.wp; rw [h]; exact hk
theorem wp_enter {P : Program} {o : Oper} {a : Act} {w w' : World} {K : Act → World → Prop} {Q : Exit → Act → World → Prop} {f : Nat} {args : Array Value} {v : Value} (h : (execOp a.eval o).run P w = .ok (.enter f args) w')
    (hc : Calls P f args w' fun e w'' => e = .returned v ∧ w' = w'') (hk : K (a.put o.dst v) w') : o.wp P a w K Q := by
  unfold Oper.wp; rw [h]
  refine Calls.mono hc ?_
  rintro e w'' ⟨rfl, rfl⟩
  exact hk

structure Fit (D : Dat) : Prop where
  pk : D.xl = packed D.l
  xa : D.a.extract 0 D.k = D.xa
  xb : D.b.extract 0 D.k = D.xb
  xc : D.c.extract 0 D.k = D.xc
  ka : (D.k : Int) ≤ D.a.size
  kb : (D.k : Int) ≤ D.b.size
  kc : (D.k : Int) ≤ D.c.size
  sl : D.xl.size ≤ maxLen
  sa : D.xa.size ≤ maxLen
  sb : D.xb.size ≤ maxLen
  sc : D.xc.size ≤ maxLen
  same : (num (crcOf D.xl) == num (crcOf D.xa ^^^ crcOf D.xb ^^^ crcOf D.xc)) = true

section
attribute [local go_sem] bits_num
variable {D : Dat} {listed : Array Bool} {a : Act} {w : World} {Q : Exit → Act → World → Prop}

theorem run_move (ρ : Operand → Value) (d : Option Tmp) (x : Operand) (ty : TypeId) (g : Option (Nat × Bool)) (w : World) : (execOp ρ ⟨d, .move x, ty, "", #[], g⟩).run Tryd.prog w = .ok (.value (ρ x)) w := rfl
theorem run_assign (ρ : Operand → Value) (d : Option Tmp) (x : Operand) (ty : TypeId) (g : Option (Nat × Bool)) (w : World) : (execOp ρ ⟨d, .assign x, ty, "", #[], g⟩).run Tryd.prog w = .ok (.value (ρ x)) w := rfl
theorem run_call12 (ρ : Operand → Value) (d : Option Tmp) (t : Nat) (ty : TypeId) (g : Option (Nat × Bool)) (w : World) (hf : ρ (.func 12) = .func (.func 12) #[] #[]) : (execOp ρ ⟨d, .call { callee := .value (.func 12), args := #[.tmp t], argTypes := #[29] }, ty, "", #[], g⟩).run Tryd.prog w = .ok (.enter 12 #[ρ (.tmp t)]) w := by
  simp only [execOp, resolve, List.map_toArray, List.map_cons, List.map_nil, hf]
  go_simp
theorem run_conv (ρ : Operand → Value) (d : Option Tmp) (ty : TypeId) (g : Option (Nat × Bool)) (w w' : World) (x : Operand) (v : Value) (h : (convert 32 9 (ρ x)).run Tryd.prog w = .ok v w') : (execOp ρ ⟨d, .convert 32 9 x, ty, "", #[], g⟩).run Tryd.prog w = .ok (.value v) w' := by
  simp only [execOp]
  simp only [Sem.run_bind, h]
  rfl
theorem run_cut (ρ : Operand → Value) (d : Option Tmp) (ty : TypeId) (g : Option (Nat × Bool)) (w : World) (x y : Operand) (s : ByteArray) (k : Nat) (hx : ρ x = .string s) (hy : ρ y = .int .i64 k) (hk : (k : Int) ≤ s.size) :
    (execOp ρ ⟨d, .slice 9 x none (some y) none, ty, "", #[], g⟩).run Tryd.prog w = .ok (.value (.string (s.extract 0 k))) w := by
  have h0 : (0 : Int) ≤ (k : Int) := by omega
  simp only [execOp, Option.map, hx, hy]
  go_simp
theorem run_build (ρ : Operand → Value) (d : Option Tmp) (ty : TypeId) (g : Option (Nat × Bool)) (w : World) (x : Operand) (s : ByteArray) (hx : ρ x = .string s) :
    (execOp ρ ⟨d, .buildSlice 29 1 #[(0, x)], ty, "", #[], g⟩).run Tryd.prog w = .ok (.value (.slice (some ⟨w.heap.size, 0, none⟩) 1 1)) (w.alloc (.cells #[.string s] 9)) := by
  have e : (#[(0, x)] : Array (Nat × Operand)).map (fun (i, x) => (i, ρ x)) = #[(0, .string s)] := by simp [hx]
  simp only [execOp, e]
  go_simp
theorem run_xor (ρ : Operand → Value) (d : Option Tmp) (ty : TypeId) (g : Option (Nat × Bool)) (w : World) (x y : Operand) (u v : BitVec 32) (hx : ρ x = .int .u32 (num u)) (hy : ρ y = .int .u32 (num v)) :
    (execOp ρ ⟨d, .binOp .xor 22 x y 22, ty, "", #[], g⟩).run Tryd.prog w = .ok (.value (.int .u32 (num (u ^^^ v)))) w := by
  simp only [execOp, hx, hy]
  go_simp
theorem run_eql (ρ : Operand → Value) (d : Option Tmp) (ty : TypeId) (g : Option (Nat × Bool)) (w : World) (x y : Operand) (u v : BitVec 32) (hx : ρ x = .int .u32 (num u)) (hy : ρ y = .int .u32 (num v)) (h : (num u == num v) = true) :
    (execOp ρ ⟨d, .binOp .eql 22 x y 22, ty, "", #[], g⟩).run Tryd.prog w = .ok (.value (.bool true)) w := by
  simp only [execOp, hx, hy]
  go_simp
theorem run_pick (ρ : Operand → Value) (d : Option Tmp) (ty : TypeId) (g : Option (Nat × Bool)) (w : World) (x y z : Operand) (v : Value) (hx : ρ x = .bool true) (hy : ρ y = v) :
    (execOp ρ ⟨d, .pick x y z, ty, "", #[], g⟩).run Tryd.prog w = .ok (.value v) w := by
  simp only [execOp, hx, hy]
  go_simp
end

theorem conv_of {D : Dat} {w : World} {v : Value} (f : Fit D) (h : SX D.base D.B D.k D.l w) (hv : v = .slice (some ⟨D.B, 0, none⟩) D.k D.k) : (convert 32 9 v).run Tryd.prog w = .ok (.string D.xl) w := by
  subst hv; rw [f.pk]; exact h.conv

theorem last_step {D : Dat} (f : Fit D) {Q : Exit → Act → World → Prop} (listed : Array Bool) (a : Act) (w : World) (h : Inv D listed a w) (i : Nat) (hm : i ∈ Region.ready .any (lastOf Tryd.f7) listed) :
    wpOp Tryd.prog (lastOf Tryd.f7) Q i (fun a w => Inv D (listed.setIfInBounds i true) a w) a w := by
  have hi : i < 26 := by have := ready_lt hm; rwa [last_size] at this
  obtain rfl | rfl | rfl | rfl | rfl | rfl | rfl | rfl | rfl | rfl | rfl | rfl | rfl | rfl | rfl | rfl | rfl | rfl | rfl | rfl | rfl | rfl | rfl | rfl | rfl | rfl : i = 0 ∨ i = 1 ∨ i = 2 ∨ i = 3 ∨ i = 4 ∨ i = 5 ∨ i = 6 ∨ i = 7 ∨ i = 8 ∨ i = 9 ∨ i = 10 ∨ i = 11 ∨ i = 12 ∨ i = 13 ∨ i = 14 ∨ i = 15 ∨ i = 16 ∨ i = 17 ∨ i = 18 ∨ i = 19 ∨ i = 20 ∨ i = 21 ∨ i = 22 ∨ i = 23 ∨ i = 24 ∨ i = 25 := by omega
  · exact wpOp_of op0 hm fun hl => ⟨wanted_none _ _ _ _, wp_value (run_move _ _ _ _ _ _) (h.keep (by omega) rfl (eval_of h.t7))⟩
  · exact wpOp_of op1 hm fun hl => ⟨wanted_none _ _ _ _, wp_value (run_move _ _ _ _ _ _) (h.keep (by omega) rfl (h.got (i := 0) (by omega) (hl 0 (by decide))))⟩
  · exact wpOp_of op2 hm fun hl => ⟨h.guard (hl 1 (by decide)) _ _ _, wp_value (run_move _ _ _ _ _ _) (h.keep (by omega) rfl (eval_of h.t9))⟩
  · exact wpOp_of op3 hm fun hl => ⟨h.guard (hl 1 (by decide)) _ _ _, wp_value (run_conv _ _ _ _ _ _ _ _ (conv_of f h.s (h.got (i := 2) (by omega) (hl 2 (by decide))))) (h.keep (by omega) rfl rfl)⟩
  · exact wpOp_of op4 hm fun hl => ⟨h.guard (hl 1 (by decide)) _ _ _, wp_value (run_build _ _ _ _ _ _ _ (h.got (i := 3) (by omega) (hl 3 (by decide)))) (h.new (by omega) rfl fun _ _ h => h)⟩
  · refine wpOp_of op5 hm fun hl => ⟨h.guard (hl 1 (by decide)) _ _ _, ?_⟩
    obtain ⟨b, hb, hc⟩ := (h.got (i := 4) (by omega) (hl 4 (by decide)))
    refine wp_enter (run_call12 _ _ _ _ _ _ rfl) ?_ (h.keep (by omega) rfl rfl)
    rw [show a.eval (.tmp 53) = _ from hb]
    exact of_one b 1 _ _ f.sl hc h.s.tab
  · exact wpOp_of op6 hm fun hl => ⟨h.guard (hl 1 (by decide)) _ _ _, wp_value (run_move _ _ _ _ _ _) (h.keep (by omega) rfl (eval_of h.t0))⟩
  · exact wpOp_of op7 hm fun hl => ⟨h.guard (hl 1 (by decide)) _ _ _, wp_value (run_move _ _ _ _ _ _) (h.keep (by omega) rfl (eval_of h.t8))⟩
  · exact wpOp_of op8 hm fun hl => ⟨h.guard (hl 1 (by decide)) _ _ _, wp_value (run_cut _ _ _ _ _ _ _ _ _ (h.got (i := 6) (by omega) (hl 6 (by decide))) (h.got (i := 7) (by omega) (hl 7 (by decide))) f.ka) (h.keep (by omega) rfl (congrArg Value.string f.xa))⟩
  · exact wpOp_of op9 hm fun hl => ⟨h.guard (hl 1 (by decide)) _ _ _, wp_value (run_build _ _ _ _ _ _ _ (h.got (i := 8) (by omega) (hl 8 (by decide)))) (h.new (by omega) rfl fun _ _ h => h)⟩
  · refine wpOp_of op10 hm fun hl => ⟨h.guard (hl 1 (by decide)) _ _ _, ?_⟩
    obtain ⟨b, hb, hc⟩ := (h.got (i := 9) (by omega) (hl 9 (by decide)))
    refine wp_enter (run_call12 _ _ _ _ _ _ rfl) ?_ (h.keep (by omega) rfl rfl)
    rw [show a.eval (.tmp 58) = _ from hb]
    exact of_one b 1 _ _ f.sa hc h.s.tab
  · exact wpOp_of op11 hm fun hl => ⟨h.guard (hl 1 (by decide)) _ _ _, wp_value (run_move _ _ _ _ _ _) (h.keep (by omega) rfl (eval_of h.t1))⟩
  · exact wpOp_of op12 hm fun hl => ⟨h.guard (hl 1 (by decide)) _ _ _, wp_value (run_move _ _ _ _ _ _) (h.keep (by omega) rfl (eval_of h.t8))⟩
  · exact wpOp_of op13 hm fun hl => ⟨h.guard (hl 1 (by decide)) _ _ _, wp_value (run_cut _ _ _ _ _ _ _ _ _ (h.got (i := 11) (by omega) (hl 11 (by decide))) (h.got (i := 12) (by omega) (hl 12 (by decide))) f.kb) (h.keep (by omega) rfl (congrArg Value.string f.xb))⟩
  · exact wpOp_of op14 hm fun hl => ⟨h.guard (hl 1 (by decide)) _ _ _, wp_value (run_build _ _ _ _ _ _ _ (h.got (i := 13) (by omega) (hl 13 (by decide)))) (h.new (by omega) rfl fun _ _ h => h)⟩
  · refine wpOp_of op15 hm fun hl => ⟨h.guard (hl 1 (by decide)) _ _ _, ?_⟩
    obtain ⟨b, hb, hc⟩ := (h.got (i := 14) (by omega) (hl 14 (by decide)))
    refine wp_enter (run_call12 _ _ _ _ _ _ rfl) ?_ (h.keep (by omega) rfl rfl)
    rw [show a.eval (.tmp 63) = _ from hb]
    exact of_one b 1 _ _ f.sb hc h.s.tab
  · exact wpOp_of op16 hm fun hl => ⟨h.guard (hl 1 (by decide)) _ _ _, wp_value (run_xor _ _ _ _ _ _ _ _ _ (h.got (i := 10) (by omega) (hl 10 (by decide))) (h.got (i := 15) (by omega) (hl 15 (by decide)))) (h.keep (by omega) rfl rfl)⟩
  · exact wpOp_of op17 hm fun hl => ⟨h.guard (hl 1 (by decide)) _ _ _, wp_value (run_move _ _ _ _ _ _) (h.keep (by omega) rfl (eval_of h.t2))⟩
  · exact wpOp_of op18 hm fun hl => ⟨h.guard (hl 1 (by decide)) _ _ _, wp_value (run_move _ _ _ _ _ _) (h.keep (by omega) rfl (eval_of h.t8))⟩
  · exact wpOp_of op19 hm fun hl => ⟨h.guard (hl 1 (by decide)) _ _ _, wp_value (run_cut _ _ _ _ _ _ _ _ _ (h.got (i := 17) (by omega) (hl 17 (by decide))) (h.got (i := 18) (by omega) (hl 18 (by decide))) f.kc) (h.keep (by omega) rfl (congrArg Value.string f.xc))⟩
  · exact wpOp_of op20 hm fun hl => ⟨h.guard (hl 1 (by decide)) _ _ _, wp_value (run_build _ _ _ _ _ _ _ (h.got (i := 19) (by omega) (hl 19 (by decide)))) (h.new (by omega) rfl fun _ _ h => h)⟩
  · refine wpOp_of op21 hm fun hl => ⟨h.guard (hl 1 (by decide)) _ _ _, ?_⟩
    obtain ⟨b, hb, hc⟩ := (h.got (i := 20) (by omega) (hl 20 (by decide)))
    refine wp_enter (run_call12 _ _ _ _ _ _ rfl) ?_ (h.keep (by omega) rfl rfl)
    rw [show a.eval (.tmp 69) = _ from hb]
    exact of_one b 1 _ _ f.sc hc h.s.tab
  · exact wpOp_of op22 hm fun hl => ⟨h.guard (hl 1 (by decide)) _ _ _, wp_value (run_xor _ _ _ _ _ _ _ _ _ (h.got (i := 16) (by omega) (hl 16 (by decide))) (h.got (i := 21) (by omega) (hl 21 (by decide)))) (h.keep (by omega) rfl rfl)⟩
  · exact wpOp_of op23 hm fun hl => ⟨h.guard (hl 1 (by decide)) _ _ _, wp_value (run_eql _ _ _ _ _ _ _ _ _ (h.got (i := 5) (by omega) (hl 5 (by decide))) (h.got (i := 22) (by omega) (hl 22 (by decide))) f.same) (h.keep (by omega) rfl rfl)⟩
  · exact wpOp_of op24 hm fun hl => ⟨wanted_none _ _ _ _, wp_value (run_pick _ _ _ _ _ _ _ _ _ (h.got (i := 1) (by omega) (hl 1 (by decide))) (h.got (i := 23) (by omega) (hl 23 (by decide)))) (h.keep (by omega) rfl rfl)⟩
  · exact wpOp_of op25 hm fun hl => ⟨wanted_none _ _ _ _, wp_value (run_assign _ _ _ _ _ _) (h.keep (by omega) rfl (h.got (i := 24) (by omega) (hl 24 (by decide))))⟩

theorem last_walk {D : Dat} (f : Fit D) {Q : Exit → Act → World → Prop} {a : Act} {w : World} (hm : Tryd.prog.follows .mixedOrders = true) (h : Inv D (Array.replicate 26 false) a { w with drawn := w.drawn + 1 })
    (hq : ∀ a w, a.tmps.getD 6 undef = .bool true → a.defers = [] → Below D.base.heap.size D.base w → Q .normal a w) : (Code.region 14 (lastOf Tryd.f7) true).wp Tryd.prog Q a w := by
  refine wp_region_inv hm (Inv D) (fun _ _ _ h => by rw [h.lsize, last_size]) ?_ (last_step f) ?_ (by rw [last_size]; exact h)
  · intro i o ho e he _
    have hi : i < 26 := by have := (Array.getElem?_eq_some_iff.1 ho).1; rwa [last_size] at this
    have hb := last_back
    rw [List.all_eq_true] at hb
    have := hb i (List.mem_range.2 hi)
    rw [ho] at this
    simp only [Option.all_some, Array.all_eq_true_iff_forall_mem, decide_eq_true_eq] at this
    exact this e he
  · intro listed a w h hall
    obtain ⟨v, hv, hok⟩ := h.done 25 (by omega) (hall 25 (by rw [last_size]; omega))
    obtain rfl : v = .bool true := hok
    have hv' : a.tmps[6]? = some (.bool true) := hv
    exact hq a w (by simp [hv']) h.defers h.s.below
end Go.Proofs.YtcjgefhlkjdoaaaDoor

/- The shadow machine, part 6: a region whose order is drawn. No condition. -/
import Derived.Test.YtobacdliblaofaaE5
namespace Go.Sh

/-! ### What an operation hangs on -/

/-- 0: on its operands alone; 1: on memory, which it leaves; 2: it makes a block; 3: all else -/
def cls (o : Oper) : Nat :=
  match o.op with
  | .move _ | .assign _ | .pick .. | .build .. | .nilCheck _ | .binOp .. | .unOp .. | .fieldAddr .. | .extract .. => 0
  | .load .. => 1
  | .alloc _ | .box .. => 2
  | .call c => match c.callee with | .builtin .min => 0 | _ => 3
  | _ => 3

theorem operands_congr {a b : Act} : ∀ {xs : List Operand}, (∀ x ∈ xs, operand a x = operand b x) → operands a xs = operands b xs
  | [], _ => rfl
  | x :: xs, h => by
    simp only [operands, List.mapM_cons]
    rw [h x (List.mem_cons_self ..)]
    have := operands_congr (fun y hy => h y (List.mem_cons_of_mem _ hy))
    simp only [operands] at this
    rw [this]

theorem op1_congr {P : Program} {call : CallS} {a b : Act} {h : Heap} {o : Oper} (ho : ∀ x ∈ o.op.operands, operand a x = operand b x) : op1 P call a h o = op1 P call b h o := by
  cases hop : o.op with
  | call c =>
    rw [hop] at ho
    cases hc : c.callee with
    | value f =>
      have h1 : operand a f = operand b f := ho f (by simp [Op.operands, Call.operands, hc])
      have h2 : operands a c.args.toList = operands b c.args.toList := operands_congr (fun x hx => ho x (by simp at hx; simp [Op.operands, Call.operands, hx]))
      simp only [op1, hop, hc, h1, h2]
    | invoke r m => simp only [op1, hop, hc]
    | builtin bb =>
      have h2 : operands a c.args.toList = operands b c.args.toList := operands_congr (fun x hx => ho x (by simp at hx; simp [Op.operands, Call.operands, hx]))
      simp only [op1, hop, hc, h2]
      cases bb <;> rfl
  | move x => rw [hop] at ho; simp only [op1, opv, hop, ho x (by simp [Op.operands])]
  | assign x => rw [hop] at ho; simp only [op1, opv, hop, ho x (by simp [Op.operands])]
  | box t x => rw [hop] at ho; simp only [op1, opv, hop, ho x (by simp [Op.operands])]
  | load t x => rw [hop] at ho; simp only [op1, opv, hop, ho x (by simp [Op.operands])]
  | nilCheck x => rw [hop] at ho; simp only [op1, opv, hop, ho x (by simp [Op.operands])]
  | unOp op t x => rw [hop] at ho; simp only [op1, opv, hop, ho x (by simp [Op.operands])]
  | fieldAddr s x f => rw [hop] at ho; simp only [op1, opv, hop, ho x (by simp [Op.operands])]
  | extract x ix => rw [hop] at ho; simp only [op1, opv, hop, ho x (by simp [Op.operands])]
  | store t x y => rw [hop] at ho; simp only [op1, opv, hop, ho x (by simp [Op.operands]), ho y (by simp [Op.operands])]
  | binOp op t x y yt => rw [hop] at ho; simp only [op1, opv, hop, ho x (by simp [Op.operands]), ho y (by simp [Op.operands])]
  | pick c x y =>
    rw [hop] at ho
    have hx := ho x (by simp [Op.operands])
    have hy := ho y (by simp [Op.operands])
    have hxy : ∀ b' : Bool, operand a (if b' then x else y) = operand b (if b' then x else y) := by intro b'; cases b' <;> simp [hx, hy]
    simp only [op1, opv, hop, ho c (by simp [Op.operands]), hxy]
  | build t parts =>
    rw [hop] at ho
    simp only [op1, opv, hop, operands_congr (a := a) (b := b) (xs := parts.toList.map (·.2)) (fun x hx => ho x (by simpa [Op.operands] using hx))]
  | _ => simp only [op1, opv, hop]

/-- class 0: memory is neither asked nor turned -/
theorem op1_still {P : Program} {call : CallS} {a : Act} {h h' : Heap} {o : Oper} {v : Value} (hc : cls o = 0) (hv : op1 P call a h o = some (v, h')) :
    h' = h ∧ ∀ h2, op1 P call a h2 o = some (v, h2) := by
  cases hop : o.op with
  | move x => simp only [op1, opv, hop, Option.map_eq_some_iff, Prod.mk.injEq] at hv ⊢; obtain ⟨u, hu, rfl, rfl⟩ := hv; exact ⟨rfl, fun h2 => ⟨u, hu, rfl, trivial⟩⟩
  | assign x => simp only [op1, opv, hop, Option.map_eq_some_iff, Prod.mk.injEq] at hv ⊢; obtain ⟨u, hu, rfl, rfl⟩ := hv; exact ⟨rfl, fun h2 => ⟨u, hu, rfl, trivial⟩⟩
  | pick c x y =>
    simp only [op1, opv, hop] at hv ⊢
    split at hv
    · simp only [Option.map_eq_some_iff, Prod.mk.injEq] at hv ⊢; obtain ⟨u, hu, rfl, rfl⟩ := hv; exact ⟨rfl, fun h2 => ⟨u, hu, rfl, trivial⟩⟩
    · cases hv
  | build t parts =>
    simp only [op1, opv, hop] at hv ⊢
    split at hv
    · split at hv
      · split at hv
        · split at hv
          · rename_i h1 _ h2 h3
            simp only [Option.some.injEq, Prod.mk.injEq] at hv
            obtain ⟨rfl, rfl⟩ := hv
            exact ⟨rfl, fun _ => by simp_all⟩
          · cases hv
        · cases hv
      · cases hv
    · cases hv
  | nilCheck x =>
    simp only [op1, opv, hop] at hv ⊢
    split at hv
    · simp only [Option.some.injEq, Prod.mk.injEq] at hv ⊢; exact ⟨hv.2.symm, fun h2 => ⟨hv.1, trivial⟩⟩
    · cases hv
  | binOp op t x y yt =>
    simp only [op1, opv, hop] at hv ⊢
    split at hv
    · split at hv
      · split at hv
        · split at hv
          · simp only [Option.some.injEq, Prod.mk.injEq] at hv
            obtain ⟨rfl, rfl⟩ := hv
            exact ⟨rfl, fun _ => by simp_all⟩
          · cases hv
        · cases hv
      · simp only [Option.map_eq_some_iff, Prod.mk.injEq] at hv
        obtain ⟨b, hb, rfl, rfl⟩ := hv
        exact ⟨rfl, fun _ => by simp_all⟩
    · cases hv
  | unOp op t x =>
    simp only [op1, opv, hop] at hv ⊢
    split at hv
    · split at hv
      · split at hv
        · split at hv
          · simp only [Option.some.injEq, Prod.mk.injEq] at hv
            obtain ⟨rfl, rfl⟩ := hv
            exact ⟨rfl, fun _ => by simp_all⟩
          · cases hv
        · cases hv
      · cases hv
    · cases hv
  | fieldAddr s x f =>
    simp only [op1, opv, hop] at hv ⊢
    split at hv
    · split at hv
      · split at hv
        · split at hv
          · cases hv
          · simp only [Option.some.injEq, Prod.mk.injEq] at hv
            obtain ⟨rfl, rfl⟩ := hv
            exact ⟨rfl, fun _ => by simp_all⟩
        · cases hv
      · cases hv
    · cases hv
  | extract x ix =>
    simp only [op1, opv, hop] at hv ⊢
    split at hv
    · simp only [Option.map_eq_some_iff, Prod.mk.injEq] at hv ⊢; obtain ⟨u, hu, rfl, rfl⟩ := hv; exact ⟨rfl, fun h2 => ⟨u, hu, rfl, trivial⟩⟩
    · cases hv
  | call c =>
    simp only [cls, hop] at hc
    split at hc
    · rename_i hcc
      simp only [op1, hop, hcc] at hv ⊢
      split at hv
      · split at hv
        · split at hv
          · split at hv
            · simp only [Option.some.injEq, Prod.mk.injEq] at hv
              obtain ⟨rfl, rfl⟩ := hv
              exact ⟨rfl, fun _ => by simp_all⟩
            · cases hv
          · cases hv
        · cases hv
      · cases hv
    · cases hc
  | _ => simp [cls, hop] at hc

/-- class 1: memory is asked, at the block of its operand -/
theorem op1_read {P : Program} {call : CallS} {a : Act} {h h' : Heap} {o : Oper} {v : Value} (hc : cls o = 1) (hv : op1 P call a h o = some (v, h')) :
    h' = h ∧ ∃ i off x, operand a x = some (.pointer (some ⟨i, off, none⟩)) ∧ ∀ h2 : Heap, h2.at_ i = h.at_ i → op1 P call a h2 o = some (v, h2) := by
  cases hop : o.op with
  | load t x =>
    simp only [op1, opv, hop] at hv
    split at hv
    · rename_i p hp
      simp only [Option.map_eq_some_iff, Prod.mk.injEq] at hv
      obtain ⟨u, hu, rfl, rfl⟩ := hv
      have hu' := hu
      unfold loadS at hu
      split at hu
      · rename_i i off
        refine ⟨rfl, i, off, x, hp, fun h2 he => ?_⟩
        have : loadS P h2 t (.pointer (some ⟨i, off, none⟩)) = some u := by
          simp only [loadS] at hu' ⊢
          rw [he]; exact hu'
        simp only [op1, opv, hop, hp, this, Option.map_some]
      · cases hu
    · cases hv
  | call c => simp only [cls, hop] at hc; split at hc <;> cases hc
  | _ => simp [cls, hop] at hc

/-- class 2: the cells of the block that is made -/
def made (P : Program) (a : Act) (o : Oper) : Option (List Value) :=
  match o.op with
  | .alloc t =>
    match (P.info? t).bind (·.zero) with
    | some z => if still z then some z.cells.toList else none
    | none => none
  | .box _ x => (operand a x).map fun v => v.cells.toList
  | _ => none

theorem made_congr {P : Program} {a b : Act} {o : Oper} (ho : ∀ x ∈ o.op.operands, operand a x = operand b x) : made P a o = made P b o := by
  cases hop : o.op with
  | box t x => rw [hop] at ho; simp only [made, hop, ho x (by simp [Op.operands])]
  | _ => simp only [made, hop]

/-! ### A region whose order is drawn: each block that an operation makes has the operation's own name -/

def Heap.put (h : Heap) (i : Nat) (c : List Value) : Heap := { h with at_ := fun j => if j = i then some c else h.at_ j }

def opD (P : Program) (call : CallS) (base : Nat) (a : Act) (h : Heap) (x : Oper × Nat) : Option (Value × Heap) :=
  if cls x.1 = 2 then (made P a x.1).map fun c => (.pointer (some ⟨base + x.2, 0, none⟩), h.put (base + x.2) c)
  else op1 P call a h x.1

def stepD (P : Program) (call : CallS) (ops : Array Oper) (base : Nat) (x : Oper × Nat) (s : Act × Heap) : Option (Act × Heap) :=
  if Region.wanted x.1 (yielded ops s.1.tmps) then (opD P call base s.1 s.2 x).map fun r => (s.1.put x.1.dst r.1, r.2)
  else some (s.1.put x.1.dst undef, s.2)

def runD (P : Program) (call : CallS) (ops : Array Oper) (base : Nat) : List (Oper × Nat) → Act × Heap → Option (Act × Heap)
  | [], s => some s
  | x :: l, s =>
    match stepD P call ops base x s with
    | some s' => runD P call ops base l s'
    | none => none

/-- two operations that no edge orders -/
def looseOk (ops : Array Oper) (x y : Oper) : Bool := x.apart ops y && (cls x == 0 || cls y == 0 || (cls x < 3 && cls y < 3))

theorem operand_put {a : Act} {d : Option Tmp} {v : Value} {x : Operand} (h : ∀ t, d = some t → x ≠ .tmp t) : operand (a.put d v) x = operand a x := by
  cases d with
  | none => rfl
  | some d =>
    cases x with
    | tmp t =>
      have hne : d ≠ t := fun e => h d rfl (e ▸ rfl)
      simp [operand, Act.put, Array.getElem?_setIfInBounds_ne hne]
    | _ => rfl

theorem looksAt_operand {ops : Array Oper} {o : Oper} {t : Tmp} (h : Operand.tmp t ∈ o.op.operands) : t ∈ o.looksAt ops := by
  unfold Oper.looksAt
  simp only [List.mem_append, List.mem_filterMap]
  left
  exact ⟨.tmp t, by simpa using h, rfl⟩

theorem wanted_put {ops : Array Oper} {a : Act} {o : Oper} {d : Option Tmp} {v : Value} (h : ∀ t, d = some t → t ∉ o.looksAt ops) :
    Region.wanted o (yielded ops (a.put d v).tmps) = Region.wanted o (yielded ops a.tmps) := by
  unfold Region.wanted
  cases hg : o.guard with
  | none => rfl
  | some g =>
    obtain ⟨j, want⟩ := g
    simp only
    have : yielded ops (a.put d v).tmps j = yielded ops a.tmps j := by
      unfold yielded
      cases hd : (ops[j]?).bind (·.dst) with
      | none => rfl
      | some t =>
        simp only [Option.bind_some]
        cases d with
        | none => rfl
        | some d =>
          have hne : d ≠ t := by
            intro e
            refine h d rfl ?_
            unfold Oper.looksAt
            simp only [List.mem_append]
            right
            simp [hg, hd, e]
          simp [Act.put, Array.getElem?_setIfInBounds_ne hne]
    rw [this]

theorem opD_put {P : Program} {call : CallS} {base : Nat} {ops : Array Oper} {a : Act} {h : Heap} {y : Oper × Nat} {d : Option Tmp} {v : Value} (hd : ∀ t, d = some t → t ∉ y.1.looksAt ops) :
    opD P call base (a.put d v) h y = opD P call base a h y := by
  have ho : ∀ x ∈ y.1.op.operands, operand (a.put d v) x = operand a x := by
    intro x hx
    refine operand_put fun t ht e => ?_
    subst e
    exact hd t ht (looksAt_operand hx)
  unfold opD
  rw [made_congr ho, op1_congr ho]

/-- of two operations that no edge orders the later one may go first -/
theorem opD_swap {P : Program} {call : CallS} {base : Nat} {a : Act} {h h1 h2 : Heap} {x y : Oper × Nat} {vx vy : Value} (hne : x.2 ≠ y.2)
    (hc : cls x.1 = 0 ∨ cls y.1 = 0 ∨ (cls x.1 < 3 ∧ cls y.1 < 3))
    (hfx : ∀ z off, operand a z ≠ some (.pointer (some ⟨base + x.2, off, none⟩))) (hfy : ∀ z off, operand a z ≠ some (.pointer (some ⟨base + y.2, off, none⟩)))
    (hx : opD P call base a h x = some (vx, h1)) (hy : opD P call base a h1 y = some (vy, h2)) :
    ∃ g, opD P call base a h y = some (vy, g) ∧ opD P call base a g x = some (vx, h2) := by
  have still0 : ∀ {z : Oper × Nat} {k k' : Heap} {v : Value}, cls z.1 = 0 → opD P call base a k z = some (v, k') → k' = k ∧ ∀ k2, opD P call base a k2 z = some (v, k2) := by
    intro z k k' v hz hv
    unfold opD at hv ⊢
    rw [if_neg (by omega)] at hv
    obtain ⟨e, hk⟩ := op1_still hz hv
    exact ⟨e, fun k2 => by rw [if_neg (by omega)]; exact hk k2⟩
  by_cases hx0 : cls x.1 = 0
  · obtain ⟨rfl, hx'⟩ := still0 hx0 hx
    exact ⟨h2, hy, hx' h2⟩
  by_cases hy0 : cls y.1 = 0
  · obtain ⟨rfl, hy'⟩ := still0 hy0 hy
    exact ⟨h, hy' h, hx⟩
  obtain ⟨hx3, hy3⟩ : cls x.1 < 3 ∧ cls y.1 < 3 := by omega
  have read1 : ∀ {z : Oper × Nat} {k k' : Heap} {v : Value}, cls z.1 = 1 → opD P call base a k z = some (v, k') →
      k' = k ∧ ∃ i off u, operand a u = some (.pointer (some ⟨i, off, none⟩)) ∧ ∀ k2 : Heap, k2.at_ i = k.at_ i → opD P call base a k2 z = some (v, k2) := by
    intro z k k' v hz hv
    unfold opD at hv ⊢
    rw [if_neg (by omega)] at hv
    obtain ⟨e, i, off, u, hu, hk⟩ := op1_read hz hv
    exact ⟨e, i, off, u, hu, fun k2 he => by rw [if_neg (by omega)]; exact hk k2 he⟩
  have make2 : ∀ {z : Oper × Nat} {k k' : Heap} {v : Value}, cls z.1 = 2 → opD P call base a k z = some (v, k') →
      ∃ c, k' = k.put (base + z.2) c ∧ ∀ k2 : Heap, opD P call base a k2 z = some (v, k2.put (base + z.2) c) := by
    intro z k k' v hz hv
    unfold opD at hv ⊢
    rw [if_pos hz] at hv
    simp only [Option.map_eq_some_iff, Prod.mk.injEq] at hv
    obtain ⟨c, hc, rfl, rfl⟩ := hv
    exact ⟨c, rfl, fun k2 => by rw [if_pos hz, hc]; rfl⟩
  by_cases hx1 : cls x.1 = 1
  · obtain ⟨rfl, i, off, u, hu, hx'⟩ := read1 hx1 hx
    by_cases hy1 : cls y.1 = 1
    · obtain ⟨rfl, _⟩ := read1 hy1 hy
      exact ⟨_, hy, hx⟩
    · obtain ⟨c, rfl, hy'⟩ := make2 (by omega) hy
      refine ⟨_, hy, hx' _ ?_⟩
      simp only [Heap.put]
      rw [if_neg]
      rintro rfl
      exact hfy u off hu
  · obtain ⟨c, rfl, hx'⟩ := make2 (by omega) hx
    by_cases hy1 : cls y.1 = 1
    · obtain ⟨rfl, i, off, u, hu, hy'⟩ := read1 hy1 hy
      refine ⟨h, hy' h ?_, hx' h⟩
      simp only [Heap.put]
      rw [if_neg]
      rintro rfl
      exact hfx u off hu
    · obtain ⟨c', rfl, hy'⟩ := make2 (by omega) hy
      refine ⟨_, hy' h, ?_⟩
      rw [hx']
      congr 2
      simp only [Heap.put, Heap.mk.injEq, and_true]
      funext j
      by_cases e1 : j = base + x.2
      · subst e1
        rw [if_pos rfl, if_neg (by omega), if_pos rfl]
      · rw [if_neg e1]
        by_cases e2 : j = base + y.2
        · rw [if_pos e2, if_pos e2]
        · rw [if_neg e2, if_neg e2, if_neg e1]

end Go.Sh

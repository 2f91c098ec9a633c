/- The shadow machine, part 2: comparisons and reckoning on values that bear no address ask nothing of memory. No condition. -/
import Derived.Test.YtobacdliblaofaaE1
import GoSem.Dispatch
namespace Go.Sh

theorem Quiet.forIn_range {β : Type} (r : Std.Legacy.Range) (b : β) {f : Nat → β → Sem (ForInStep β)} (hf : ∀ a b, Quiet (f a b)) : Quiet (forIn r b f) := by
  rw [Std.Legacy.Range.forIn_eq_forIn_range']
  exact Quiet.forIn_list hf _ _

theorem Quiet.forIn_array {α β : Type} (xs : Array α) (b : β) {f : α → β → Sem (ForInStep β)} (hf : ∀ a b, Quiet (f a b)) : Quiet (forIn xs b f) := by
  rw [← Array.forIn_toList]
  exact Quiet.forIn_list hf _ _

theorem Quiet.eqGuardIn : ∀ (d : Nat) (t : TypeId) (x y : Value), Quiet (Op.eqGuardIn d t x y)
  | 0, _, _, _ => .halt _
  | d + 1, t, x, y => by
    unfold Op.eqGuardIn
    refine Quiet.bind (.underlying t) fun u => ?_
    split
    · exact .pure _
    · refine Quiet.bind (Quiet.forIn_array _ _ fun f r => ?_) fun r => ?_
      · split
        · refine Quiet.bind (.part ..) fun _ => Quiet.bind (.part ..) fun _ => Quiet.bind (eqGuardIn d _ _ _) fun _ => ?_
          split <;> exact .pure _
        · exact .pure _
      · dsimp only
        split <;> exact .pure _
    · refine Quiet.bind (.sizeOf _) fun n => Quiet.bind (Quiet.forIn_range _ _ fun f r => ?_) fun r => ?_
      · refine Quiet.bind (.part ..) fun _ => Quiet.bind (.part ..) fun _ => Quiet.bind (eqGuardIn d _ _ _) fun _ => ?_
        split <;> exact .pure _
      · dsimp only
        split <;> exact .pure _
    · exact .pure _

theorem Quiet.eqGuard (op : BinOp) (t : TypeId) (x y : Operand) (u v : Value) : Quiet (eqGuard op t x y u v) := by
  have key : Quiet (match u, v with
      | .nilIface, .nilIface =>
        if (x matches .const _) || (y matches .const _) then Pure.pure ()
        else do
          if ← Op.eqGuardIn Op.maxDepth t u v then unsupported (.noEntry "binop/eql: two nil values of an interface type with methods, neither of them the literal nil") else Pure.pure ()
      | .agg _, .agg _ => do
        if !(← Go.program).eqGuardType (← Go.program).depth t then Pure.pure ()
        else
          if ← Op.eqGuardIn Op.maxDepth t u v then unsupported (.noEntry "binop/eql: two nil values of an interface type with methods, in a part of a struct or an array") else Pure.pure ()
      | _, _ => (Pure.pure () : Sem Unit)) := by
    split
    · refine Quiet.ite (.pure _) (Quiet.bind (.eqGuardIn ..) fun b => Quiet.ite (.halt _) (.pure _))
    · exact Quiet.bind .prog fun p => Quiet.bind .prog fun p' => Quiet.ite (.pure _) (Quiet.bind (.eqGuardIn ..) fun b => Quiet.ite (.halt _) (.pure _))
    · exact .pure _
  unfold Go.eqGuard
  exact Quiet.ite (.pure _) key

/-- what may be compared or reckoned with, without an address -/
def plain : Value → Bool
  | .bool _ | .int _ _ | .string _ | .pointer none | .nilFunc | .nilIface | .map none => true
  | .slice none l c => l == 0 && c == 0
  | .agg cs => cs.toList.all bare
  | _ => false

theorem Quiet.runtimePanic {α : Type} (e : RuntimeError) (h : (match e with | .typeAssertion .. | .panicNil => false | _ => true) = true) : Quiet (runtimePanic e : Sem α) := by
  unfold Go.runtimePanic
  refine Quiet.bind .prog fun p => ?_
  cases e <;> first | exact .halt _ | simp at h

/-! ### Quiet operations whose answers are known to be of a kind. -/

inductive QP (P : Program) {α : Type} (R : α → Prop) : Sem α → Prop
  | pure (a : α) : R a → QP P R (.pure a)
  | program (k : Program → Sem α) : QP P R (k P) → QP P R (.program k)
  | halt (h : Halt) : QP P R (.halt h)

theorem QP.bind {P : Program} {α β : Type} {R : α → Prop} {R' : β → Prop} {s : Sem α} {f : α → Sem β} (hs : QP P R s) (hf : ∀ a, R a → QP P R' (f a)) : QP P R' (s >>= f) := by
  show QP P R' (Sem.bind s f)
  induction hs with
  | pure a h => exact hf a h
  | program k _ ih => exact .program _ ih
  | halt h => exact .halt h

theorem QP.of_quiet {P : Program} {α : Type} {s : Sem α} (h : Quiet s) : QP P (fun _ => True) s := by
  induction h with
  | pure a => exact .pure a trivial
  | program k _ ih => exact .program k (ih P)
  | halt h => exact .halt h

theorem QP.mono {P : Program} {α : Type} {R R' : α → Prop} {s : Sem α} (h : QP P R s) (hr : ∀ a, R a → R' a) : QP P R' s := by
  induction h with
  | pure a h => exact .pure a (hr a h)
  | program k _ ih => exact .program k ih
  | halt h => exact .halt h

theorem QP.run {P : Program} {α : Type} {R : α → Prop} {s : Sem α} (hs : QP P R s) {a : α} {w₀ w₁ : World} (h : s.run P w₀ = .ok a w₁) : R a ∧ ∀ w, s.run P w = .ok a w := by
  induction hs with
  | pure b hb => simp only [Sem.run, Result.ok.injEq] at h; exact ⟨h.1 ▸ hb, fun w => by simp [Sem.run, h.1]⟩
  | program k _ ih => exact ih h
  | halt x => simp [Sem.run] at h

theorem QP.ite {P : Program} {α : Type} {R : α → Prop} {c : Prop} [Decidable c] {x y : Sem α} (hx : QP P R x) (hy : QP P R y) : QP P R (if c then x else y) := by
  split <;> assumption

theorem QP.forIn_list {P : Program} {α β : Type} {f : α → β → Sem (ForInStep β)} (hf : ∀ a b, QP P (fun _ => True) (f a b)) :
    ∀ (l : List α) (b : β), QP P (fun _ => True) (forIn l b f)
  | [], b => .pure b trivial
  | x :: l, b => by
    rw [List.forIn_cons]
    refine QP.bind (hf x b) fun r _ => ?_
    cases r with
    | done b => exact .pure b trivial
    | yield b => exact forIn_list hf l b

theorem QP.forIn_range {P : Program} {β : Type} (r : Std.Legacy.Range) (b : β) {f : Nat → β → Sem (ForInStep β)} (hf : ∀ a b, QP P (fun _ => True) (f a b)) : QP P (fun _ => True) (forIn r b f) := by
  rw [Std.Legacy.Range.forIn_eq_forIn_range']
  exact QP.forIn_list hf _ _

theorem QP.forIn_array {P : Program} {α β : Type} (xs : Array α) (b : β) {f : α → β → Sem (ForInStep β)} (hf : ∀ a b, QP P (fun _ => True) (f a b)) : QP P (fun _ => True) (forIn xs b f) := by
  rw [← Array.forIn_toList]
  exact QP.forIn_list hf _ _

/-- what may be compared: plain, or a bare one -/
def comp (v : Value) : Bool := plain v || bare v

theorem comp_part (P : Program) (t : TypeId) {cs : Array Value} (off : Nat) (hc : cs.toList.all bare = true) : QP P (fun v => comp v = true) (part t cs off) := by
  unfold Go.part
  refine QP.bind (QP.of_quiet (.isAgg t)) fun b _ => ?_
  split
  · refine QP.bind (QP.of_quiet (.sizeOf t)) fun n _ => .pure _ ?_
    simp only [comp, plain, Bool.or_eq_true]
    left
    rw [List.all_eq_true] at hc ⊢
    intro x hx
    refine hc x ?_
    simp only [Array.mem_toList_iff] at hx ⊢
    obtain ⟨j, hj, rfl⟩ := Array.mem_iff_getElem.1 hx
    simp
  · split
    · rename_i v hv
      refine .pure _ ?_
      simp only [comp, Bool.or_eq_true]
      right
      exact List.all_eq_true.1 hc _ (Array.mem_toList_iff.2 (Array.mem_of_getElem? hv))
    · exact .halt _

theorem QP.equalIn {P : Program} : ∀ (d : Nat) (t : TypeId) (x y : Value), comp x = true → comp y = true → QP P (fun _ => True) (Op.equalIn d t x y)
  | 0, _, _, _, _, _ => .halt _
  | d + 1, t, x, y, hx, hy => by
    unfold Op.equalIn
    refine QP.bind (QP.of_quiet (.underlying t)) fun u _ => ?_
    split
    all_goals first
      | exact .pure _ trivial
      | exact .halt _
      | exact QP.ite (.pure _ trivial) (.halt _)
      | (simp [comp, plain, bare] at hx; done)
      | (simp [comp, plain, bare] at hy; done)
      | skip
    · rename_i a b
      cases a with
      | some a => simp [comp, plain, bare] at hx
      | none =>
        cases b with
        | some b => simp [comp, plain, bare] at hy
        | none => exact .pure _ trivial
    · rename_i fields xs ys
      have hx' : xs.toList.all bare = true := by simpa [comp, plain, bare] using hx
      have hy' : ys.toList.all bare = true := by simpa [comp, plain, bare] using hy
      refine QP.bind (QP.of_quiet .prog) fun p _ => ?_
      dsimp only
      refine QP.ite (QP.bind (R := fun _ => False) (.halt _) fun _ h => h.elim) ?_
      refine QP.bind (QP.forIn_array _ _ fun f r => ?_) fun r _ => ?_
      · refine QP.ite ?_ (.pure _ trivial)
        refine QP.bind (comp_part P _ _ hx') fun v hv => QP.bind (comp_part P _ _ hy') fun v' hv' => QP.bind (QP.equalIn d _ _ _ hv hv') fun b _ => ?_
        exact QP.ite (.pure _ trivial) (.pure _ trivial)
      · try dsimp only
        split <;> exact .pure _ trivial
    · rename_i len elem xs ys
      have hx' : xs.toList.all bare = true := by simpa [comp, plain, bare] using hx
      have hy' : ys.toList.all bare = true := by simpa [comp, plain, bare] using hy
      refine QP.bind (QP.of_quiet (.sizeOf _)) fun n _ => QP.bind (QP.forIn_range _ _ fun f r => ?_) fun r _ => ?_
      · refine QP.bind (comp_part P _ _ hx') fun v hv => QP.bind (comp_part P _ _ hy') fun v' hv' => QP.bind (QP.equalIn d _ _ _ hv hv') fun b _ => ?_
        exact QP.ite (.pure _ trivial) (.pure _ trivial)
      · try dsimp only
        split <;> exact .pure _ trivial

/-- what may be reckoned with -/
def reck : Value → Bool
  | .float _ _ | .complex _ _ _ => false
  | v => comp v

theorem QP.intDiv {P : Program} (op : BinOp) (k : IntKind) (x y : Int) : QP P (fun _ => True) (Op.intDiv op k x y) := by
  unfold Op.intDiv
  refine QP.ite (QP.of_quiet (.runtimePanic _ rfl)) ?_
  cases op <;> first | exact .pure _ trivial | exact .halt _

theorem QP.shift {P : Program} (op : BinOp) (k : IntKind) (x : Int) (yk : IntKind) (y : Int) : QP P (fun _ => True) (Op.shift op k x yk y) := by
  unfold Op.shift
  refine QP.ite (QP.of_quiet (.runtimePanic _ rfl)) ?_
  cases op <;> first | exact .pure _ trivial | exact .halt _

theorem QP.intSmall {P : Program} (op : BinOp) (k : IntKind) (x y : Int) : QP P (fun _ => True) (Op.intArith op k x y) ∧ QP P (fun _ => True) (Op.intBits op k x y) ∧ QP P (fun _ => True) (Op.intCmp op x y) := by
  refine ⟨?_, ?_, ?_⟩
  · unfold Op.intArith; cases op <;> first | exact .pure _ trivial | exact .halt _
  · unfold Op.intBits; cases op <;> first | exact .pure _ trivial | exact .halt _
  · unfold Op.intCmp; cases op <;> first | exact .pure _ trivial | exact .halt _

theorem QP.stringOp {P : Program} (op : BinOp) (x y : ByteArray) : QP P (fun _ => True) (Op.stringOp op x y) := by
  unfold Op.stringOp
  cases op <;> first | exact .pure _ trivial | exact .halt _ | exact QP.ite (.halt _) (.pure _ trivial)

theorem QP.binInt {P : Program} (op : BinOp) (t : TypeId) (k k' : IntKind) (x y : Int) : QP P (fun _ => True) (binOp op t (.int k x) (.int k' y)) := by
  by_cases hk : k = k'
  · subst hk
    cases op <;> simp only [binOp, ne_eq, not_true_eq_false, if_false] <;>
      first | exact (QP.intSmall _ _ _ _).1 | exact (QP.intSmall _ _ _ _).2.1 | exact (QP.intSmall _ .i64 _ _).2.2 | exact QP.intDiv .. | exact QP.shift ..
  · cases op <;> simp only [binOp, ne_eq, hk, not_false_eq_true, if_true] <;> first | exact .halt _ | exact QP.shift ..

theorem QP.binEq {P : Program} (op : BinOp) (ho : op = .eql ∨ op = .neq) (t : TypeId) (x y : Value) (hx : reck x = true) (hy : reck y = true) : QP P (fun _ => True) (Go.binOp op t x y) := by
  have heq : QP P (fun _ => True) (Op.equal t x y) := by
    refine QP.equalIn _ _ _ _ ?_ ?_
    · cases x <;> first | exact hx | simp [reck] at hx
    · cases y <;> first | exact hy | simp [reck] at hy
  have h1 : QP P (fun _ => True) (do Pure.pure (Value.bool (← Op.equal t x y)) : Sem Value) := QP.bind heq fun _ _ => .pure _ trivial
  have h2 : QP P (fun _ => True) (do Pure.pure (Value.bool (!(← Op.equal t x y))) : Sem Value) := QP.bind heq fun _ _ => .pure _ trivial
  rcases ho with rfl | rfl
  · cases x <;> cases y <;> first
      | (simp [reck, comp, plain, bare] at hx; done)
      | (simp [reck, comp, plain, bare] at hy; done)
      | exact QP.binInt ..
      | (simp only [Go.binOp]; exact QP.stringOp ..)
      | (simp only [Go.binOp]; exact h1)
  · cases x <;> cases y <;> first
      | (simp [reck, comp, plain, bare] at hx; done)
      | (simp [reck, comp, plain, bare] at hy; done)
      | exact QP.binInt ..
      | (simp only [Go.binOp]; exact QP.stringOp ..)
      | (simp only [Go.binOp]; exact h2)

theorem QP.binStr {P : Program} (op : BinOp) (t : TypeId) (x y : ByteArray) : QP P (fun _ => True) (Go.binOp op t (.string x) (.string y)) := by
  cases op <;> (simp only [Go.binOp]; exact QP.stringOp ..)

theorem QP.unInt {P : Program} (op : UnOp) (k : IntKind) (n : Int) : QP P (fun _ => True) (Op.unary op (.int k n)) := by
  cases op <;> simp only [Op.unary] <;> first | exact (QP.intSmall _ _ _ _).1 | exact (QP.intSmall _ _ _ _).2.1 | exact .halt _

theorem QP.unBool {P : Program} (op : UnOp) (b : Bool) : QP P (fun _ => True) (Op.unary op (.bool b)) := by
  cases op <;> simp only [Op.unary] <;> first | exact .pure _ trivial | exact .halt _

end Go.Sh

/- The shadow machine, part 1: operations that leave memory alone; values that bear no address; how a shadow's values and blocks stand to the machine's. No condition. -/
import Derived.Calls
import Derived.Orders
import Derived.Laws.Sem
import Derived.Laws.World
import Derived.Laws.Cells
import Derived.Laws.Tables
import Derived.Laws.Rows
namespace Go.Sh

/-! ### Quiet operations: they ask for the program alone. -/

inductive Quiet {α : Type} : Sem α → Prop
  | pure (a : α) : Quiet (.pure a)
  | program (k : Program → Sem α) : (∀ p, Quiet (k p)) → Quiet (.program k)
  | halt (h : Halt) : Quiet (.halt h)

theorem Quiet.bind {α β : Type} {s : Sem α} {f : α → Sem β} (hs : Quiet s) (hf : ∀ a, Quiet (f a)) : Quiet (s >>= f) := by
  show Quiet (Sem.bind s f)
  induction hs with
  | pure a => exact hf a
  | program k _ ih => exact .program _ ih
  | halt h => exact .halt h

theorem Quiet.pure' {α : Type} (a : α) : Quiet (Pure.pure a : Sem α) := .pure a
theorem Quiet.map {α β : Type} {s : Sem α} (f : α → β) (hs : Quiet s) : Quiet (f <$> s) :=
  Quiet.bind hs fun _ => .pure _
theorem Quiet.ite {α : Type} {c : Prop} [Decidable c] {x y : Sem α} (hx : Quiet x) (hy : Quiet y) : Quiet (if c then x else y) := by
  split <;> assumption
theorem Quiet.prog : Quiet Go.program := .program _ fun _ => .pure _
theorem Quiet.stuck' {α : Type} (s : String) : Quiet (stuck s : Sem α) := .halt _
theorem Quiet.unsup {α : Type} (u : Unsupported) : Quiet (unsupported u : Sem α) := .halt _
theorem Quiet.typeInfo (t : TypeId) : Quiet (typeInfo t) := by
  unfold Go.typeInfo
  exact Quiet.bind .prog fun _ => by split <;> first | exact .pure _ | exact .halt _
theorem Quiet.underlying (t : TypeId) : Quiet (underlying t) := by
  unfold Go.underlying
  exact Quiet.bind .prog fun _ => by split <;> first | exact .pure _ | exact .halt _
theorem Quiet.sizeOf (t : TypeId) : Quiet (Go.sizeOf t) := Quiet.bind (.typeInfo t) fun _ => .pure _
theorem Quiet.isAgg (t : TypeId) : Quiet (isAgg t) := by
  unfold Go.isAgg
  exact Quiet.bind (.underlying t) fun _ => by split <;> exact .pure _
theorem Quiet.part (t : TypeId) (cs : Array Value) (off : Nat) : Quiet (part t cs off) := by
  unfold Go.part
  refine Quiet.bind (.isAgg t) fun b => ?_
  split
  · exact Quiet.bind (.sizeOf t) fun _ => .pure _
  · split <;> first | exact .pure _ | exact .halt _
theorem Quiet.typeStr (t : TypeId) : Quiet (typeStr t) := by
  unfold Go.typeStr
  refine Quiet.bind (.typeInfo t) fun _ => ?_
  dsimp only
  split <;> first | exact .pure _ | exact .halt _
theorem Quiet.goPanic' {α : Type} (v : Value) : Quiet (goPanic v : Sem α) := .halt _
theorem Quiet.forIn_list {α β : Type} {f : α → β → Sem (ForInStep β)} (hf : ∀ a b, Quiet (f a b)) :
    ∀ (l : List α) (b : β), Quiet (forIn l b f)
  | [], b => .pure b
  | x :: l, b => by
    rw [List.forIn_cons]
    refine Quiet.bind (hf x b) fun r => ?_
    cases r with
    | done b => exact .pure b
    | yield b => exact forIn_list hf l b

/-- What a quiet operation comes to, in whatever world. -/
theorem Quiet.run {α : Type} {P : Program} {s : Sem α} (hs : Quiet s) {a : α} {w₀ w₁ : World} (h : s.run P w₀ = .ok a w₁) (w : World) :
    s.run P w = .ok a w := by
  induction hs with
  | pure b => simp only [Sem.run, Result.ok.injEq] at h ⊢; exact ⟨h.1, trivial⟩
  | program k _ ih => exact ih P h
  | halt x => simp [Sem.run] at h

/-! ### Values that bear no address. -/

def bare : Value → Bool
  | .bool _ | .int _ _ | .string _ | .pointer none | .nilFunc | .nilIface | .map none | .float _ _ | .complex _ _ _ => true
  | .slice none l c => l == 0 && c == 0
  | _ => false

/-- no address in it, nor in its cells -/
def still : Value → Bool
  | .agg cs => cs.toList.all bare
  | .tuple cs => cs.toList.all bare
  | v => bare v

/-! ### Where a shadow's block lies. -/

structure Loc where
  b : Nat
  d : Nat
  n : Nat

abbrev Rho := Nat → Option Loc

inductive VR (ρ : Rho) : Value → Value → Prop
  | bare {v : Value} : bare v = true → VR ρ v v
  | ptr {i o : Nat} {l : Loc} : ρ i = some l → VR ρ (.pointer (some ⟨i, o, none⟩)) (.pointer (some ⟨l.b, l.d + o, none⟩))
  | slice {i o len c c' : Nat} {l : Loc} : ρ i = some l → len ≤ c' → (c = 0 → c' = 0) → (∀ k, c = k + 1 → l.d + o + c' * k ≤ l.n) →
      VR ρ (.slice (some ⟨i, o, none⟩) len c) (.slice (some ⟨l.b, l.d + o, none⟩) len c')
  | map {i : Nat} {l : Loc} : ρ i = some l → VR ρ (.map (some i)) (.map (some l.b))
  | func {f : FuncId} {xs xs' ys ys' : Array Value} : xs.size = xs'.size → (∀ (j : Nat) (v v' : Value), xs[j]? = some v → xs'[j]? = some v' → VR ρ v v') →
      ys.size = ys'.size → (∀ (j : Nat) (v v' : Value), ys[j]? = some v → ys'[j]? = some v' → VR ρ v v') → VR ρ (.func (.func f) xs ys) (.func (.func f) xs' ys')
  | iface {t : TypeId} {v v' : Value} : VR ρ v v' → VR ρ (.iface t v) (.iface t v')
  | agg {xs xs' : Array Value} : xs.size = xs'.size → (∀ (j : Nat) (v v' : Value), xs[j]? = some v → xs'[j]? = some v' → VR ρ v v') → VR ρ (.agg xs) (.agg xs')
  | tuple {xs xs' : Array Value} : xs.size = xs'.size → (∀ (j : Nat) (v v' : Value), xs[j]? = some v → xs'[j]? = some v' → VR ρ v v') → VR ρ (.tuple xs) (.tuple xs')

/-- lists of values, place by place -/
def VRs (ρ : Rho) (xs xs' : Array Value) : Prop := xs.size = xs'.size ∧ ∀ (j : Nat) (v v' : Value), xs[j]? = some v → xs'[j]? = some v' → VR ρ v v'

def Rho.le (ρ ρ' : Rho) : Prop := ∀ i l, ρ i = some l → ρ' i = some l

theorem Rho.le_refl (ρ : Rho) : ρ.le ρ := fun _ _ h => h
theorem Rho.le_trans {a b c : Rho} (h : a.le b) (h' : b.le c) : a.le c := fun i l hl => h' i l (h i l hl)

theorem VR.mono {ρ ρ' : Rho} (h : ρ.le ρ') {v v' : Value} (hv : VR ρ v v') : VR ρ' v v' := by
  induction hv with
  | bare hb => exact .bare hb
  | ptr hi => exact .ptr (h _ _ hi)
  | slice hi a b c => exact .slice (h _ _ hi) a b c
  | map hi => exact .map (h _ _ hi)
  | func a _ b _ iha ihb => exact .func a iha b ihb
  | iface _ ih => exact .iface ih
  | agg a _ ih => exact .agg a ih
  | tuple a _ ih => exact .tuple a ih

theorem VRs.mono {ρ ρ' : Rho} (h : ρ.le ρ') {xs xs' : Array Value} (hv : VRs ρ xs xs') : VRs ρ' xs xs' :=
  ⟨hv.1, fun j v v' a b => (hv.2 j v v' a b).mono h⟩

theorem VRs.nil (ρ : Rho) : VRs ρ #[] #[] := ⟨rfl, fun j v v' a => by simp at a⟩

theorem VRs.get {ρ : Rho} {xs xs' : Array Value} (h : VRs ρ xs xs') {j : Nat} {v : Value} (hj : xs[j]? = some v) : ∃ v', xs'[j]? = some v' ∧ VR ρ v v' := by
  obtain ⟨hlt, rfl⟩ := Array.getElem?_eq_some_iff.1 hj
  have hlt' : j < xs'.size := h.1 ▸ hlt
  exact ⟨xs'[j], by simp [hlt'], h.2 j _ _ hj (by simp [hlt'])⟩

theorem VRs.append {ρ : Rho} {xs xs' ys ys' : Array Value} (h : VRs ρ xs xs') (h' : VRs ρ ys ys') : VRs ρ (xs ++ ys) (xs' ++ ys') := by
  refine ⟨by simp [h.1, h'.1], fun j v v' a b => ?_⟩
  rw [Array.getElem?_append] at a b
  by_cases hlt : j < xs.size
  · rw [if_pos hlt] at a; rw [if_pos (h.1 ▸ hlt)] at b; exact h.2 j v v' a b
  · rw [if_neg hlt] at a; rw [if_neg (h.1 ▸ hlt), ← h.1] at b; exact h'.2 _ v v' a b

theorem VRs.map {ρ : Rho} {α : Type} (xs : Array α) {f g : α → Value} (h : ∀ x ∈ xs, VR ρ (f x) (g x)) : VRs ρ (xs.map f) (xs.map g) := by
  refine ⟨by simp, fun j v v' a b => ?_⟩
  simp only [Array.getElem?_map, Option.map_eq_some_iff] at a b
  obtain ⟨x, hx, rfl⟩ := a
  obtain ⟨y, hy, rfl⟩ := b
  rw [hx] at hy
  obtain rfl : x = y := by simpa using hy
  exact h x (Array.mem_of_getElem? hx)

theorem VR.still {ρ : Rho} {v v' : Value} (h : VR ρ v v') (hs : Sh.still v = true) : v' = v := by
  have hb : ∀ {u u' : Value}, VR ρ u u' → Sh.bare u = true → u' = u := by
    intro u u' hu hb
    cases hu <;> first | rfl | simp [Sh.bare] at hb
  have hl : ∀ {xs xs' : Array Value}, xs.size = xs'.size → (∀ (j : Nat) (v v' : Value), xs[j]? = some v → xs'[j]? = some v' → VR ρ v v') → xs.toList.all Sh.bare = true → xs' = xs := by
    intro xs xs' hz hr ha
    apply Array.ext hz.symm
    intro j h1 h2
    refine hb (hr j xs[j] xs'[j] (by simp [h2]) (by simp [h1])) ?_
    exact List.all_eq_true.1 ha _ (by simp)
  cases h with
  | bare _ => rfl
  | agg hz hr => simp only [Sh.still] at hs; rw [hl hz hr hs]
  | tuple hz hr => simp only [Sh.still] at hs; rw [hl hz hr hs]
  | ptr _ => simp [Sh.still, Sh.bare] at hs
  | slice _ _ _ _ => simp [Sh.still, Sh.bare] at hs
  | map _ => simp [Sh.still, Sh.bare] at hs
  | func _ _ _ _ => simp [Sh.still, Sh.bare] at hs
  | iface _ => simp [Sh.still, Sh.bare] at hs

theorem VR.of_still {ρ : Rho} {v : Value} (hs : Sh.still v = true) : VR ρ v v := by
  have hl : ∀ {xs : Array Value}, xs.toList.all Sh.bare = true → ∀ (j : Nat) (v v' : Value), xs[j]? = some v → xs[j]? = some v' → VR ρ v v' := by
    intro xs ha j v v' h1 h2
    rw [h1] at h2
    obtain rfl : v = v' := by simpa using h2
    exact .bare (List.all_eq_true.1 ha _ (Array.mem_toList_iff.2 (Array.mem_of_getElem? h1)))
  cases v with
  | agg xs => exact .agg rfl (hl hs)
  | tuple xs => exact .tuple rfl (hl hs)
  | _ => exact .bare hs

theorem VR.cells {ρ : Rho} {v v' : Value} (h : VR ρ v v') : VRs ρ v.cells v'.cells := by
  have one : ∀ {u u' : Value}, VR ρ u u' → VRs ρ #[u] #[u'] := by
    intro u u' hu
    refine ⟨rfl, fun j x x' a b => ?_⟩
    cases j with
    | zero => simp at a b; subst a; subst b; exact hu
    | succ j => simp at a
  cases h with
  | agg hz hr => exact ⟨hz, hr⟩
  | bare hb => cases v <;> first | exact one (.bare hb) | simp [Sh.bare] at hb
  | ptr a => exact one (.ptr a)
  | slice a b c d => exact one (.slice a b c d)
  | map a => exact one (.map a)
  | func a b c d => exact one (.func a b c d)
  | iface a => exact one (.iface a)
  | tuple a b => exact one (.tuple a b)

end Go.Sh

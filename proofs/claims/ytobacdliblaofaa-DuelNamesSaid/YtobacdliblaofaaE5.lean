/- The shadow machine, part 5: an operation that may be a call; that the machine's does the same. No condition. -/
import Derived.Test.YtobacdliblaofaaE4
namespace Go.Sh

inductive Ex where
  | normal
  | exit (id : Nat)
  | ret

abbrev CallS := FuncId → Array Value → Heap → Option (Value × Heap)

def callable (P : Program) (g : FuncId) : Bool :=
  match P.funcs[g]? with
  | some fn => fn.body.isSome && fn.name != "runtime.NumGoroutine"
  | none => false

def ints : List Value → Bool
  | [] => true
  | .int _ _ :: r => ints r
  | _ => false

def op1 (P : Program) (call : CallS) (a : Act) (h : Heap) (o : Oper) : Option (Value × Heap) :=
  match o.op with
  | .call c =>
    match c.callee with
    | .value f =>
      match operand a f, operands a c.args.toList with
      | some (.func (.func g) first captured), some args =>
        if callable P g then call g (first ++ args.toArray ++ captured) h else none
      | _, _ => none
    | .builtin .min =>
      match operands a c.args.toList with
      | some (v :: vs) =>
        if ints (v :: vs) then
          match asked P (vs.foldlM Builtin.min2 v) with
          | some r => if still r then some (r, h) else none
          | none => none
        else none
      | _ => none
    | _ => none
  | _ => opv P a h o

/-- a shadow's call stands for the machine's -/
def CallSim (P : Program) (call : CallS) : Prop :=
  ∀ (f : FuncId) (args : Array Value) (h : Heap) (v : Value) (h' : Heap), call f args h = some (v, h') → ∀ (ρ : Rho) (w : World) (args' : Array Value), Rel ρ h w → VRs ρ args args' →
    Calls P f args' w fun e w' => ∃ v' ρ', e = .returned v' ∧ VR ρ' v v' ∧ Rel ρ' h' w' ∧ Fr ρ h w ρ' h' w'

theorem ints_quiet {P : Program} : ∀ {vs : List Value} {v : Value}, ints (v :: vs) = true → (still v = true ∧ vs.all still = true) ∧ QP P (fun _ => True) (vs.foldlM Builtin.min2 v) := by
  have key : ∀ (vs : List Value) (k : IntKind) (n : Int), ints vs = true → vs.all still = true ∧ QP P (fun _ => True) (vs.foldlM Builtin.min2 (.int k n)) := by
    intro vs
    induction vs with
    | nil => intro k n _; exact ⟨rfl, .pure _ trivial⟩
    | cons x vs ih =>
      intro k n hx
      cases x <;> simp only [ints] at hx <;> try (cases hx; done)
      rename_i k' m
      refine ⟨by simp only [List.all_cons, Bool.and_eq_true]; exact ⟨rfl, (ih k' m hx).1⟩, ?_⟩
      rw [List.foldlM_cons]
      exact QP.bind (R := fun r => ∃ n, r = .int k n) (.pure _ ⟨_, rfl⟩) fun r hr => by obtain ⟨n, rfl⟩ := hr; exact (ih k n hx).2
  intro vs v hv
  cases v <;> simp only [ints] at hv <;> try (cases hv; done)
  rename_i k n
  exact ⟨⟨rfl, (key vs k n hv).1⟩, (key vs k n hv).2⟩

theorem operands_still {ρ : Rho} {a a' : Act} (ha : ActR ρ a a') {xs : List Operand} {vs : List Value} (h : operands a xs = some vs) (hs : vs.all still = true) : xs.map a'.eval = vs := by
  obtain ⟨h1, h2⟩ := operands_sim ha h
  apply List.ext_getElem
  · simp [h1]
  · intro j h3 h4
    simp only [List.getElem_map]
    exact (h2 j _ _ (List.getElem?_eq_getElem (by simpa using h3)) (List.getElem?_eq_getElem h4)).still (List.all_eq_true.1 hs _ (List.getElem_mem h4))

theorem op1_sim {P : Program} {call : CallS} (hcall : CallSim P call) {ρ : Rho} {a a' : Act} {h h2 : Heap} {w : World} (ha : ActR ρ a a') (hr : Rel ρ h w) {o : Oper} {v : Value}
    (hv : op1 P call a h o = some (v, h2)) {K : Act → World → Prop} {Q : Exit → Act → World → Prop}
    (hK : ∀ w2 ρ2 v', VR ρ2 v v' → Rel ρ2 h2 w2 → Fr ρ h w ρ2 h2 w2 → K (a'.put o.dst v') w2) : o.wp P a' w K Q := by
  unfold op1 at hv
  split at hv
  · rename_i c hop
    split at hv
    · rename_i f hf
      split at hv
      · rename_i g first captured args hfun hargs
        split at hv
        · rename_i hcan
          have hfv := operand_sim ha hfun
          obtain ⟨first', captured', he, hfs, hcs⟩ : ∃ first' captured', a'.eval f = .func (.func g) first' captured' ∧ VRs ρ first first' ∧ VRs ρ captured captured' := by
            generalize a'.eval f = z at hfv
            cases hfv with
            | bare hb => simp [bare] at hb
            | func s1 c1 s2 c2 => exact ⟨_, _, rfl, ⟨s1, c1⟩, ⟨s2, c2⟩⟩
          have hall : VRs ρ (first ++ args.toArray ++ captured) (first' ++ c.args.map a'.eval ++ captured') := by
            refine VRs.append (VRs.append hfs ?_) hcs
            obtain ⟨h1, h2⟩ := operands_sim ha hargs
            refine ⟨by simp [h1], fun j u u' hu hu' => ?_⟩
            simp only [List.getElem?_toArray] at hu
            simp only [Array.getElem?_map, Option.map_eq_some_iff] at hu'
            obtain ⟨x, hx, rfl⟩ := hu'
            exact h2 j x u (by simpa using hx) hu
          have hc := hcall g _ h v h2 hv ρ w _ hr hall
          have hrun : (execOp a'.eval o).run P w = .ok (.enter g (first' ++ c.args.map a'.eval ++ captured')) w := by
            unfold callable at hcan
            cases hfn : P.funcs[g]? with
            | none => simp [hfn] at hcan
            | some fn =>
              simp only [hfn, Bool.and_eq_true, bne_iff_ne, ne_eq] at hcan
              obtain ⟨b, hb⟩ := Option.isSome_iff_exists.1 hcan.1
              simp [execOp, hop, resolve, hf, he, Deferred.ofValue, invoke, callFunc, hfn, hcan.2, hb]
          unfold Oper.wp
          rw [hrun, Oper.upon_enter]
          refine hc.mono fun e w' ⟨v', ρ', he', hvr, hrel, hfr⟩ => ?_
          subst he'
          exact hK w' ρ' v' hvr hrel hfr
        · cases hv
      · cases hv
    · rename_i hb
      split at hv
      · rename_i u us hargs
        split at hv
        · rename_i hints
          split at hv
          · rename_i r hask
            split at hv
            · rename_i hst
              simp only [Option.some.injEq, Prod.mk.injEq] at hv
              obtain ⟨rfl, rfl⟩ := hv
              obtain ⟨⟨s1, s2⟩, hq⟩ := ints_quiet (P := P) hints
              have hargs' : (c.args.map a'.eval).toList = u :: us := by
                rw [Array.toList_map]
                exact operands_still ha hargs (by simp [s1, s2])
              have hrun : (execOp a'.eval o).run P w = .ok (.value r) w := by
                have hmin : (Builtin.min_ c.argTypes o.type (c.args.map a'.eval)).run P w = .ok r w := by
                  unfold Builtin.min_
                  rw [hargs']
                  exact asked_run hq hask w
                simp only [execOp, hop, resolve, hb, Sem.run_bind, Sem.run_pure, Result.andThen_ok, invoke, builtin, hmin]
              unfold Oper.wp
              rw [hrun, Oper.upon_value]
              exact hK w ρ r (.of_still hst) hr (.refl _ _ _)
            · cases hv
          · cases hv
        · cases hv
      · cases hv
    · cases hv
  · obtain ⟨r, w2, ρ2, v', h1, h2', h3, h4, h5⟩ := opv_sim ha hr hv
    unfold Oper.wp
    rw [h1]
    rcases h2' with rfl | ⟨rfl, rfl⟩
    · exact hK w2 ρ2 v' h3 h4 h5
    · exact hK w2 ρ2 undef h3 h4 h5

theorem yielded_sim {ρ : Rho} {a a' : Act} (ha : ActR ρ a a') (ops : Array Oper) (j : Nat) : yielded ops a'.tmps j = yielded ops a.tmps j := by
  unfold yielded
  cases hd : (ops[j]?).bind (·.dst) with
  | none => rfl
  | some t =>
    simp only [Option.bind_some]
    cases ht : a.tmps[t]? with
    | none =>
      have : a'.tmps[t]? = none := by
        rw [Array.getElem?_eq_none_iff] at ht ⊢
        rw [← ha.tmps.1]; exact ht
      rw [this]
    | some v =>
      obtain ⟨v', h1, h2⟩ := ha.tmps.get ht
      rw [h1]
      cases h2 with
      | bare _ => rfl
      | _ => rfl

theorem wanted_sim {ρ : Rho} {a a' : Act} (ha : ActR ρ a a') (ops : Array Oper) (o : Oper) : Region.wanted o (yielded ops a'.tmps) = Region.wanted o (yielded ops a.tmps) := by
  rw [show yielded ops a'.tmps = yielded ops a.tmps from funext (yielded_sim ha ops)]

end Go.Sh

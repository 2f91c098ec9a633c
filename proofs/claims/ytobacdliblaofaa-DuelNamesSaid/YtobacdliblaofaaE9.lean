/- The shadow machine, part 9: code and calls: where the shadow comes to an end the machine comes to the same. No condition. -/
import Derived.Test.YtobacdliblaofaaE8
namespace Go.Sh

/-- a region's operations in the order of the text -/
def opsS (P : Program) (call : CallS) (ops : Array Oper) : List Oper → Act → Heap → Option (Act × Heap)
  | [], a, h => some (a, h)
  | o :: rest, a, h =>
    if Region.wanted o (yielded ops a.tmps) then
      match op1 P call a h o with
      | some (v, h') => opsS P call ops rest (a.put o.dst v) h'
      | none => none
    else opsS P call ops rest (a.put o.dst undef) h

def loopS (f : Act → Heap → Option (Ex × Act × Heap)) : Nat → Act → Heap → Option (Ex × Act × Heap)
  | 0, _, _ => none
  | n + 1, a, h =>
    match f a h with
    | some (.normal, a', h') => loopS f n a' h'
    | r => r

def codeS (P : Program) (call : CallS) (rounds : Nat) : Code → Act → Heap → Option (Ex × Act × Heap)
  | .skip, a, h | .label _, a, h => some (.normal, a, h)
  | .region _ ops draw, a, h =>
    if draw then
      if strictOk ops then (runD P call ops h.next ops.toList.zipIdx (a, { h with next := h.next + ops.size })).map fun s => (.normal, s.1, s.2) else none
    else (opsS P call ops ops.toList a h).map fun s => (.normal, s.1, s.2)
  | .seq x y, a, h =>
    match codeS P call rounds x a h with
    | some (.normal, a', h') => codeS P call rounds y a' h'
    | r => r
  | .cond c x y, a, h =>
    match operand a c with
    | some (.bool true) => codeS P call rounds x a h
    | some (.bool false) => codeS P call rounds y a h
    | _ => none
  | .block id c, a, h =>
    match codeS P call rounds c a h with
    | some (.exit id', a', h') => if id' = id then some (.normal, a', h') else some (.exit id', a', h')
    | r => r
  | .loop c, a, h => loopS (codeS P call rounds c) rounds a h
  | .exit id, a, h => some (.exit id, a, h)
  | .ret, a, h => some (.ret, a, h)
  | _, _, _ => none

def exOf : Ex → Exit
  | .normal => .normal
  | .exit id => .exit id
  | .ret => .ret

theorem opsS_sim {P : Program} {call : CallS} (hcall : CallSim P call) {ops : Array Oper} {Q : Exit → Act → World → Prop} : ∀ (l : List Oper) {a a' a2 : Act} {h h2 : Heap} {w : World} {ρ : Rho},
    opsS P call ops l a h = some (a2, h2) → ActR ρ a a' → Rel ρ h w → (∀ ρ2 a2' w2, ActR ρ2 a2 a2' → Rel ρ2 h2 w2 → Fr ρ h w ρ2 h2 w2 → Q .normal a2' w2) → wpList P ops Q l a' w
  | [], a, a', a2, h, h2, w, ρ, hs, ha, hr, hQ => by
    simp only [opsS, Option.some.injEq, Prod.mk.injEq] at hs
    obtain ⟨rfl, rfl⟩ := hs
    exact hQ ρ a' w ha hr (.refl _ _ _)
  | o :: rest, a, a', a2, h, h2, w, ρ, hs, ha, hr, hQ => by
    simp only [opsS] at hs
    unfold wpList
    rw [wanted_sim ha]
    by_cases hw : Region.wanted o (yielded ops a.tmps) = true
    · rw [if_pos hw] at hs ⊢
      split at hs
      · rename_i v h' hv
        left
        refine op1_sim hcall ha hr hv fun w2 ρ2 v' k1 k2 k3 => ?_
        exact opsS_sim hcall rest hs ((ha.mono k3.le).put _ k1) k2 fun ρ3 a3 w3 m1 m2 m3 => hQ ρ3 a3 w3 m1 m2 (k3.trans m3)
      · cases hs
    · rw [if_neg hw] at hs ⊢
      exact opsS_sim hcall rest hs (ha.put _ (.undef ρ)) hr hQ

theorem codeS_sim {P : Program} (hm : P.follows .mixedOrders = true) {call : CallS} (hcall : CallSim P call) {rounds : Nat} (c : Code) : ∀ {Q : Exit → Act → World → Prop} {a a' a2 : Act} {h h2 : Heap} {e : Ex} {w : World} {ρ : Rho},
    codeS P call rounds c a h = some (e, a2, h2) → ActR ρ a a' → Rel ρ h w → (∀ ρ2 a2' w2, ActR ρ2 a2 a2' → Rel ρ2 h2 w2 → Fr ρ h w ρ2 h2 w2 → Q (exOf e) a2' w2) → c.wp P Q a' w := by
  induction c with
  | skip =>
    intro Q a a' a2 h h2 e w ρ hs ha hr hQ
    simp only [codeS, Option.some.injEq, Prod.mk.injEq] at hs
    obtain ⟨rfl, rfl, rfl⟩ := hs
    exact wp_skip (hQ ρ a' w ha hr (.refl _ _ _))
  | label l =>
    intro Q a a' a2 h h2 e w ρ hs ha hr hQ
    simp only [codeS, Option.some.injEq, Prod.mk.injEq] at hs
    obtain ⟨rfl, rfl, rfl⟩ := hs
    exact wp_label (hQ ρ a' w ha hr (.refl _ _ _))
  | exit id =>
    intro Q a a' a2 h h2 e w ρ hs ha hr hQ
    simp only [codeS, Option.some.injEq, Prod.mk.injEq] at hs
    obtain ⟨rfl, rfl, rfl⟩ := hs
    exact wp_exit (hQ ρ a' w ha hr (.refl _ _ _))
  | ret =>
    intro Q a a' a2 h h2 e w ρ hs ha hr hQ
    simp only [codeS, Option.some.injEq, Prod.mk.injEq] at hs
    obtain ⟨rfl, rfl, rfl⟩ := hs
    exact wp_ret (hQ ρ a' w ha hr (.refl _ _ _))
  | region id ops draw =>
    intro Q a a' a2 h h2 e w ρ hs ha hr hQ
    simp only [codeS] at hs
    split at hs
    · rename_i hd
      subst hd
      split at hs
      · rename_i hok
        simp only [Option.map_eq_some_iff, Prod.mk.injEq] at hs
        obtain ⟨⟨af, hf⟩, hrun, rfl, rfl, rfl⟩ := hs
        refine wp_region_any hm ?_
        have hr' : Rel ρ h { w with drawn := w.drawn + 1 } :=
          ⟨fun i c hc => let ⟨l, cs, T, fr, hB⟩ := hr.live i c hc; ⟨l, cs, T, fr, ⟨hB.name, hB.blk, hB.size, hB.thaw, hB.fits, hB.cell⟩⟩, hr.inj, hr.fresh, hr.low⟩
        have hrem : rem ops (Array.replicate ops.size false) = ops.toList.zipIdx := by
          unfold rem
          refine List.filter_eq_self.2 fun x hx => ?_
          obtain ⟨o, i⟩ := x
          rw [List.mem_zipIdx_iff_getElem?] at hx
          have hi : i < ops.size := (Array.getElem?_eq_some_iff.1 (by simpa using hx)).1
          simp [Array.getD, hi]
        refine region_any hcall hok (ρ₀ := ρ) (h₀ := h) (w₀ := w) (af := af) (hf := hf) (fun ρ2 a2' w2 k1 k2 k3 => hQ ρ2 a2' w2 k1 k2 k3) ops.size (Array.replicate ops.size false)
          (a, { h with next := h.next + ops.size }) ρ a' _ (by simp) (by rw [hrem]; simp) (by
            intro j o ho hj
            have hjs : j < ops.size := (Array.getElem?_eq_some_iff.1 ho).1
            simp [Array.getD, hjs] at hj) ha ?_ ?_ ?_ (by rw [hrem]; exact hrun)
        · exact ⟨hr'.live, hr'.inj, fun i hi => hr'.fresh i (Nat.le_trans (Nat.le_add_right _ _) hi), hr'.low⟩
        · exact ⟨ρ.le_refl, Nat.le_add_right _ _, fun _ _ => rfl, Nat.le_refl _, fun _ _ _ => rfl, fun _ c _ hc hl => .inl ⟨c, hc, hl⟩, fun _ => rfl, rfl, rfl, rfl⟩
        · intro x hx
          obtain ⟨o, i⟩ := x
          obtain ⟨ho, _⟩ := mem_rem.1 hx
          have hi : i < ops.size := (Array.getElem?_eq_some_iff.1 ho).1
          exact ⟨(hr.fresh _ (Nat.le_add_right _ _)).1, by simp only; omega⟩
      · cases hs
    · rename_i hd
      simp only [Bool.not_eq_true] at hd
      subst hd
      simp only [Option.map_eq_some_iff, Prod.mk.injEq] at hs
      obtain ⟨⟨af, hf⟩, hrun, rfl, rfl, rfl⟩ := hs
      exact wp_region_list (opsS_sim hcall ops.toList hrun ha hr hQ)
  | seq x y ihx ihy =>
    intro Q a a' a2 h h2 e w ρ hs ha hr hQ
    simp only [codeS] at hs
    refine wp_seq ?_
    split at hs
    · rename_i a1 h1 hx
      refine ihx hx ha hr fun ρ2 a2' w2 k1 k2 k3 => ?_
      exact ihy hs k1 k2 fun ρ3 a3' w3 m1 m2 m3 => hQ ρ3 a3' w3 m1 m2 (k3.trans m3)
    · rename_i hne
      refine ihx hs ha hr fun ρ2 a2' w2 k1 k2 k3 => ?_
      have := hQ ρ2 a2' w2 k1 k2 k3
      cases e with
      | normal => exact (hne a2 h2 hs).elim
      | exit id => exact this
      | ret => exact this
  | cond c x y ihx ihy =>
    intro Q a a' a2 h h2 e w ρ hs ha hr hQ
    simp only [codeS] at hs
    split at hs
    · rename_i hc
      exact wp_cond_true ((operand_sim ha hc).still rfl) (ihx hs ha hr hQ)
    · rename_i hc
      exact wp_cond_false ((operand_sim ha hc).still rfl) (ihy hs ha hr hQ)
    · cases hs
  | block id c ih =>
    intro Q a a' a2 h h2 e w ρ hs ha hr hQ
    simp only [codeS] at hs
    refine wp_block ?_
    split at hs
    · rename_i id' a1 h1 hc
      refine ih hc ha hr fun ρ2 a2' w2 k1 k2 k3 => ?_
      split at hs
      · rename_i hid
        simp only [Option.some.injEq, Prod.mk.injEq] at hs
        obtain ⟨rfl, rfl, rfl⟩ := hs
        simp only [exOf, Exit.inBlock, hid, if_true]
        exact hQ ρ2 a2' w2 k1 k2 k3
      · rename_i hid
        simp only [Option.some.injEq, Prod.mk.injEq] at hs
        obtain ⟨rfl, rfl, rfl⟩ := hs
        simp only [exOf, Exit.inBlock, hid, if_false]
        exact hQ ρ2 a2' w2 k1 k2 k3
    · rename_i hne
      refine ih hs ha hr fun ρ2 a2' w2 k1 k2 k3 => ?_
      have := hQ ρ2 a2' w2 k1 k2 k3
      cases e with
      | normal => exact this
      | exit id' => exact (hne id' a2 h2 hs).elim
      | ret => exact this
  | loop c ih =>
    intro Q a a' a2 h h2 e w ρ hs ha hr hQ
    simp only [codeS] at hs
    have key : ∀ (n : Nat) {a a' : Act} {h : Heap} {w : World} {ρ₁ : Rho}, loopS (codeS P call rounds c) n a h = some (e, a2, h2) → ActR ρ₁ a a' → Rel ρ₁ h w →
        (∀ ρ2 a2' w2, ActR ρ2 a2 a2' → Rel ρ2 h2 w2 → Fr ρ₁ h w ρ2 h2 w2 → Q (exOf e) a2' w2) → ∀ (b : Frame) (k : List Item) (cs : List Frame),
        ∃ e a₁ w₁, Q e a₁ w₁ ∧ Arrives P (lone (b.at a' (.code c :: .inLoop c :: k)) cs w) b k cs e a₁ w₁ := by
      intro n
      induction n with
      | zero => intro a a' h w ρ₁ hs; simp [loopS] at hs
      | succ n ihn =>
        intro a a' h w ρ₁ hs ha hr hQ b k cs
        simp only [loopS] at hs
        split at hs
        · rename_i a1 h1 hc
          have hwp : c.wp P (fun e a w => match e with
              | .normal => ∀ (b : Frame) (k : List Item) (cs : List Frame), ∃ e a₁ w₁, Q e a₁ w₁ ∧ Arrives P (lone (b.at a (.code c :: .inLoop c :: k)) cs w) b k cs e a₁ w₁
              | _ => False) a' w :=
            ih hc ha hr fun ρ2 a2' w2 k1 k2 k3 => ihn hs k1 k2 fun ρ3 a3' w3 m1 m2 m3 => hQ ρ3 a3' w3 m1 m2 (k3.trans m3)
          obtain ⟨e1, a₁, w₁, hq, harr⟩ := hwp b (.inLoop c :: k) cs
          cases e1 with
          | normal =>
            obtain ⟨e2, a₂, w₂, hq2, harr2⟩ := hq b k cs
            exact ⟨e2, a₂, w₂, hq2, .of_steps (Steps.trans harr (.one step_inLoop)) harr2⟩
          | _ => exact hq.elim
        · rename_i hne
          have hwp : c.wp P (fun e a w => e ≠ .normal ∧ Q e a w) a' w := by
            refine ih hs ha hr fun ρ2 a2' w2 k1 k2 k3 => ⟨?_, hQ ρ2 a2' w2 k1 k2 k3⟩
            cases e with
            | normal => exact (hne a2 h2 hs).elim
            | exit id => simp [exOf]
            | ret => simp [exOf]
          obtain ⟨e1, a₁, w₁, ⟨hn, hq⟩, harr⟩ := hwp b (.inLoop c :: k) cs
          exact ⟨e1, a₁, w₁, hq, .pass (x := .inLoop c) rfl (fun _ _ => .inl hn) harr⟩
    intro b k cs
    obtain ⟨e1, a₁, w₁, hq, harr⟩ := key rounds hs ha hr hQ b k cs
    exact ⟨e1, a₁, w₁, hq, .of_steps (.one step_loop) harr⟩
  | rangeFunc f ps as bd _ _ => intro Q a a' a2 h h2 e w ρ hs; simp [codeS] at hs
  | scope c _ => intro Q a a' a2 h h2 e w ρ hs; simp [codeS] at hs
  | goto l => intro Q a a' a2 h h2 e w ρ hs; simp [codeS] at hs
  | refuse s => intro Q a a' a2 h h2 e w ρ hs; simp [codeS] at hs

def resS (P : Program) (h : Heap) (a : Act) : List ResultVar → Option (List Value)
  | [] => some []
  | .tmp t :: r =>
    match a.tmps[t]?, resS P h a r with
    | some v, some vs => some (v :: vs)
    | _, _ => none
  | .cell t ty :: r =>
    match (a.tmps[t]?).bind (loadS P h ty), resS P h a r with
    | some v, some vs => some (v :: vs)
    | _, _ => none

def callS (P : Program) (rounds : Nat) : Nat → CallS
  | 0 => fun _ _ _ => none
  | n + 1 => fun f args h =>
    match P.funcs[f]? with
    | some fn =>
      match fn.body with
      | some c =>
        match codeS P (callS P rounds n) rounds c { tmps := args ++ Array.replicate (fn.ntmps - args.size) undef, defers := [] } h with
        | some (.normal, a, h') | some (.ret, a, h') =>
          match resS P h' a fn.results.toList with
          | some [v] => some (v, h')
          | some vs => some (.tuple vs.toArray, h')
          | none => none
        | _ => none
      | none => none
    | none => none

def resRun (tmps : Array Value) (r : ResultVar) : Sem Value :=
  match r with
  | .tmp t => pure (tmps.getD t undef)
  | .cell a t => do loadVar t (← asAddr (tmps.getD a undef))

theorem results_eq (fn : Func) (tmps : Array Value) : results fn tmps = (do
    let vs ← fn.results.mapM (resRun tmps)
    pure (if h : vs.size = 1 then vs[0] else .tuple vs)) := rfl

theorem resS_sim {P : Program} {ρ : Rho} {a a' : Act} {h : Heap} {w : World} (ha : ActR ρ a a') (hr : Rel ρ h w) : ∀ {rs : List ResultVar} {vs : List Value}, resS P h a rs = some vs →
    ∃ vs' : List Value, (rs.mapM (resRun a'.tmps)).run P w = .ok vs' w ∧ VRs ρ vs.toArray vs'.toArray
  | [], vs, hv => by
    simp only [resS, Option.some.injEq] at hv
    subst hv
    exact ⟨[], by simp, VRs.nil ρ⟩
  | r :: rs, vs, hv => by
    have cons : ∀ {u u' : Value} {us us' : List Value}, VR ρ u u' → VRs ρ us.toArray us'.toArray → VRs ρ (u :: us).toArray (u' :: us').toArray := by
      intro u u' us us' h1 h2
      refine ⟨by simpa using h2.1, fun j x x' hx hx' => ?_⟩
      cases j with
      | zero => simp at hx hx'; subst hx; subst hx'; exact h1
      | succ j => simp at hx hx'; exact h2.2 j x x' (by simpa using hx) (by simpa using hx')
    cases r with
    | tmp t =>
      simp only [resS] at hv
      split at hv
      · rename_i u us hu hus
        obtain rfl : _ = vs := by simpa using hv
        obtain ⟨us', h1, h2⟩ := resS_sim ha hr hus
        obtain ⟨u', g1, g2⟩ := ha.tmps.get hu
        refine ⟨u' :: us', ?_, cons g2 h2⟩
        have hget : a'.tmps.getD t undef = u' := by simp [Array.getD_eq_getD_getElem?, g1]
        rw [List.mapM_cons]
        simp only [resRun, hget, Sem.run_bind, Sem.run_pure, Result.andThen_ok, h1]
      · cases hv
    | cell t ty =>
      simp only [resS] at hv
      split at hv
      · rename_i u us hu hus
        obtain rfl : _ = vs := by simpa using hv
        obtain ⟨us', h1, h2⟩ := resS_sim ha hr hus
        obtain ⟨p, hp, hl⟩ := Option.bind_eq_some_iff.1 hu
        obtain ⟨p', g1, g2⟩ := ha.tmps.get hp
        obtain ⟨u', k1, k2⟩ := loadS_sim hr g2 hl
        refine ⟨u' :: us', ?_, cons k2 h2⟩
        have hget : a'.tmps.getD t undef = p' := by simp [Array.getD_eq_getD_getElem?, g1]
        have hrun : (do loadVar ty (← asAddr p') : Sem Value).run P w = .ok u' w := by
          unfold loadS at hl
          split at hl
          · cases g2 with
            | bare hb => simp [bare] at hb
            | ptr _ => simpa [Instr.loadAt, Instr.sureAddr, asAddr] using k1
          · cases hl
        have hrun' : (resRun a'.tmps (.cell t ty)).run P w = .ok u' w := by simp only [resRun, hget]; exact hrun
        rw [List.mapM_cons]
        rw [Sem.run_bind, hrun', Result.andThen_ok, Sem.run_bind, h1, Result.andThen_ok, Sem.run_pure]
      · cases hv

theorem callS_sim {P : Program} (hm : P.follows .mixedOrders = true) (rounds : Nat) : ∀ n, CallSim P (callS P rounds n)
  | 0 => fun f args h v h' hv => by simp [callS] at hv
  | n + 1 => by
    intro f args h v h' hv ρ w args' hr hargs
    simp only [callS] at hv
    cases hf : P.funcs[f]? with
    | none => simp [hf] at hv
    | some fn =>
      cases hb : fn.body with
      | none => simp [hf, hb] at hv
      | some c =>
        simp only [hf, hb] at hv
        refine calls_of_wp hf hb ?_
        have ha : ActR ρ { tmps := args ++ Array.replicate (fn.ntmps - args.size) undef, defers := [] } { tmps := args' ++ Array.replicate (fn.ntmps - args'.size) undef, defers := [] } := by
          refine ⟨VRs.append hargs ?_, rfl, rfl⟩
          rw [hargs.1]
          refine ⟨rfl, fun j u u' hu hu' => ?_⟩
          rw [hu] at hu'
          obtain rfl : u = u' := by simpa using hu'
          have : u = undef := by
            have := Array.mem_of_getElem? hu
            exact (Array.mem_replicate.1 this).2
          subst this
          exact .undef ρ
        have fin : ∀ {e : Ex} {a2 : Act} {h2 : Heap}, (e = .normal ∨ e = .ret) → codeS P (callS P rounds n) rounds c { tmps := args ++ Array.replicate (fn.ntmps - args.size) undef, defers := [] } h = some (e, a2, h2) →
            (match resS P h2 a2 fn.results.toList with
              | some [v] => some (v, h2)
              | some vs => some (.tuple vs.toArray, h2)
              | none => none) = some (v, h') →
            c.wp P (bodyPost P fn fun e w' => ∃ v' ρ', e = .returned v' ∧ VR ρ' v v' ∧ Rel ρ' h' w' ∧ Fr ρ h w ρ' h' w') { tmps := args' ++ Array.replicate (fn.ntmps - args'.size) undef, defers := [] } w := by
          intro e a2 h2 he hc hres
          refine codeS_sim hm (callS_sim hm rounds n) c hc ha hr fun ρ2 a2' w2 k1 k2 k3 => ?_
          have core : a2'.defers = [] ∧ ∃ v', (results fn a2'.tmps).run P w2 = .ok v' w2 ∧ ∃ v'' ρ', Ending.returned v' = .returned v'' ∧ VR ρ' v v'' ∧ Rel ρ' h' w2 ∧ Fr ρ h w ρ' h' w2 := by
            refine ⟨k1.defers.2, ?_⟩
            split at hres
            · rename_i u hu
              simp only [Option.some.injEq, Prod.mk.injEq] at hres
              obtain ⟨rfl, rfl⟩ := hres
              obtain ⟨vs', h1, h2'⟩ := resS_sim k1 k2 hu
              obtain ⟨u', rfl⟩ : ∃ u', vs' = [u'] := by
                have := h2'.1
                match vs', this with
                | [u'], _ => exact ⟨u', rfl⟩
              refine ⟨u', ?_, u', ρ2, rfl, h2'.2 0 _ _ rfl rfl, k2, k3⟩
              rw [results_eq]
              simp only [Array.mapM_eq_mapM_toList, Sem.run_bind, Sem.run_map, h1, Result.andThen_ok]
              simp
            · rename_i us hne hu
              simp only [Option.some.injEq, Prod.mk.injEq] at hres
              obtain ⟨rfl, rfl⟩ := hres
              obtain ⟨vs', h1, h2'⟩ := resS_sim k1 k2 hu
              have hlen : vs'.length ≠ 1 := by
                intro hl
                have hz := h2'.1
                simp only [List.size_toArray] at hz
                match us, hz, hne with
                | [x], _, hne => exact hne x rfl
                | [], hz, _ => simp [hl] at hz
                | _ :: _ :: _, hz, _ => simp [hl] at hz
              refine ⟨.tuple vs'.toArray, ?_, .tuple vs'.toArray, ρ2, rfl, .tuple h2'.1 h2'.2, k2, k3⟩
              rw [results_eq]
              simp only [Array.mapM_eq_mapM_toList, Sem.run_bind, Sem.run_map, h1, Result.andThen_ok]
              simp [hlen]
            · cases hres
          rcases he with rfl | rfl
          · exact core
          · exact core
        split at hv
        · rename_i a2 h2 hc
          exact fin (.inl rfl) hc hv
        · rename_i a2 h2 hc
          exact fin (.inr rfl) hc hv
        · cases hv

def empty : Heap := { at_ := fun _ => none, next := 0 }

theorem rel_empty (w : World) : Rel (fun _ => none) empty w :=
  ⟨fun i c h => by simp [empty] at h, fun i j ci cj li lj _ h => by simp [empty] at h, fun i _ => ⟨rfl, rfl⟩, fun i l h => by cases h⟩

end Go.Sh

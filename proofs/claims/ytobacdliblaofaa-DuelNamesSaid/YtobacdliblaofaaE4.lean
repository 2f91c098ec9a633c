/- The shadow machine, part 4: one operation of the shadow, and that the machine's does the same. No condition. -/
import Derived.Test.YtobacdliblaofaaE3
namespace Go.Sh

structure ActR (ρ : Rho) (a a' : Act) : Prop where
  tmps : VRs ρ a.tmps a'.tmps
  defers : a.defers = [] ∧ a'.defers = []

theorem ActR.mono {ρ ρ' : Rho} (h : ρ.le ρ') {a a' : Act} (ha : ActR ρ a a') : ActR ρ' a a' := ⟨ha.tmps.mono h, ha.defers⟩

theorem ActR.put {ρ : Rho} {a a' : Act} (h : ActR ρ a a') (d : Option Tmp) {v v' : Value} (hv : VR ρ v v') : ActR ρ (a.put d v) (a'.put d v') := by
  cases d with
  | none => exact h
  | some d =>
    refine ⟨⟨by simp [Act.put, h.tmps.1], fun j u u' hu hu' => ?_⟩, h.defers⟩
    simp only [Act.put, Array.getElem?_setIfInBounds] at hu hu'
    by_cases hd : d = j
    · rw [if_pos hd] at hu hu'
      split at hu
      · split at hu'
        · obtain rfl : v = u := by simpa using hu
          obtain rfl : v' = u' := by simpa using hu'
          exact hv
        · cases hu'
      · cases hu
    · rw [if_neg hd] at hu hu'
      exact h.tmps.2 j u u' hu hu'

def operand (a : Act) : Operand → Option Value
  | .tmp t => a.tmps[t]?
  | .const v => if still v then some v else none
  | .func f => some (.func (.func f) #[] #[])
  | .global _ => none

theorem operand_sim {ρ : Rho} {a a' : Act} (h : ActR ρ a a') {x : Operand} {v : Value} (hx : operand a x = some v) : VR ρ v (a'.eval x) := by
  cases x with
  | tmp t =>
    obtain ⟨v', h1, h2⟩ := h.tmps.get hx
    simpa [Act.eval, h1] using h2
  | const u =>
    simp only [operand] at hx
    split at hx
    · obtain rfl : u = v := by simpa using hx
      exact .of_still ‹_›
    · cases hx
  | func f =>
    obtain rfl : _ = v := by simpa [operand] using hx
    exact .func rfl (fun j v v' a => by simp at a) rfl (fun j v v' a => by simp at a)
  | global g => simp [operand] at hx

def operands (a : Act) (xs : List Operand) : Option (List Value) := xs.mapM (operand a)

theorem operands_sim {ρ : Rho} {a a' : Act} (h : ActR ρ a a') : ∀ {xs : List Operand} {vs : List Value}, operands a xs = some vs →
    vs.length = xs.length ∧ ∀ (j : Nat) (x : Operand) (v : Value), xs[j]? = some x → vs[j]? = some v → VR ρ v (a'.eval x)
  | [], vs, hv => by simp [operands] at hv; subst hv; exact ⟨rfl, fun j x v h => by simp at h⟩
  | x :: xs, vs, hv => by
    simp only [operands, List.mapM_cons, Option.bind_eq_bind, Option.pure_def] at hv
    cases hx : operand a x with
    | none => simp [hx] at hv
    | some v =>
      cases hr : operands a xs with
      | none => simp only [operands] at hr; simp [hx, hr] at hv
      | some rest =>
        have hr' := hr
        simp only [operands] at hr
        simp [hx, hr] at hv
        subst hv
        obtain ⟨h1, h2⟩ := operands_sim h hr'
        refine ⟨by simp [h1], fun j y u hy hu => ?_⟩
        cases j with
        | zero => simp at hy hu; subst hy; subst hu; exact operand_sim h hx
        | succ j => simp at hy hu; exact h2 j y u hy hu

/-- a program that asks of the program alone, run in the empty world -/
def asked (P : Program) {α : Type} (s : Sem α) : Option α :=
  match s.run P default with
  | .ok a _ => some a
  | _ => none

theorem asked_run {P : Program} {α : Type} {R : α → Prop} {s : Sem α} (hs : QP P R s) {a : α} (h : asked P s = some a) (w : World) : s.run P w = .ok a w := by
  unfold asked at h
  cases hr : s.run P default with
  | ok b w' =>
    rw [hr] at h
    obtain rfl : b = a := by simpa using h
    exact (hs.run hr).2 w
  | halt x w' => rw [hr] at h; cases h

/-- may these be reckoned with, by this operator, without memory? -/
def mayBin (op : BinOp) (u v : Value) : Bool :=
  match u, v with
  | .int _ _, .int _ _ | .string _, .string _ => true
  | _, _ => (op == .eql || op == .neq) && reck u && reck v

def mayUn (u : Value) : Bool :=
  match u with
  | .int _ _ | .bool _ => true
  | _ => false

/-- a test against nil of what is not nil -/
def nilKind (P : Program) (t : TypeId) (u v : Value) : Bool :=
  match P.underlying t, u, v with
  | some (.pointer _), .pointer (some _), .pointer none => true
  | some (.pointer _), .pointer none, .pointer (some _) => true
  | some (.func ..), .func .., .nilFunc => true
  | some (.func ..), .nilFunc, .func .. => true
  | some (.slice _), .slice (some _) _ _, .slice none _ _ => true
  | some (.map _ _), .map (some _), .map none => true
  | some (.interface _), .iface _ _, .nilIface => true
  | _, _, _ => false

def ofOp (op : BinOp) (b : Bool) : Option Bool :=
  match op with
  | .eql => some b
  | .neq => some (!b)
  | _ => none

def nilTest (P : Program) (op : BinOp) (t : TypeId) (u v : Value) : Option Bool := if nilKind P t u v then ofOp op false else none

theorem nilTest_core {P : Program} {op : BinOp} {t : TypeId} {u v : Value} {b : Bool} {x y : Operand} {w : World} (h : ofOp op false = some b)
    (hE : binOp .eql t u v = (do Pure.pure (Value.bool (← Op.equal t u v)))) (hN : binOp .neq t u v = (do Pure.pure (Value.bool (!(← Op.equal t u v)))))
    (hG : eqGuard op t x y u v = Pure.pure ()) (hq : ∀ d, (Op.equalIn (d + 1) t u v).run P w = .ok false w) :
    (do eqGuard op t x y u v; binOp op t u v : Sem Value).run P w = .ok (.bool b) w := by
  have he : (Op.equal t u v).run P w = .ok false w := hq 9999
  rw [hG]
  cases op <;> simp only [ofOp, Option.some.injEq, reduceCtorEq] at h
  · subst h; rw [Sem.run_bind, Sem.run_pure, Result.andThen_ok, hE, Sem.run_bind, he]; rfl
  · subst h; rw [Sem.run_bind, Sem.run_pure, Result.andThen_ok, hN, Sem.run_bind, he]; rfl

theorem nilTest_sim {P : Program} {ρ : Rho} {op : BinOp} {t : TypeId} {u v u' v' : Value} (hu : VR ρ u u') (hv : VR ρ v v') {b : Bool} (h : nilTest P op t u v = some b) (x y : Operand) (w : World) :
    (do eqGuard op t x y u' v'; binOp op t u' v' : Sem Value).run P w = .ok (.bool b) w := by
  unfold nilTest at h
  split at h
  case isFalse => cases h
  rename_i hk
  cases hund : P.underlying t with
  | none => simp [nilKind, hund] at hk
  | some d =>
    cases d <;> try (simp [nilKind, hund] at hk; done)
    case pointer e =>
      obtain ⟨a, rfl⟩ : ∃ a, u = .pointer a := by cases u <;> simp [nilKind, hund] at hk ⊢
      obtain ⟨c, rfl⟩ : ∃ c, v = .pointer c := by cases v <;> simp [nilKind, hund] at hk ⊢
      cases a <;> cases c <;> try (simp [nilKind, hund] at hk; done)
      · cases hu; cases hv with
        | bare hb => simp [bare] at hb
        | ptr _ => refine nilTest_core h (by simp only [binOp]) (by simp only [binOp]) (eqGuard_at_pointer ..) fun d => ?_; simp [Op.equalIn, run_underlying hund]
      · cases hv; cases hu with
        | bare hb => simp [bare] at hb
        | ptr _ => refine nilTest_core h (by simp only [binOp]) (by simp only [binOp]) (eqGuard_at_pointer ..) fun d => ?_; simp [Op.equalIn, run_underlying hund]
    case func ps rs vr =>
      cases u <;> try (simp [nilKind, hund] at hk; done)
      · cases v <;> try (simp [nilKind, hund] at hk; done)
        cases hv; cases hu with
        | bare hb => simp [bare] at hb
        | func _ _ _ _ => refine nilTest_core h (by simp only [binOp]) (by simp only [binOp]) (eqGuard_at_func ..) fun d => ?_; simp [Op.equalIn, run_underlying hund]
      · cases v <;> try (simp [nilKind, hund] at hk; done)
        cases hu; cases hv with
        | bare hb => simp [bare] at hb
        | func _ _ _ _ => refine nilTest_core h (by simp only [binOp]) (by simp only [binOp]) (eqGuard_at_nilFunc ..) fun d => ?_; simp [Op.equalIn, run_underlying hund]
    case slice e =>
      obtain ⟨a, n, m, rfl⟩ : ∃ a n m, u = .slice a n m := by cases u <;> simp [nilKind, hund] at hk ⊢
      obtain ⟨c, n', m', rfl⟩ : ∃ a n m, v = .slice a n m := by cases v <;> simp [nilKind, hund] at hk ⊢
      cases a <;> cases c <;> try (simp [nilKind, hund] at hk; done)
      cases hv; cases hu with
      | bare hb => simp [bare] at hb
      | slice _ _ _ _ => refine nilTest_core h (by simp only [binOp]) (by simp only [binOp]) (eqGuard_at_slice ..) fun d => ?_; simp [Op.equalIn, run_underlying hund]
    case map k e =>
      obtain ⟨a, rfl⟩ : ∃ a, u = .map a := by cases u <;> simp [nilKind, hund] at hk ⊢
      obtain ⟨c, rfl⟩ : ∃ c, v = .map c := by cases v <;> simp [nilKind, hund] at hk ⊢
      cases a <;> cases c <;> try (simp [nilKind, hund] at hk; done)
      cases hv; cases hu with
      | bare hb => simp [bare] at hb
      | map _ => refine nilTest_core h (by simp only [binOp]) (by simp only [binOp]) (eqGuard_at_map ..) fun d => ?_; simp [Op.equalIn, run_underlying hund]
    case interface ms =>
      cases u <;> try (simp [nilKind, hund] at hk; done)
      cases v <;> try (simp [nilKind, hund] at hk; done)
      cases hv; cases hu with
      | bare hb => simp [bare] at hb
      | iface _ => refine nilTest_core h (by simp only [binOp]) (by simp only [binOp]) (eqGuard_at_iface ..) fun d => ?_; simp [Op.equalIn, run_underlying hund]

def opv (P : Program) (a : Act) (h : Heap) (o : Oper) : Option (Value × Heap) :=
  match o.op with
  | .move x | .assign x => (operand a x).map fun v => (v, h)
  | .pick c x y =>
    match operand a c with
    | some (.bool b) => (operand a (if b then x else y)).map fun v => (v, h)
    | _ => none
  | .alloc t =>
    match (P.info? t).bind (·.zero) with
    | some z => if still z then some (.pointer (some ⟨h.next, 0, none⟩), h.push z.cells.toList) else none
    | none => none
  | .box _ x => (operand a x).map fun v => (.pointer (some ⟨h.next, 0, none⟩), h.push v.cells.toList)
  | .build t parts =>
    match operands a (parts.toList.map (·.2)) with
    | some vs =>
      if vs.all still then
        match P.built t ((parts.toList.map (·.1)).zip vs) with
        | some cells => if still (.agg cells) then some (.agg cells, h) else none
        | none => none
      else none
    | none => none
  | .load t x =>
    match operand a x with
    | some p => (loadS P h t p).map fun v => (v, h)
    | none => none
  | .store t x y =>
    match operand a x, operand a y with
    | some p, some v => (storeS P h t p v).map fun h' => (undef, h')
    | _, _ => none
  | .nilCheck x =>
    match operand a x with
    | some (.pointer (some p)) => some (.pointer (some p), h)
    | _ => none
  | .binOp op t x y _ =>
    match operand a x, operand a y with
    | some u, some v =>
      if mayBin op u v then
        match asked P (do eqGuard op t x y u v; binOp op t u v) with
        | some r => if still r then some (r, h) else none
        | none => none
      else (nilTest P op t u v).map fun b => (.bool b, h)
    | _, _ => none
  | .unOp op _ x =>
    match operand a x with
    | some u =>
      if mayUn u then
        match asked P (Op.unary op u) with
        | some r => if still r then some (r, h) else none
        | none => none
      else none
    | none => none
  | .fieldAddr s x f =>
    match operand a x, P.underlying s with
    | some (.pointer (some ⟨i, o, none⟩)), some (.struct fields) =>
      match fields[f]? with
      | some fd =>
        match P.info? fd.type with
        | some inf => if inf.size = 0 then none else some (.pointer (some ⟨i, o + fd.offset, none⟩), h)
        | none => none
      | none => none
    | _, _ => none
  | .extract x ix =>
    match operand a x with
    | some (.tuple vs) => (vs[ix]?).map fun v => (v, h)
    | _ => none
  | _ => none

theorem bare_still {v : Value} (h : bare v = true) : still v = true := by
  cases v <;> first | exact h | (simp [bare] at h; done)

theorem plain_still {v : Value} (h : plain v = true) : still v = true := by
  cases v with
  | pointer a => cases a <;> first | rfl | simp [plain] at h
  | map a => cases a <;> first | rfl | simp [plain] at h
  | slice a n m => cases a <;> first | exact h | simp [plain] at h
  | agg cs => exact h
  | _ => first | rfl | simp [plain] at h

theorem comp_still {v : Value} (h : comp v = true) : still v = true := by
  simp only [comp, Bool.or_eq_true] at h
  exact h.elim plain_still bare_still

theorem reck_still {v : Value} (h : reck v = true) : still v = true ∧ comp v = true := by
  have hc : comp v = true := by cases v <;> first | exact h | simp [reck] at h
  exact ⟨comp_still hc, hc⟩

theorem mayBin_quiet {P : Program} {op : BinOp} {u v : Value} (h : mayBin op u v = true) (t : TypeId) (x y : Operand) :
    still u = true ∧ still v = true ∧ QP P (fun _ => True) (do eqGuard op t x y u v; binOp op t u v : Sem Value) := by
  have key : QP P (fun _ => True) (binOp op t u v) → QP P (fun _ => True) (do eqGuard op t x y u v; binOp op t u v : Sem Value) :=
    fun hb => QP.bind (QP.of_quiet (.eqGuard ..)) fun _ _ => hb
  unfold mayBin at h
  split at h
  · exact ⟨rfl, rfl, key (QP.binInt ..)⟩
  · exact ⟨rfl, rfl, key (QP.binStr ..)⟩
  · simp only [Bool.and_eq_true, Bool.or_eq_true, beq_iff_eq] at h
    exact ⟨(reck_still h.1.2).1, (reck_still h.2).1, key (QP.binEq op h.1.1 t u v h.1.2 h.2)⟩

theorem mayUn_quiet {P : Program} (op : UnOp) {u : Value} (h : mayUn u = true) : still u = true ∧ QP P (fun _ => True) (Op.unary op u) := by
  unfold mayUn at h
  split at h
  · exact ⟨rfl, QP.unInt ..⟩
  · exact ⟨rfl, QP.unBool ..⟩
  · cases h

/-- what the machine's operation comes to: a value, or (a store) nothing -/
def Gives (r : Next) (v : Value) : Prop := r = .value v ∨ (r = .skip ∧ v = undef)

theorem VR.undef (ρ : Rho) : VR ρ undef undef := .of_still rfl

theorem opv_sim {P : Program} {ρ : Rho} {a a' : Act} {h h2 : Heap} {w : World} (ha : ActR ρ a a') (hr : Rel ρ h w) {o : Oper} {v : Value} (hv : opv P a h o = some (v, h2)) :
    ∃ r w2 ρ2 v', (execOp a'.eval o).run P w = .ok r w2 ∧ Gives r v' ∧ VR ρ2 v v' ∧ Rel ρ2 h2 w2 ∧ Fr ρ h w ρ2 h2 w2 := by
  have same : ∀ {v v' : Value}, (execOp a'.eval o).run P w = .ok (.value v') w → VR ρ v v' →
      ∃ r w2 ρ2 v', (execOp a'.eval o).run P w = .ok r w2 ∧ Gives r v' ∧ VR ρ2 v v' ∧ Rel ρ2 h w2 ∧ Fr ρ h w ρ2 h w2 :=
    fun h1 h2 => ⟨_, w, ρ, _, h1, .inl rfl, h2, hr, .refl _ _ _⟩
  have pushed : ∀ {u u' : Value} (T : TypeId), VR ρ u u' → (execOp a'.eval o).run P w = .ok (.value (.pointer (some ⟨w.heap.size, 0, none⟩))) (w.alloc (.cells u'.cells T)) →
      ∃ r w2 ρ2 v', (execOp a'.eval o).run P w = .ok r w2 ∧ Gives r v' ∧ VR ρ2 (.pointer (some ⟨h.next, 0, none⟩)) v' ∧ Rel ρ2 (h.push u.cells.toList) w2 ∧ Fr ρ h w ρ2 (h.push u.cells.toList) w2 := by
    intro u u' T hu h1
    obtain ⟨p1, p2⟩ := push_sim hr (c := u.cells.toList) (cs := u'.cells) T (by simp [hu.cells.1]) (by
      intro j x hx
      exact hu.cells.get (by simpa using hx))
    refine ⟨_, _, _, _, h1, .inl rfl, ?_, p1, p2⟩
    exact VR.ptr (l := ⟨w.heap.size, 0, u'.cells.size⟩) (by simp [bump])
  unfold opv at hv
  cases hop : o.op with
  | move x =>
    simp only [hop, Option.map_eq_some_iff, Prod.mk.injEq] at hv
    obtain ⟨u, hu, rfl, rfl⟩ := hv
    exact same (by simp [execOp, hop]) (operand_sim ha hu)
  | assign x =>
    simp only [hop, Option.map_eq_some_iff, Prod.mk.injEq] at hv
    obtain ⟨u, hu, rfl, rfl⟩ := hv
    exact same (by simp [execOp, hop]) (operand_sim ha hu)
  | pick c x y =>
    simp only [hop] at hv
    split at hv
    · rename_i b hc
      simp only [Option.map_eq_some_iff, Prod.mk.injEq] at hv
      obtain ⟨u, hu, rfl, rfl⟩ := hv
      have hc' : a'.eval c = .bool b := (operand_sim ha hc).still rfl
      refine same (v' := a'.eval (if b then x else y)) ?_ (operand_sim ha hu)
      cases b <;> simp [execOp, hop, hc', asBool]
    · cases hv
  | alloc t =>
    simp only [hop] at hv
    split at hv
    · rename_i z hz
      split at hv
      · rename_i hst
        simp only [Option.some.injEq, Prod.mk.injEq] at hv
        obtain ⟨rfl, rfl⟩ := hv
        obtain ⟨inf, hi, hz'⟩ := Option.bind_eq_some_iff.1 hz
        refine pushed t (VR.of_still hst) ?_
        simp [execOp, hop, Instr.alloc, zeroValue, typeInfo, hi, hz', newVar, newRow]
      · cases hv
    · cases hv
  | box t x =>
    simp only [hop, Option.map_eq_some_iff, Prod.mk.injEq] at hv
    obtain ⟨u, hu, rfl, rfl⟩ := hv
    refine pushed t (operand_sim ha hu) ?_
    simp [execOp, hop, Instr.box, newVar, newRow]
  | build t parts =>
    simp only [hop] at hv
    split at hv
    · rename_i vs hvs
      split at hv
      · rename_i hall
        split at hv
        · rename_i cells hb
          split at hv
          · rename_i hst
            simp only [Option.some.injEq, Prod.mk.injEq] at hv
            obtain ⟨rfl, rfl⟩ := hv
            refine same (v' := .agg cells) ?_ (VR.of_still hst)
            obtain ⟨hlen, hat⟩ := operands_sim ha hvs
            have hparts : (parts.map fun (i, x) => (i, a'.eval x)).toList = (parts.toList.map (·.1)).zip vs := by
              apply List.ext_getElem
              · simp [hlen]
              · intro j h1 h2
                simp only [Array.toList_map, List.length_map, Array.length_toList] at h1
                simp only [Array.toList_map, List.getElem_map, List.getElem_zip, Array.getElem_toList, Prod.mk.injEq, true_and]
                have hj : j < vs.length := by simp [hlen]; exact h1
                have hvr := hat j parts[j].2 vs[j] (by simp [h1]) (by simp [hj])
                exact hvr.still (List.all_eq_true.1 hall _ (List.getElem_mem hj))
            have := run_build (P := P) w t (parts.map fun (i, x) => (i, a'.eval x)) cells (by rw [hparts]; exact hb)
            simp [execOp, hop, this]
          · cases hv
        · cases hv
      · cases hv
    · cases hv
  | load t x =>
    simp only [hop] at hv
    split at hv
    · rename_i p hp
      simp only [Option.map_eq_some_iff, Prod.mk.injEq] at hv
      obtain ⟨u, hu, rfl, rfl⟩ := hv
      obtain ⟨v', h1, h2⟩ := loadS_sim hr (operand_sim ha hp) hu
      exact same (by simp [execOp, hop, h1]) h2
    · cases hv
  | store t x y =>
    simp only [hop] at hv
    split at hv
    · rename_i p u hp hu
      simp only [Option.map_eq_some_iff, Prod.mk.injEq] at hv
      obtain ⟨h', hh, rfl, rfl⟩ := hv
      obtain ⟨w', h1, h2, h3⟩ := storeS_sim hr (operand_sim ha hp) (operand_sim ha hu) hh
      exact ⟨.skip, w', ρ, undef, by simp [execOp, hop, h1], .inr ⟨rfl, rfl⟩, .undef ρ, h2, h3⟩
    · cases hv
  | nilCheck x =>
    simp only [hop] at hv
    split at hv
    · rename_i p hp
      simp only [Option.some.injEq, Prod.mk.injEq] at hv
      obtain ⟨rfl, rfl⟩ := hv
      have hvr := operand_sim ha hp
      obtain ⟨q, hq⟩ : ∃ q, a'.eval x = .pointer (some q) := by
        generalize a'.eval x = z at hvr
        cases hvr with
        | bare hb => simp [bare] at hb
        | ptr _ => exact ⟨_, rfl⟩
      exact same (v' := a'.eval x) (by simp [execOp, hop, hq]) hvr
    · cases hv
  | binOp op t x y yt =>
    simp only [hop] at hv
    split at hv
    · rename_i u u2 hu hu2
      split at hv
      · rename_i hmay
        split at hv
        · rename_i r hask
          split at hv
          · rename_i hst
            simp only [Option.some.injEq, Prod.mk.injEq] at hv
            obtain ⟨rfl, rfl⟩ := hv
            refine same (v' := r) ?_ (VR.of_still hst)
            obtain ⟨h1, h2, h3⟩ := mayBin_quiet (P := P) hmay t x y
            rw [execOp, hop]
            simp only [(operand_sim ha hu).still h1, (operand_sim ha hu2).still h2, Sem.run_bind (x := do eqGuard op t x y u u2; binOp op t u u2), asked_run h3 hask w]
            rfl
          · cases hv
        · cases hv
      · simp only [Option.map_eq_some_iff, Prod.mk.injEq] at hv
        obtain ⟨b, hb, rfl, rfl⟩ := hv
        refine same (v' := .bool b) ?_ (VR.of_still rfl)
        have := nilTest_sim (P := P) (operand_sim ha hu) (operand_sim ha hu2) hb x y w
        rw [execOp, hop]
        simp only [Sem.run_bind, this]
        rfl
    · cases hv
  | unOp op t x =>
    simp only [hop] at hv
    split at hv
    · rename_i u hu
      split at hv
      · rename_i hmay
        split at hv
        · rename_i r hask
          split at hv
          · rename_i hst
            simp only [Option.some.injEq, Prod.mk.injEq] at hv
            obtain ⟨rfl, rfl⟩ := hv
            refine same (v' := r) ?_ (VR.of_still hst)
            obtain ⟨h1, h3⟩ := mayUn_quiet (P := P) op hmay
            rw [execOp, hop]
            simp only [(operand_sim ha hu).still h1, Sem.run_bind, asked_run h3 hask w]
            rfl
          · cases hv
        · cases hv
      · cases hv
    · cases hv
  | fieldAddr s x f =>
    simp only [hop] at hv
    split at hv
    · rename_i i o' fields hx hund
      split at hv
      · rename_i fd hfd
        split at hv
        · rename_i inf hinf
          split at hv
          · cases hv
          · rename_i hne
            simp only [Option.some.injEq, Prod.mk.injEq] at hv
            obtain ⟨rfl, rfl⟩ := hv
            have hvr := operand_sim ha hx
            obtain ⟨l, hl, he⟩ : ∃ l, ρ i = some l ∧ a'.eval x = .pointer (some ⟨l.b, l.d + o', none⟩) := by
              generalize a'.eval x = z at hvr
              cases hvr with
              | bare hb => simp [bare] at hb
              | ptr hi => exact ⟨_, hi, rfl⟩
            refine same (v' := .pointer (some ⟨l.b, l.d + (o' + fd.offset), none⟩)) ?_ (.ptr hl)
            have hadd : (⟨l.b, l.d + o', none⟩ : Addr).add fd.offset = ⟨l.b, l.d + (o' + fd.offset), none⟩ := by
              rw [Addr.add_lit]; simp [Nat.add_assoc]
            simp [execOp, hop, he, Instr.fieldAt, run_underlying hund, hfd, Instr.sureAddr, fieldPlace, Go.sizeOf, typeInfo, hinf, hne, hadd]
        · cases hv
      · cases hv
    · cases hv
  | extract x ix =>
    simp only [hop] at hv
    split at hv
    · rename_i vs hx
      simp only [Option.map_eq_some_iff, Prod.mk.injEq] at hv
      obtain ⟨u, hu, rfl, rfl⟩ := hv
      have hvr := operand_sim ha hx
      obtain ⟨vs', he, hvs⟩ : ∃ vs', a'.eval x = .tuple vs' ∧ VRs ρ vs vs' := by
        generalize a'.eval x = z at hvr
        cases hvr with
        | bare hb => simp [bare] at hb
        | tuple hz hc => exact ⟨_, rfl, hz, hc⟩
      obtain ⟨u', hu', hvr'⟩ := hvs.get hu
      exact same (v' := u') (by simp [execOp, hop, he, Instr.extract, hu']) hvr'
    · cases hv
  | _ => simp only [hop] at hv; cases hv

end Go.Sh

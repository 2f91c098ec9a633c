/- The shadow machine, part 7: a region whose order is drawn comes to one end, whatever the order. No condition. -/
import Derived.Test.YtobacdliblaofaaE6
namespace Go.Sh

theorem apart_facts {ops : Array Oper} {x y : Oper} (h : x.apart ops y = true) :
    (∀ t, x.dst = some t → t ∉ y.looksAt ops) ∧ (∀ t, x.dst = some t → y.dst ≠ some t) ∧ (∀ t, y.dst = some t → t ∉ x.looksAt ops) := Oper.apart_spec h

theorem stepD_swap {P : Program} {call : CallS} {ops : Array Oper} {base : Nat} {s s1 s2 : Act × Heap} {x y : Oper × Nat} (hne : x.2 ≠ y.2) (hl : looseOk ops x.1 y.1 = true)
    (hfx : ∀ z off, operand s.1 z ≠ some (.pointer (some ⟨base + x.2, off, none⟩))) (hfy : ∀ z off, operand s.1 z ≠ some (.pointer (some ⟨base + y.2, off, none⟩)))
    (hx : stepD P call ops base x s = some s1) (hy : stepD P call ops base y s1 = some s2) :
    ∃ t, stepD P call ops base y s = some t ∧ stepD P call ops base x t = some s2 := by
  unfold looseOk at hl
  simp only [Bool.and_eq_true, Bool.or_eq_true, beq_iff_eq, decide_eq_true_eq] at hl
  obtain ⟨hap, hcls⟩ := hl
  obtain ⟨a1, a2, a3⟩ := apart_facts hap
  have hc : cls x.1 = 0 ∨ cls y.1 = 0 ∨ (cls x.1 < 3 ∧ cls y.1 < 3) := by
    rcases hcls with (h | h) | h
    · exact .inl h
    · exact .inr (.inl h)
    · exact .inr (.inr h)
  have hcomm : ∀ (u v : Value), (s.1.put x.1.dst u).put y.1.dst v = (s.1.put y.1.dst v).put x.1.dst u := fun u v => Act.put_comm s.1 u v a2
  unfold stepD at hx hy ⊢
  by_cases wx : Region.wanted x.1 (yielded ops s.1.tmps) = true
  · rw [if_pos wx] at hx
    simp only [Option.map_eq_some_iff] at hx
    obtain ⟨⟨vx, h1⟩, hx1, rfl⟩ := hx
    have wy := wanted_put (ops := ops) (a := s.1) (o := y.1) (d := x.1.dst) (v := vx) a1
    simp only [wy] at hy
    by_cases wy' : Region.wanted y.1 (yielded ops s.1.tmps) = true
    · rw [if_pos wy'] at hy
      simp only [Option.map_eq_some_iff] at hy
      obtain ⟨⟨vy, h2⟩, hy1, rfl⟩ := hy
      rw [opD_put a1] at hy1
      obtain ⟨g, g1, g2⟩ := opD_swap hne hc hfx hfy hx1 hy1
      refine ⟨(s.1.put y.1.dst vy, g), by rw [if_pos wy', g1]; rfl, ?_⟩
      have wx2 := wanted_put (ops := ops) (a := s.1) (o := x.1) (d := y.1.dst) (v := vy) a3
      simp only [wx2, if_pos wx, opD_put a3, g2, Option.map_some, hcomm]
    · rw [if_neg wy'] at hy
      obtain rfl : _ = s2 := by simpa using hy
      refine ⟨(s.1.put y.1.dst undef, s.2), by rw [if_neg wy'], ?_⟩
      have wx2 := wanted_put (ops := ops) (a := s.1) (o := x.1) (d := y.1.dst) (v := undef) a3
      simp only [wx2, if_pos wx, opD_put a3, hx1, Option.map_some, hcomm]
  · rw [if_neg wx] at hx
    obtain rfl : _ = s1 := by simpa using hx
    have wy := wanted_put (ops := ops) (a := s.1) (o := y.1) (d := x.1.dst) (v := undef) a1
    simp only [wy] at hy
    by_cases wy' : Region.wanted y.1 (yielded ops s.1.tmps) = true
    · rw [if_pos wy'] at hy
      simp only [Option.map_eq_some_iff] at hy
      obtain ⟨⟨vy, h2⟩, hy1, rfl⟩ := hy
      rw [opD_put a1] at hy1
      refine ⟨(s.1.put y.1.dst vy, h2), by rw [if_pos wy', hy1]; rfl, ?_⟩
      have wx2 := wanted_put (ops := ops) (a := s.1) (o := x.1) (d := y.1.dst) (v := vy) a3
      simp only [wx2, if_neg wx, hcomm]
    · rw [if_neg wy'] at hy
      obtain rfl : _ = s2 := by simpa using hy
      refine ⟨(s.1.put y.1.dst undef, s.2), by rw [if_neg wy'], ?_⟩
      have wx2 := wanted_put (ops := ops) (a := s.1) (o := x.1) (d := y.1.dst) (v := undef) a3
      simp only [wx2, if_neg wx, hcomm]

/-- a block of a name of one's own -/
theorem put_sim {ρ : Rho} {h : Heap} {w : World} (hr : Rel ρ h w) {x : Nat} (hx : ρ x = none) (hlt : x < h.next) {c : List Value} {cs : Array Value} (T : TypeId) (hlen : c.length ≤ cs.size)
    (hv : ∀ (j : Nat) (v : Value), c[j]? = some v → ∃ v', cs[j]? = some v' ∧ VR ρ v v') :
    Rel (bump ρ x ⟨w.heap.size, 0, cs.size⟩) (h.put x c) (w.alloc (.cells cs T)) := by
  have hle : ρ.le (bump ρ x ⟨w.heap.size, 0, cs.size⟩) := bump_le hx
  have hold : ∀ {i : Nat} {l : Loc}, bump ρ x ⟨w.heap.size, 0, cs.size⟩ i = some l → i ≠ x → ρ i = some l := by
    intro i l hi hne
    simpa [bump, hne] using hi
  refine ⟨?_, ?_, ?_, ?_⟩
  · intro i c' hc'
    simp only [Heap.put] at hc'
    by_cases hi : i = x
    · subst hi
      rw [if_pos rfl] at hc'
      obtain rfl : c = c' := by simpa using hc'
      refine ⟨⟨w.heap.size, 0, cs.size⟩, cs, T, (0, 0), by simp [bump], heap_alloc_new w _, rfl, .inl (Nat.le_refl _), by simpa using hlen, ?_⟩
      intro j v hj
      obtain ⟨v', h1, h2⟩ := hv j v hj
      exact ⟨v', by simpa using h1, h2.mono hle⟩
    · rw [if_neg hi] at hc'
      obtain ⟨l, cs2, T2, fr2, hB⟩ := hr.live _ _ hc'
      refine ⟨l, cs2, T2, fr2, hle _ _ hB.name, ?_, hB.size, hB.thaw, hB.fits, fun j v hj => ?_⟩
      · rw [heap_alloc_old w _ l.b (hr.low _ _ hB.name)]; exact hB.blk
      · obtain ⟨v', h1, h2⟩ := hB.cell j v hj
        exact ⟨v', h1, h2.mono hle⟩
  · intro i j ci cj li lj hij hi hj hli hlj
    simp only [Heap.put] at hi hj
    by_cases ei : i = x
    · subst ei
      have ej : j ≠ i := fun e => hij e.symm
      have hlj' := hold hlj ej
      have hli' : li = ⟨w.heap.size, 0, cs.size⟩ := by simpa [bump, eq_comm] using hli
      subst hli'
      have := hr.low _ _ hlj'
      show w.heap.size ≠ lj.b
      omega
    · by_cases ej : j = x
      · subst ej
        have hli' := hold hli ei
        have hlj' : lj = ⟨w.heap.size, 0, cs.size⟩ := by simpa [bump, eq_comm] using hlj
        subst hlj'
        have := hr.low _ _ hli'
        show li.b ≠ w.heap.size
        omega
      · rw [if_neg ei] at hi
        rw [if_neg ej] at hj
        exact hr.inj i j ci cj li lj hij hi hj (hold hli ei) (hold hlj ej)
  · intro i hi
    have hi' : h.next ≤ i := hi
    obtain ⟨h1, h2⟩ := hr.fresh i hi'
    have hne : i ≠ x := by omega
    exact ⟨by simp [bump, hne, h1], by simp [Heap.put, hne, h2]⟩
  · intro i l hi
    by_cases hne : i = x
    · subst hne
      have : l = ⟨w.heap.size, 0, cs.size⟩ := by simpa [bump, eq_comm] using hi
      subst this
      simp
    · have := hr.low _ _ (hold hi hne)
      simp; omega

theorem put_fr {ρ₀ ρ : Rho} {h₀ h : Heap} {w₀ w : World} (hf : Fr ρ₀ h₀ w₀ ρ h w) {x : Nat} (hx : ρ x = none) (hge : h₀.next ≤ x) (c : List Value) (cs : Array Value) (T : TypeId) :
    Fr ρ₀ h₀ w₀ (bump ρ x ⟨w.heap.size, 0, cs.size⟩) (h.put x c) (w.alloc (.cells cs T)) := by
  refine ⟨Rho.le_trans hf.le (bump_le hx), hf.next, fun i hi => ?_, by have := hf.size; simp; omega, fun b hb hnot => ?_, ?_, fun a => (frozen?_alloc' w cs T a).trans (hf.ice a), hf.os, hf.tape, hf.output⟩
  · rw [← hf.new i hi]
    have hne : i ≠ x := by omega
    simp [bump, hne]
  · rw [heap_alloc_old w _ b (Nat.lt_of_lt_of_le hb hf.size)]
    exact hf.keep b hb hnot
  · intro i ci li hi hli
    by_cases hne : i = x
    · subst hne
      have : li = ⟨w.heap.size, 0, cs.size⟩ := by simpa [bump, eq_comm] using hli
      subst this
      exact .inr hf.size
    · simp only [Heap.put] at hi
      rw [if_neg hne] at hi
      exact hf.own i ci li hi (by simpa [bump, hne] using hli)

/-- one operation of a region whose order is drawn -/
theorem opD_sim {P : Program} {call : CallS} (hcall : CallSim P call) {ρ₀ ρ : Rho} {h₀ h h2 : Heap} {w₀ w : World} {a a' : Act} (ha : ActR ρ a a') (hr : Rel ρ h w) (hf : Fr ρ₀ h₀ w₀ ρ h w)
    {x : Oper × Nat} (hx : ρ (h₀.next + x.2) = none) (hlt : h₀.next + x.2 < h.next) {v : Value} (hv : opD P call h₀.next a h x = some (v, h2))
    {K : Act → World → Prop} {Q : Exit → Act → World → Prop}
    (hK : ∀ w2 ρ2 v', VR ρ2 v v' → Rel ρ2 h2 w2 → Fr ρ₀ h₀ w₀ ρ2 h2 w2 → ρ.le ρ2 → (∀ j, j < h.next → j ≠ h₀.next + x.2 → ρ2 j = ρ j) → h.next ≤ h2.next → K (a'.put x.1.dst v') w2) : x.1.wp P a' w K Q := by
  unfold opD at hv
  split at hv
  · simp only [Option.map_eq_some_iff, Prod.mk.injEq] at hv
    obtain ⟨c, hc, rfl, rfl⟩ := hv
    have core : ∀ {u u' : Value} (T : TypeId), VR ρ u u' → c = u.cells.toList → (execOp a'.eval x.1).run P w = .ok (.value (.pointer (some ⟨w.heap.size, 0, none⟩))) (w.alloc (.cells u'.cells T)) → x.1.wp P a' w K Q := by
      intro u u' T hu hcu h1
      subst hcu
      have p1 := put_sim hr hx hlt (c := u.cells.toList) (cs := u'.cells) T (by simp [hu.cells.1]) (by
        intro j y hy
        exact hu.cells.get (by simpa using hy))
      unfold Oper.wp
      rw [h1, Oper.upon_value]
      refine hK _ _ _ ?_ p1 (put_fr hf hx (Nat.le_add_right _ _) _ _ T) (bump_le hx) (fun j hj hne => by simp [bump, hne]) (Nat.le_refl _)
      exact VR.ptr (l := ⟨w.heap.size, 0, u'.cells.size⟩) (by simp [bump])
    unfold made at hc
    split at hc
    · rename_i t hop
      split at hc
      · rename_i z hz
        split at hc
        · rename_i hst
          obtain rfl : _ = c := by simpa using hc
          obtain ⟨inf, hi, hz'⟩ := Option.bind_eq_some_iff.1 hz
          exact core t (VR.of_still hst) rfl (by simp [execOp, hop, Instr.alloc, zeroValue, typeInfo, hi, hz', newVar, newRow])
        · cases hc
      · cases hc
    · rename_i t y hop
      simp only [Option.map_eq_some_iff] at hc
      obtain ⟨u, hu, rfl⟩ := hc
      exact core t (operand_sim ha hu) rfl (by simp [execOp, hop, Instr.box, newVar, newRow])
    · cases hc
  · refine op1_sim hcall ha hr hv fun w2 ρ2 v' h1 h2' h3 => ?_
    exact hK w2 ρ2 v' h1 h2' (hf.trans h3) h3.le (fun j hj _ => h3.new j hj) h3.next

theorem wp_exists {P : Program} {o : Oper} {a : Act} {w : World} {K : Act → World → Prop} (h : o.wp P a w K (fun _ _ _ => False)) : ∃ a w, K a w := by
  unfold Oper.wp at h
  generalize (execOp a.eval o).run P w = r at h
  cases r with
  | ok n w' =>
    cases n <;> simp only [Oper.upon] at h <;> try exact h.elim
    case value v => exact ⟨_, _, h⟩
    case skip => exact ⟨_, _, h⟩
    case defer d => exact ⟨_, _, h⟩
    case enter f args =>
      obtain ⟨e, w'', fr, hR, _⟩ := h []
      cases e with
      | returned v => exact ⟨_, _, hR⟩
      | panicked c => exact hR.elim
      | outgrown => obtain ⟨_, _, hf⟩ := hR; exact hf.elim
    case row r args =>
      obtain ⟨v, w'', hR, _⟩ := h default []
      exact ⟨_, _, hR⟩
  | halt x w' => cases x <;> simp only [Oper.upon] at h

/-- a state that some machine's state stands beside -/
def Live (ρ₀ : Rho) (h₀ : Heap) (w₀ : World) (s : Act × Heap) (un : Nat → Prop) : Prop :=
  ∃ ρ a' w, ActR ρ s.1 a' ∧ Rel ρ s.2 w ∧ Fr ρ₀ h₀ w₀ ρ s.2 w ∧ ∀ i, un i → ρ (h₀.next + i) = none ∧ h₀.next + i < s.2.next

theorem Live.unseen {ρ₀ : Rho} {h₀ : Heap} {w₀ : World} {s : Act × Heap} {un : Nat → Prop} (h : Live ρ₀ h₀ w₀ s un) {i : Nat} (hi : un i) (z : Operand) (off : Nat) :
    operand s.1 z ≠ some (.pointer (some ⟨h₀.next + i, off, none⟩)) := by
  intro hz
  obtain ⟨ρ, a', w, ha, _, _, hu⟩ := h
  have hv := operand_sim ha hz
  generalize a'.eval z = y at hv
  cases hv with
  | bare hb => simp [bare] at hb
  | ptr hl => rw [(hu i hi).1] at hl; cases hl

theorem stepD_live {P : Program} {call : CallS} (hcall : CallSim P call) {ops : Array Oper} {ρ₀ : Rho} {h₀ : Heap} {w₀ : World} {s s' : Act × Heap} {un : Nat → Prop} (h : Live ρ₀ h₀ w₀ s un)
    {x : Oper × Nat} (hx : un x.2) (hs : stepD P call ops h₀.next x s = some s') : Live ρ₀ h₀ w₀ s' (fun i => un i ∧ i ≠ x.2) := by
  obtain ⟨ρ, a', w, ha, hr, hf, hu⟩ := h
  unfold stepD at hs
  split at hs
  · simp only [Option.map_eq_some_iff] at hs
    obtain ⟨⟨v, h2⟩, hv, rfl⟩ := hs
    have hwp := opD_sim hcall ha hr hf (hu _ hx).1 (hu _ hx).2 hv (Q := fun _ _ _ => False)
      (K := fun a2 w2 => ∃ ρ2, ActR ρ2 (s.1.put x.1.dst v) a2 ∧ Rel ρ2 h2 w2 ∧ Fr ρ₀ h₀ w₀ ρ2 h2 w2 ∧ (∀ j, j < s.2.next → j ≠ h₀.next + x.2 → ρ2 j = ρ j) ∧ s.2.next ≤ h2.next)
      (fun w2 ρ2 v' k1 k2 k3 k4 k5 k6 => ⟨ρ2, (ha.mono k4).put _ k1, k2, k3, k5, k6⟩)
    obtain ⟨a2, w2, ρ2, k1, k2, k3, k5, k6⟩ := wp_exists hwp
    refine ⟨ρ2, a2, w2, k1, k2, k3, fun i ⟨hi, hne⟩ => ?_⟩
    obtain ⟨u1, u2⟩ := hu i hi
    exact ⟨by rw [k5 _ u2 (by omega)]; exact u1, Nat.lt_of_lt_of_le u2 k6⟩
  · obtain rfl : _ = s' := by simpa using hs
    exact ⟨ρ, a'.put x.1.dst undef, w, ha.put _ (.undef ρ), hr, hf, fun i hi => hu i hi.1⟩

theorem runD_front {P : Program} {call : CallS} (hcall : CallSim P call) {ops : Array Oper} {ρ₀ : Rho} {h₀ : Heap} {w₀ : World} {y : Oper × Nat} {L2 : List (Oper × Nat)} {r : Act × Heap} :
    ∀ (L1 : List (Oper × Nat)) (s : Act × Heap) (un : Nat → Prop), Live ρ₀ h₀ w₀ s un → un y.2 → (∀ x ∈ L1, un x.2 ∧ x.2 ≠ y.2 ∧ looseOk ops x.1 y.1 = true) → (L1.map (·.2)).Nodup →
      runD P call ops h₀.next (L1 ++ y :: L2) s = some r → runD P call ops h₀.next (y :: (L1 ++ L2)) s = some r
  | [], _, _, _, _, _, _, h => h
  | x :: L1, s, un, hl, hy, hL, hnd, h => by
    obtain ⟨hx1, hx2, hx3⟩ := hL x (List.mem_cons_self ..)
    simp only [List.cons_append, runD] at h
    cases hs : stepD P call ops h₀.next x s with
    | none => rw [hs] at h; cases h
    | some s1 =>
      rw [hs] at h
      simp only [List.map_cons, List.nodup_cons] at hnd
      have ih := runD_front hcall L1 s1 (fun i => un i ∧ i ≠ x.2) (stepD_live hcall hl hx1 hs) ⟨hy, fun e => hx2 e.symm⟩ (fun z hz => by
        obtain ⟨z1, z2, z3⟩ := hL z (List.mem_cons_of_mem _ hz)
        refine ⟨⟨z1, fun e => hnd.1 ?_⟩, z2, z3⟩
        rw [← e]; exact List.mem_map_of_mem hz) hnd.2 h
      simp only [runD] at ih
      cases hs2 : stepD P call ops h₀.next y s1 with
      | none => rw [hs2] at ih; cases ih
      | some s2 =>
        rw [hs2] at ih
        obtain ⟨t, t1, t2⟩ := stepD_swap hx2 hx3 (fun z off => hl.unseen hx1 z off) (fun z off => hl.unseen hy z off) hs hs2
        simp only [runD, List.cons_append, t1, t2]
        exact ih

end Go.Sh

/- The shadow machine, part 8: regions, code, calls: the machine does what the shadow does. No condition. -/
import Derived.Test.YtobacdliblaofaaE7
namespace Go.Sh

theorem fold_push {α β : Type} (f : Array β → α → β) : ∀ (l : List α) (acc : Array β),
    (l.foldl (fun acc o => acc.push (f acc o)) acc).size = acc.size + l.length ∧
    (∀ j, j < acc.size → (l.foldl (fun acc o => acc.push (f acc o)) acc)[j]? = acc[j]?) ∧
    ∀ j o, l[j]? = some o → (l.foldl (fun acc o => acc.push (f acc o)) acc)[acc.size + j]? = some (f ((l.take j).foldl (fun acc o => acc.push (f acc o)) acc) o)
  | [], acc => ⟨by simp, fun j _ => rfl, fun j o h => by simp at h⟩
  | x :: l, acc => by
    obtain ⟨h1, h2, h3⟩ := fold_push f l (acc.push (f acc x))
    refine ⟨by simp only [List.foldl_cons, h1, Array.size_push, List.length_cons]; omega, fun j hj => ?_, fun j o ho => ?_⟩
    · rw [List.foldl_cons, h2 j (by simp; omega), Array.getElem?_push, if_neg (by omega)]
    · cases j with
      | zero =>
        simp only [List.getElem?_cons_zero, Option.some.injEq] at ho
        subst ho
        rw [List.foldl_cons, Nat.add_zero, h2 acc.size (by simp)]
        simp
      | succ j =>
        simp only [List.getElem?_cons_succ] at ho
        have := h3 j o ho
        rw [Array.size_push] at this
        rw [List.foldl_cons, show acc.size + (j + 1) = acc.size + 1 + j by omega, this]
        rfl

theorem fold_or (g : Edge → Nat) (p : Edge → Bool) (i : Nat) : ∀ (l : List Edge) (s : Nat),
    (l.foldl (fun s e => if p e then s ||| 2 ^ e.on ||| g e else s) s).testBit i = true → s.testBit i = true ∨ ∃ e ∈ l, p e = true ∧ (i = e.on ∨ (g e).testBit i = true)
  | [], s, h => .inl h
  | e :: l, s, h => by
    rw [List.foldl_cons] at h
    rcases fold_or g p i l _ h with h | ⟨e', he, hp, hi⟩
    · split at h
      · rename_i hp
        simp only [Nat.testBit_or, Bool.or_eq_true] at h
        rcases h with (h | h) | h
        · exact .inl h
        · right
          refine ⟨e, List.mem_cons_self .., hp, .inl ?_⟩
          rw [Nat.testBit_two_pow] at h
          exact (of_decide_eq_true h).symm
        · exact .inr ⟨e, List.mem_cons_self .., hp, .inr h⟩
      · exact .inl h
    · exact .inr ⟨e', List.mem_cons_of_mem _ he, hp, hi⟩

/-- what goes before is done, where what is done is closed -/
theorem before_closed (ops : Array Oper) (S : Nat → Prop) (hS : ∀ (j : Nat) (o : Oper), ops[j]? = some o → S j → ∀ e ∈ o.after, Region.binds .any e = true → S e.on) :
    ∀ (j : Nat) (o : Oper), ops[j]? = some o → (∀ e ∈ o.after, Region.binds .any e = true → S e.on) → ∀ i, ((Region.before ops).getD j 0).testBit i = true → S i := by
  have hB : Region.before ops = ops.toList.foldl (fun acc o => acc.push (o.after.toList.foldl (fun s e => if Region.binds .any e then s ||| 2 ^ e.on ||| acc.getD e.on 0 else s) 0)) #[] := by
    unfold Region.before
    rw [← Array.foldl_toList]
    congr
    funext acc o
    rw [← Array.foldl_toList]
  have hF := fold_push (fun acc (o : Oper) => o.after.toList.foldl (fun s e => if Region.binds .any e then s ||| 2 ^ e.on ||| acc.getD e.on 0 else s) 0) ops.toList #[]
  intro j
  induction j using Nat.strongRecOn with
  | _ j ih =>
    intro o ho he i hi
    have hj := hF.2.2 j o (by simpa using ho)
    simp only [List.size_toArray, List.length_nil, Nat.zero_add] at hj
    rw [← hB] at hj
    rw [Array.getD_eq_getD_getElem?, hj, Option.getD_some] at hi
    rcases fold_or _ _ i _ _ hi with h | ⟨e, hmem, hp, hcase⟩
    · simp at h
    · have hon : S e.on := he e (by simpa using hmem) hp
      rcases hcase with rfl | hg
      · exact hon
      · have hlt : e.on < j := by
          apply Classical.byContradiction
          intro hge
          have hsz := (fold_push (fun acc (o : Oper) => o.after.toList.foldl (fun s e => if Region.binds .any e then s ||| 2 ^ e.on ||| acc.getD e.on 0 else s) 0) (ops.toList.take j) #[]).1
          have : (List.foldl (fun acc (o : Oper) => acc.push (o.after.toList.foldl (fun s e => if Region.binds .any e then s ||| 2 ^ e.on ||| acc.getD e.on 0 else s) 0)) #[] (ops.toList.take j)).size ≤ e.on := by
            rw [hsz]; simp; omega
          rw [Array.getD_eq_getD_getElem?, Array.getElem?_eq_none this] at hg
          simp at hg
        have hj' : e.on < ops.size := by
          have := (Array.getElem?_eq_some_iff.1 ho).1
          omega
        have hpre : ∀ k, k < j → (List.foldl (fun acc (o : Oper) => acc.push (o.after.toList.foldl (fun s e => if Region.binds .any e then s ||| 2 ^ e.on ||| acc.getD e.on 0 else s) 0)) #[] (ops.toList.take j))[k]? = (Region.before ops)[k]? := by
          intro k hk
          have hjs : j < ops.size := (Array.getElem?_eq_some_iff.1 ho).1
          obtain ⟨ok, hok⟩ : ∃ ok, ops.toList[k]? = some ok := ⟨ops.toList[k]'(by simp; omega), by simp⟩
          have e1 := hF.2.2 k ok hok
          have e2 := (fold_push (fun acc (o : Oper) => o.after.toList.foldl (fun s e => if Region.binds .any e then s ||| 2 ^ e.on ||| acc.getD e.on 0 else s) 0) (ops.toList.take j) #[]).2.2 k ok (by rw [List.getElem?_take, if_pos hk]; exact hok)
          simp only [List.size_toArray, List.length_nil, Nat.zero_add] at e1 e2
          rw [hB, e1, e2, List.take_take, Nat.min_eq_left (Nat.le_of_lt hk)]
        rw [Array.getD_eq_getD_getElem?, hpre _ hlt, ← Array.getD_eq_getD_getElem?] at hg
        exact ih e.on hlt ops[e.on] (by simp [hj']) (fun e' he' hp' => hS e.on ops[e.on] (by simp [hj']) hon e' he' hp') i hg

/-- may a region whose order is drawn be run in the order of its text? -/
def strictOk (ops : Array Oper) : Bool :=
  let b := Region.before ops
  let l := ops.toList.zipIdx
  l.all fun (p, j) => p.after.all (fun e => !Region.binds .any e || decide (e.on < j)) && l.all fun (o, i) => !decide (i < j) || (b.getD j 0).testBit i || looseOk ops o p

theorem strict_edge {ops : Array Oper} (h : strictOk ops = true) {j : Nat} {p : Oper} (hj : ops[j]? = some p) : ∀ e ∈ p.after, Region.binds .any e = true → e.on < j := by
  intro e he hb
  have h1 := List.all_eq_true.1 h (p, j) (by rw [List.mem_zipIdx_iff_getElem?]; simpa using hj)
  simp only [Bool.and_eq_true] at h1
  have h2 := (Array.all_eq_true'.1 h1.1) e he
  simp only [hb, Bool.not_true, Bool.false_or, decide_eq_true_eq] at h2
  exact h2

theorem strict_pair {ops : Array Oper} (h : strictOk ops = true) {i j : Nat} {o p : Oper} (hi : ops[i]? = some o) (hj : ops[j]? = some p) (hlt : i < j) :
    ((Region.before ops).getD j 0).testBit i = true ∨ looseOk ops o p = true := by
  have h1 := List.all_eq_true.1 h (p, j) (by rw [List.mem_zipIdx_iff_getElem?]; simpa using hj)
  simp only [Bool.and_eq_true] at h1
  have h2 := List.all_eq_true.1 h1.2 (o, i) (by rw [List.mem_zipIdx_iff_getElem?]; simpa using hi)
  simp only [hlt, decide_true, Bool.not_true, Bool.false_or, Bool.or_eq_true] at h2
  exact h2

/-- those that are not done -/
def rem (ops : Array Oper) (listed : Array Bool) : List (Oper × Nat) := ops.toList.zipIdx.filter fun x => !(listed.getD x.2 true)

theorem mem_rem {ops : Array Oper} {listed : Array Bool} {o : Oper} {i : Nat} : (o, i) ∈ rem ops listed ↔ ops[i]? = some o ∧ listed.getD i true = false := by
  unfold rem
  rw [List.mem_filter, List.mem_zipIdx_iff_getElem?]
  simp

theorem rem_sorted (ops : Array Oper) (listed : Array Bool) : ((rem ops listed).map (·.2)).Pairwise (· < ·) := by
  unfold rem
  have h : (ops.toList.zipIdx.map (·.2)).Pairwise (· < ·) := by
    rw [List.zipIdx_map_snd]
    exact List.pairwise_lt_range'
  exact List.Pairwise.sublist (List.Sublist.map _ List.filter_sublist) h

theorem region_any {P : Program} {call : CallS} (hcall : CallSim P call) {ops : Array Oper} (hok : strictOk ops = true) {ρ₀ : Rho} {h₀ : Heap} {w₀ : World} {af : Act} {hf : Heap} {Q : Exit → Act → World → Prop}
    (hQ : ∀ ρ a' w, ActR ρ af a' → Rel ρ hf w → Fr ρ₀ h₀ w₀ ρ hf w → Q .normal a' w) :
    ∀ (fuel : Nat) (listed : Array Bool) (s : Act × Heap) (ρ : Rho) (a' : Act) (w : World), listed.size = ops.size → (rem ops listed).length = fuel →
      (∀ (j : Nat) (o : Oper), ops[j]? = some o → listed.getD j false = true → ∀ e ∈ o.after, Region.binds .any e = true → listed.getD e.on false = true) →
      ActR ρ s.1 a' → Rel ρ s.2 w → Fr ρ₀ h₀ w₀ ρ s.2 w → (∀ x ∈ rem ops listed, ρ (h₀.next + x.2) = none ∧ h₀.next + x.2 < s.2.next) →
      runD P call ops h₀.next (rem ops listed) s = some (af, hf) → wpAny P .any ops Q fuel listed a' w := by
  have hready : ∀ (listed : Array Bool) (i : Nat), i ∈ Region.ready .any ops listed ↔ ∃ o, ops[i]? = some o ∧ listed.getD i true = false ∧ ∀ e ∈ o.after, Region.binds .any e = true → listed.getD e.on false = true := by
    intro listed i
    unfold Region.ready
    rw [List.mem_filter, List.mem_range]
    constructor
    · rintro ⟨hlt, h⟩
      simp only [Bool.and_eq_true, Bool.not_eq_true', Array.getElem?_eq_getElem hlt, Option.map_some, Option.getD_some] at h
      refine ⟨ops[i], by simp [hlt], h.1, fun e he hb => ?_⟩
      have := (Array.all_eq_true'.1 h.2) e he
      simpa [hb] using this
    · rintro ⟨o, ho, hl, he⟩
      refine ⟨(Array.getElem?_eq_some_iff.1 ho).1, ?_⟩
      simp only [ho, Option.map_some, Option.getD_some, Bool.and_eq_true, Bool.not_eq_true']
      refine ⟨hl, Array.all_eq_true'.2 fun e hm => ?_⟩
      by_cases hb : Region.binds .any e = true
      · simp [hb, he e hm hb]
      · simp [hb]
  intro fuel
  induction fuel with
  | zero =>
    intro listed s ρ a' w hsz hlen hcl ha hr hfr hun hrun
    have hnil := List.length_eq_zero_iff.1 hlen
    rw [hnil] at hrun
    simp only [runD, Option.some.injEq] at hrun
    subst hrun
    refine ⟨?_, hQ ρ a' w ha hr hfr⟩
    cases hrd : Region.ready .any ops listed with
    | nil => rfl
    | cons i l =>
      obtain ⟨o, ho, hl, _⟩ := (hready listed i).1 (by rw [hrd]; exact List.mem_cons_self ..)
      have : (o, i) ∈ rem ops listed := mem_rem.2 ⟨ho, hl⟩
      rw [hnil] at this
      cases this
  | succ fuel ih =>
    intro listed s ρ a' w hsz hlen hcl ha hr hfr hun hrun
    have hsort := rem_sorted ops listed
    refine ⟨fun hnone => ?_, fun i hi => ?_⟩
    · exfalso
      cases hrm : rem ops listed with
      | nil => rw [hrm] at hlen; cases hlen
      | cons x l =>
        obtain ⟨o, i⟩ := x
        have hmem : (o, i) ∈ rem ops listed := by rw [hrm]; exact List.mem_cons_self ..
        obtain ⟨ho, hl⟩ := mem_rem.1 hmem
        have : i ∈ Region.ready .any ops listed := by
          refine (hready listed i).2 ⟨o, ho, hl, fun e he hb => ?_⟩
          have hlt := strict_edge hok ho e he hb
          have hin : i < ops.size := (Array.getElem?_eq_some_iff.1 ho).1
          cases hb' : listed.getD e.on false with
          | true => rfl
          | false =>
            exfalso
            have h1 : ops[e.on]? = some ops[e.on] := by simp [Nat.lt_trans hlt hin]
            have h2 : listed.getD e.on true = false := by
              have : e.on < listed.size := by omega
              simp only [Array.getD, this, dif_pos] at hb' ⊢
              exact hb'
            have h3 : (ops[e.on], e.on) ∈ rem ops listed := mem_rem.2 ⟨h1, h2⟩
            rw [hrm] at h3 hsort
            simp only [List.map_cons, List.pairwise_cons] at hsort
            rcases List.mem_cons.1 h3 with e1 | e1
            · simp only [Prod.mk.injEq] at e1; omega
            · have := hsort.1 e.on (List.mem_map_of_mem (f := (·.2)) e1); omega
        rw [hnone] at this
        cases this
    · obtain ⟨o, ho, hl, hed⟩ := (hready listed i).1 hi
      have hmem : (o, i) ∈ rem ops listed := mem_rem.2 ⟨ho, hl⟩
      obtain ⟨L1, L2, hsplit⟩ := List.append_of_mem hmem
      have hsort' := hsort
      rw [hsplit] at hsort'
      simp only [List.map_append, List.map_cons, List.pairwise_append, List.pairwise_cons] at hsort'
      obtain ⟨hs1, ⟨hs2, hs3⟩, hs4⟩ := hsort'
      have hL1 : ∀ x ∈ L1, x.2 < i := fun x hx => hs4 x.2 (List.mem_map_of_mem (f := (·.2)) hx) i (List.mem_cons_self ..)
      have hL2 : ∀ x ∈ L2, i < x.2 := fun x hx => hs2 x.2 (List.mem_map_of_mem (f := (·.2)) hx)
      have hfront := runD_front hcall (ops := ops) (y := (o, i)) (L2 := L2) (r := (af, hf)) L1 s (fun k => ∃ x ∈ rem ops listed, x.2 = k) ⟨ρ, a', w, ha, hr, hfr, fun k ⟨x, hx, e⟩ => e ▸ hun x hx⟩ ⟨_, hmem, rfl⟩ (by
          intro x hx
          have hxm : x ∈ rem ops listed := by rw [hsplit]; exact List.mem_append_left _ hx
          have hlt := hL1 x hx
          refine ⟨⟨x, hxm, rfl⟩, Nat.ne_of_lt hlt, ?_⟩
          obtain ⟨p, k⟩ := x
          obtain ⟨hk, hkl⟩ := mem_rem.1 hxm
          rcases strict_pair hok hk ho hlt with hb | hb
          · exfalso
            have := before_closed ops (fun k => listed.getD k false = true) hcl i o ho hed k hb
            have hksz : k < listed.size := by rw [hsz]; exact (Array.getElem?_eq_some_iff.1 hk).1
            simp only [Array.getD, hksz, dif_pos] at this hkl
            rw [hkl] at this
            cases this
          · exact hb) (by
          have : (L1.map (·.2)).Pairwise (· < ·) := hs1
          exact this.imp fun h => Nat.ne_of_lt h) (by rw [← hsplit]; exact hrun)
      simp only [runD] at hfront
      cases hstep : stepD P call ops h₀.next (o, i) s with
      | none => rw [hstep] at hfront; cases hfront
      | some s' =>
        rw [hstep] at hfront
        have hisz : i < listed.size := by rw [hsz]; exact (Array.getElem?_eq_some_iff.1 ho).1
        have hrem' : rem ops (listed.setIfInBounds i true) = L1 ++ L2 := by
          have e1 : rem ops (listed.setIfInBounds i true) = (rem ops listed).filter fun x => !(x.2 == i) := by
            unfold rem
            rw [List.filter_filter]
            refine List.filter_congr fun x hx => ?_
            simp only [Array.getD_eq_getD_getElem?, Array.getElem?_setIfInBounds]
            by_cases e : i = x.2
            · subst e; simp [hisz]
            · rw [if_neg e]
              have : (x.2 == i) = false := by simp; exact fun h => e h.symm
              simp [this]
          rw [e1, hsplit, List.filter_append, List.filter_cons]
          have f1 : L1.filter (fun x => !(x.2 == i)) = L1 := List.filter_eq_self.2 fun x hx => by have := hL1 x hx; simp; omega
          have f2 : L2.filter (fun x => !(x.2 == i)) = L2 := List.filter_eq_self.2 fun x hx => by have := hL2 x hx; simp; omega
          rw [f1, f2]
          simp
        have hlen' : (rem ops (listed.setIfInBounds i true)).length = fuel := by
          rw [hrem']
          rw [hsplit] at hlen
          simp only [List.length_append, List.length_cons] at hlen ⊢
          omega
        have hcl' : ∀ (j : Nat) (p : Oper), ops[j]? = some p → (listed.setIfInBounds i true).getD j false = true → ∀ e ∈ p.after, Region.binds .any e = true → (listed.setIfInBounds i true).getD e.on false = true := by
          intro j p hp hj e he hb
          have grow : listed.getD e.on false = true → (listed.setIfInBounds i true).getD e.on false = true := by
            intro h
            simp only [Array.getD_eq_getD_getElem?, Array.getElem?_setIfInBounds] at h ⊢
            by_cases e1 : i = e.on
            · rw [if_pos e1, if_pos hisz]; rfl
            · rw [if_neg e1]; exact h
          by_cases e1 : j = i
          · subst e1
            rw [ho] at hp
            obtain rfl : o = p := by simpa using hp
            exact grow (hed e he hb)
          · refine grow (hcl j p hp ?_ e he hb)
            simp only [Array.getD_eq_getD_getElem?, Array.getElem?_setIfInBounds] at hj ⊢
            rw [if_neg (fun h => e1 h.symm)] at hj
            exact hj
        have hunx := hun _ hmem
        have hkeep : ∀ (ρ2 : Rho) (h2 : Heap), (∀ j, j < s.2.next → j ≠ h₀.next + i → ρ2 j = ρ j) → s.2.next ≤ h2.next → ∀ x ∈ rem ops (listed.setIfInBounds i true), ρ2 (h₀.next + x.2) = none ∧ h₀.next + x.2 < h2.next := by
          intro ρ2 h2 k1 k2 x hx
          have hx0 : x ∈ rem ops listed ∧ x.2 ≠ i := by
            rw [hrem'] at hx
            rcases List.mem_append.1 hx with hx | hx
            · exact ⟨by rw [hsplit]; exact List.mem_append_left _ hx, Nat.ne_of_lt (hL1 x hx)⟩
            · exact ⟨by rw [hsplit]; exact List.mem_append_right _ (List.mem_cons_of_mem _ hx), Nat.ne_of_gt (hL2 x hx)⟩
          obtain ⟨u1, u2⟩ := hun x hx0.1
          exact ⟨by rw [k1 _ u2 (by omega)]; exact u1, Nat.lt_of_lt_of_le u2 k2⟩
        unfold wpOp
        simp only [ho]
        rw [wanted_sim ha]
        unfold stepD at hstep
        by_cases hw : Region.wanted o (yielded ops s.1.tmps) = true
        · rw [if_pos hw] at hstep ⊢
          simp only [Option.map_eq_some_iff] at hstep
          obtain ⟨⟨v, h2⟩, hv, rfl⟩ := hstep
          left
          refine opD_sim hcall ha hr hfr hunx.1 hunx.2 hv fun w2 ρ2 v' k1 k2 k3 k4 k5 k6 => ?_
          exact ih _ _ ρ2 _ w2 (by simp [hsz]) hlen' hcl' ((ha.mono k4).put _ k1) k2 k3 (hkeep ρ2 h2 k5 k6) (by rw [hrem']; exact hfront)
        · rw [if_neg hw] at hstep ⊢
          obtain rfl : _ = s' := by simpa using hstep
          exact ih _ (s.1.put o.dst undef, s.2) ρ _ w (by simp [hsz]) hlen' hcl' (ha.put _ (.undef ρ)) hr hfr (hkeep ρ s.2 (fun _ _ _ => rfl) (Nat.le_refl _)) (by rw [hrem']; exact hfront)

end Go.Sh

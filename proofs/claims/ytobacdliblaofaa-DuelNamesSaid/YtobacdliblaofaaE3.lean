/- The shadow machine, part 3: the shadow's memory, how it stands to the machine's, loads, stores and new blocks. No condition. -/
import Derived.Test.YtobacdliblaofaaE2
namespace Go.Sh

/-- the shadow's memory: the blocks that are alive, by their names; the next name -/
structure Heap where
  at_ : Nat → Option (List Value)
  next : Nat

def Heap.set (h : Heap) (i : Nat) (c : List Value) : Heap := { h with at_ := fun j => if j = i then some c else h.at_ j }
def Heap.push (h : Heap) (c : List Value) : Heap := { at_ := fun j => if j = h.next then some c else h.at_ j, next := h.next + 1 }

/-- a live block and the machine's block -/
structure BR (ρ : Rho) (w : World) (i : Nat) (c : List Value) (l : Loc) (cs : Array Value) (T : TypeId) (fr : Nat × Nat) : Prop where
  name : ρ i = some l
  blk : w.heap[l.b]? = some (.cells cs T fr)
  size : cs.size = l.n
  thaw : fr.2 ≤ fr.1 ∨ l.n ≤ fr.1
  fits : l.d + c.length ≤ l.n
  cell : ∀ (j : Nat) (v : Value), c[j]? = some v → ∃ v', cs[l.d + j]? = some v' ∧ VR ρ v v'

structure Rel (ρ : Rho) (h : Heap) (w : World) : Prop where
  live : ∀ i c, h.at_ i = some c → ∃ l cs T fr, BR ρ w i c l cs T fr
  inj : ∀ i j ci cj li lj, i ≠ j → h.at_ i = some ci → h.at_ j = some cj → ρ i = some li → ρ j = some lj → li.b ≠ lj.b
  fresh : ∀ i, h.next ≤ i → ρ i = none ∧ h.at_ i = none
  low : ∀ i l, ρ i = some l → l.b < w.heap.size

/-- what else has become of the world: nothing -/
structure Fr (ρ : Rho) (h : Heap) (w : World) (ρ' : Rho) (h' : Heap) (w' : World) : Prop where
  le : ρ.le ρ'
  next : h.next ≤ h'.next
  new : ∀ i, i < h.next → ρ' i = ρ i
  size : w.heap.size ≤ w'.heap.size
  keep : ∀ b, b < w.heap.size → (∀ i c l, h.at_ i = some c → ρ i = some l → l.b ≠ b) → w'.heap[b]? = w.heap[b]?
  own : ∀ i c l, h'.at_ i = some c → ρ' i = some l → (∃ c₀, h.at_ i = some c₀ ∧ ρ i = some l) ∨ w.heap.size ≤ l.b
  ice : ∀ a, w'.frozen? a = w.frozen? a
  os : w'.os = w.os
  tape : w'.tape = w.tape
  output : w'.output = w.output

theorem Fr.refl (ρ : Rho) (h : Heap) (w : World) : Fr ρ h w ρ h w :=
  ⟨ρ.le_refl, Nat.le_refl _, fun _ _ => rfl, Nat.le_refl _, fun _ _ _ => rfl, fun _ c _ hc hl => .inl ⟨c, hc, hl⟩, fun _ => rfl, rfl, rfl, rfl⟩

theorem Fr.trans {ρ ρ₁ ρ₂ : Rho} {h h₁ h₂ : Heap} {w w₁ w₂ : World} (x : Fr ρ h w ρ₁ h₁ w₁) (y : Fr ρ₁ h₁ w₁ ρ₂ h₂ w₂) : Fr ρ h w ρ₂ h₂ w₂ := by
  refine ⟨Rho.le_trans x.le y.le, Nat.le_trans x.next y.next, fun i hi => (y.new i (Nat.lt_of_lt_of_le hi x.next)).trans (x.new i hi), Nat.le_trans x.size y.size, ?_, ?_,
    fun a => (y.ice a).trans (x.ice a), y.os.trans x.os, y.tape.trans x.tape, y.output.trans x.output⟩
  · intro b hb hnot
    rw [y.keep b (Nat.lt_of_lt_of_le hb x.size) ?_, x.keep b hb hnot]
    intro i c l hc hl e
    rcases x.own i c l hc hl with ⟨c₀, h0, h1⟩ | hge
    · exact hnot i c₀ l h0 h1 e
    · omega
  · intro i c l hc hl
    rcases y.own i c l hc hl with ⟨c₁, h1, h2⟩ | hge
    · exact x.own i c₁ l h1 h2
    · right; have := x.size; omega

/-! ### Loads -/

theorem run_loadCells_at {P : Program} {w : World} {b o n : Nat} {cs : Array Value} {T : TypeId} {fr : Nat × Nat} (hb : w.heap[b]? = some (.cells cs T fr)) (hn : o + n ≤ cs.size) :
    (loadCells ⟨b, o, none⟩ n).run P w = .ok (cs.extract o (o + n)) w := by
  have h := run_loadCells_list (P := P) w ⟨b, o, none⟩ (cs.extract o (o + n)).toList (fun j v hv => by
    have hadd : (⟨b, o, none⟩ : Addr).add j = ⟨b, o + j, none⟩ := by unfold Addr.add; split <;> simp_all
    rw [hadd, cell_of_row w b _ cs T fr hb]
    have hv' : (cs.extract o (o + n))[j]? = some v := by rw [← hv, Array.getElem?_toList]
    rw [Array.getElem?_extract] at hv'
    split at hv'
    · exact hv'
    · cases hv')
  have hl : (cs.extract o (o + n)).toList.length = n := by simp; omega
  rw [hl, Array.toArray_toList] at h
  exact h

theorem run_load_at {P : Program} {w : World} {b o : Nat} {cs : Array Value} {T : TypeId} {fr : Nat × Nat} {v : Value} (hb : w.heap[b]? = some (.cells cs T fr)) (hv : cs[o]? = some v) :
    (load ⟨b, o, none⟩).run P w = .ok v w := by
  rw [run_load, cell_of_row w b o cs T fr hb, hv]

/-- what a type is, to a load -/
def aggOf (P : Program) (t : TypeId) : Option (Bool × Nat) :=
  match P.underlying t, P.info? t with
  | some (.struct _), some i | some (.array _ _), some i => some (true, i.size)
  | some _, some i => some (false, i.size)
  | _, _ => none

theorem run_isAgg {P : Program} {t : TypeId} {g : Bool} {n : Nat} (h : aggOf P t = some (g, n)) (w : World) :
    (isAgg t).run P w = .ok g w ∧ (Go.sizeOf t).run P w = .ok n w := by
  unfold aggOf at h
  cases hu : P.underlying t with
  | none => simp [hu] at h
  | some d =>
    cases hi : P.info? t with
    | none => cases d <;> simp [hu, hi] at h
    | some i =>
      have hs : (Go.sizeOf t).run P w = .ok i.size w := by simp [Go.sizeOf, typeInfo, hi]
      cases d <;> simp [hu, hi] at h <;> obtain ⟨rfl, rfl⟩ := h <;> exact ⟨by simp [isAgg, run_underlying hu], hs⟩

def loadS (P : Program) (h : Heap) (t : TypeId) : Value → Option Value
  | .pointer (some ⟨i, o, none⟩) =>
    match h.at_ i, aggOf P t with
    | some c, some (true, n) => if o + n ≤ c.length then some (.agg ((c.drop o).take n).toArray) else none
    | some c, some (false, _) => c[o]?
    | _, _ => none
  | _ => none

theorem loadS_sim {P : Program} {ρ : Rho} {h : Heap} {w : World} (hr : Rel ρ h w) {t : TypeId} {p p' v : Value} (hp : VR ρ p p') (hl : loadS P h t p = some v) :
    ∃ v', (Instr.loadAt t p').run P w = .ok v' w ∧ VR ρ v v' := by
  unfold loadS at hl
  split at hl
  · rename_i i o
    cases hp with
    | bare hb => simp [bare] at hb
    | ptr hi =>
      rename_i l
      split at hl
      · rename_i c n hc hg
        split at hl
        · rename_i hle
          obtain rfl : _ = v := by simpa using hl
          obtain ⟨l', cs, T, fr, hB⟩ := hr.live _ _ hc
          obtain rfl : l = l' := by have := hB.name; rw [hi] at this; simpa using this
          have hf := hB.fits
          have hz := hB.size
          have hrun := run_loadCells_at (P := P) (n := n) (o := l.d + o) hB.blk (by omega)
          refine ⟨.agg (cs.extract (l.d + o) (l.d + o + n)), ?_, ?_⟩
          · simp [Instr.loadAt, Instr.sureAddr, loadVar, (run_isAgg hg w).1, (run_isAgg hg w).2, hrun]
          · refine .agg (by simp; omega) fun j u u' a b => ?_
            simp only [List.getElem?_toArray, List.getElem?_take, List.getElem?_drop] at a
            split at a
            · rename_i hjn
              obtain ⟨u'', hu, hvr⟩ := hB.cell (o + j) u (by simpa using a)
              rw [Array.getElem?_extract] at b
              split at b
              · rw [Nat.add_assoc, hu] at b
                obtain rfl : u'' = u' := by simpa using b
                exact hvr
              · cases b
            · cases a
        · cases hl
      · rename_i c n hc hg
        obtain ⟨l', cs, T, fr, hB⟩ := hr.live _ _ hc
        obtain rfl : l = l' := by have := hB.name; rw [hi] at this; simpa using this
        obtain ⟨v', hv', hvr⟩ := hB.cell o v hl
        refine ⟨v', ?_, hvr⟩
        simp [Instr.loadAt, Instr.sureAddr, loadVar, (run_isAgg hg w).1, cell_of_row w l.b _ cs T fr hB.blk, hv']
      · cases hl
  · cases hl

/-! ### Stores -/

def spliceA (cs : Array Value) : Nat → List Value → Array Value
  | _, [] => cs
  | o, v :: r => spliceA (cs.setIfInBounds o v) (o + 1) r

theorem spliceA_size : ∀ (vs : List Value) (o : Nat) (cs : Array Value), (spliceA cs o vs).size = cs.size
  | [], _, _ => rfl
  | v :: r, o, cs => by simp [spliceA, spliceA_size r]

theorem spliceA_get : ∀ (vs : List Value) (o : Nat) (cs : Array Value) (j : Nat), o + vs.length ≤ cs.size →
    (spliceA cs o vs)[j]? = if o ≤ j ∧ j < o + vs.length then vs[j - o]? else cs[j]?
  | [], o, cs, j, _ => by simp [spliceA]; intro h1 h2; omega
  | v :: r, o, cs, j, h => by
    simp only [List.length_cons] at h
    rw [spliceA, spliceA_get r (o + 1) _ j (by simp; omega), Array.getElem?_setIfInBounds]
    by_cases hj : j = o
    · subst hj
      rw [if_neg (by omega), if_pos rfl, if_pos (by omega), if_pos (by simp only [List.length_cons]; omega)]
      simp
    · by_cases hin : o + 1 ≤ j ∧ j < o + 1 + r.length
      · rw [if_pos hin, if_pos (by simp only [List.length_cons]; omega)]
        obtain ⟨k, rfl⟩ : ∃ k, j = o + 1 + k := ⟨j - (o + 1), by omega⟩
        rw [show o + 1 + k - o = k + 1 by omega, show o + 1 + k - (o + 1) = k by omega]
        simp
      · rw [if_neg hin, if_neg (fun e => hj e.symm), if_neg (by simp only [List.length_cons]; omega)]

theorem setRow_same {w : World} {b : Nat} {cs : Array Value} {T : TypeId} {fr : Nat × Nat} (hb : w.heap[b]? = some (.cells cs T fr)) : w.setRow b cs = w := by
  have h : (w.setRow b cs).heap = w.heap := by
    apply Array.ext (by simp)
    intro j h1 h2
    have hj : (w.setRow b cs).heap[j]? = w.heap[j]? := by
      by_cases hbj : j = b
      · subst hbj; rw [setRow_heap w j cs cs T fr hb, hb]
      · exact setRow_other w b j cs hbj
    rw [Array.getElem?_eq_getElem h1, Array.getElem?_eq_getElem h2] at hj
    simpa using hj
  calc w.setRow b cs = { w with heap := (w.setRow b cs).heap } := rfl
    _ = w := by rw [h]

theorem run_storeCells_at {P : Program} {b : Nat} {T : TypeId} {fr : Nat × Nat} :
    ∀ (vs : List Value) (i o : Nat) (cs : Array Value) (w : World), w.heap[b]? = some (.cells cs T fr) → o + i + vs.length ≤ cs.size → (fr.2 ≤ fr.1 ∨ cs.size ≤ fr.1) →
      (∀ v ∈ vs, v.oneCell' = true) → (storeCells ⟨b, o, none⟩ vs i).run P w = .ok () (w.setRow b (spliceA cs (o + i) vs))
  | [], i, o, cs, w, hb, _, _, _ => by
    simp only [storeCells, Sem.run_pure, spliceA]
    have : w.setRow b cs = w := setRow_same hb
    rw [this]
  | v :: r, i, o, cs, w, hb, hle, hfr, hone => by
    simp only [List.length_cons] at hle
    have hadd : (⟨b, o, none⟩ : Addr).add i = ⟨b, o + i, none⟩ := by unfold Addr.add; split <;> simp_all
    have hcell : w.cell? ⟨b, o + i, none⟩ = some cs[o + i] := by rw [cell_of_row w b _ cs T fr hb]; simp
    have hthaw : w.frozen? ⟨b, o + i, none⟩ = false := by
      obtain ⟨lo, hi⟩ := fr
      simp only [World.frozen?, hb]
      simp only [Bool.and_eq_false_iff, decide_eq_false_iff_not]
      simp only at hfr
      omega
    rw [storeCells, Sem.run_bind, hadd, run_store P w _ v .plain (hone v (List.mem_cons_self ..)), hcell]
    simp only [hthaw, Bool.false_eq_true, if_false, Result.andThen_ok]
    have hset := setCell_eq_setRow w b (o + i) cs T fr v hb
    rw [hset, run_storeCells_at r (i + 1) o (cs.setIfInBounds (o + i) v) (w.setRow b (cs.setIfInBounds (o + i) v)) (setRow_heap w b cs _ T fr hb) (by simp; omega) (by simpa using hfr)
      (fun u hu => hone u (List.mem_cons_of_mem _ hu)), setRow_setRow]
    rfl

def one (v : Value) : Bool := v.oneCell'

theorem VR.one {ρ : Rho} {v v' : Value} (h : VR ρ v v') (ho : Sh.one v = true) : v'.oneCell' = true := by
  cases h <;> first | rfl | exact ho | (simp [Sh.one, Value.oneCell'] at ho)

def spliceL (c : List Value) (o : Nat) (vs : List Value) : List Value := c.take o ++ vs ++ c.drop (o + vs.length)

theorem spliceL_length {c : List Value} {o : Nat} {vs : List Value} (h : o + vs.length ≤ c.length) : (spliceL c o vs).length = c.length := by
  simp [spliceL]; omega

theorem spliceL_get {c : List Value} {o : Nat} {vs : List Value} (h : o + vs.length ≤ c.length) (j : Nat) :
    (spliceL c o vs)[j]? = if o ≤ j ∧ j < o + vs.length then vs[j - o]? else c[j]? := by
  have ht : (c.take o).length = o := by simp; omega
  unfold spliceL
  rw [List.append_assoc, List.getElem?_append, ht]
  by_cases h1 : j < o
  · rw [if_pos h1, if_neg (by omega), List.getElem?_take, if_pos h1]
  · rw [if_neg h1, List.getElem?_append]
    by_cases h2 : j - o < vs.length
    · rw [if_pos h2, if_pos (by omega)]
    · rw [if_neg h2, if_neg (by omega), List.getElem?_drop]
      congr 1; omega

def storeS (P : Program) (h : Heap) (t : TypeId) (p v : Value) : Option Heap :=
  match p, P.info? t with
  | .pointer (some ⟨i, o, none⟩), some inf =>
    match h.at_ i with
    | some c => if v.cells.size = inf.size ∧ o + v.cells.size ≤ c.length ∧ v.cells.toList.all one = true then some (h.set i (spliceL c o v.cells.toList)) else none
    | none => none
  | _, _ => none

theorem setRow_drawn' (w : World) (g : Nat) (cs : Array Value) : (w.setRow g cs).drawn = w.drawn := rfl

theorem storeS_sim {P : Program} {ρ : Rho} {h h' : Heap} {w : World} (hr : Rel ρ h w) {t : TypeId} {p p' v v' : Value} (hp : VR ρ p p') (hv : VR ρ v v')
    (hl : storeS P h t p v = some h') :
    ∃ w', (Instr.storeAt t p' v').run P w = .ok () w' ∧ Rel ρ h' w' ∧ Fr ρ h w ρ h' w' := by
  unfold storeS at hl
  split at hl
  · rename_i i o inf hinf
    split at hl
    · rename_i c hc
      split at hl
      · rename_i hcond
        obtain ⟨hsz, hfit, hone⟩ := hcond
        obtain rfl : _ = h' := by simpa using hl
        cases hp with
        | bare hb => simp [bare] at hb
        | ptr hi =>
          rename_i l
          obtain ⟨l', cs, T, fr, hB⟩ := hr.live _ _ hc
          obtain rfl : l = l' := by have := hB.name; rw [hi] at this; simpa using this
          have hcs := hv.cells
          have hf := hB.fits
          have hz := hB.size
          have hlen : v'.cells.toList.length = v.cells.size := by simp [hcs.1]
          have hrun := run_storeCells_at (P := P) v'.cells.toList 0 (l.d + o) cs w hB.blk (by omega) (by rw [hz]; exact hB.thaw) (by
            intro u hu
            obtain ⟨j, hj, rfl⟩ := List.mem_iff_getElem.1 hu
            have hj' : j < v.cells.size := by omega
            have h1 : v.cells[j]? = some v.cells[j] := by simp [hj']
            have h2 : v'.cells[j]? = some (v'.cells.toList[j]) := by
              rw [← Array.getElem?_toList, List.getElem?_eq_getElem hj]
            exact (hcs.2 j _ _ h1 h2).one (List.all_eq_true.1 hone _ (by simp)))
          simp only [Nat.add_zero] at hrun
          refine ⟨w.setRow l.b (spliceA cs (l.d + o) v'.cells.toList), ?_, ?_, ?_⟩
          · have hs : (Go.sizeOf t).run P w = .ok inf.size w := by simp [Go.sizeOf, typeInfo, hinf]
            have hne : v'.cells.size = inf.size := by rw [← hcs.1, hsz]
            simp [Instr.storeAt, Instr.sureAddr, storeVar, hs, hne, hrun]
          · constructor
            · intro i' c' hc'
              simp only [Heap.set] at hc'
              by_cases hii : i' = i
              · subst hii
                rw [if_pos rfl] at hc'
                obtain rfl : _ = c' := by simpa using hc'
                refine ⟨l, _, T, fr, hi, setRow_heap w l.b cs _ T fr hB.blk, by rw [spliceA_size, hz], hB.thaw, by rw [spliceL_length (by simpa using hfit)]; exact hf, ?_⟩
                intro j u hu
                rw [spliceL_get (by simpa using hfit)] at hu
                rw [spliceA_get _ _ _ _ (by omega)]
                split at hu
                · rename_i hin
                  simp only [Array.length_toList] at hin
                  rw [if_pos (by omega)]
                  rw [Array.getElem?_toList] at hu
                  obtain ⟨u', hu', hvr⟩ := hcs.get hu
                  refine ⟨u', ?_, hvr⟩
                  rw [show l.d + j - (l.d + o) = j - o by omega, Array.getElem?_toList]
                  exact hu'
                · rename_i hin
                  simp only [Array.length_toList] at hin
                  rw [if_neg (by omega)]
                  exact hB.cell j u hu
              · rw [if_neg hii] at hc'
                obtain ⟨l2, cs2, T2, fr2, hB2⟩ := hr.live _ _ hc'
                have hne := hr.inj i' i _ _ l2 l hii hc' hc hB2.name hi
                exact ⟨l2, cs2, T2, fr2, hB2.name, by rw [setRow_other w l.b l2.b _ hne]; exact hB2.blk, hB2.size, hB2.thaw, hB2.fits, hB2.cell⟩
            · intro a b ca cb la lb hab ha hb hla hlb
              simp only [Heap.set] at ha hb
              have ha' : ∃ c, h.at_ a = some c := by
                by_cases e : a = i
                · exact ⟨c, e ▸ hc⟩
                · rw [if_neg e] at ha; exact ⟨_, ha⟩
              have hb' : ∃ c, h.at_ b = some c := by
                by_cases e : b = i
                · exact ⟨c, e ▸ hc⟩
                · rw [if_neg e] at hb; exact ⟨_, hb⟩
              obtain ⟨_, ha'⟩ := ha'
              obtain ⟨_, hb'⟩ := hb'
              exact hr.inj a b _ _ la lb hab ha' hb' hla hlb
            · intro j hj
              obtain ⟨h1, h2⟩ := hr.fresh j hj
              refine ⟨h1, ?_⟩
              simp only [Heap.set]
              rw [if_neg (by rintro rfl; rw [hc] at h2; cases h2)]
              exact h2
            · intro j lj hj
              rw [setRow_size]
              exact hr.low j lj hj
          · refine ⟨ρ.le_refl, Nat.le_refl _, fun _ _ => rfl, by rw [setRow_size]; exact Nat.le_refl _, fun b hb hnot => ?_, ?_, fun a => ?_, rfl, rfl, rfl⟩
            · exact setRow_other w l.b b _ (fun e => hnot i c l hc hi e.symm)
            · intro j cj lj hcj hlj
              left
              simp only [Heap.set] at hcj
              by_cases e : j = i
              · subst e; exact ⟨c, hc, hlj⟩
              · rw [if_neg e] at hcj; exact ⟨cj, hcj, hlj⟩
            · by_cases e : a.block = l.b
              · simp only [World.frozen?, e, setRow_heap w l.b cs _ T fr hB.blk, hB.blk]
              · simp only [World.frozen?, setRow_other w l.b a.block _ e]
      · cases hl
    · cases hl
  · cases hl

/-! ### New blocks -/

def bump (ρ : Rho) (i : Nat) (l : Loc) : Rho := fun j => if j = i then some l else ρ j

theorem bump_le {ρ : Rho} {i : Nat} {l : Loc} (h : ρ i = none) : ρ.le (bump ρ i l) := by
  intro j lj hj
  unfold bump
  split
  · rename_i e; subst e; rw [h] at hj; cases hj
  · exact hj

theorem frozen?_alloc' (w : World) (c : Array Value) (t : TypeId) (a : Addr) : (w.alloc (.cells c t)).frozen? a = w.frozen? a := by
  by_cases h : a.block = w.heap.size
  · have e1 : (w.alloc (.cells c t)).heap[a.block]? = some (.cells c t) := by rw [h]; exact heap_alloc_new w _
    have e2 : w.heap[a.block]? = none := by rw [h]; simp
    simp [World.frozen?, e1, e2]
  · exact World.frozen?_alloc_old _ _ _ h

theorem push_sim {ρ : Rho} {h : Heap} {w : World} (hr : Rel ρ h w) {c : List Value} {cs : Array Value} (T : TypeId) (hlen : c.length ≤ cs.size)
    (hv : ∀ (j : Nat) (v : Value), c[j]? = some v → ∃ v', cs[j]? = some v' ∧ VR ρ v v') :
    Rel (bump ρ h.next ⟨w.heap.size, 0, cs.size⟩) (h.push c) (w.alloc (.cells cs T)) ∧ Fr ρ h w (bump ρ h.next ⟨w.heap.size, 0, cs.size⟩) (h.push c) (w.alloc (.cells cs T)) := by
  have hnone : ρ h.next = none := (hr.fresh _ (Nat.le_refl _)).1
  have hle : ρ.le (bump ρ h.next ⟨w.heap.size, 0, cs.size⟩) := bump_le hnone
  have hold : ∀ {i : Nat} {l : Loc}, bump ρ h.next ⟨w.heap.size, 0, cs.size⟩ i = some l → i ≠ h.next → ρ i = some l := by
    intro i l hi hne
    simpa [bump, hne] using hi
  refine ⟨⟨?_, ?_, ?_, ?_⟩, ⟨hle, Nat.le_succ _, fun i hi => by simp [bump, Nat.ne_of_lt hi], by simp, fun b hb _ => heap_alloc_old w _ b hb, ?_, frozen?_alloc' w cs T, rfl, rfl, rfl⟩⟩
  · intro i c' hc'
    simp only [Heap.push] at hc'
    by_cases hi : i = h.next
    · subst hi
      rw [if_pos rfl] at hc'
      obtain rfl : c = c' := by simpa using hc'
      refine ⟨⟨w.heap.size, 0, cs.size⟩, cs, T, (0, 0), by simp [bump], heap_alloc_new w _, rfl, .inl (Nat.le_refl _), by simpa using hlen, ?_⟩
      intro j v hj
      obtain ⟨v', h1, h2⟩ := hv j v hj
      exact ⟨v', by simpa using h1, h2.mono hle⟩
    · rw [if_neg hi] at hc'
      obtain ⟨l, cs2, T2, fr2, hB⟩ := hr.live _ _ hc'
      refine ⟨l, cs2, T2, fr2, hle _ _ hB.name, ?_, hB.size, hB.thaw, hB.fits, fun j v hj => ?_⟩
      · rw [heap_alloc_old w _ l.b (hr.low _ _ hB.name)]; exact hB.blk
      · obtain ⟨v', h1, h2⟩ := hB.cell j v hj
        exact ⟨v', h1, h2.mono hle⟩
  · intro i j ci cj li lj hij hi hj hli hlj
    simp only [Heap.push] at hi hj
    by_cases ei : i = h.next
    · subst ei
      have ej : j ≠ h.next := fun e => hij e.symm
      have hlj' := hold hlj ej
      have hli' : li = ⟨w.heap.size, 0, cs.size⟩ := by simpa [bump, eq_comm] using hli
      subst hli'
      have := hr.low _ _ hlj'
      show w.heap.size ≠ lj.b
      omega
    · by_cases ej : j = h.next
      · subst ej
        have hli' := hold hli ei
        have hlj' : lj = ⟨w.heap.size, 0, cs.size⟩ := by simpa [bump, eq_comm] using hlj
        subst hlj'
        have := hr.low _ _ hli'
        show li.b ≠ w.heap.size
        omega
      · rw [if_neg ei] at hi
        rw [if_neg ej] at hj
        exact hr.inj i j ci cj li lj hij hi hj (hold hli ei) (hold hlj ej)
  · intro i hi
    have hi' : h.next + 1 ≤ i := hi
    obtain ⟨h1, h2⟩ := hr.fresh i (by omega)
    have hne : i ≠ h.next := by omega
    exact ⟨by simp [bump, hne, h1], by simp [Heap.push, hne, h2]⟩
  · intro i l hi
    by_cases hne : i = h.next
    · subst hne
      have : l = ⟨w.heap.size, 0, cs.size⟩ := by simpa [bump, eq_comm] using hi
      subst this
      simp
    · have := hr.low _ _ (hold hi hne)
      simp; omega
  · intro i ci li hi hli
    by_cases hne : i = h.next
    · subst hne
      have : li = ⟨w.heap.size, 0, cs.size⟩ := by simpa [bump, eq_comm] using hli
      subst this
      exact .inr (Nat.le_refl _)
    · left
      simp only [Heap.push] at hi
      rw [if_neg hne] at hi
      exact ⟨ci, hi, hold hli hne⟩

end Go.Sh

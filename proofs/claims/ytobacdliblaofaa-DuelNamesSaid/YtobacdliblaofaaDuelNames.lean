/- 'DuelNames' holds: called without an argument in whatever memory, on every schedule, the law returns true and leaves what there was as it was. No condition. The way: the shadow machine (parts 1 to 9), whose run on this law the kernel reckons out, and the theorem that the machine does what its shadow does. -/
import Derived.Test.YtobacdliblaofaaE9
import Derived.Test.YtobacdliblaofaaRows
import Derived.WalkKit
import Derived.ProofKit
import Derived.OpenShut
namespace Go.Proofs.Ytobacdliblaofaa.duelNames
open Go.ChangeShapes Go.WideShapes Go.ChangeAt Go.RowKit

set_option linter.unusedVariables false

theorem own : ownKnob Try.prog.godebug = none := by kernel_rfl

def isTrue : Option (Value × Sh.Heap) → Bool
  | some (.bool true, _) => true
  | _ => false

theorem isTrue_some {r : Option (Value × Sh.Heap)} (h : isTrue r = true) : ∃ k, r = some (.bool true, k) := by
  unfold isTrue at h
  split at h
  · exact ⟨_, rfl⟩
  · cases h

theorem shadow : isTrue (Sh.callS Try.prog 100 20 3 #[] Sh.empty) = true := by kernel_rfl

theorem walk (w : World) : Calls Try.prog 3 #[] w fun e w' => e = .returned (.bool true) ∧ Grown w w' := by
  obtain ⟨k, hk⟩ := isTrue_some shadow
  refine (Sh.callS_sim Try.checked.mixed 100 20 3 #[] Sh.empty _ k hk (fun _ => none) w #[] (Sh.rel_empty w) (Sh.VRs.nil _)).mono fun e w' ⟨v', ρ', he, hv, _, hf⟩ => ?_
  refine ⟨by rw [he, hv.still rfl], ⟨hf.os, hf.output, fun i hi => ?_⟩, hf.ice, hf.size⟩
  have h : w'.heap[i]? = w.heap[i]? := hf.keep i hi (fun j c l hc _ => by simp [Sh.empty] at hc)
  rw [h]
  split
  · rename_i x y
    rw [x] at y
    simp only [Option.some.injEq, Obj.cells.injEq] at y
    obtain ⟨rfl, rfl, rfl⟩ := y
    exact ⟨rfl, rfl, rfl, fun _ _ => rfl⟩
  · rename_i x y
    rw [x] at y
    simp only [Option.some.injEq, Obj.map.injEq] at y
    obtain ⟨rfl, rfl⟩ := y
    exact .inr ⟨rfl, rfl⟩
  · rfl

/-! ### The row's step -/
set_option maxRecDepth 100000 in
theorem lifted (os : Os) (started : os.Started) (H : Type) (enc : TypeId × Value → H) :
    ReturnsInHanded {} Try.checked os 3 .any (Rows.duelNamesSpec.pre6 enc Try.prog Try.f3 Rows.duelNamesRow.domain false) (Rows.duelNamesSpec.post enc Try.prog Try.f3 false true false false) := by
  refine returnsInHanded_of_change (C := Try.checked) own started (by kernel_rfl) Try.func3
    (ChangeSpec.witness6 (enc := enc) (C := Try.checked) false ⟨#[], #[], []⟩ 8 (by kernel_rfl) (by kernel_rfl) (by kernel_rfl) (by kernel_rfl)) ?_
  intro W base args ds gs before hval0 hW hcnd _
  have hval : ∀ (j : Nat) t v, Try.f3.params[j]? = some t → args[j]? = some v → Value.okWide Try.prog W .any base t v := hval0
  have hW' := hW
  obtain ⟨p, q, hA0, hV, rfl, hfz, hnd⟩ := hW
  have hA : DataW.TrodAll enc Try.prog W 0 (fun _ => true) true Try.f3.params.toList args.toList ds p := hA0
  rw [Try.params3] at hA hval
  obtain ⟨rfl, rfl, rfl⟩ := trodAll_none hA
  obtain ⟨rfl, rfl⟩ := trodVars_none hV
  clear hA0 hval0
  simp only [List.append_nil] at hW'
  refine (walk  W).mono fun e W' ⟨he, hg⟩ => ?_
  subst he
  exact ⟨_, rfl, post_of_same (pa := []) (pv := []) hW' (fun _ _ _ => (trodAll_cons_mk (shut_bool Try.underlying4 _) trodAll_mk0)) (fun sp _ => rfl) (fun _ _ => rfl) rfl
    (hg.frame _) hg.2.1 (ok_one (by kernel_rfl) rfl (okWide_bool_mk Try.underlying4 _))⟩

theorem over : Rows.duelNamesRow.holds Try.pinned (OpenSpec.ofChange Rows.duelNamesSpec) :=
  OpenClaim.holds_of_wide 3 Try.f3 rfl rfl rfl rfl rfl rfl rfl ⟨rfl, rfl, rfl, rfl, rfl⟩ rfl rfl rfl rfl rfl (by kernel_rfl) Try.func3 (by kernel_rfl)
    (of_decide_eq_true (by kernel_rfl)) (by unfold Func.isWrapper; first | (rw [if_pos (by decide +kernel)]; kernel_rfl) | (rw [if_neg (by decide +kernel)]; exact ⟨rfl, rfl⟩))
    (fun os started H enc _ => lifted os started H enc)

/-- the statement -/
theorem proved : Rows.DuelNamesSaid :=
  over

end Go.Proofs.Ytobacdliblaofaa.duelNames

namespace Go.Proofs.Ytobacdliblaofaa

theorem DuelNames_holds : Rows.DuelNamesSaid := duelNames.proved

#print axioms DuelNames_holds

end Go.Proofs.Ytobacdliblaofaa

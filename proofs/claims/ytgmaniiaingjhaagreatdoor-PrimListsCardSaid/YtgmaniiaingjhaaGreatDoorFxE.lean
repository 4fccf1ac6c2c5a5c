/- From a run that is reckoned to a call in the model. -/
import Derived.Test.YtgmaniiaingjhaaGreatDoorFxD
import Derived.Test.YtgmaniiaingjhaaGreatDoorDgR8
namespace Go.Dg
open Go Go.RowKit
noncomputable section

/-! a value that names no memory -/
mutual
def scal : V → Bool
  | .bool _ | .int _ _ | .str _ _ | .nilp | .nils | .nilm | .nilf | .nili => true
  | .agg l => scalL l
  | .tuple l => scalL l
  | _ => false
def scalL : List V → Bool
  | [] => true
  | v :: l => scal v && scalL l
end
mutual
theorem VR_scal {E E' : Env} : ∀ (v : V) {x : Value}, scal v = true → VR E v x → VR E' v x
  | .bool _, _, _, h | .int _ _, _, _, h | .nilp, _, _, h | .nils, _, _, h | .nilm, _, _, h | .nilf, _, _, h | .nili, _, _, h => by simpa [VR] using h
  | .str _ _, _, _, h => by simpa [VR] using h
  | .agg l, _, hs, h => by
    simp only [scal] at hs; simp only [VR] at h ⊢
    obtain ⟨a, rfl, h⟩ := h; exact ⟨a, rfl, LR_scal l hs h⟩
  | .tuple l, _, hs, h => by
    simp only [scal] at hs; simp only [VR] at h ⊢
    obtain ⟨a, rfl, h⟩ := h; exact ⟨a, rfl, LR_scal l hs h⟩
  | .ptr _ _, _, hs, _ | .slice _ _ _ _, _, hs, _ | .map _, _, hs, _ | .func _ _ _, _, hs, _ | .iface _ _, _, hs, _ => by simp [scal] at hs
theorem LR_scal {E E' : Env} : ∀ (l : List V) {xs : List Value}, scalL l = true → LR E l xs → LR E' l xs
  | [], _, _, h => by simpa [LR] using h
  | v :: l, _, hs, h => by
    simp only [scalL, Bool.and_eq_true] at hs
    simp only [LR] at h ⊢
    obtain ⟨x, xs, rfl, h1, h2⟩ := h
    exact ⟨x, xs, rfl, VR_scal v hs.1 h1, LR_scal l hs.2 h2⟩
end
def E0 : Env := fun _ => none
def σ0 : St := ⟨.leaf, 0⟩
theorem Rel0 (w : World) : Rel E0 σ0 w := ⟨fun id o p h _ => by simp [σ0] at h, fun i j o o' p q h => by simp [σ0] at h, fun _ _ => rfl⟩
theorem Step.toBelow {E' : Env} {σ' : St} {w w' : World} (h : Step E0 σ0 w E' σ' w') : Below w.heap.size w w' :=
  ⟨h.os, h.tape, h.output, h.size, fun b hb => h.frame b hb fun ⟨id, o, p, h1, _⟩ => by simp [σ0] at h1⟩
variable {P : Program}
theorem known_of {B : Beside} (hB : Fits P B) {F n : Nat} {f : FuncId} {args : List V} {v : V} {σ' : St} (h : callA P B F n f args σ0 = some (v, σ')) (hv : scal v = true) (ha : scalL args = true) :
    ∀ E w xs, LR E args xs → Calls P f xs.toArray w fun e w' => ∃ x, e = .returned x ∧ VR E v x ∧ Below w.heap.size w w' := by
  intro E w xs hl
  refine (calls_ok hB F n f args σ0 v σ' h E0 w xs (Rel0 w) (LR_scal args ha hl)).mono fun e w' he => ?_
  obtain ⟨x, h1, E', hs, hx⟩ := he
  exact ⟨x, h1, VR_scal v hv hx, hs.toBelow⟩
/-- no function of the program bears the one name that the model treats by itself -/
theorem named_of (h : (P.funcs.toList.all fun fn => !(fn.name == "runtime.NumGoroutine")) = true) : ∀ (f : FuncId) (fn : Func), P.funcs[f]? = some fn → (fn.name == "runtime.NumGoroutine") = false := by
  intro f fn hf
  have := List.all_eq_true.1 h fn (Array.mem_toList_iff.2 (Array.mem_of_getElem? hf))
  simpa using this
end
end Go.Dg

/- The statements' fixed answer, and what is known of small functions. -/
import Derived.Test.YtgmaniiaingjhaaGreatDoorPlC
import Derived.Test.YtgmaniiaingjhaaGreatDoorFxE
namespace Go.Dg
open Go Go.Proofs
noncomputable section
def B0 : Beside := { ext := fun _ _ => none, harm := fun _ => false }
def isT : Option (V × St) → Bool
  | some (.bool b, _) => b
  | _ => false
theorem isT_spec {x : Option (V × St)} (h : isT x = true) : ∃ σ', x = some (.bool true, σ') := by
  unfold isT at h; split at h
  · subst h; exact ⟨_, rfl⟩
  · cases h
set_option maxRecDepth 1000000 in
theorem awake_run : isT (callA P B0 1000 60 16 [] σ0) = true := by decide +kernel
theorem names_ok : (P.funcs.toList.all fun fn => !(fn.name == "runtime.NumGoroutine")) = true := by kernel_rfl
theorem fits0 : Fits P B0 := ⟨named_of names_ok, (fun f args v h => by cases h), (fun f args v h => by cases h), (fun f h => by cases h)⟩
theorem fits1 : Fits P B1 := by
  refine ⟨named_of names_ok, (fun f args v h => by cases h), fun f args v h => ?_, (fun f h => by cases h)⟩
  have h' : knownA f args = some v := h
  unfold knownA at h'
  cases hf : Nat.beq f 16 with
  | false => rw [hf] at h'; cases h'
  | true =>
    rw [hf] at h'
    have := Nat.eq_of_beq_eq_true hf; subst this
    cases args with
    | cons a l => simp at h'
    | nil =>
      simp only [cond_true, Option.some.injEq] at h'; subst h'
      obtain ⟨σ', hr⟩ := isT_spec awake_run
      exact known_of fits0 hr rfl rfl
/-- what Get tells -/
def getOf (i : Int) : V := if 0 ≤ i ∧ i < 92 then .tuple [.agg [.str (nlA i.toNat) (ncA i.toNat), .int .i64 (leA i.toNat), .int .i64 (moA i.toNat)], .bool true] else .tuple [.agg [.str 0 0, .int .i64 0, .int .i64 0], .bool false]
def knownB (f : FuncId) (args : List V) : Option V :=
  match f, args with
  | 16, [] => some (.bool true)
  | 18, [.str nl nc] => some (.int .i64 (numOf nl nc))
  | 26, [.int .i64 i] => some (getOf i)
  | 27, [.int .i64 i] => some (.bool (decide (85 ≤ i ∧ i < 92)))
  | _, _ => none
def B2 : Beside := { ext := fun _ _ => none, harm := fun _ => false, known := knownB }
theorem fits2 : Fits P B2 := by
  refine ⟨named_of names_ok, (fun f args v h => by cases h), fun f args v h => ?_, (fun f h => by cases h)⟩
  have h' : knownB f args = some v := h
  unfold knownB at h'
  split at h'
  · obtain ⟨σ', hr⟩ := isT_spec awake_run
    simp only [Option.some.injEq] at h'; subst h'
    exact known_of fits0 hr rfl rfl
  · rename_i nl nc
    simp only [Option.some.injEq] at h'; subst h'
    obtain ⟨σ', hr, _⟩ := number_eq 93 0 nl nc σ0 (by omega)
    exact known_of fits1 hr rfl rfl
  · rename_i i
    simp only [Option.some.injEq] at h'; subst h'
    unfold getOf
    by_cases hi : 0 ≤ i ∧ i < 92
    · rw [if_pos hi]
      obtain ⟨j, rfl⟩ := Int.eq_ofNat_of_zero_le hi.1
      obtain ⟨σ', hr, _⟩ := get_yes 0 0 j σ0 (by omega)
      exact known_of fits1 hr rfl rfl
    · rw [if_neg hi]
      obtain ⟨σ', hr, _⟩ := get_no 0 0 i σ0 (by omega)
      exact known_of fits1 hr rfl rfl
  · rename_i i
    simp only [Option.some.injEq] at h'; subst h'
    obtain ⟨σ', hr, _⟩ := control_eq 0 0 i σ0
    exact known_of fits1 hr rfl rfl
  · cases h'
end
end Go.Dg

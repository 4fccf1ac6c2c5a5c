import Derived.Test.YtgmaniiaingjhaaGreatDoorFxP
import Derived.KernelRfl
namespace Go.Dg
open Go Go.Proofs
noncomputable section

def primsRes : Option (V × St) := callA P { ext := fun _ _ => none, harm := fun _ => false } 0 1 25 [] ⟨.leaf, 0⟩
def primsTbl : PT V := match primsRes with
  | some (_, σ) => (match σ.heap.get 0 with
    | some (.cells _ cs _) => cs
    | _ => .leaf)
  | none => .leaf
/-- what is known beside the text: the statements' fixed answer -/
def knownA (f : FuncId) (args : List V) : Option V := cond (Nat.beq f 16) (match args with
  | [] => some (.bool true)
  | _ => none) none
def B1 : Beside := { ext := fun _ _ => none, harm := fun _ => false, known := knownA }
@[simp] theorem awake_k (F n : Nat) (σ : St) : callA P B1 F (n + 1) 16 [] σ = some (.bool true, σ) := rfl
theorem prims_eq (F n : Nat) (σ : St) : callA P B1 F (n + 1) 25 [] σ = some (.slice σ.next 0 92 (.exact 92), σ.new (.cells 67 primsTbl false)) := by kernel_rfl
def nlA (i : Nat) : Nat := match primsTbl.get (3 * i) with
  | some (.str n _) => n
  | _ => 0
def ncA (i : Nat) : Nat := match primsTbl.get (3 * i) with
  | some (.str _ c) => c
  | _ => 0
def leA (i : Nat) : Int := match primsTbl.get (3 * i + 1) with
  | some (.int _ c) => c
  | _ => 0
def moA (i : Nat) : Int := match primsTbl.get (3 * i + 2) with
  | some (.int _ c) => c
  | _ => 0
theorem tbl_get : ∀ i, i < 92 → primsTbl.get (3 * i) = some (.str (nlA i) (ncA i)) ∧ primsTbl.get (3 * i + 1) = some (.int .i64 (leA i)) ∧ primsTbl.get (3 * i + 2) = some (.int .i64 (moA i)) := by
  have h : ((List.range 92).all fun i => (match primsTbl.get (3 * i), primsTbl.get (3 * i + 1), primsTbl.get (3 * i + 2) with
    | some (.str _ _), some (.int .i64 _), some (.int .i64 _) => true
    | _, _, _ => false)) = true := by kernel_rfl
  intro i hi
  have h1 := List.all_eq_true.1 h i (List.mem_range.2 hi)
  unfold nlA ncA leA moA
  split at h1
  · rename_i n c m1 m2 e0 e1 e2
    rw [e0, e1, e2]; exact ⟨rfl, rfl, rfl⟩
  · cases h1
theorem names_apart : ∀ i, i < 92 → ∀ j, j < 92 → seq (nlA i) (ncA i) (nlA j) (ncA j) = true → i = j := by
  have h : ((List.range 92).all fun i => (List.range 92).all fun j => cond (seq (nlA i) (ncA i) (nlA j) (ncA j)) (Nat.beq i j) true) = true := by kernel_rfl
  intro i hi j hj hs
  have h1 := List.all_eq_true.1 (List.all_eq_true.1 h i (List.mem_range.2 hi)) j (List.mem_range.2 hj)
  rw [hs] at h1; exact Nat.eq_of_beq_eq_true h1
end
end Go.Dg

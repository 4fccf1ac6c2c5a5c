/- prim.Get, prim.Control. -/
import Derived.Test.YtgmaniiaingjhaaGreatDoorPlB
namespace Go.Dg
open Go Go.Proofs
noncomputable section
set_option maxRecDepth 10000
theorem build67 : buildA P 67 [] = some (.agg [.str 0 0, .int .i64 0, .int .i64 0]) := by kernel_rfl
theorem get_no (F n : Nat) (i : Int) (σ : St) (h : i < 0 ∨ 92 ≤ i) : ∃ σ', callA P B1 F (n + 2) 26 [.int .i64 i] σ = some (.tuple [.agg [.str 0 0, .int .i64 0, .int .i64 0], .bool false], σ') ∧ Ext σ σ' := by
  rw [callK P B1 F Tryz.func26 rfl rfl]
  by_cases h1 : i < 0
  · simp [Tryz.f26, prims_eq, h1, build67]
    exact ((Ext.new _ _).then_new _).put_new (Nat.le_refl _) _
  · have h2 : 92 ≤ i := by omega
    simp [Tryz.f26, prims_eq, h1, h2, build67]
    exact ((Ext.new _ _).then_new _).put_new (Nat.le_refl _) _
theorem get_yes (F n : Nat) (i : Nat) (σ : St) (h : i < 92) : ∃ σ', callA P B1 F (n + 2) 26 [.int .i64 i] σ = some (.tuple [.agg [.str (nlA i) (ncA i), .int .i64 (leA i), .int .i64 (moA i)], .bool true], σ') ∧ Ext σ σ' := by
  rw [callK P B1 F Tryz.func26 rfl rfl]
  obtain ⟨g0, g1, g2⟩ := tbl_get i (by omega)
  have h1 : ¬ (i : Int) < 0 := by omega
  have h2 : ¬ 92 ≤ (i : Int) := by omega
  have h3 : (i : Int) < 92 := by omega
  simp [Tryz.f26, prims_eq, h1, h2, h3, g0, g1, g2, Nat.mul_comm i 3]
  exact ((Ext.new _ _).then_new _).put_new (Nat.le_refl _) _
theorem control_eq (F n : Nat) (i : Int) (σ : St) : ∃ σ', callA P B1 F (n + 2) 27 [.int .i64 i] σ = some (.bool (decide (85 ≤ i ∧ i < 92)), σ') ∧ Ext σ σ' := by
  rw [callK P B1 F Tryz.func27 rfl rfl]
  have hw : IntKind.i64.wrap 85 = 85 := by decide
  by_cases h1 : 85 ≤ i
  · simp [Tryz.f27, prims_eq, h1, hw]
    exact Ext.new _ _
  · simp [Tryz.f27, prims_eq, h1, hw]
    exact Ext.new _ _
end
end Go.Dg

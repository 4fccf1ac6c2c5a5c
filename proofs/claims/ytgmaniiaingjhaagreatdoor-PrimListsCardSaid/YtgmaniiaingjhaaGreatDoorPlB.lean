/- prim.Number: the place of a name among the primitives. -/
import Derived.Test.YtgmaniiaingjhaaGreatDoorPlA
namespace Go.Dg
open Go Go.Proofs
noncomputable section
set_option maxRecDepth 10000
def NPost (nl nc i : Nat) (σ : St) (k : Ex → PT V → St → Option (V × St)) (x : Option (V × St)) : Prop :=
  ∃ e t' σ', x = k e t' σ' ∧ Ext σ σ' ∧
     ((∃ j : Nat, i ≤ j ∧ j < 92 ∧ seq (nlA j) (ncA j) nl nc = true ∧ (∀ l, i ≤ l → l < j → seq (nlA l) (ncA l) nl nc = false) ∧ e = .ret ∧ t'.get 2 = some (.int .i64 j)) ∨
      ((∀ l, i ≤ l → l < 92 → seq (nlA l) (ncA l) nl nc = false) ∧ e = .exit 0))
theorem NPost.step {nl nc i : Nat} {σ σ1 : St} {k : Ex → PT V → St → Option (V × St)} {x : Option (V × St)} (hs : seq (nlA i) (ncA i) nl nc = false) (he : Ext σ σ1) (h : NPost nl nc (i + 1) σ1 k x) : NPost nl nc i σ k x := by
  obtain ⟨e, t', σ', h1, h2, h3⟩ := h
  refine ⟨e, t', σ', h1, he.trans h2, ?_⟩
  rcases h3 with ⟨j, a1, a2, a3, a4, a5, a6⟩ | ⟨a1, a2⟩
  · refine .inl ⟨j, by omega, a2, a3, fun l b1 b2 => ?_, a5, a6⟩
    by_cases e : l = i
    · subst e; exact hs
    · exact a4 l (by omega) b2
  · refine .inr ⟨fun l b1 b2 => ?_, a2⟩
    by_cases e : l = i
    · subst e; exact hs
    · exact a1 l (by omega) b2
theorem number_loop (call : CallF) (F : Nat) (nl nc pid : Nat) (cap : Cap) (k : Ex → PT V → St → Option (V × St)) {body : Code} (hb : body = loopAt 0 (bodyOf Tryz.f18)) :
   ∀ (d i m : Nat) (t : PT V) (σ : St), i + d = 92 → d < m →
   t.get 0 = some (.str nl nc) → t.get 5 = some (.slice pid 0 92 cap) → t.get 6 = some (.int .i64 92) → t.get 7 = some (.int .i64 i) → σ.heap.get pid = some (.cells 67 primsTbl false) → pid < σ.next →
   NPost nl nc i σ k (loopK P B1 call F 18 body m t σ k) := by
  intro d
  induction d with
  | zero =>
    intro i m t σ hi hm h0 h5 h6 h7 hp hlt
    obtain ⟨m, rfl⟩ : ∃ m', m = m' + 1 := ⟨m - 1, by omega⟩
    obtain rfl : i = 92 := by omega
    rw [loopK_succ]
    subst hb
    refine ⟨.exit 0, t.set 8 (.bool false), σ, ?_, Ext.refl σ, .inr ⟨fun l h1 h2 => by omega, rfl⟩⟩
    simp [Tryz.f18, loopAt, loopsOf, h6, h7]
  | succ d ih =>
    intro i m t σ hi hm h0 h5 h6 h7 hp hlt
    obtain ⟨m, rfl⟩ : ∃ m', m = m' + 1 := ⟨m - 1, by omega⟩
    obtain ⟨g0, g1, g2⟩ := tbl_get i (by omega)
    have hi92 : (i : Int) < 92 := by omega
    have hne : pid ≠ σ.next := by omega
    rw [loopK_succ]
    cases hs : seq (nlA i) (ncA i) nl nc with
    | true =>
      subst hb
      simp [Tryz.f18, loopAt, loopsOf, h0, h5, h6, h7, hp, hi92, Nat.mul_comm i 3, g0, g1, g2, strOp, hs]
      exact ⟨_, _, _, rfl, (Ext.new _ _).put_new (Nat.le_refl _) _, .inl ⟨i, Nat.le_refl _, by omega, hs, fun l h1 h2 => by omega, rfl, by simp⟩⟩
    | false =>
      have hw : IntKind.i64.wrap ((i : Int) + 1) = ((i + 1 : Nat) : Int) := by rw [wrap_i64 _ (by omega) (by omega)]; rfl
      subst hb
      simp [Tryz.f18, loopAt, loopsOf, h0, h5, h6, h7, hp, hi92, Nat.mul_comm i 3, g0, g1, g2, strOp, hs, hw]
      refine NPost.step hs ((Ext.new _ _).put_new (Nat.le_refl _) _) (ih (i + 1) m _ _ (by omega) (by omega) ?_ ?_ ?_ ?_ ?_ ?_)
      all_goals simp [h0, h5, h6, hp, hne]
      omega
/-- the first place of a name -/
def numOf (nl nc : Nat) : Int := match (List.range 92).find? fun i => seq (nlA i) (ncA i) nl nc with
  | some i => i
  | none => -1
theorem find_first {p : Nat → Bool} {n j : Nat} (hj : j < n) (h : p j = true) (hl : ∀ l, l < j → p l = false) : (List.range n).find? p = some j := by
  rw [List.find?_range_eq_some]
  exact ⟨h, by simpa using hj, fun l hl' => by simp [hl l hl']⟩
theorem NPost.fin {nl nc : Nat} {σ σ1 : St} {k : Ex → PT V → St → Option (V × St)} {x : Option (V × St)} (h : NPost nl nc 0 σ1 k x) (he : Ext σ σ1)
    (h1 : ∀ (j : Nat) t' σ', t'.get 2 = some (.int .i64 j) → k .ret t' σ' = some (.int .i64 j, σ')) (h2 : ∀ t' σ', k (.exit 0) t' σ' = some (.int .i64 (-1), σ')) :
    ∃ σ', x = some (.int .i64 (numOf nl nc), σ') ∧ Ext σ σ' := by
  obtain ⟨e, t', σ', rfl, g2, g3⟩ := h
  refine ⟨σ', ?_, he.trans g2⟩
  unfold numOf
  rcases g3 with ⟨j, _, a2, a3, a4, rfl, a6⟩ | ⟨a1, rfl⟩
  · rw [find_first a2 a3 fun l hl => a4 l (Nat.zero_le _) hl]; exact h1 j t' σ' a6
  · have : (List.range 92).find? (fun i => seq (nlA i) (ncA i) nl nc) = none := by
      rw [List.find?_eq_none]; intro l hl; simp [a1 l (Nat.zero_le _) (List.mem_range.1 hl)]
    rw [this]; exact h2 t' σ'
theorem number_eq (F n nl nc : Nat) (σ : St) (hF : 93 ≤ F) : ∃ σ', callA P B1 F (n + 2) 18 [.str nl nc] σ = some (.int .i64 (numOf nl nc), σ') ∧ Ext σ σ' := by
  rw [callK P B1 F Tryz.func18 rfl rfl]
  simp [Tryz.f18, prims_eq]
  refine NPost.fin (number_loop _ F nl nc σ.next (.exact 92) _ rfl 92 0 F _ _ (by omega) (by omega) ?_ ?_ ?_ ?_ ?_ ?_) (Ext.new _ _) ?_ ?_
  all_goals simp
  intro j t' σ' h
  simp [h]
end
end Go.Dg

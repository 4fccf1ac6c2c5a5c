/- The deterministic machine, part 20: kinds of operations. -/
import Derived.Test.YtgmaniiaingjhaaGreatDoorDgR1
namespace Go.Dg
open Go Go.RowKit
noncomputable section
section
variable {P : Program}

set_option maxHeartbeats 4000000 in
theorem quiet_p {t : PT V} {o : Oper} {σ σ' : St} {v : V} (hk : kindA P o = .p) (h : opA P t o σ = some (v, σ')) : σ' = σ ∧ ∀ τ, opA P t o τ = some (v, τ) := by
  have q1v : ∀ {r : Option V}, q1 σ r = some (v, σ') → σ' = σ ∧ ∀ τ, q1 τ r = some (v, τ) := by
    intro r hr
    obtain ⟨h1, h2⟩ := q1_some hr
    exact ⟨h2, fun τ => by rw [h1]; rfl⟩
  obtain ⟨dst, op, type, pos, after, guard⟩ := o
  cases op <;> first | (simp only [kindA] at hk; cases hk; done) | skip
  case move x => exact q1v h
  case pick c a b =>
    simp only [opA] at h ⊢
    split at h
    · exact q1v h
    · cases h
  case build ty ps =>
    simp only [opA] at h ⊢
    split at h
    · exact q1v h
    · cases h
  case nilCheck x =>
    simp only [opA] at h ⊢
    split at h
    · simp only [Option.some.injEq, Prod.mk.injEq] at h ⊢; exact ⟨h.2.symm, fun τ => ⟨h.1, trivial⟩⟩
    · simp only [Option.some.injEq, Prod.mk.injEq] at h ⊢; exact ⟨h.2.symm, fun τ => ⟨h.1, trivial⟩⟩
    · simp only [Option.some.injEq, Prod.mk.injEq] at h ⊢; exact ⟨h.2.symm, fun τ => ⟨h.1, trivial⟩⟩
    · split at h
      · simp only [Option.some.injEq, Prod.mk.injEq] at h ⊢; exact ⟨h.2.symm, fun τ => ⟨h.1, trivial⟩⟩
      · cases h
    · cases h
  case binOp op ty x y yt =>
    simp only [opA] at h ⊢
    split at h
    · exact q1v h
    · cases h
  case unOp op ty x =>
    simp only [opA] at h ⊢
    split at h
    · exact q1v h
    · cases h
  case convert s d x =>
    simp only [kindA] at hk
    split at hk <;> cases hk
  case makeInterface xt x =>
    simp only [opA] at h ⊢
    split at h
    · cases h
    · simp only [Option.some.injEq, Prod.mk.injEq] at h ⊢; exact ⟨h.2.symm, fun τ => ⟨h.1, trivial⟩⟩
    · cases h
  case makeFunc fn a b =>
    simp only [opA] at h ⊢
    split at h
    · simp only [Option.some.injEq, Prod.mk.injEq] at h ⊢; exact ⟨h.2.symm, fun τ => ⟨h.1, trivial⟩⟩
    · cases h
  case slice ty x lo hi mx =>
    simp only [opA] at h ⊢
    split at h
    · exact q1v h
    · cases h
  case fieldAddr s x f =>
    simp only [opA] at h ⊢
    split at h
    · exact q1v h
    · cases h
  case field ty x f =>
    simp only [opA] at h ⊢
    split at h
    · exact q1v h
    · cases h
  case indexAddr ty x i =>
    simp only [opA] at h ⊢
    split at h
    · exact q1v h
    · cases h
  case index ty x i =>
    simp only [opA] at h ⊢
    split at h
    · exact q1v h
    · cases h
  case typeAssert x xt ty ok =>
    simp only [opA] at h ⊢
    split at h
    · exact q1v h
    · cases h
  case extract x i =>
    simp only [opA] at h ⊢
    split at h
    · exact q1v h
    · cases h
  case call c =>
    simp only [kindA] at hk
    split at hk <;> cases hk
theorem convert_quiet {s d : TypeId} {x : V} {σ σ' : St} {v : V} (hk : ∀ e, P.underlying s = some .string → P.underlying d = some (.slice e) → False) (h : convertA P s d x σ = some (v, σ')) : σ' = σ := by
  unfold convertA at h
  split at h
  · simp only [Option.some.injEq, Prod.mk.injEq] at h; exact h.2.symm
  · rename_i e n c hs hd; exact (hk e hs hd).elim
  · simp only [Option.some.injEq, Prod.mk.injEq] at h; exact h.2.symm
  · split at h
    · split at h
      · simp only [Option.some.injEq, Prod.mk.injEq] at h; exact h.2.symm
      · split at h
        · split at h
          · simp only [Option.some.injEq, Prod.mk.injEq] at h; exact h.2.symm
          · cases h
        · cases h
      · cases h
    · cases h
  · cases h
set_option maxHeartbeats 4000000 in
theorem quiet_r {t : PT V} {o : Oper} {σ σ' : St} {v : V} (hk : kindA P o = .r) (h : opA P t o σ = some (v, σ')) : σ' = σ := by
  obtain ⟨dst, op, type, pos, after, guard⟩ := o
  cases op <;> first | (simp only [kindA] at hk; cases hk; done) | skip
  case load ty a =>
    simp only [opA] at h
    split at h
    · exact (q1_some h).2
    · cases h
  case lookup xt x k ok =>
    simp only [opA] at h
    split at h
    · exact (q1_some h).2
    · cases h
  case convert s d x =>
    simp only [opA] at h
    split at h
    · refine convert_quiet (fun e hs hd => ?_) h
      simp only [kindA, hs, hd] at hk
      cases hk
    · cases h
  case call c =>
    simp only [opA] at h
    split at h
    · rename_i b hb
      split at h
      · simp only [kindA, hb] at hk
        unfold builtinA at h
        split at h
        · exact (q1_some h).2
        · cases hk
        · cases hk
        · exact (q1_some h).2
        · exact (q1_some h).2
        · cases h
      · cases h
    · cases h
/-- a new block, whenever it is made -/
def OpMakes (P : Program) (E : Env) (w : World) (s : Sem Next) (v : V) (k : Nat) (obj : Obj) : Prop :=
  ∃ x w1 ob n, s.run P w = .ok (.value x) (w1.alloc ob) ∧ (w1 = w ∨ w1 = w.drew) ∧ ∀ E' : Env, E.le E' → E' k = some ⟨w.heap.size, 0, n⟩ → VR E' v x ∧ ObjR E' ⟨w.heap.size, 0, n⟩ obj ob
theorem St.new_inj {σ : St} {o o' : Obj} (h : σ.new o = σ.new o') : o = o' := by
  have h1 : (σ.new o).heap.get σ.next = (σ.new o').heap.get σ.next := by rw [h]
  simpa [St.new] using h1
theorem Made.op {E : Env} {w : World} {s : Sem Value} {σ σ' : St} {v : V} {obj : Obj} (h : Made P E σ w s v σ') (ho : σ' = σ.new obj) : OpMakes P E w (do pure (.value (← s))) v σ.next obj := by
  obtain ⟨obj', rfl, x, w1, ob, n, h1, h2, h3⟩ := h
  have := St.new_inj ho; subst this
  exact ⟨x, w1, ob, n, by simp [h1], h2, h3⟩
set_option maxHeartbeats 4000000 in
theorem made_a {t : PT V} {o : Oper} {σ σ' : St} {v : V} (hk : kindA P o = .a) (h : opA P t o σ = some (v, σ')) :
    ∃ obj, σ' = σ.new obj ∧ ∀ (E : Env) (w : World) (ρ : Operand → Value), EvR E t ρ → OpMakes P E w (execOp ρ o) v σ.next obj := by
  have key : (∀ (E : Env) (w : World) (ρ : Operand → Value), EvR E t ρ → ∃ s : Sem Value, execOp ρ o = (do pure (.value (← s))) ∧ Made P E σ w s v σ') → (∃ obj, σ' = σ.new obj) →
      ∃ obj, σ' = σ.new obj ∧ ∀ (E : Env) (w : World) (ρ : Operand → Value), EvR E t ρ → OpMakes P E w (execOp ρ o) v σ.next obj := by
    rintro hm ⟨obj, ho⟩
    refine ⟨obj, ho, fun E w ρ he => ?_⟩
    obtain ⟨s, hs, hmade⟩ := hm E w ρ he
    rw [hs]; exact hmade.op ho
  obtain ⟨dst, op, type, pos, after, guard⟩ := o
  cases op <;> first | (simp only [kindA] at hk; cases hk; done) | skip
  case alloc e =>
    refine key (fun E w ρ he => ⟨_, rfl, allocA_made h⟩) ?_
    have hh : allocA P e σ = some (v, σ') := h
    unfold allocA at hh
    split at hh
    · simp only [Option.some.injEq, boxA, Prod.mk.injEq] at hh; exact ⟨_, hh.2.symm⟩
    · cases hh
  case box e x =>
    simp only [opA] at h
    split at h
    · rename_i u hu
      simp only [Option.some.injEq] at h
      refine key (fun E w ρ he => ⟨_, rfl, ?_⟩) ?_
      · have := boxA_made (P := P) (w := w) σ e (he _ _ hu)
        rw [h] at this; exact this
      · simp only [boxA, Prod.mk.injEq] at h; exact ⟨_, h.2.symm⟩
    · cases h
  case buildSlice ty n ps =>
    simp only [opA] at h
    split at h
    · rename_i l hl
      refine key (fun E w ρ he => ⟨_, rfl, buildSliceA_made (parts := ps.map fun (i, x) => (i, ρ x)) (by simpa using evp_rel he hl) h⟩) ?_
      unfold buildSliceA at h
      split at h
      · split at h
        · obtain ⟨_, h2⟩ := cond_some h
          split at h2
          · simp only [Option.some.injEq, Prod.mk.injEq] at h2; exact ⟨_, h2.2.symm⟩
          · cases h2
        · cases h
      · cases h
    · cases h
  case convert s d x =>
    simp only [opA] at h
    simp only [kindA] at hk
    split at hk
    · rename_i e hs hd
      split at h
      · rename_i u hu
        unfold convertA at h
        simp only [hs, hd] at h
        split at h
        · rename_i n c hs' hd' ; cases hd'
        · rename_i e' n c h1 h2
          cases h2
          split at h
          · rename_i hee
            simp only [Option.some.injEq, Prod.mk.injEq] at h
            obtain ⟨rfl, rfl⟩ := h
            exact key (fun E w ρ he => ⟨_, rfl, convertS_made hs hd hee (he _ _ hu)⟩) ⟨_, rfl⟩
          · cases h
        · rename_i h2; cases h2
        · rename_i h1 h2; cases h1
        · cases h
      · cases h
    · cases hk
    · cases hk
  case makeMap ty r =>
    simp only [opA] at h
    split at h
    · rename_i x k e hx hu
      refine key (fun E w ρ he => ⟨_, rfl, makeMapA_made (evo_rel he hx) (.inl ⟨_, _, hu⟩) h⟩) ?_
      unfold makeMapA at h
      split at h
      · simp only [Option.some.injEq, Prod.mk.injEq] at h; exact ⟨_, h.2.symm⟩
      · simp only [Option.some.injEq, Prod.mk.injEq] at h; exact ⟨_, h.2.symm⟩
      · cases h
    · cases h
  case makeSlice ty l c =>
    simp only [opA] at h
    split at h
    · rename_i a b ha hb
      refine key (fun E w ρ he => ⟨_, rfl, makeSliceA_made (he _ _ ha) (he _ _ hb) h⟩) ?_
      unfold makeSliceA at h
      split at h
      · split at h
        · obtain ⟨_, h2⟩ := cond_some h
          simp only [Option.some.injEq, Prod.mk.injEq] at h2; exact ⟨_, h2.2.symm⟩
        · cases h
      · cases h
    · cases h
  case range ty x =>
    simp only [opA] at h
    split at h
    · rename_i u hx
      refine key (fun E w ρ he => ⟨_, rfl, rangeA_made (he _ _ hx) h⟩) ?_
      unfold rangeA at h
      split at h
      · simp only [Option.some.injEq, Prod.mk.injEq] at h; exact ⟨_, h.2.symm⟩
      · cases h
    · cases h
  case call c =>
    simp only [kindA] at hk
    split at hk <;> cases hk
end
end
end Go.Dg

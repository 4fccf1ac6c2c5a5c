/- The deterministic machine, part 18: calls, from the bottom up. -/
import Derived.Test.YtgmaniiaingjhaaGreatDoorDgQ
namespace Go.Dg
open Go Go.RowKit
noncomputable section
section
variable {P : Program}

def resS (tmps : Array Value) : ResultVar → Sem Value
  | .tmp t => pure (tmps.getD t undef)
  | .cell a t => do loadVar t (← asAddr (tmps.getD a undef))
theorem resA_run {E : Env} {σ : St} {w : World} (h : Rel E σ w) {t : PT V} {tmps : Array Value} (hg : ∀ i v, t.get i = some v → ∃ x, tmps[i]? = some x ∧ VR E v x) :
    ∀ (l : List ResultVar) {vs : List V}, resA P t σ l = some vs → ∃ xs : List Value, LR E vs xs ∧
      (l.mapM (resS tmps)).run P w = .ok xs w
  | [], vs, hv => by
    simp only [resA, Option.some.injEq] at hv; subst hv
    exact ⟨[], rfl, by simp⟩
  | .tmp i :: l, vs, hv => by
    simp only [resA] at hv
    split at hv
    · rename_i v vs' h1 h2
      simp only [Option.some.injEq] at hv; subst hv
      obtain ⟨x, hx, hr⟩ := hg i v h1
      obtain ⟨xs, hxs, hrun⟩ := resA_run h hg l h2
      refine ⟨x :: xs, ⟨x, xs, rfl, hr, hxs⟩, ?_⟩
      have e : tmps.getD i undef = x := by simp [Array.getD_eq_getD_getElem?, hx]
      rw [List.mapM_cons]
      simp [hrun, hx, resS]
    · cases hv
  | .cell b ty :: l, vs, hv => by
    simp only [resA] at hv
    split at hv
    · rename_i id off vs' h1 h2
      split at hv
      · rename_i v hl
        simp only [Option.some.injEq] at hv; subst hv
        obtain ⟨y, hy, hr⟩ := hg b _ h1
        simp only [VR] at hr; obtain ⟨p, hp, rfl⟩ := hr
        obtain ⟨x, hx, hr⟩ := loadA_run h hp hl
        obtain ⟨xs, hxs, hrun⟩ := resA_run h hg l h2
        refine ⟨x :: xs, ⟨x, xs, rfl, hr, hxs⟩, ?_⟩
        rw [List.mapM_cons]
        simp [hrun, hy, asAddr, hx, resS]
      · cases hv
    · cases hv
theorem results_run {E : Env} {σ : St} {w : World} (h : Rel E σ w) {t : PT V} {tmps : Array Value} (hg : ∀ i v, t.get i = some v → ∃ x, tmps[i]? = some x ∧ VR E v x) (fn : Func) {vs : List V}
    (hv : resA P t σ fn.results.toList = some vs) : ∃ x, (results fn tmps).run P w = .ok x w ∧ VR E (oneA vs) x := by
  obtain ⟨xs, hxs, hrun⟩ := resA_run h hg _ hv
  refine ⟨if h : xs.toArray.size = 1 then xs.toArray[0] else .tuple xs.toArray, ?_, ?_⟩
  · have e : results fn tmps = (do let vs ← fn.results.mapM (resS tmps); pure (if h : vs.size = 1 then vs[0] else .tuple vs)) := by
      unfold results
      rfl
    have e2 : fn.results.mapM (resS tmps) = List.toArray <$> fn.results.toList.mapM (resS tmps) := by
      rw [← List.mapM_toArray]
    rw [e, e2]
    simp [hrun]
  · match vs, hxs with
    | [], hxs => simp only [LR] at hxs; subst hxs; simp [oneA, VR, LR]
    | [v], hxs =>
      simp only [LR] at hxs; obtain ⟨x, _, rfl, hx, rfl⟩ := hxs
      simpa [oneA] using hx
    | v :: u :: vs, hxs =>
      have hlen := hxs.length
      have : ¬ xs.toArray.size = 1 := by simp only [List.size_toArray, hlen, List.length_cons]; omega
      rw [dif_neg this]
      simp only [oneA, VR]
      exact ⟨_, rfl, hxs⟩
theorem start_ok {E : Env} {B : Beside} {args : List V} {xs : List Value} (hl : LR E args xs) (n : Nat) :
    AR B E n (startT args n) ⟨xs.toArray ++ Array.replicate (n - xs.toArray.size) undef, []⟩ := by
  have hlen := hl.length
  refine ⟨by simp; omega, fun i v hv => ?_, by simp⟩
  simp only [startT, PT.get_setL] at hv
  split at hv
  · rename_i h1
    have hu : v = V.undef := by
      have := List.mem_of_getElem? hv
      exact (List.mem_replicate.1 this).2
    subst hu
    refine ⟨undef, ?_, VR_undef E⟩
    have h2 : args.length + (n - args.length) > i := by
      have := h1.2; simpa using this
    rw [Array.getElem?_append_right (by simp [hlen]; exact h1.1)]
    rw [Array.getElem?_replicate, if_pos]
    simp only [List.size_toArray, hlen]; omega
  · split at hv
    · rename_i h1
      simp only [Nat.sub_zero] at hv
      obtain ⟨x, hx, hr⟩ := hl.get i hv
      refine ⟨x, ?_, hr⟩
      have : i < xs.length := (List.getElem?_eq_some_iff.1 hx).1
      rw [Array.getElem?_append_left (by simpa using this)]
      simpa using hx
    · simp at hv
theorem leaves_ok {B : Beside} (hB : Fits P B) {fn : Func} {tmps : Array Value} {R : Ending → World → Prop} {w : World} (hend : ∃ v, (results fn tmps).run P w = .ok v w ∧ R (.returned v) w) :
    ∀ ds : List Deferred, (∀ d ∈ ds, HarmD B d) → Leaves P fn tmps R ds .returning w
  | [], _ => hend
  | d :: ds, hds => by
    obtain ⟨f, c, as, rfl, hf⟩ := hds d (by simp)
    obtain ⟨⟨fn', hfn, hb⟩, hc⟩ := hB.harm f hf
    obtain ⟨v, hcall⟩ := hc (as ++ c) w
    refine leaves_cons (by simp) (f := f) (args := as ++ c) ?_ (hcall.mono fun e u' w' ⟨h1, h2, h3⟩ => ?_)
    · simpa [invoke] using callFunc_enter (w := w) hB hfn hb (as ++ c)
    · subst h1; subst h2; subst h3
      exact leaves_ok hB hend ds fun d hd => hds d (List.mem_cons_of_mem _ hd)
theorem call_ok {B : Beside} (hB : Fits P B) {F : Nat} (hD : ∀ call N, CallOK P call → DrawOK P B call N) : ∀ n, CallOK P (callA P B F n)
  | 0 => fun f args σ v σ' h => by simp [callA] at h
  | n + 1 => by
    intro f args σ v σ' hv E w xs h hl
    have hC := call_ok hB (F := F) hD n
    simp only [callA] at hv
    split at hv
    · rename_i u hk
      simp only [Option.some.injEq, Prod.mk.injEq] at hv
      obtain ⟨rfl, rfl⟩ := hv
      refine (hB.known f args u hk E w xs hl).mono fun e w' he => ?_
      obtain ⟨x, h1, h2, h3⟩ := he
      exact ⟨x, h1, E, Step.below h h3, h2⟩
    rename_i hk
    split at hv
    · rename_i fn hfn
      split at hv
      · rename_i c hc
        have hrun := (code_ok hB hC (F := F) (N := fn.ntmps) (hD _ _ hC) c).1
        have fin : ∀ (e : Ex) (t : PT V) (σ1 : St) (l : List V), (codeA P B (callA P B F n) F fn.ntmps c).run (startT args fn.ntmps) σ = some (e, t, σ1) → (e = .normal ∨ e = .ret) → resA P t σ1 fn.results.toList = some l →
            v = oneA l → σ' = σ1 → Calls P f xs.toArray w fun e w' => ∃ x, e = .returned x ∧ ∃ E', Step E σ w E' σ' w' ∧ VR E' v x := by
          rintro e t σ1 l h1 he h2 rfl rfl
          refine calls_of_wp_defers hfn hc (hrun E σ w _ _ e t σ' h (start_ok hl fn.ntmps) h1 _ fun E' a' w' s ha => ?_)
          obtain ⟨x, hx, hxr⟩ := results_run s.rel ha.get fn h2
          have := leaves_ok hB (R := fun e w' => ∃ x, e = .returned x ∧ ∃ E', Step E σ w E' σ' w' ∧ VR E' (oneA l) x) ⟨x, hx, x, rfl, E', s, hxr⟩ a'.defers ha.defers
          rcases he with rfl | rfl <;> exact this
        split at hv
        · rename_i t σ1 h1
          split at hv
          · rename_i l h2
            simp only [Option.some.injEq, Prod.mk.injEq] at hv
            exact fin _ t σ1 l h1 (.inl rfl) h2 hv.1.symm hv.2.symm
          · cases hv
        · rename_i t σ1 h1
          split at hv
          · rename_i l h2
            simp only [Option.some.injEq, Prod.mk.injEq] at hv
            exact fin _ t σ1 l h1 (.inr rfl) h2 hv.1.symm hv.2.symm
          · cases hv
        · cases hv
      · cases hv
    · cases hv
end
end
end Go.Dg

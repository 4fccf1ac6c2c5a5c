/- The deterministic machine, part 16: calls; regions whose order is fixed. -/
import Derived.Test.YtgmaniiaingjhaaGreatDoorDgO
import Derived.Defers
namespace Go.Dg
open Go Go.RowKit
noncomputable section
section
variable {E : Env} {σ : St} {w : World} {P : Program}

def HarmD (B : Beside) (d : Deferred) : Prop := ∃ f c as, d = ⟨.fn (.func f) c, as⟩ ∧ B.harm f = true
/-- a frame's values -/
structure AR (B : Beside) (E : Env) (N : Nat) (t : PT V) (a : Act) : Prop where
  size : N ≤ a.tmps.size
  get : ∀ i v, t.get i = some v → ∃ x, a.tmps[i]? = some x ∧ VR E v x
  defers : ∀ d ∈ a.defers, HarmD B d
theorem AR.mono {B : Beside} {E E' : Env} (h : E.le E') {N : Nat} {t : PT V} {a : Act} (ht : AR B E N t a) : AR B E' N t a :=
  ⟨ht.size, fun i v hv => let ⟨x, hx, hr⟩ := ht.get i v hv; ⟨x, hx, hr.mono h⟩, ht.defers⟩
theorem AR.evR {B : Beside} {N : Nat} {t : PT V} {a : Act} (ht : AR B E N t a) : EvR E t a.eval := by
  intro x v h
  cases x with
  | tmp i =>
    obtain ⟨y, hy, hr⟩ := ht.get i v h
    simpa [Act.eval, Array.getD_eq_getD_getElem?, hy] using hr
  | const y => exact ofValue_rel E h
  | func f =>
    simp only [Dg.ev, Option.some.injEq] at h; subst h
    simp only [VR]; exact ⟨#[], #[], rfl, by simp [LR], by simp [LR]⟩
  | global g => simp [Dg.ev] at h
theorem AR.put {B : Beside} {N : Nat} {t t' : PT V} {a : Act} (ht : AR B E N t a) {d : Option Tmp} {v : V} {x : Value} (hr : VR E v x) (hp : putA N t d v = some t') : AR B E N t' (a.put d x) := by
  cases d with
  | none => simp only [putA, Option.some.injEq] at hp; subst hp; exact ht
  | some d =>
    simp only [putA] at hp
    obtain ⟨h1, h2⟩ := cond_some hp
    simp only [Option.some.injEq] at h2; subst h2
    have hd : d < N := Nat.le_of_ble_eq_true h1
    have hs := ht.size
    refine ⟨by simpa [Act.put] using hs, fun i u hu => ?_, ht.defers⟩
    rw [PT.get_set] at hu
    split at hu
    · subst i; cases hu
      exact ⟨x, by simp [Act.put, Nat.lt_of_lt_of_le hd hs], hr⟩
    · rename_i hne
      obtain ⟨y, hy, hr'⟩ := ht.get i u hu
      exact ⟨y, by simp [Act.put, Ne.symm hne, hy], hr'⟩
theorem AR.defer {B : Beside} {N : Nat} {t : PT V} {a : Act} (ht : AR B E N t a) {d : Deferred} (hd : HarmD B d) : AR B E N t { a with defers := d :: a.defers } :=
  ⟨ht.size, ht.get, fun d' hd' => by
    rcases List.mem_cons.1 hd' with rfl | h
    · exact hd
    · exact ht.defers d' h⟩

/-- what is asked of a call's reckoning -/
def CallOK (P : Program) (call : CallF) : Prop :=
  ∀ f args σ v σ', call f args σ = some (v, σ') → ∀ E w xs, Rel E σ w → LR E args xs →
    Calls P f xs.toArray w fun e w' => ∃ x, e = .returned x ∧ ∃ E', Step E σ w E' σ' w' ∧ VR E' v x
structure Fits (P : Program) (B : Beside) : Prop where
  named : ∀ (f : FuncId) (fn : Func), P.funcs[f]? = some fn → (fn.name == "runtime.NumGoroutine") = false
  ext : ∀ f args v, B.ext f args = some v → ∀ E w xs, LR E args xs → ∃ x, (callFunc f xs.toArray).run P w = .ok (.value x) w ∧ VR E v x
  known : ∀ f args v, B.known f args = some v → ∀ E w xs, LR E args xs → Calls P f xs.toArray w fun e w' => ∃ x, e = .returned x ∧ VR E v x ∧ Below w.heap.size w w'
  harm : ∀ f, B.harm f = true → (∃ fn : Func, P.funcs[f]? = some fn ∧ fn.body.isSome = true) ∧ ∀ args w, ∃ v, CallsD P f args .returning w fun e u' w' => e = .returned v ∧ u' = .returning ∧ w' = w

theorem Step.below {E : Env} {σ : St} {w w' : World} (h : Rel E σ w) (hb : Below w.heap.size w w') : Step E σ w E σ w' := by
  refine ⟨E.le_refl, ⟨fun id o p ho hp => ?_, h.inj, h.fresh⟩, Nat.le_refl _, fun _ _ => rfl, hb.size, hb.os, hb.tape, hb.output, fun b hlt _ => hb.block b hlt, fun _ _ hl => hl, fun _ _ _ => rfl⟩
  obtain ⟨ob, h1, h2⟩ := h.obj id o p ho hp
  exact ⟨ob, by rw [hb.block _ (h.lt ⟨id, o, p, ho, hp, rfl⟩)]; exact h1, h2⟩
theorem enterA_spec {f g : FuncId} {args as : List V} {b : Bool} (h : enterA P f args = some (b, g, as)) : g = f ∧ as = args ∧ ∃ fn, P.funcs[f]? = some fn ∧ b = fn.body.isSome := by
  unfold enterA at h
  split at h
  · rename_i fn hf
    simp only [Option.some.injEq, Prod.mk.injEq] at h
    obtain ⟨h1, h2, h3⟩ := h
    exact ⟨h2.symm, h3.symm, fn, hf, h1.symm⟩
  · cases h
theorem callFunc_enter {B : Beside} (hB : Fits P B) {f : FuncId} {fn : Func} (hf : P.funcs[f]? = some fn) (hb : fn.body.isSome = true) (xs : Array Value) : (callFunc f xs).run P w = .ok (.enter f xs) w := by
  have hn := hB.named f fn hf
  have hb' : fn.body.isNone = false := by cases h : fn.body <;> simp_all
  simp only [callFunc, Sem.run_bind, run_program, Result.andThen_ok, hf, hn, hb', Bool.false_eq_true, if_false, Sem.run_pure]

/-- what a call enters -/
theorem calleeA_run {t : PT V} {ρ : Operand → Value} (he : EvR E t ρ) {c : Call} {ty : TypeId} {b : Bool} {f : FuncId} {args : List V} (h : calleeA P t c = some (b, f, args)) :
    ∃ xs : List Value, LR E args xs ∧ (∃ fn, P.funcs[f]? = some fn ∧ b = fn.body.isSome) ∧
      ((do let d ← resolve ρ c ty; invoke d.target d.args : Sem Next).run P w = (callFunc f xs.toArray).run P w) ∧
      ((∃ x, c.callee = .value x) → ∃ cap as, (resolve ρ c ty).run P w = .ok ⟨.fn (.func f) cap, as⟩ w) := by
  unfold calleeA at h
  split at h
  · rename_i f' args' hc hargs
    have hl := evs_rel he hargs
    split at h
    · rename_i g first captured hev
      have hv := he _ _ hev
      simp only [VR] at hv; obtain ⟨p, q, hv, hp, hq⟩ := hv
      obtain ⟨rfl, rfl, hfn⟩ := enterA_spec h
      refine ⟨p.toList ++ (c.args.map ρ).toList ++ q.toList, LR.append (LR.append hp hl) hq, hfn, ?_, fun _ => ?_⟩
      · have e : ((p.toList ++ (c.args.map ρ).toList ++ q.toList).toArray : Array Value) = p ++ c.args.map ρ ++ q := by
          apply Array.toList_inj.1; simp
        rw [e]
        simp [resolve, hc, hv, Deferred.ofValue, invoke]
      · exact ⟨q, p ++ c.args.map ρ, by simp [resolve, hc, hv, Deferred.ofValue]⟩
    · cases h
  · rename_i r name args' hc hargs
    have hl := evs_rel he hargs
    split at h
    · rename_i ty' v hev
      have hv := he _ _ hev
      simp only [VR] at hv; obtain ⟨y, hv, hy⟩ := hv
      split at h
      · rename_i g recv hm
        obtain ⟨rfl, i, m, e, hi, hu, hfind, hp, hf⟩ := methodA_spec hm
        obtain ⟨rfl, rfl, hfn⟩ := enterA_spec h
        obtain ⟨n, hn⟩ := fuel_pos P
        have hmr := (method_run (P := P) (w := w) y n hi hu hfind hp hf).1
        refine ⟨y :: (c.args.map ρ).toList, ⟨y, _, rfl, hy, hl⟩, hfn, ?_, fun ⟨x, hx⟩ => by rw [hc] at hx; cases hx⟩
        have e1 : (#[Value.iface ty' y] ++ c.args.map ρ)[0]? = some (.iface ty' y) := by rw [Array.getElem?_append_left (by simp)]; rfl
        have e2 : (#[Value.iface ty' y] ++ c.args.map ρ).extract 1 (#[Value.iface ty' y] ++ c.args.map ρ).size = c.args.map ρ := by
          apply Array.toList_inj.1; simp [List.take_of_length_le]
        have e3 : ((y :: (c.args.map ρ).toList).toArray : Array Value) = #[y] ++ c.args.map ρ := by
          apply Array.toList_inj.1; simp
        rw [e3]
        simp only [resolve, hc, hv, Sem.run_bind, Sem.run_pure, Result.andThen_ok, invoke, e1, e2, callMethod, run_program, hn, hmr]
      · cases h
    · cases h
  · cases h

theorem OpGives.wp {o : Oper} {a : Act} {v : V} {σ' : St} (hg : OpGives P E σ w (execOp a.eval o) v σ') {K : Act → World → Prop} {Q : Exit → Act → World → Prop}
    (hK : ∀ x E' w', Step E σ w E' σ' w' → VR E' v x → K (a.put o.dst x) w') : o.wp P a w K Q := by
  obtain ⟨x, E', w', h1, h2, h3⟩ := hg
  unfold Oper.wp
  rcases h1 with h1 | ⟨h1, rfl⟩
  · rw [h1]; exact hK x E' w' h2 h3
  · rw [h1]; exact hK _ E' w' h2 h3

theorem exec_wp {B : Beside} (hB : Fits P B) {call : CallF} (hC : CallOK P call) {t : PT V} {a : Act} (h : Rel E σ w) (ha : EvR E t a.eval) {o : Oper} {v : V} {σ' : St}
    (hv : execA P B call t o σ = some (v, σ')) {K : Act → World → Prop} {Q : Exit → Act → World → Prop}
    (hK : ∀ x E' w' ds, (∀ d ∈ ds, HarmD B d) → Step E σ w E' σ' w' → VR E' v x → K ({ a with defers := ds ++ a.defers }.put o.dst x) w') : o.wp P a w K Q := by
  have hK0 : ∀ x E' w', Step E σ w E' σ' w' → VR E' v x → K (a.put o.dst x) w' := fun x E' w' hs hx => hK x E' w' [] (by simp) hs hx
  have plain : opA P t o σ = some (v, σ') → o.wp P a w K Q := fun hv => (opA_run h ha hv).wp hK0
  unfold execA at hv
  split at hv
  · rename_i c hc
    split at hv
    · exact plain hv
    · split at hv
      · rename_i f args hcal
        obtain ⟨xs, hxs, ⟨fn, hfn, hb⟩, hrun, _⟩ := calleeA_run (ty := o.type) (w := w) ha hcal
        have hent := callFunc_enter (w := w) hB hfn hb.symm xs.toArray
        unfold Oper.wp
        have e : execOp a.eval o = (do let d ← resolve a.eval c o.type; invoke d.target d.args) := by
          obtain ⟨dst, op, ty, pos, after, guard⟩ := o
          simp only at hc; subst hc; rfl
        rw [e, hrun, hent]
        refine (hC _ _ _ _ _ hv E w xs h hxs).mono fun e w' he => ?_
        obtain ⟨x, rfl, E', hs, hx⟩ := he
        exact hK0 x E' w' hs hx
      · rename_i f args hcal
        obtain ⟨hv1, rfl⟩ := q1_some hv
        obtain ⟨xs, hxs, _, hrun, _⟩ := calleeA_run (ty := o.type) (w := w) ha hcal
        obtain ⟨x, hx, hr⟩ := hB.ext f args v hv1 E w xs hxs
        unfold Oper.wp
        have e : execOp a.eval o = (do let d ← resolve a.eval c o.type; invoke d.target d.args) := by
          obtain ⟨dst, op, ty, pos, after, guard⟩ := o
          simp only at hc; subst hc; rfl
        rw [e, hrun, hx]
        exact hK0 x E w (Step.refl h) hr
      · cases hv
  · rename_i c hc
    split at hv
    · rename_i fx hcal0
      split at hv
      · rename_i f args hcal
        obtain ⟨h1, h2⟩ := cond_some hv
        simp only [Option.some.injEq, Prod.mk.injEq] at h2; obtain ⟨rfl, rfl⟩ := h2
        obtain ⟨xs, hxs, _, hrun, hd⟩ := calleeA_run (ty := o.type) (w := w) ha hcal
        obtain ⟨cap, as, hr⟩ := hd ⟨fx, hcal0⟩
        unfold Oper.wp
        have e : execOp a.eval o = (do pure (.defer (← resolve a.eval c o.type))) := by
          obtain ⟨dst, op, ty, pos, after, guard⟩ := o
          simp only at hc; subst hc; rfl
        rw [e]
        simp only [Sem.run_bind, hr, Result.andThen_ok, Sem.run_pure]
        exact hK undef E w [⟨.fn (.func f) cap, as⟩] (fun d hd => by
          rw [List.mem_singleton] at hd; exact ⟨f, cap, as, hd, h1⟩) (Step.refl h) (VR_undef E)
      · cases hv
    · cases hv
  · exact plain hv

/-! ## regions in a fixed order -/
theorem wantA_spec {ops : Array Oper} {t : PT V} {a : Act} (hget : ∀ i v, t.get i = some v → ∃ x, a.tmps[i]? = some x ∧ VR E v x) {o : Oper} {b : Bool} (h : wantA ops t o = some b) :
    Region.wanted o (yielded ops a.tmps) = b := by
  unfold wantA at h
  unfold Region.wanted
  split at h
  · rename_i hg
    simp only [Option.some.injEq] at h; subst h; rw [hg]
  · rename_i j want hg
    rw [hg]
    split at h
    · rename_i d hd
      split at h
      · rename_i r hr
        simp only [Option.some.injEq] at h; subst h
        obtain ⟨x, hx, hxr⟩ := hget d _ hr
        simp only [VR] at hxr; subst hxr
        simp only [yielded, hd, Option.bind_some, hx]
        cases r <;> cases want <;> rfl
      · rename_i hr
        simp only [Option.some.injEq] at h; subst h
        obtain ⟨x, hx, hxr⟩ := hget d _ hr
        simp only [VR, LR] at hxr; obtain ⟨c, rfl, _⟩ := hxr
        simp only [yielded, hd, Option.bind_some, hx]
        rfl
      · cases h
    · cases h

theorem step_wp {B : Beside} (hB : Fits P B) {call : CallF} (hC : CallOK P call) {N : Nat} {ops : Array Oper} {t t' : PT V} {a : Act} {i : Nat} {σ' : St} (h : Rel E σ w) (ha : AR B E N t a)
    (hv : stepA P B call N ops i t σ = some (t', σ')) {K : Act → World → Prop} {Q : Exit → Act → World → Prop}
    (hK : ∀ E' a' w', Step E σ w E' σ' w' → AR B E' N t' a' → K a' w') : wpOp P ops Q i K a w := by
  unfold stepA at hv
  unfold wpOp
  split at hv
  · rename_i ho
    simp only [Option.some.injEq, Prod.mk.injEq] at hv; obtain ⟨rfl, rfl⟩ := hv
    rw [ho]; exact hK E a w (Step.refl h) ha
  · rename_i o ho
    rw [ho]
    simp only
    split at hv
    · rename_i hw
      rw [wantA_spec ha.get hw, if_pos rfl]
      refine .inl ?_
      split at hv
      · rename_i v σ1 hx
        split at hv
        · rename_i t1 hp
          simp only [Option.some.injEq, Prod.mk.injEq] at hv; obtain ⟨rfl, rfl⟩ := hv
          refine exec_wp hB hC h ha.evR hx fun x E' w' ds hds hs hxr => hK E' _ w' hs ?_
          refine AR.put (a := { a with defers := ds ++ a.defers }) ⟨ha.size, (ha.mono hs.le).get, fun d hd => ?_⟩ hxr hp
          rcases List.mem_append.1 hd with h1 | h1
          · exact hds d h1
          · exact ha.defers d h1
        · cases hv
      · cases hv
    · rename_i hw
      rw [wantA_spec ha.get hw, if_neg (by simp)]
      split at hv
      · rename_i t1 hp
        simp only [Option.some.injEq, Prod.mk.injEq] at hv; obtain ⟨rfl, rfl⟩ := hv
        exact hK E _ w (Step.refl h) (ha.put (VR_undef E) hp)
      · cases hv
    · cases hv
theorem steps_wp {B : Beside} (hB : Fits P B) {call : CallF} (hC : CallOK P call) {N : Nat} {ops : Array Oper} : ∀ (l : List Nat) {E : Env} {σ : St} {w : World} {t t' : PT V} {a : Act} {σ' : St}, Rel E σ w → AR B E N t a →
    stepsA P B call N ops l t σ = some (t', σ') → ∀ {Q : Exit → Act → World → Prop}, (∀ E' a' w', Step E σ w E' σ' w' → AR B E' N t' a' → Q .normal a' w') → wpOps P ops Q l a w
  | [], E, σ, w, t, t', a, σ', h, ha, hv, Q, hQ => by
    simp only [stepsA, Option.some.injEq, Prod.mk.injEq] at hv; obtain ⟨rfl, rfl⟩ := hv
    exact hQ E a w (Step.refl h) ha
  | i :: l, E, σ, w, t, t', a, σ', h, ha, hv, Q, hQ => by
    simp only [stepsA] at hv
    split at hv
    · rename_i t1 σ1 h1
      rw [wpOps_cons]
      exact step_wp hB hC h ha h1 fun E1 a1 w1 s1 ha1 => steps_wp hB hC l s1.rel ha1 hv fun E2 a2 w2 s2 ha2 => hQ E2 a2 w2 (s1.trans s2) ha2
    · cases hv
end
end
end Go.Dg

/- The deterministic machine, part 13: what an operation comes to, proved. -/
import Derived.Test.YtgmaniiaingjhaaGreatDoorDgL
namespace Go.Dg
open Go Go.RowKit
noncomputable section
section
variable {E : Env} {σ : St} {w : World} {P : Program}

/-- operands against operands -/
def EvR (E : Env) (t : PT V) (ρ : Operand → Value) : Prop := ∀ x v, ev t x = some v → VR E v (ρ x)
theorem EvR.mono {E E' : Env} (h : E.le E') {t : PT V} {ρ : Operand → Value} (he : EvR E t ρ) : EvR E' t ρ := fun x v hv => (he x v hv).mono h
def OpGives (P : Program) (E : Env) (σ : St) (w : World) (s : Sem Next) (v : V) (σ' : St) : Prop :=
  ∃ x E' w', (s.run P w = .ok (.value x) w' ∨ (s.run P w = .ok .skip w' ∧ x = undef)) ∧ Step E σ w E' σ' w' ∧ VR E' v x
theorem Gives.op {s : Sem Value} {v : V} {σ' : St} (h : Gives P E σ w s v σ') : OpGives P E σ w (do pure (.value (← s))) v σ' := by
  obtain ⟨x, E', w', h1, h2, h3⟩ := h
  exact ⟨x, E', w', .inl (by simp [h1]), h2, h3⟩
theorem OpGives.pure {v : V} {x : Value} (h : Rel E σ w) (hx : VR E v x) : OpGives P E σ w (pure (.value x)) v σ :=
  ⟨x, E, w, .inl (by simp), Step.refl h, hx⟩
theorem q1_some {σ σ' : St} {r : Option V} {v : V} (h : q1 σ r = some (v, σ')) : r = some v ∧ σ' = σ := by
  cases r with
  | none => cases h
  | some u => simp only [q1, Option.some.injEq, Prod.mk.injEq] at h; exact ⟨by rw [h.1], h.2.symm⟩
theorem q2_some {σ' : St} {r : Option St} {v : V} (h : q2 r = some (v, σ')) : r = some σ' ∧ v = V.undef := by
  cases r with
  | none => cases h
  | some u => simp only [q2, Option.some.injEq, Prod.mk.injEq] at h; exact ⟨by rw [h.2], h.1.symm⟩
theorem q3_some {σ' : St} {r : Option St} {v : V} (h : q3 r = some (v, σ')) : r = some σ' ∧ v = .tuple [] := by
  cases r with
  | none => cases h
  | some u => simp only [q3, Option.some.injEq, Prod.mk.injEq] at h; exact ⟨by rw [h.2], h.1.symm⟩
/-- a value without a step -/
theorem OpGives.val {s : Sem Value} {v : V} (h : Rel E σ w) (hs : ∃ z, s.run P w = .ok z w ∧ VR E v z) : OpGives P E σ w (do Pure.pure (.value (← s))) v σ := by
  obtain ⟨z, h1, h2⟩ := hs
  exact (Gives.quiet h h1 h2).op
theorem VR_undef (E : Env) : VR E V.undef undef := by
  simp only [V.undef, VR, LR]; exact ⟨#[], rfl, rfl⟩
theorem OpGives.unit {s : Sem Unit} {σ' : St} (hs : ∃ w', s.run P w = .ok () w' ∧ Step E σ w E σ' w') : OpGives P E σ w (do s; Pure.pure .skip) V.undef σ' := by
  obtain ⟨w', h1, h2⟩ := hs
  exact ⟨undef, E, w', .inr ⟨by simp [h1], rfl⟩, h2, VR_undef _⟩

theorem evs_rel {t : PT V} {ρ : Operand → Value} (he : EvR E t ρ) {l : Array Operand} {vs : List V} (h : evs t l.toList = some vs) : LR E vs (l.map ρ).toList := by
  obtain ⟨h1, h2⟩ := mapO_some _ _ _ h
  refine LR.intro (by simp [h1]) fun i v hv => ?_
  have hi : i < l.toList.length := by rw [← h1]; exact (List.getElem?_eq_some_iff.1 hv).1
  obtain ⟨y, hy, e⟩ := h2 i l.toList[i] (List.getElem?_eq_getElem hi)
  rw [hv] at hy; cases hy
  refine ⟨ρ l.toList[i], ?_, he _ _ e⟩
  simp only [Array.toList_map, List.getElem?_map, List.getElem?_eq_getElem hi, Option.map_some]
theorem evo_rel {t : PT V} {ρ : Operand → Value} (he : EvR E t ρ) {x : Option Operand} {v : Option V} (h : evo t x = some v) : OR E v (x.map ρ) := by
  cases x with
  | none => simp only [evo, Option.some.injEq] at h; subst h; rfl
  | some x =>
    simp only [evo] at h
    cases hx : ev t x with
    | none => rw [hx] at h; cases h
    | some u => rw [hx] at h; simp only [Option.some.injEq] at h; subst h; exact ⟨_, rfl, he _ _ hx⟩
theorem evp_rel {t : PT V} {ρ : Operand → Value} (he : EvR E t ρ) : ∀ {l : List (Nat × Operand)} {vs : List (Nat × V)}, evp t l = some vs → PR E vs (l.map fun (i, x) => (i, ρ x))
  | [], vs, h => by simp only [evp, mapO_nil, Option.some.injEq] at h; subst h; rfl
  | (i, x) :: l, vs, h => by
    simp only [evp, mapO_cons] at h
    cases hx : ev t x with
    | none => rw [hx] at h; cases h
    | some v =>
      rw [hx] at h
      replace h : (evp t l).bind (fun ys => some ((i, v) :: ys)) = some vs := h
      cases hl : evp t l with
      | none => rw [hl] at h; cases h
      | some ys =>
        rw [hl] at h; simp only [Option.bind_some, Option.some.injEq] at h; subst h
        exact ⟨ρ x, _, rfl, he _ _ hx, evp_rel he (l := l) hl⟩

theorem guard_else {op : BinOp} {ty : TypeId} {x y : Operand} {u v : Value} (h1 : u = .nilIface → v = .nilIface → False) (h2 : ∀ c d, u = .agg c → v = .agg d → False) :
    eqGuard op ty x y u v = pure () := by
  have key : ∀ o : BinOp, (o = .eql ∨ o = .neq) → eqGuard o ty x y u v = pure () := by
    rintro o (rfl | rfl) <;> simp only [eqGuard] <;> split <;> first | exact (h1 rfl rfl).elim | exact (h2 _ _ rfl rfl).elim | rfl
  cases op <;> first | rfl | exact key _ (.inl rfl) | exact key _ (.inr rfl)
theorem guard_nil {op : BinOp} {ty : TypeId} {x y : Operand} (h : cond (isConstB x) true (isConstB y) = true) : eqGuard op ty x y .nilIface .nilIface = pure () := by
  cases op <;> first | rfl | (cases x <;> cases y <;> first | rfl | (exfalso; simp [isConstB] at h; done))
theorem guard_agg {op : BinOp} {ty : TypeId} {x y : Operand} {c d : Array Value} (h : P.eqGuardType P.depth ty = false) : (eqGuard op ty x y (.agg c) (.agg d)).run P w = .ok () w := by
  cases op <;> first | rfl | simp [eqGuard, h]
theorem guard_run {op : BinOp} {ty : TypeId} {x y : Operand} {u v : Value} (h1 : u = .nilIface → v = .nilIface → cond (isConstB x) true (isConstB y) = true)
    (h2 : ∀ c d, u = .agg c → v = .agg d → P.eqGuardType P.depth ty = false) : (eqGuard op ty x y u v).run P w = .ok () w := by
  by_cases e1 : u = .nilIface ∧ v = .nilIface
  · obtain ⟨rfl, rfl⟩ := e1
    rw [guard_nil (h1 rfl rfl)]; simp
  · by_cases e2 : ∃ c d, u = .agg c ∧ v = .agg d
    · obtain ⟨c, d, rfl, rfl⟩ := e2
      exact guard_agg (h2 c d rfl rfl)
    · rw [guard_else (fun a b => e1 ⟨a, b⟩) fun c d a b => e2 ⟨c, d, a, b⟩]; simp
theorem VR_nilIface {a : V} (h : VR E a .nilIface) : a = .nili := by
  cases a <;> simp [VR] at h <;> rfl
theorem VR_agg {a : V} {c : Array Value} (h : VR E a (.agg c)) : ∃ l, a = .agg l := by
  cases a <;> simp [VR] at h <;> exact ⟨_, rfl⟩
theorem VR_intI {a : V} {k : IntKind} {n : Int} (h : VR E a (.int k n)) : a = .int k n := by
  cases a <;> simp [VR] at h
  rw [h.1, h.2]
theorem VR_strI {a : V} {s : ByteArray} (h : VR E a (.string s)) : ∃ n c, a = .str n c := by
  cases a <;> simp [VR] at h <;> exact ⟨_, _, rfl⟩
theorem VR_noFloat {a : V} {k : FloatKind} {n : Nat} (h : VR E a (.float k n)) : False := by
  cases a <;> simp [VR] at h
theorem VR_noComplex {a : V} {k : FloatKind} {n m : Nat} (h : VR E a (.complex k n m)) : False := by
  cases a <;> simp [VR] at h
theorem binOp_eql {ty : TypeId} {u v : Value} (h1 : ∀ k m j n, u = .int k m → v = .int j n → False) (h2 : ∀ s r, u = .string s → v = .string r → False)
    (h3 : ∀ k n, u ≠ .float k n) (h4 : ∀ k n m, u ≠ .complex k n m) : Go.binOp .eql ty u v = (do pure (.bool (← Op.equal ty u v))) ∧ Go.binOp .neq ty u v = (do pure (.bool (!(← Op.equal ty u v)))) := by
  have key : ∀ o : BinOp, o = .eql ∨ o = .neq → Go.binOp o ty u v = (match o with
      | .eql => (do pure (.bool (← Op.equal ty u v)))
      | _ => (do pure (.bool (!(← Op.equal ty u v))))) := by
    intro o ho
    unfold Go.binOp
    split <;> first
      | rfl
      | (exfalso; rcases ho with ho | ho <;> cases ho; done)
      | (exfalso; exact h1 _ _ _ _ rfl rfl)
      | (exfalso; exact h2 _ _ rfl rfl)
      | (exfalso; exact h3 _ _ rfl)
      | (exfalso; exact h4 _ _ _ rfl)
      | (exfalso; rcases ho with ho | ho <;> simp_all; done)
  exact ⟨key .eql (.inl rfl), key .neq (.inr rfl)⟩
theorem binA_run {ρ : Operand → Value} {op : BinOp} {ty : TypeId} {x y : Operand} {a b : V} (ha : VR E a (ρ x)) (hb : VR E b (ρ y)) {v : V} (h : binA P op ty x y a b = some v) :
    ∃ z, (do eqGuard op ty x y (ρ x) (ρ y); Go.binOp op ty (ρ x) (ρ y) : Sem Value).run P w = .ok z w ∧ VR E v z := by
  unfold binA at h
  split at h
  · rename_i k m j n
    simp only [VR] at ha hb
    rw [ha, hb]
    obtain ⟨z, h1, h2⟩ := arith_run (P := P) (w := w) ty h
    refine ⟨z, ?_, h2 E⟩
    have hg : eqGuard op ty x y (.int k m) (.int j n) = pure () := by cases op <;> rfl
    rw [hg]; simpa using h1
  · rename_i n c m d
    obtain ⟨s, e1, rfl, rfl⟩ := VR_str_inv ha
    obtain ⟨u, e2, rfl, rfl⟩ := VR_str_inv hb
    rw [e1, e2]
    obtain ⟨z, h1, h2⟩ := strOp_run (P := P) (w := w) ty h
    refine ⟨z, ?_, h2 E⟩
    have hg : eqGuard op ty x y (.string s) (.string u) = pure () := by cases op <;> rfl
    rw [hg]; simpa using h1
  · rename_i hni hns
    obtain ⟨h1, h2⟩ := cond_some h
    have hguard : (eqGuard op ty x y (ρ x) (ρ y)).run P w = .ok () w := by
      refine guard_run (fun e1 e2 => ?_) fun c d e1 e2 => ?_
      · rw [e1] at ha; rw [e2] at hb
        rw [VR_nilIface ha, VR_nilIface hb] at h1
        exact h1
      · rw [e1] at ha; rw [e2] at hb
        obtain ⟨l, rfl⟩ := VR_agg ha
        obtain ⟨m, rfl⟩ := VR_agg hb
        simp only at h1
        cases hg : P.eqGuardType P.depth ty with
        | false => rfl
        | true => rw [hg] at h1; cases h1
    obtain ⟨b1, b2⟩ := binOp_eql (ty := ty) (u := ρ x) (v := ρ y)
      (fun k m j n e1 e2 => by rw [e1] at ha; rw [e2] at hb; exact hni _ _ _ _ (VR_intI ha) (VR_intI hb))
      (fun s r e1 e2 => by
        rw [e1] at ha; rw [e2] at hb
        obtain ⟨n, c, rfl⟩ := VR_strI ha; obtain ⟨m, d, rfl⟩ := VR_strI hb
        exact hns _ _ _ _ rfl rfl)
      (fun k n e => by rw [e] at ha; exact VR_noFloat ha)
      (fun k n m e => by rw [e] at ha; exact VR_noComplex ha)
    split at h2
    · split at h2
      · rename_i r hr
        simp only [Option.some.injEq] at h2; subst h2
        have hq := eqA_run (P := P) (w := w) 8 Op.maxDepth ty a b _ _ r ha hb (by decide) hr
        exact ⟨.bool r, by rw [b1]; simp [hguard, Op.equal, hq], VR_bool E r⟩
      · cases h2
    · split at h2
      · rename_i r hr
        simp only [Option.some.injEq] at h2; subst h2
        have hq := eqA_run (P := P) (w := w) 8 Op.maxDepth ty a b _ _ r ha hb (by decide) hr
        exact ⟨.bool (!r), by rw [b2]; simp [hguard, Op.equal, hq], by rw [cond_not]; exact VR_bool E _⟩
      · cases h2
    · cases h2
end
end
end Go.Dg

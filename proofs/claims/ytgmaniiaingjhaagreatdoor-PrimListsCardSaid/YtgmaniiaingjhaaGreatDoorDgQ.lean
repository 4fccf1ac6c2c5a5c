/- The deterministic machine, part 17: code and calls. -/
import Derived.Test.YtgmaniiaingjhaaGreatDoorDgP
import Derived.LoopN
import Derived.ScopeJumps
namespace Go.Dg
open Go Go.RowKit
noncomputable section
section
variable {P : Program}

def Ex.out : Ex → Exit
  | .normal => .normal
  | .exit i => .exit i
  | .goto l => .goto l
  | .ret => .ret
/-- a code's reckoning -/
def RunOK (P : Program) (B : Beside) (N : Nat) (c : Code) (f : RF) : Prop :=
  ∀ E σ w t a e t' σ', Rel E σ w → AR B E N t a → f t σ = some (e, t', σ') → ∀ Q : Exit → Act → World → Prop, (∀ E' a' w', Step E σ w E' σ' w' → AR B E' N t' a' → Q e.out a' w') → c.wp P Q a w
def DrawOK (P : Program) (B : Beside) (call : CallF) (N : Nat) : Prop :=
  ∀ id ops, RunOK P B N (.region id ops true) (fun t σ => match drawA P B call N ops t σ with
    | some (t', σ') => some (.normal, t', σ')
    | none => none)

theorem RunOK.skip {B : Beside} {N : Nat} : RunOK P B N .skip skipA := by
  intro E σ w t a e t' σ' h ha hv Q hQ
  simp only [skipA, Option.some.injEq, Prod.mk.injEq] at hv; obtain ⟨rfl, rfl, rfl⟩ := hv
  exact wp_skip (hQ E a w (Step.refl h) ha)
theorem RunOK.seq {B : Beside} {N : Nat} {c d : Code} {f g : RF} (hc : RunOK P B N c f) (hd : RunOK P B N d g) : RunOK P B N (.seq c d) (thenA f g) := by
  intro E σ w t a e t' σ' h ha hv Q hQ
  refine wp_seq ?_
  unfold thenA at hv
  split at hv
  · rename_i t1 σ1 h1
    exact hc E σ w t a _ _ _ h ha h1 _ fun E1 a1 w1 s1 ha1 => hd E1 σ1 w1 t1 a1 _ _ _ s1.rel ha1 hv Q fun E2 a2 w2 s2 ha2 => hQ E2 a2 w2 (s1.trans s2) ha2
  · rename_i hne
    refine hc E σ w t a _ _ _ h ha hv _ fun E1 a1 w1 s1 ha1 => ?_
    have hq := hQ E1 a1 w1 s1 ha1
    cases e with
    | normal => exact absurd hv (hne _ _)
    | exit i => exact hq
    | goto l => exact hq
    | ret => exact hq
theorem RunOK.cond {B : Beside} {N : Nat} {c d : Code} {f g : RF} {x : Operand} (hc : RunOK P B N c f) (hd : RunOK P B N d g) :
    RunOK P B N (.cond x c d) (fun t σ => match ev t x with
      | some (.bool r) => Bool.rec (motive := fun _ => Option (Ex × PT V × St)) (g t σ) (f t σ) r
      | _ => none) := by
  intro E σ w t a e t' σ' h ha hv Q hQ
  dsimp only at hv
  split at hv
  · rename_i r hr
    have hx := ha.evR _ _ hr
    simp only [VR] at hx
    refine wp_cond hx ?_
    cases r with
    | true => rw [if_pos rfl]; exact hc E σ w t a _ _ _ h ha hv Q hQ
    | false => rw [if_neg (by simp)]; exact hd E σ w t a _ _ _ h ha hv Q hQ
  · cases hv
theorem RunOK.block {B : Beside} {N : Nat} {c : Code} {f : RF} {i : Nat} (hc : RunOK P B N c f) :
    RunOK P B N (.block i c) (fun t σ => match f t σ with
      | some (.exit j, t', σ') => Bool.rec (motive := fun _ => Option (Ex × PT V × St)) (some (.exit j, t', σ')) (some (.normal, t', σ')) (Nat.beq j i)
      | r => r) := by
  intro E σ w t a e t' σ' h ha hv Q hQ
  refine wp_block ?_
  dsimp only at hv
  split at hv
  · rename_i j t1 σ1 h1
    refine hc E σ w t a _ _ _ h ha h1 _ fun E1 a1 w1 s1 ha1 => ?_
    show (if j = i then Q .normal a1 w1 else Q (.exit j) a1 w1)
    cases hb : Nat.beq j i with
    | true =>
      rw [hb] at hv; simp only [Option.some.injEq, Prod.mk.injEq] at hv; obtain ⟨rfl, rfl, rfl⟩ := hv
      rw [if_pos (Nat.eq_of_beq_eq_true hb)]
      exact hQ E1 a1 w1 s1 ha1
    | false =>
      rw [hb] at hv; simp only [Option.some.injEq, Prod.mk.injEq] at hv; obtain ⟨rfl, rfl, rfl⟩ := hv
      rw [if_neg (Nat.ne_of_beq_eq_false hb)]
      exact hQ E1 a1 w1 s1 ha1
  · rename_i hne
    refine hc E σ w t a _ _ _ h ha hv _ fun E1 a1 w1 s1 ha1 => ?_
    have hq := hQ E1 a1 w1 s1 ha1
    cases e with
    | normal => exact hq
    | exit j => exact absurd hv (hne _ _ _)
    | goto l => exact hq
    | ret => exact hq
theorem RunOK.rounds {B : Beside} {N : Nat} {c : Code} {f : RF} (hc : RunOK P B N c f) : ∀ (n : Nat) E σ w t a e t' σ', Rel E σ w → AR B E N t a → iterA f n t σ = some (e, t', σ') → ∀ Q : Exit → Act → World → Prop,
    (∀ E' a' w', Step E σ w E' σ' w' → AR B E' N t' a' → Q e.out a' w') → Code.rounds P c Q n a w
  | 0, E, σ, w, t, a, e, t', σ', h, ha, hv, Q, hQ => by simp [iterA] at hv
  | n + 1, E, σ, w, t, a, e, t', σ', h, ha, hv, Q, hQ => by
    rw [rounds_succ]
    simp only [iterA] at hv
    split at hv
    · rename_i t1 σ1 h1
      exact hc E σ w t a _ _ _ h ha h1 _ fun E1 a1 w1 s1 ha1 => RunOK.rounds hc n E1 σ1 w1 t1 a1 _ _ _ s1.rel ha1 hv Q fun E2 a2 w2 s2 ha2 => hQ E2 a2 w2 (s1.trans s2) ha2
    · rename_i hne
      refine hc E σ w t a _ _ _ h ha hv _ fun E1 a1 w1 s1 ha1 => ?_
      have hq := hQ E1 a1 w1 s1 ha1
      cases e with
      | normal => exact absurd hv (hne _ _)
      | exit i => exact hq
      | goto l => exact hq
      | ret => exact hq
theorem iterA_not_normal {f : RF} : ∀ n t σ t' σ', iterA f n t σ ≠ some (.normal, t', σ')
  | 0, t, σ, t', σ', h => by simp [iterA] at h
  | n + 1, t, σ, t', σ', h => by
    simp only [iterA] at h
    split at h
    · exact iterA_not_normal n _ _ _ _ h
    · rename_i hne; exact hne _ _ h
theorem RunOK.loop {B : Beside} {N F : Nat} {c : Code} {f : RF} (hc : RunOK P B N c f) : RunOK P B N (.loop c) (iterA f F) := by
  intro E σ w t a e t' σ' h ha hv Q hQ
  exact wp_loop_rounds F (RunOK.rounds hc F E σ w t a e t' σ' h ha hv Q hQ)

/-- jumps within a scope -/
theorem jumps_wp {B : Beside} {N : Nat} {c : Code} {from_ : Nat → Option RF} (hf : ∀ l f, from_ l = some f → ∃ rest, findLabel c l = some rest ∧ RunOK P B N rest f) (hn : ∀ l, from_ l = none → findLabel c l = none) :
    ∀ (n : Nat) {e : Ex} {E : Env} {σ : St} {w : World} {t : PT V} {a : Act} {e' t' σ'}, Rel E σ w → AR B E N t a → jumpsA from_ n e t σ = some (e', t', σ') → ∀ Q : Exit → Act → World → Prop,
    (∀ E' a' w', Step E σ w E' σ' w' → AR B E' N t' a' → Q e'.out a' w') → ∀ (m : Machine) (b : Frame) (k : List Item) (cs : List Frame), Arrives P m b (.inScope c :: k) cs e.out a w →
      ∃ e1 a1 w1, Q e1 a1 w1 ∧ Arrives P m b k cs e1 a1 w1
  | 0, _, _, _, _, _, _, _, _, _, _, _, hv, _, _, _, _, _, _, _ => by simp [jumpsA] at hv
  | n + 1, .normal, E, σ, w, t, a, e', t', σ', h, ha, hv, Q, hQ, m, b, k, cs, harr => by
    simp only [jumpsA, Option.some.injEq, Prod.mk.injEq] at hv; obtain ⟨rfl, rfl, rfl⟩ := hv
    exact ⟨_, a, w, hQ E a w (Step.refl h) ha, Steps.trans harr (.one step_inScope)⟩
  | n + 1, .exit i, E, σ, w, t, a, e', t', σ', h, ha, hv, Q, hQ, m, b, k, cs, harr => by
    simp only [jumpsA, Option.some.injEq, Prod.mk.injEq] at hv; obtain ⟨rfl, rfl, rfl⟩ := hv
    exact ⟨_, a, w, hQ E a w (Step.refl h) ha, fun k' hk => harr k' (by simp [exitTo, hk])⟩
  | n + 1, .ret, E, σ, w, t, a, e', t', σ', h, ha, hv, Q, hQ, m, b, k, cs, harr => by
    simp only [jumpsA, Option.some.injEq, Prod.mk.injEq] at hv; obtain ⟨rfl, rfl, rfl⟩ := hv
    exact ⟨_, a, w, hQ E a w (Step.refl h) ha, harr⟩
  | n + 1, .goto l, E, σ, w, t, a, e', t', σ', h, ha, hv, Q, hQ, m, b, k, cs, harr => by
    simp only [jumpsA] at hv
    split at hv
    · rename_i f hfl
      obtain ⟨rest, hrest, hrun⟩ := hf l f hfl
      split at hv
      · rename_i e1 t1 σ1 h1
        have hg : gotoIn l (.inScope c :: k) = some (.code rest :: .inScope c :: k) := by simp [gotoIn, hrest]
        have hs := harr _ hg
        obtain ⟨ex, a1, w1, ⟨he, E1, s1, ha1⟩, arr1⟩ := hrun E σ w t a _ _ _ h ha h1 (fun ex a' w' => ex = e1.out ∧ ∃ E', Step E σ w E' σ1 w' ∧ AR B E' N t1 a')
          (fun E' a' w' s ha' => ⟨rfl, E', s, ha'⟩) b (.inScope c :: k) cs
        subst he
        exact jumps_wp hf hn n s1.rel ha1 hv Q (fun E2 a2 w2 s2 ha2 => hQ E2 a2 w2 (s1.trans s2) ha2) m b k cs (.of_steps hs arr1)
      · cases hv
    · rename_i hfl
      simp only [Option.some.injEq, Prod.mk.injEq] at hv; obtain ⟨rfl, rfl, rfl⟩ := hv
      exact ⟨_, a, w, hQ E a w (Step.refl h) ha, fun k' hk => harr k' (by simp [gotoIn, hn l hfl, hk])⟩
theorem RunOK.scope {B : Beside} {N F : Nat} {c : Code} {f : RF} {from_ : Nat → Option RF} (hc : RunOK P B N c f) (hf : ∀ l f, from_ l = some f → ∃ rest, findLabel c l = some rest ∧ RunOK P B N rest f)
    (hn : ∀ l, from_ l = none → findLabel c l = none) :
    RunOK P B N (.scope c) (fun t σ => match f t σ with
      | some (e, t', σ') => jumpsA from_ F e t' σ'
      | none => none) := by
  intro E σ w t a e t' σ' h ha hv Q hQ b k cs
  dsimp only at hv
  split at hv
  · rename_i e1 t1 σ1 h1
    obtain ⟨ex, a1, w1, ⟨he, E1, s1, ha1⟩, arr1⟩ := hc E σ w t a _ _ _ h ha h1 (fun ex a' w' => ex = e1.out ∧ ∃ E', Step E σ w E' σ1 w' ∧ AR B E' N t1 a')
      (fun E' a' w' s ha' => ⟨rfl, E', s, ha'⟩) b (.inScope c :: k) cs
    subst he
    exact jumps_wp hf hn F s1.rel ha1 hv Q (fun E2 a2 w2 s2 ha2 => hQ E2 a2 w2 (s1.trans s2) ha2) _ b k cs (.of_steps (.one step_scope) arr1)
  · cases hv

theorem code_ok {B : Beside} (hB : Fits P B) {call : CallF} (hC : CallOK P call) {F N : Nat} (hD : DrawOK P B call N) : ∀ c : Code, RunOK P B N c (codeA P B call F N c).run ∧
    (∀ l f, (codeA P B call F N c).from_ l = some f → ∃ rest, findLabel c l = some rest ∧ RunOK P B N rest f) ∧ (∀ l, (codeA P B call F N c).from_ l = none → findLabel c l = none) := by
  intro c
  induction c with
  | skip => exact ⟨RunOK.skip, fun l f h => (by cases h), fun l _ => rfl⟩
  | region id ops d =>
    cases d with
    | true => exact ⟨hD id ops, fun l f h => (by cases h), fun l _ => rfl⟩
    | false =>
      refine ⟨?_, fun l f h => (by cases h), fun l _ => rfl⟩
      intro E σ w t a e t' σ' h ha hv Q hQ
      simp only [codeA] at hv
      split at hv
      · rename_i t1 σ1 h1
        simp only [Option.some.injEq, Prod.mk.injEq] at hv; obtain ⟨rfl, rfl, rfl⟩ := hv
        exact wp_region (steps_wp hB hC _ h ha h1 hQ)
      · cases hv
  | seq c d ihc ihd =>
    obtain ⟨c1, c2, c3⟩ := ihc
    obtain ⟨d1, d2, d3⟩ := ihd
    refine ⟨RunOK.seq c1 d1, fun l f h => ?_, fun l h => ?_⟩
    · simp only [codeA] at h
      split at h
      · rename_i g hg
        simp only [Option.some.injEq] at h; subst h
        obtain ⟨rest, hr, hrun⟩ := c2 l g hg
        exact ⟨.seq rest d, by simp [findLabel, hr], RunOK.seq hrun d1⟩
      · rename_i hg
        obtain ⟨rest, hr, hrun⟩ := d2 l f h
        exact ⟨rest, by simp [findLabel, c3 l hg, hr], hrun⟩
    · simp only [codeA] at h
      split at h
      · cases h
      · rename_i hg
        simp [findLabel, c3 l hg, d3 l h]
  | cond x c d ihc ihd =>
    refine ⟨?_, fun l f h => (by cases h), fun l _ => rfl⟩
    have := RunOK.cond (x := x) ihc.1 ihd.1
    intro E σ w t a e t' σ' h ha hv Q hQ
    refine this E σ w t a e t' σ' h ha ?_ Q hQ
    simp only [codeA] at hv
    split at hv
    · rename_i r hr
      dsimp only; rw [hr]; cases r <;> exact hv
    · cases hv
  | block i c ih =>
    refine ⟨?_, fun l f h => (by cases h), fun l _ => rfl⟩
    have := RunOK.block (i := i) ih.1
    intro E σ w t a e t' σ' h ha hv Q hQ
    refine this E σ w t a e t' σ' h ha ?_ Q hQ
    simp only [codeA] at hv
    split at hv
    · rename_i j t1 σ1 h1
      dsimp only
      rw [h1]; dsimp only
      cases hb : Nat.beq j i <;> (rw [hb] at hv; exact hv)
    · rename_i hne
      dsimp only
      split
      · rename_i j t1 σ1 h1; exact absurd h1 (hne _ _ _)
      · exact hv
  | loop c ih => exact ⟨RunOK.loop ih.1, fun l f h => (by cases h), fun l _ => rfl⟩
  | scope c ih => exact ⟨RunOK.scope ih.1 ih.2.1 ih.2.2, fun l f h => (by cases h), fun l _ => rfl⟩
  | label l' =>
    refine ⟨?_, fun l f h => ?_, fun l h => ?_⟩
    · intro E σ w t a e t' σ' h ha hv Q hQ
      simp only [codeA, skipA, Option.some.injEq, Prod.mk.injEq] at hv; obtain ⟨rfl, rfl, rfl⟩ := hv
      exact wp_label (hQ E a w (Step.refl h) ha)
    · simp only [codeA] at h
      obtain ⟨h1, h2⟩ := cond_some h
      simp only [Option.some.injEq] at h2; subst h2
      exact ⟨.skip, by simp [findLabel, Nat.eq_of_beq_eq_true h1], RunOK.skip⟩
    · simp only [codeA] at h
      cases hb : Nat.beq l' l with
      | true => rw [hb] at h; cases h
      | false => simp [findLabel, Nat.ne_of_beq_eq_false hb]
  | exit i =>
    refine ⟨?_, fun l f h => (by cases h), fun l _ => rfl⟩
    intro E σ w t a e t' σ' h ha hv Q hQ
    simp only [codeA, Option.some.injEq, Prod.mk.injEq] at hv; obtain ⟨rfl, rfl, rfl⟩ := hv
    exact wp_exit (hQ E a w (Step.refl h) ha)
  | goto i =>
    refine ⟨?_, fun l f h => (by cases h), fun l _ => rfl⟩
    intro E σ w t a e t' σ' h ha hv Q hQ
    simp only [codeA, Option.some.injEq, Prod.mk.injEq] at hv; obtain ⟨rfl, rfl, rfl⟩ := hv
    exact wp_goto (hQ E a w (Step.refl h) ha)
  | ret =>
    refine ⟨?_, fun l f h => (by cases h), fun l _ => rfl⟩
    intro E σ w t a e t' σ' h ha hv Q hQ
    simp only [codeA, Option.some.injEq, Prod.mk.injEq] at hv; obtain ⟨rfl, rfl, rfl⟩ := hv
    exact wp_ret (hQ E a w (Step.refl h) ha)
  | rangeFunc f ps as body ih1 ih2 =>
    refine ⟨?_, fun l f h => (by cases h), fun l _ => rfl⟩
    intro E σ w t a e t' σ' h ha hv Q hQ
    cases hv
  | refuse why =>
    refine ⟨?_, fun l f h => (by cases h), fun l _ => rfl⟩
    intro E σ w t a e t' σ' h ha hv Q hQ
    cases hv
end
end
end Go.Dg

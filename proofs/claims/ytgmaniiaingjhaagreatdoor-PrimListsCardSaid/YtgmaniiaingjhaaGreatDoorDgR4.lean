/- The deterministic machine, part 22: what holds while a region that draws is under way. -/
import Derived.Test.YtgmaniiaingjhaaGreatDoorDgR3
namespace Go.Dg
open Go Go.RowKit
noncomputable section
section
variable {P : Program}

theorem ev_set {t : PT V} {y : Nat} {v : V} {x : Operand} (h : x ≠ .tmp y) : ev (t.set y v) x = ev t x := by
  cases x with
  | tmp i => exact PT.get_set_ne _ _ fun e => h (by rw [e])
  | _ => rfl
theorem put_congr {N : Nat} {ops : Array Oper} {t t' : PT V} {dst : Option Tmp} {v : V} {o : Oper} (h : ∀ y, dst = some y → y ∉ o.looksAt ops) (hp : putA N t dst v = some t') :
    (∀ σ, opA P t' o σ = opA P t o σ) ∧ wantA ops t' o = wantA ops t o := by
  cases dst with
  | none => simp only [putA, Option.some.injEq] at hp; subst hp; exact ⟨fun _ => rfl, rfl⟩
  | some y =>
    simp only [putA] at hp
    obtain ⟨_, h2⟩ := cond_some hp
    simp only [Option.some.injEq] at h2; subst h2
    have hy := h y rfl
    refine ⟨fun σ => opA_congr (fun x hx => ev_set fun e => hy ?_) σ, ?_⟩
    · subst e
      exact List.mem_append_left _ (List.mem_filterMap.2 ⟨.tmp y, by simpa using hx, rfl⟩)
    · unfold wantA
      cases hg : o.guard with
      | none => rfl
      | some gw =>
        obtain ⟨g, want⟩ := gw
        simp only
        cases ht : (ops[g]?).bind (·.dst) with
        | none => rfl
        | some z =>
          have hne : z ≠ y := fun e => hy (by subst e; simp [Oper.looksAt, hg, ht])
          simp only [PT.get_set_ne _ _ hne]
theorem putA_get {N : Nat} {t t' : PT V} {dst : Option Tmp} {v : V} (hp : putA N t dst v = some t') : (∀ x, dst = some x → x < N ∧ t'.get x = some v) ∧ ∀ x, dst ≠ some x → t'.get x = t.get x := by
  cases dst with
  | none => simp only [putA, Option.some.injEq] at hp; subst hp; exact ⟨fun x h => (by cases h), fun _ _ => rfl⟩
  | some y =>
    simp only [putA] at hp
    obtain ⟨h1, h2⟩ := cond_some hp
    simp only [Option.some.injEq] at h2; subst h2
    refine ⟨fun x h => ?_, fun x h => PT.get_set_ne _ _ fun e => h (by rw [e])⟩
    cases h
    exact ⟨Nat.le_of_ble_eq_true h1, PT.get_set_same _ _ _⟩

/-- done by the reckoning, not yet by the model -/
inductive Pend (P : Program) (N : Nat) (ops : Array Oper) (σ0 : St) (s : Dr) (num : Nat → Nat) (τ : St) (E : Env) (d : DOp) : Prop where
  | skip (hw : wantA ops s.t d.o = some false) (hd : ∀ x, d.o.dst = some x → x < N ∧ s.t.get x = some V.undef)
  | pure (v : V) (hk : kindA P d.o = .p) (hw : wantA ops s.t d.o = some true) (hd : ∀ x, d.o.dst = some x → x < N ∧ s.t.get x = some v) (ho : ∀ τ, opA P s.t d.o τ = some (v, τ))
  | read (v : V) (hk : kindA P d.o = .r) (hw : wantA ops s.t d.o = some true) (hd : ∀ x, d.o.dst = some x → x < N ∧ s.t.get x = some v) (hr : d ∈ s.rs)
  | make (v : V) (σi : St) (obj : Obj) (hk : kindA P d.o = .a) (hw : wantA ops s.t d.o = some true) (hd : ∀ x, d.o.dst = some x → x < N ∧ s.t.get x = some v)
      (ho : opA P s.t d.o σi = some (v, σi.new obj)) (hn : σi.next = num d.i) (h0 : σ0.next ≤ num d.i) (h1 : num d.i < τ.next) (hE : E (num d.i) = none) (hg : τ.heap.get (num d.i) = some obj)

structure Inv (P : Program) (B : Beside) (N : Nat) (ops : Array Oper) (ds : List DOp) (E0 : Env) (σ0 : St) (w0 : World) (L : Nat → Prop) (l : List DOp) (s : Dr) (num : Nat → Nat) (τ : St) (E : Env) (a : Act) (w : World) : Prop where
  step : Step E0 σ0 w0 E τ w
  size : N ≤ a.tmps.size
  defers : ∀ d ∈ a.defers, HarmD B d
  sub : ∀ i, L i → hasB s.done i = true
  part : ∀ d ∈ ds, hasB s.done d.i = true ∨ d ∈ l ++ s.rem
  mem : ∀ d ∈ l ++ s.rem, d ∈ ds
  nd : (l ++ s.rem).Pairwise fun d e => d.i ≠ e.i
  notdone : ∀ d ∈ l ++ s.rem, hasB s.done d.i = false
  clos : ∀ d ∈ ds, hasB s.done d.i = true → ∀ j, hasB d.b j = true → hasB s.done j = true
  tmpD : ∀ d ∈ ds, L d.i → ∀ x v, d.o.dst = some x → s.t.get x = some v → ∃ y, a.tmps[x]? = some y ∧ VR E v y
  tmpO : ∀ x v, (∀ d ∈ ds, d.o.dst = some x → hasB s.done d.i = false) → s.t.get x = some v → ∃ y, a.tmps[x]? = some y ∧ VR E v y
  wdone : ∀ d ∈ ds, antiA P d.o = true → hasB s.done d.i = true → L d.i
  pend : ∀ d ∈ ds, hasB s.done d.i = true → ¬ L d.i → Pend P N ops σ0 s num τ E d
  inj : ∀ d ∈ ds, ∀ e ∈ ds, hasB s.done d.i = true → hasB s.done e.i = true → ¬ L d.i → ¬ L e.i → kindA P d.o = .a → kindA P e.o = .a → wantA ops s.t d.o = some true → wantA ops s.t e.o = some true →
    d.i ≠ e.i → num d.i ≠ num e.i

section
variable {B : Beside} {N : Nat} {ops : Array Oper} {ds : List DOp} {E0 E : Env} {σ0 τ : St} {w0 w : World} {L : Nat → Prop} {a : Act} {num : Nat → Nat}

/-- the operands of what is done, or is done now, are not turned by it -/
theorem apart_of (hfl : Flow P ops ds) {done : Nat} (hc : ∀ d ∈ ds, hasB done d.i = true → ∀ j, hasB d.b j = true → hasB done j = true) {d : DOp} (hd : d ∈ ds) (hnd : hasB done d.i = false)
    {e : DOp} (he : e ∈ ds) (hed : hasB done e.i = true) (hanti : antiA P d.o = true → hasB d.b e.i = false) : ∀ y, d.o.dst = some y → y ∉ e.o.looksAt ops := by
  intro y hy hl
  rcases hfl.looks e he d hd y hy hl with h1 | ⟨h1, h2⟩
  · have h2 := hc e he hed _ h1
    rw [hnd] at h2; cases h2
  · have h3 := hanti h2
    rw [h1] at h3; cases h3
theorem apart_self (hfl : Flow P ops ds) {done : Nat} {d : DOp} (hd : d ∈ ds) (hb : subB d.b done = true) (hnd : hasB done d.i = false) : ∀ y, d.o.dst = some y → y ∉ d.o.looksAt ops := by
  intro y hy hl
  have h1 : hasB d.b d.i = true := (hfl.looks d hd d hd y hy hl).elim id fun h => h.1
  have h2 := subB_spec hb h1
  rw [hnd] at h2; cases h2

/-- what is pending stays so when another one is done by the reckoning -/
theorem Pend.next {d e : DOp} {s : Dr} {t' : PT V} {v : V} {τ' : St} {num' : Nat → Nat} {done' : Nat} {rem' rs' : List DOp} {E' : Env} (hp : Pend P N ops σ0 s num τ E e) (hput : putA N s.t d.o.dst v = some t')
    (hap : ∀ y, d.o.dst = some y → y ∉ e.o.looksAt ops) (hne : ∀ x, e.o.dst = some x → d.o.dst ≠ some x) (hnum : num' e.i = num e.i)
    (hτ1 : τ.next ≤ τ'.next) (hτ2 : ∀ k, k < τ.next → E k = none → τ'.heap.get k = τ.heap.get k) (hrs : e ∈ s.rs → e ∈ rs') (hE' : num e.i < τ.next → E (num e.i) = none → E' (num e.i) = none) : Pend P N ops σ0 ⟨t', τ', done', rem', rs'⟩ num' τ' E' e := by
  obtain ⟨c1, c2⟩ := put_congr hap hput
  obtain ⟨_, g2⟩ := putA_get hput
  have keep : ∀ {u : V}, (∀ x, e.o.dst = some x → x < N ∧ s.t.get x = some u) → ∀ x, e.o.dst = some x → x < N ∧ t'.get x = some u := fun h x hx =>
    ⟨(h x hx).1, by rw [g2 x (hne x hx)]; exact (h x hx).2⟩
  cases hp with
  | skip hw hd => exact .skip (by rw [c2]; exact hw) (keep hd)
  | pure v hk hw hd ho => exact .pure v hk (by rw [c2]; exact hw) (keep hd) (fun τ => by rw [c1]; exact ho τ)
  | read v hk hw hd hr => exact .read v hk (by rw [c2]; exact hw) (keep hd) (hrs hr)
  | make v σi obj hk hw hd ho hn h0 h1 hE hg =>
    exact .make v σi obj hk (by rw [c2]; exact hw) (keep hd) (by rw [c1]; exact ho) (by rw [hnum]; exact hn) (by rw [hnum]; exact h0) (by rw [hnum]; omega) (by rw [hnum]; exact hE' h1 hE)
      (by rw [hnum, hτ2 _ h1 hE]; exact hg)

/-- one more is done by the reckoning alone -/
theorem Inv.float (hfl : Flow P ops ds) {d : DOp} (hna : antiA P d.o = false) {l : List DOp} {s : Dr} (h : Inv P B N ops ds E0 σ0 w0 L (d :: l) s num s.σ E a w) (hb : subB d.b s.done = true) {t' : PT V} {v : V} (hput : putA N s.t d.o.dst v = some t')
    {σ' : St} {rs' : List DOp} (hrs : ∀ r ∈ s.rs, r ∈ rs') {num' : Nat → Nat} (hnum : ∀ e ∈ ds, hasB s.done e.i = true → num' e.i = num e.i)
    (hstep : Step E0 σ0 w0 E σ' w) (hτ1 : s.σ.next ≤ σ'.next) (hτ2 : ∀ k, k < s.σ.next → E k = none → σ'.heap.get k = s.σ.heap.get k)
    (hnew : Pend P N ops σ0 ⟨t', σ', addB s.done d.i, s.rem, rs'⟩ num' σ' E d)
    (hinj : kindA P d.o = .a → wantA ops t' d.o = some true → ∀ e ∈ ds, hasB s.done e.i = true → ¬ L e.i → kindA P e.o = .a → wantA ops t' e.o = some true → num' d.i ≠ num' e.i) :
    Inv P B N ops ds E0 σ0 w0 L l ⟨t', σ', addB s.done d.i, s.rem, rs'⟩ num' σ' E a w := by
  have hmd : d ∈ ds := h.mem d (by simp)
  have hnd : hasB s.done d.i = false := h.notdone d (by simp)
  have hLd : ¬ L d.i := fun hl => by have := h.sub _ hl; rw [hnd] at this; cases this
  obtain ⟨g1, g2⟩ := putA_get hput
  have pw := h.nd
  simp only [List.cons_append, List.pairwise_cons] at pw
  have dne : ∀ e ∈ ds, hasB s.done e.i = true → d.i ≠ e.i := fun e he hed heq => by rw [← heq, hnd] at hed; cases hed
  have done_or : ∀ i, hasB (addB s.done d.i) i = true → hasB s.done i = true ∨ d.i = i := fun i hi => by
    rw [hasB_add] at hi; simpa [Bool.or_eq_true] using hi
  have hmono : ∀ i, hasB s.done i = true → hasB (addB s.done d.i) i = true := fun i hi => by rw [hasB_add, hi]; rfl
  have other : ∀ e ∈ ds, d.i ≠ e.i → ∀ x, e.o.dst = some x → d.o.dst ≠ some x := fun e he hne x hx hdx => hfl.dst d hmd e he hne x hdx hx
  refine ⟨hstep, h.size, h.defers, fun i hi => hmono i (h.sub i hi), fun e he => ?_, fun e he => ?_, ?_, fun e he => ?_, fun e he hed j hj => ?_, fun e he hLe x u hx hu => ?_, fun x u hx hu => ?_, fun e he hae hed => ?_, fun e he hed hLe => ?_, ?_⟩
  · rcases h.part e he with h1 | h1
    · exact .inl (hmono _ h1)
    · simp only [List.cons_append] at h1
      rcases List.mem_cons.1 h1 with rfl | h1
      · exact .inl (by rw [hasB_add]; simp)
      · exact .inr h1
  · exact h.mem e (by simp only [List.cons_append]; exact List.mem_cons_of_mem _ he)
  · exact pw.2
  · have h1 := h.notdone e (by simp only [List.cons_append]; exact List.mem_cons_of_mem _ he)
    show hasB (addB s.done d.i) e.i = false
    rw [hasB_add, h1]
    have := pw.1 e he
    simp [this]
  · rcases done_or _ hed with h1 | h1
    · exact hmono _ (h.clos e he h1 j hj)
    · by_cases hde : hasB s.done e.i = true
      · exact hmono _ (h.clos e he hde j hj)
      · have : e = d := by
          rcases h.part e he with h2 | h2
          · exact absurd h2 hde
          · simp only [List.cons_append] at h2
            rcases List.mem_cons.1 h2 with h2 | h2
            · exact h2
            · exact absurd h1 (pw.1 e h2)
        subst this
        exact hmono _ (subB_spec hb hj)
  · have hed := h.sub _ hLe
    have hu' : s.t.get x = some u := by rw [← g2 x (other e he (dne e he hed) x hx)]; exact hu
    exact h.tmpD e he hLe x u hx hu'
  · have hdx : d.o.dst ≠ some x := fun hdx => by
      have := hx d hmd hdx
      change hasB (addB s.done d.i) d.i = false at this
      rw [hasB_add] at this; simp at this
    have hu' : s.t.get x = some u := by rw [← g2 x hdx]; exact hu
    refine h.tmpO x u (fun e he hex => ?_) hu'
    cases hh : hasB s.done e.i with
    | false => rfl
    | true => have := hx e he hex; change hasB (addB s.done d.i) e.i = false at this; rw [hmono _ hh] at this; cases this
  · rcases done_or _ hed with h1 | h1
    · exact h.wdone e he hae h1
    · by_cases hde : hasB s.done e.i = true
      · exact h.wdone e he hae hde
      · have : e = d := by
          rcases h.part e he with h2 | h2
          · exact absurd h2 hde
          · simp only [List.cons_append] at h2
            rcases List.mem_cons.1 h2 with h2 | h2
            · exact h2
            · exact absurd h1 (pw.1 e h2)
        subst this
        rw [hna] at hae; cases hae
  · rcases done_or _ hed with h1 | h1
    · exact (h.pend e he h1 hLe).next hput (apart_of hfl h.clos hmd hnd he h1 (fun hx => by rw [hna] at hx; cases hx)) (other e he (dne e he h1)) (hnum e he h1) hτ1 hτ2 (hrs e) (fun _ x => x)
    · by_cases hde : hasB s.done e.i = true
      · exact (h.pend e he hde hLe).next hput (apart_of hfl h.clos hmd hnd he hde (fun hx => by rw [hna] at hx; cases hx)) (other e he (dne e he hde)) (hnum e he hde) hτ1 hτ2 (hrs e) (fun _ x => x)
      · have : e = d := by
          rcases h.part e he with h2 | h2
          · exact absurd h2 hde
          · simp only [List.cons_append] at h2
            rcases List.mem_cons.1 h2 with h2 | h2
            · exact h2
            · exact absurd h1 (pw.1 e h2)
        subst this
        exact hnew
  · have isd : ∀ e ∈ ds, hasB (addB s.done d.i) e.i = true → hasB s.done e.i = true ∨ e = d := fun e he hed => by
      by_cases hde : hasB s.done e.i = true
      · exact .inl hde
      · right
        rcases done_or _ hed with h1 | h1
        · exact absurd h1 hde
        · rcases h.part e he with h2 | h2
          · exact absurd h2 hde
          · simp only [List.cons_append] at h2
            rcases List.mem_cons.1 h2 with h2 | h2
            · exact h2
            · exact absurd h1 (pw.1 e h2)
    intro e he f hf hed hfd hLe hLf hke hkf hwe hwf hne
    rcases isd e he hed with h1 | rfl <;> rcases isd f hf hfd with h2 | rfl
    · rw [hnum e he h1, hnum f hf h2]
      have c1 := (put_congr (P := P) (apart_of hfl h.clos hmd hnd he h1 (fun hx => by rw [hna] at hx; cases hx)) hput).2
      have c2 := (put_congr (P := P) (apart_of hfl h.clos hmd hnd hf h2 (fun hx => by rw [hna] at hx; cases hx)) hput).2
      exact h.inj e he f hf h1 h2 hLe hLf hke hkf (by rw [← c1]; exact hwe) (by rw [← c2]; exact hwf) hne
    · exact fun heq => hinj hkf hwf e he h1 hLe hke hwe heq.symm
    · exact hinj hke hwe f hf h2 hLf hkf hwf
    · exact absurd rfl hne
end
end
end
end Go.Dg

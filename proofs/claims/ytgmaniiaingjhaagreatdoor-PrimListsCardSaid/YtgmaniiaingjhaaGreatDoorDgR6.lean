/- The deterministic machine, part 24: what the model does, one operation at a time, in a region that draws. -/
import Derived.Test.YtgmaniiaingjhaaGreatDoorDgR5
namespace Go.Dg
open Go Go.RowKit
noncomputable section
section
variable {P : Program} {B : Beside} {N : Nat} {ops : Array Oper} {ds : List DOp} {E0 E : Env} {σ0 : St} {w0 w : World} {L : Nat → Prop} {a : Act} {num : Nat → Nat}

/-- the temporaries that the model has too -/
def hide (L : Nat → Bool) : List DOp → PT V → PT V
  | [], t => t
  | d :: l, t => hide L l (match L d.i, d.o.dst with
    | false, some x => t.del x
    | _, _ => t)
theorem hide_get (L : Nat → Bool) : ∀ (l : List DOp) (t : PT V) (x : Nat), ((∀ d ∈ l, d.o.dst = some x → L d.i = true) → (hide L l t).get x = t.get x) ∧ (∀ v, (hide L l t).get x = some v → t.get x = some v ∧ ∀ d ∈ l, d.o.dst = some x → L d.i = true)
  | [], t, x => ⟨fun _ => rfl, fun v h => ⟨h, by simp⟩⟩
  | d :: l, t, x => by
    have ih := hide_get L l (match L d.i, d.o.dst with
      | false, some x => t.del x
      | _, _ => t) x
    have hdel : ∀ y : Nat, (t.del y).get x = if x = y then none else t.get x := fun y => by
      by_cases e : x = y
      · subst e; simp
      · rw [if_neg e]; exact PT.get_del_ne t e
    refine ⟨fun h => ?_, fun v h => ?_⟩
    · rw [hide, ih.1 fun e he => h e (List.mem_cons_of_mem _ he)]
      split
      · rename_i y hL hy
        rw [hdel, if_neg]
        intro e; subst e
        have := h d (by simp) hy
        rw [hL] at this; cases this
      · rfl
    · obtain ⟨h1, h2⟩ := ih.2 v h
      split at h1
      · rename_i y hL hy
        rw [hdel] at h1
        split at h1
        · cases h1
        · rename_i hne
          refine ⟨h1, fun e he hx => ?_⟩
          rcases List.mem_cons.1 he with rfl | he
          · rw [hy] at hx; cases hx; exact absurd rfl hne
          · exact h2 e he hx
      · rename_i hno
        refine ⟨h1, fun e he hx => ?_⟩
        rcases List.mem_cons.1 he with rfl | he
        · cases hL : L e.i with
          | true => rfl
          | false => exact absurd hx (hno x hL)
        · exact h2 e he hx
theorem hide_congr {Lb : Nat → Bool} {d : DOp} (hL : ∀ e ∈ ds, ∀ y, e.o.dst = some y → y ∈ d.o.looksAt ops → Lb e.i = true) (t : PT V) :
    (∀ x ∈ d.o.op.operands, ev (hide Lb ds t) x = ev t x) ∧ wantA ops (hide Lb ds t) d.o = wantA ops t d.o := by
  have key : ∀ y ∈ d.o.looksAt ops, (hide Lb ds t).get y = t.get y := fun y hy => (hide_get Lb ds t y).1 fun e he hx => hL e he y hx hy
  refine ⟨fun x hx => ?_, ?_⟩
  · cases x with
    | tmp y => exact key y (List.mem_append_left _ (List.mem_filterMap.2 ⟨.tmp y, by simpa using hx, rfl⟩))
    | _ => rfl
  · unfold wantA
    cases hg : d.o.guard with
    | none => rfl
    | some gw =>
      obtain ⟨g, want⟩ := gw
      simp only
      cases ht : (ops[g]?).bind (·.dst) with
      | none => rfl
      | some z => simp only [key z (by simp [Oper.looksAt, hg, ht])]
/-- what the reckoning and the model agree on: done by both, or by neither -/
def both (Lb : Nat → Bool) (done : Nat) (i : Nat) : Bool := cond (hasB done i) (Lb i) true
theorem Inv.AR {s : Dr} {τ : St} {l : List DOp} (h : Inv P B N ops ds E0 σ0 w0 L l s num τ E a w) (_hds : DS ops ds) (_hfl : Flow P ops ds) {Lb : Nat → Bool} (hLb : ∀ i, Lb i = true ↔ L i) : AR B E N (hide (both Lb s.done) ds s.t) a := by
  refine ⟨h.size, fun i v hv => ?_, h.defers⟩
  obtain ⟨h1, h2⟩ := (hide_get (both Lb s.done) ds s.t i).2 v hv
  by_cases hx : ∃ d ∈ ds, d.o.dst = some i ∧ hasB s.done d.i = true
  · obtain ⟨d, hd, hi, hdone⟩ := hx
    have h3 := h2 d hd hi
    unfold both at h3
    rw [hdone] at h3
    exact h.tmpD d hd ((hLb _).1 h3) i v hi h1
  · refine h.tmpO i v (fun d hd hi => ?_) h1
    cases hh : hasB s.done d.i with
    | false => rfl
    | true => exact absurd ⟨d, hd, hi, hh⟩ hx
theorem Inv.looks {s : Dr} {τ : St} {l : List DOp} (h : Inv P B N ops ds E0 σ0 w0 L l s num τ E a w) (hfl : Flow P ops ds) {Lb : Nat → Bool} (hLb : ∀ i, Lb i = true ↔ L i) {d : DOp} (hd : d ∈ ds) (hah : ∀ j, hasB d.b j = true → L j) :
    ∀ e ∈ ds, ∀ y, e.o.dst = some y → y ∈ d.o.looksAt ops → both Lb s.done e.i = true := by
  intro e he y hy hl
  unfold both
  cases hh : hasB s.done e.i with
  | false => rfl
  | true =>
    simp only [cond_true]
    refine (hLb _).2 ?_
    rcases hfl.looks d hd e he y hy hl with h1 | ⟨_, h2⟩
    · exact hah _ h1
    · exact h.wdone e he h2 hh
theorem execA_congr {call : CallF} {t t' : PT V} {o : Oper} (h : ∀ x ∈ o.op.operands, ev t x = ev t' x) (σ : St) : execA P B call t o σ = execA P B call t' o σ := by
  have hop := opA_congr (P := P) h σ
  obtain ⟨dst, op, type, pos, after, guard⟩ := o
  have cal : ∀ c : Call, (∀ x ∈ c.operands, ev t x = ev t' x) → calleeA P t c = calleeA P t' c := by
    intro c hc
    unfold calleeA
    rw [evs_congr fun x hx => hc x (by simp [Call.operands, hx])]
    cases hcc : c.callee with
    | value f =>
      have hf := hc f (by simp [Call.operands, hcc])
      cases evs t' c.args.toList with
      | none => rfl
      | some as => simp only [hf]
    | invoke r n =>
      have hf := hc r (by simp [Call.operands, hcc])
      cases evs t' c.args.toList with
      | none => rfl
      | some as => simp only [hf]
    | builtin b => rfl
  cases op
  case call c =>
    have := cal c (by simpa [Op.operands] using h)
    simp only [execA, this, hop]
  case defer c =>
    have := cal c (by simpa [Op.operands] using h)
    simp only [execA, this]
  all_goals exact hop

/-- the model makes a block that was reckoned -/
theorem Step.adopt {σ : St} (h : Step E0 σ0 w0 E σ w) {k n : Nat} {obj : Obj} {ob : Go.Obj} {w1 : World} (hw : w1 = w ∨ w1 = w.drew) (h0 : σ0.next ≤ k) (h1 : k < σ.next) (hE : E k = none) (hg : σ.heap.get k = some obj)
    (ho : ObjR (E.add k ⟨w.heap.size, 0, n⟩) ⟨w.heap.size, 0, n⟩ obj ob) : Step E0 σ0 w0 (E.add k ⟨w.heap.size, 0, n⟩) σ (w1.alloc ob) := by
  have hle : E.le (E.add k ⟨w.heap.size, 0, n⟩) := Env.le_add hE
  have hh : w1.heap = w.heap ∧ w1.os = w.os ∧ w1.tape = w.tape ∧ w1.output = w.output := by rcases hw with rfl | rfl <;> exact ⟨rfl, rfl, rfl, rfl⟩
  have hold : ∀ b, b < w.heap.size → (w1.alloc ob).heap[b]? = w.heap[b]? := fun b hb => by
    rw [Below.heap_alloc w1 ob b (by rw [hh.1]; exact hb), hh.1]
  have hnew : (w1.alloc ob).heap[w.heap.size]? = some ob := by
    show (w1.heap.push ob)[w.heap.size]? = _
    rw [hh.1]; simp
  have old : ∀ id q, id ≠ k → (E.add k ⟨w.heap.size, 0, n⟩) id = some q → E id = some q := fun id q hne hq => by simpa [Env.add, hne] using hq
  have new : ∀ q, (E.add k ⟨w.heap.size, 0, n⟩) k = some q → q = ⟨w.heap.size, 0, n⟩ := fun q hq => by simpa [Env.add] using hq.symm
  have lt : ∀ id o q, σ.heap.get id = some o → E id = some q → q.block < w.heap.size := fun id o q ho hq => h.rel.lt ⟨id, o, q, ho, hq, rfl⟩
  have hsz : (w1.alloc ob).heap.size = w.heap.size + 1 := by
    show (w1.heap.push ob).size = _
    rw [hh.1]; simp
  refine ⟨Env.le_trans h.le hle, ⟨fun id o p hid hp => ?_, fun i j o o' p q hi hj hp hq hb => ?_, fun id hid => ?_⟩, h.next, fun id hid => ?_, by rw [hsz]; have := h.size; omega, hh.2.1.trans h.os, hh.2.2.1.trans h.tape, hh.2.2.2.trans h.output, fun b hb hl => ?_, ?_, h.kept⟩
  · by_cases e : id = k
    · subst e
      have e2 := new p hp; subst e2
      rw [hg] at hid; cases hid
      exact ⟨ob, hnew, ho⟩
    · have hp' := old id p e hp
      obtain ⟨ob', hb', hr⟩ := h.rel.obj id o p hid hp'
      exact ⟨ob', by rw [hold _ (lt id o p hid hp')]; exact hb', hr.mono hle⟩
  · by_cases ei : i = k <;> by_cases ej : j = k
    · rw [ei, ej]
    · subst ei
      have e2 := new p hp; subst e2
      have := lt j o' q hj (old j q ej hq)
      simp only at hb; omega
    · subst ej
      have e2 := new q hq; subst e2
      have := lt i o p hi (old i p ei hp)
      simp only at hb; omega
    · exact h.rel.inj i j o o' p q hi hj (old i p ei hp) (old j q ej hq) hb
  · have : id ≠ k := by omega
    simp only [Env.add, this, if_false]
    exact h.rel.fresh id hid
  · have : id ≠ k := by omega
    simp only [Env.add, this, if_false]
    exact h.dom id hid
  · rw [hold b (Nat.lt_of_lt_of_le hb h.size)]
    exact h.frame b hb hl
  · rintro b hb ⟨id, o, p, hid, hp, hpb⟩
    by_cases e : id = k
    · subst e
      have e2 := new p hp; subst e2
      have := h.size
      simp only at hpb; omega
    · exact h.own b hb ⟨id, o, p, hid, old id p e hp, hpb⟩

theorem Inv.real {d : DOp} {s : Dr} (h : Inv P B N ops ds E0 σ0 w0 L [] s num s.σ E a w) (hds : DS ops ds) (hfl : Flow P ops ds) (hd : d ∈ ds) (hdone : hasB s.done d.i = true) {E' : Env} {w' : World} {x : Value} (hle : E.le E')
    (hstep : Step E0 σ0 w0 E' s.σ w') (hv : ∀ y, d.o.dst = some y → y < N ∧ ∃ v, s.t.get y = some v ∧ VR E' v x)
    (hE : ∀ e ∈ ds, e.i ≠ d.i → ¬ L e.i → hasB s.done e.i = true → kindA P e.o = .a → wantA ops s.t e.o = some true → num e.i < s.σ.next → E (num e.i) = none → E' (num e.i) = none) :
    Inv P B N ops ds E0 σ0 w0 (fun i => L i ∨ i = d.i) [] s num s.σ E' (a.put d.o.dst x) w' := by
  have hother : ∀ z, d.o.dst ≠ some z → (a.put d.o.dst x).tmps[z]? = a.tmps[z]? := by
    intro z hz
    cases hdd : d.o.dst with
    | none => rfl
    | some y =>
      have : y ≠ z := fun e => hz (by rw [hdd, e])
      simp [Act.put, this]
  refine ⟨hstep, ?_, ?_, ?_, h.part, h.mem, h.nd, h.notdone, h.clos, ?_, ?_, fun e he hae hed => .inl (h.wdone e he hae hed), ?_, ?_⟩
  · have := h.size; cases d.o.dst <;> simpa [Act.put] using this
  · cases d.o.dst <;> exact h.defers
  · rintro i (hi | rfl)
    · exact h.sub i hi
    · exact hdone
  · intro e he hLe z v hz hv'
    by_cases hed : e.i = d.i
    · have : e = d := hds.uniq e he d hd hed
      subst this
      obtain ⟨h1, u, h2, h3⟩ := hv z hz
      rw [h2] at hv'; cases hv'
      exact ⟨x, by have := h.size; simp [Act.put, hz, show z < a.tmps.size from Nat.lt_of_lt_of_le h1 this], h3⟩
    · have hLe' : L e.i := hLe.resolve_right hed
      obtain ⟨y, hy, hr⟩ := h.tmpD e he hLe' z v hz hv'
      exact ⟨y, by rw [hother z (fun hdz => hfl.dst e he d hd hed z hz hdz)]; exact hy, hr.mono hle⟩
  · intro z v hz hv'
    obtain ⟨y, hy, hr⟩ := h.tmpO z v hz hv'
    exact ⟨y, by rw [hother z (fun hdz => by have := hz d hd hdz; rw [hdone] at this; cases this)]; exact hy, hr.mono hle⟩
  · intro e he hed hLe
    have h1 : ¬ L e.i := fun hh => hLe (.inl hh)
    have h2 : e.i ≠ d.i := fun hh => hLe (.inr hh)
    have hp := h.pend e he hed h1
    cases hp with
    | skip hw hd => exact .skip hw hd
    | pure v hk hw hd ho => exact .pure v hk hw hd ho
    | read v hk hw hd hr => exact .read v hk hw hd hr
    | make v σi obj hk hw hd ho hn h0 h1' hE' hg => exact .make v σi obj hk hw hd ho hn h0 h1' (hE e he h2 h1 hed hk hw h1' hE') hg
  · intro e he f hf hed hfd hLe hLf
    exact h.inj e he f hf hed hfd (fun hh => hLe (.inl hh)) (fun hh => hLf (.inl hh))
end
end
end Go.Dg

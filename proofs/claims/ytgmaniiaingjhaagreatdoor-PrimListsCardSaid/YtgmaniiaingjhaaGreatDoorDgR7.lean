/- The deterministic machine, part 25: a region that draws, whole. -/
import Derived.Test.YtgmaniiaingjhaaGreatDoorDgR6
namespace Go.Dg
open Go Go.RowKit
noncomputable section
section
variable {P : Program} {B : Beside} {N : Nat} {ops : Array Oper} {ds : List DOp} {E0 E : Env} {σ0 : St} {w0 w : World} {L : Nat → Prop} {a : Act} {num : Nat → Nat}

theorem recheck_spec {t : PT V} {σ : St} {l : List DOp} (h : recheck P t σ l = true) {d : DOp} (hd : d ∈ l) : ∃ v σ', opA P t d.o σ = some (v, σ') ∧ ∀ x, d.o.dst = some x → t.get x = some v := by
  have h1 := List.all_eq_true.1 h d hd
  split at h1
  · rename_i v σ' hop
    refine ⟨v, σ', hop, fun x hx => ?_⟩
    rw [hx] at h1
    simp only at h1
    split at h1
    · rename_i u hu
      rw [hu, V.beq_eq _ _ h1]
    · cases h1
  · cases h1
theorem opMakes_wp {o : Oper} {v : V} {k : Nat} {obj : Obj} (hg : OpMakes P E w (execOp a.eval o) v k obj) {K : Act → World → Prop} {Q : Exit → Act → World → Prop}
    (hK : ∀ x w1 ob n, (w1 = w ∨ w1 = w.drew) → (∀ E' : Env, E.le E' → E' k = some ⟨w.heap.size, 0, n⟩ → VR E' v x ∧ ObjR E' ⟨w.heap.size, 0, n⟩ obj ob) → K (a.put o.dst x) (w1.alloc ob)) : o.wp P a w K Q := by
  obtain ⟨x, w1, ob, n, h1, h2, h3⟩ := hg
  unfold Oper.wp
  rw [h1]; exact hK x w1 ob n h2 h3

/-- the model does what is reckoned already -/
theorem float_real (_hB : Fits P B) {call : CallF} (_hC : CallOK P call) (hds : DS ops ds) (hfl : Flow P ops ds) {s : Dr} (h : Inv P B N ops ds E0 σ0 w0 L [] s num s.σ E a w) (hre : recheck P s.t s.σ s.rs = true) {Lb : Nat → Bool} (hLb : ∀ i, Lb i = true ↔ L i)
    {d : DOp} (hd : d ∈ ds) (hdone : hasB s.done d.i = true) (hnL : ¬ L d.i) (hah : ∀ j, hasB d.b j = true → L j) {K : Act → World → Prop} {Q : Exit → Act → World → Prop}
    (hK : ∀ E' a' w', Inv P B N ops ds E0 σ0 w0 (fun i => L i ∨ i = d.i) [] s num s.σ E' a' w' → K a' w') : wpOp P ops Q d.i K a w := by
  have hAR := h.AR hds hfl hLb
  obtain ⟨c1, c2⟩ := hide_congr (h.looks hfl hLb hd hah) s.t
  have cop := fun σ => opA_congr (P := P) (o := d.o) c1 σ
  unfold wpOp
  rw [hds.at_ d hd]
  simp only
  have value : ∀ v, wantA ops s.t d.o = some true → (∀ x, d.o.dst = some x → x < N ∧ s.t.get x = some v) → (∃ σ', opA P s.t d.o s.σ = some (v, σ') ∧ σ' = s.σ) →
      (if Region.wanted d.o (yielded ops a.tmps) = true then Oper.wp P d.o a w K Q ∨ Oper.asks P d.o a w ∧ LetsOut Q else K (a.put d.o.dst undef) w) := by
    rintro v hw hdst ⟨σ', hop, rfl⟩
    rw [wantA_spec hAR.get (by rw [c2]; exact hw), if_pos rfl]
    refine .inl ((opA_run h.step.rel hAR.evR (by rw [cop]; exact hop)).wp fun x E' w' hs hx => ?_)
    refine hK E' _ w' (h.real hds hfl hd hdone hs.le (h.step.trans hs) (fun y hy => ⟨(hdst y hy).1, v, (hdst y hy).2, hx⟩) fun e he hne hLe hed hk hwe hlt hEe => by rw [hs.dom _ hlt]; exact hEe)
  cases h.pend d hd hdone hnL with
  | skip hw hdst =>
    rw [wantA_spec hAR.get (by rw [c2]; exact hw), if_neg (by simp)]
    exact hK E _ w (h.real hds hfl hd hdone E.le_refl h.step (fun y hy => ⟨(hdst y hy).1, _, (hdst y hy).2, VR_undef E⟩) fun _ _ _ _ _ _ _ _ x => x)
  | pure v hk hw hdst ho => exact value v hw hdst ⟨_, ho s.σ, rfl⟩
  | read v hk hw hdst hr =>
    obtain ⟨u, σ', hop, hu⟩ := recheck_spec hre hr
    refine value u hw (fun x hx => ⟨(hdst x hx).1, hu x hx⟩) ⟨σ', hop, quiet_r hk hop⟩
  | make v σi obj hk hw hdst ho hn h0 h1 hE hg =>
    rw [wantA_spec hAR.get (by rw [c2]; exact hw), if_pos rfl]
    refine .inl ?_
    obtain ⟨obj', heq, hmk⟩ := made_a hk (show opA P (hide (both Lb s.done) ds s.t) d.o σi = some (v, σi.new obj) by rw [cop]; exact ho)
    have := St.new_inj heq; subst this
    have hmk' := hmk E w a.eval hAR.evR
    rw [hn] at hmk'
    refine opMakes_wp hmk' fun x w1 ob n hw1 hx => ?_
    have hle : E.le (E.add (num d.i) ⟨w.heap.size, 0, n⟩) := Env.le_add hE
    obtain ⟨hx1, hx2⟩ := hx _ hle (by simp [Env.add])
    refine hK _ _ _ (h.real hds hfl hd hdone hle (h.step.adopt hw1 h0 h1 hE hg hx2) (fun y hy => ⟨(hdst y hy).1, v, (hdst y hy).2, hx1⟩) fun e he hne hLe hed hke hwe hlt hEe => ?_)
    have hnn := h.inj e he d hd hed hdone hLe hnL hke hk hwe hw hne
    simpa [Env.add, hnn] using hEe

/-- the model does what is reckoned next -/
theorem write_real (hB : Fits P B) {call : CallF} (hC : CallOK P call) (hds : DS ops ds) (hfl : Flow P ops ds) {s : Dr} {d : DOp} {l : List DOp} (hrem : s.rem = d :: l) (h : Inv P B N ops ds E0 σ0 w0 L [] s num s.σ E a w) {Lb : Nat → Bool} (hLb : ∀ i, Lb i = true ↔ L i)
    (hah : ∀ j, hasB d.b j = true → L j) (hw : wantA ops s.t d.o = some true) {v : V} {σ' : St} {t' : PT V} (hex : execA P B call s.t d.o s.σ = some (v, σ')) (hput : putA N s.t d.o.dst v = some t') {K : Act → World → Prop} {Q : Exit → Act → World → Prop}
    (hK : ∀ E' a' w', Inv P B N ops ds E0 σ0 w0 (fun i => L i ∨ i = d.i) l ⟨t', σ', addB s.done d.i, [], s.rs.filter fun r => cond (hasB d.b r.i) false true⟩ num σ' E' a' w' → K a' w') : wpOp P ops Q d.i K a w := by
  have hmd : d ∈ ds := h.mem d (by simp [hrem])
  have hnd : hasB s.done d.i = false := h.notdone d (by simp [hrem])
  have hAR := h.AR hds hfl hLb
  obtain ⟨c1, c2⟩ := hide_congr (h.looks hfl hLb hmd hah) s.t
  have pw := h.nd
  rw [hrem] at pw
  simp only [List.nil_append, List.pairwise_cons] at pw
  obtain ⟨g1, g2⟩ := putA_get hput
  have dne : ∀ e ∈ ds, hasB s.done e.i = true → d.i ≠ e.i := fun e he hed heq => by rw [← heq, hnd] at hed; cases hed
  have hmono : ∀ i, hasB s.done i = true → hasB (addB s.done d.i) i = true := fun i hi => by rw [hasB_add, hi]; rfl
  have isd : ∀ e ∈ ds, hasB (addB s.done d.i) e.i = true → hasB s.done e.i = true ∨ e = d := fun e he hed => by
    rw [hasB_add, Bool.or_eq_true] at hed
    rcases hed with h1 | h1
    · exact .inl h1
    · exact .inr (hds.uniq e he d hmd (by simpa using (of_decide_eq_true h1).symm))
  have other : ∀ e ∈ ds, d.i ≠ e.i → ∀ x, e.o.dst = some x → d.o.dst ≠ some x := fun e he hne x hx hdx => hfl.dst d hmd e he hne x hdx hx
  unfold wpOp
  rw [hds.at_ d hmd]
  simp only
  rw [wantA_spec hAR.get (by rw [c2]; exact hw), if_pos rfl]
  refine .inl (exec_wp hB hC h.step.rel hAR.evR (by rw [execA_congr c1]; exact hex) fun x E' w' dd hdd hs hx => ?_)
  have hothert : ∀ z, d.o.dst ≠ some z → (({ a with defers := dd ++ a.defers } : Act).put d.o.dst x).tmps[z]? = a.tmps[z]? := by
    intro z hz
    cases hdd : d.o.dst with
    | none => rfl
    | some y =>
      have : y ≠ z := fun e => hz (by rw [hdd, e])
      simp [Act.put, this]
  refine hK E' _ w' ⟨h.step.trans hs, ?_, ?_, ?_, fun e he => ?_, fun e he => ?_, ?_, fun e he => ?_, fun e he hed j hj => ?_, fun e he hLe z u hz hu => ?_, fun z u hz hu => ?_, fun e he hae hed => ?_, fun e he hed hLe => ?_, ?_⟩
  · have := h.size; cases d.o.dst <;> simpa [Act.put] using this
  · have : ∀ d' ∈ dd ++ a.defers, HarmD B d' := fun d' h1 => (List.mem_append.1 h1).elim (hdd d') (h.defers d')
    cases d.o.dst <;> exact this
  · rintro i (hi | rfl)
    · exact hmono _ (h.sub i hi)
    · show hasB (addB s.done d.i) d.i = true
      rw [hasB_add]; simp
  · rcases h.part e he with h1 | h1
    · exact .inl (hmono _ h1)
    · rw [hrem] at h1
      simp only [List.nil_append] at h1
      rcases List.mem_cons.1 h1 with rfl | h1
      · exact .inl (by show hasB (addB s.done e.i) e.i = true; rw [hasB_add]; simp)
      · exact .inr (by simpa using h1)
  · simp only [List.append_nil] at he
    exact h.mem e (by simp [hrem, he])
  · simpa using pw.2
  · simp only [List.append_nil] at he
    have h1 := h.notdone e (by simp [hrem, he])
    show hasB (addB s.done d.i) e.i = false
    rw [hasB_add, h1]
    have := pw.1 e he
    simp [this]
  · rcases isd e he hed with h1 | rfl
    · exact hmono _ (h.clos e he h1 j hj)
    · exact hmono _ (h.sub _ (hah j hj))
  · by_cases hed : e.i = d.i
    · have : e = d := hds.uniq e he d hmd hed
      subst this
      obtain ⟨h1, h2⟩ := g1 z hz
      have hu' : t'.get z = some u := hu
      rw [h2] at hu'; cases hu'
      exact ⟨x, by have := h.size; simp [Act.put, hz, show z < a.tmps.size from Nat.lt_of_lt_of_le h1 this], hx⟩
    · have hLe' : L e.i := hLe.resolve_right hed
      have ho := other e he (Ne.symm hed) z hz
      obtain ⟨y, hy, hr⟩ := h.tmpD e he hLe' z u hz (by rw [← g2 z ho]; exact hu)
      exact ⟨y, by rw [hothert z ho]; exact hy, hr.mono hs.le⟩
  · have hdz : d.o.dst ≠ some z := fun hdz => by
      have := hz d hmd hdz
      change hasB (addB s.done d.i) d.i = false at this
      rw [hasB_add] at this; simp at this
    obtain ⟨y, hy, hr⟩ := h.tmpO z u (fun e he hez => by
      cases hh : hasB s.done e.i with
      | false => rfl
      | true => have := hz e he hez; change hasB (addB s.done d.i) e.i = false at this; rw [hmono _ hh] at this; cases this) (by rw [← g2 z hdz]; exact hu)
    exact ⟨y, by rw [hothert z hdz]; exact hy, hr.mono hs.le⟩
  · rcases isd e he hed with h1 | rfl
    · exact .inl (h.wdone e he hae h1)
    · exact .inr rfl
  · have h1 : ¬ L e.i := fun hh => hLe (.inl hh)
    have h2 : e.i ≠ d.i := fun hh => hLe (.inr hh)
    have hed' : hasB s.done e.i = true := (isd e he hed).resolve_right fun hh => h2 (by rw [hh])
    refine (h.pend e he hed' h1).next hput (apart_of hfl h.clos hmd hnd he hed' (fun _ => by
      cases hb : hasB d.b e.i with
      | false => rfl
      | true => exact absurd (hah _ hb) h1)) (other e he (Ne.symm h2)) rfl hs.next (fun k hk hEk => hs.kept k hk hEk) (fun hr => ?_) fun hlt hEe => by rw [hs.dom _ hlt]; exact hEe
    refine List.mem_filter.2 ⟨hr, ?_⟩
    cases hb : hasB d.b e.i with
    | false => rfl
    | true => exact absurd (hah _ hb) h1
  · intro e he f hf hed hfd hLe hLf hke hkf hwe hwf hne
    have h1 : ¬ L e.i := fun hh => hLe (.inl hh)
    have h2 : ¬ L f.i := fun hh => hLf (.inl hh)
    have hed' := (isd e he hed).resolve_right fun hh => hLe (.inr (by rw [hh]))
    have hfd' := (isd f hf hfd).resolve_right fun hh => hLf (.inr (by rw [hh]))
    have c3 := (put_congr (P := P) (apart_of hfl h.clos hmd hnd he hed' (fun _ => by
      cases hb : hasB d.b e.i with
      | false => rfl
      | true => exact absurd (hah _ hb) h1)) hput).2
    have c4 := (put_congr (P := P) (apart_of hfl h.clos hmd hnd hf hfd' (fun _ => by
      cases hb : hasB d.b f.i with
      | false => rfl
      | true => exact absurd (hah _ hb) h2)) hput).2
    exact h.inj e he f hf hed' hfd' h1 h2 hke hkf (by rw [← c3]; exact hwe) (by rw [← c4]; exact hwf) hne
end
end
end Go.Dg

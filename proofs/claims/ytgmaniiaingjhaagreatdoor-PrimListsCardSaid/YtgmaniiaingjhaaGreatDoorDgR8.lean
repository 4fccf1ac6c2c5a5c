/- The deterministic machine, part 26: regions that draw, proved; calls, proved. -/
import Derived.Test.YtgmaniiaingjhaaGreatDoorDgR7
namespace Go.Dg
open Go Go.RowKit
noncomputable section
section
variable {P : Program} {B : Beside} {N : Nat} {ops : Array Oper} {ds : List DOp}

/-- there is always one that may be done -/
def RD (md : Region.Mode) (L : Nat → Prop) (d : DOp) : Prop := ¬ L d.i ∧ ∀ e ∈ d.o.after, Region.binds md e = true → L e.on
theorem sortA_rest {md : Region.Mode} : ∀ (l : List DOp) (done : Nat) (rest : List DOp) {done' : Nat} {rest' : List DOp}, sortA md l done rest = some (done', rest') → ∀ d ∈ rest, d ∈ rest'
  | [], done, rest, done', rest', h, d, hd => by simp only [sortA, Option.some.injEq, Prod.mk.injEq] at h; obtain ⟨_, rfl⟩ := h; exact hd
  | x :: l, done, rest, done', rest', h, d, hd => by
    simp only [sortA] at h
    cases hb : edgesIn md done x.o.after.toList with
    | true => rw [hb] at h; exact sortA_rest l _ _ h d hd
    | false => rw [hb] at h; exact sortA_rest l _ _ h d (List.mem_cons_of_mem _ hd)
theorem sortA_spec {md : Region.Mode} {L : Nat → Prop} : ∀ (l : List DOp) (done : Nat) (rest : List DOp) {done' : Nat} {rest' : List DOp}, sortA md l done rest = some (done', rest') → (∀ i, hasB done i = true → L i) →
    (∃ d ∈ l, RD md L d) ∨ ((∀ i, hasB done' i = true → L i) ∧ ∀ d ∈ l, L d.i ∨ d ∈ rest')
  | [], done, rest, done', rest', h, hL => by
    simp only [sortA, Option.some.injEq, Prod.mk.injEq] at h; obtain ⟨rfl, rfl⟩ := h
    exact .inr ⟨hL, by simp⟩
  | x :: l, done, rest, done', rest', h, hL => by
    have h0 := h
    simp only [sortA] at h
    cases hb : edgesIn md done x.o.after.toList with
    | true =>
      rw [hb] at h
      by_cases hx : L x.i
      · rcases sortA_spec (L := L) l _ _ h (fun i hi => by
          rw [hasB_add, Bool.or_eq_true] at hi
          rcases hi with hi | hi
          · exact hL i hi
          · rw [← of_decide_eq_true hi]; exact hx) with ⟨d, hd, h1⟩ | ⟨h1, h2⟩
        · exact .inl ⟨d, List.mem_cons_of_mem _ hd, h1⟩
        · refine .inr ⟨h1, fun d hd => ?_⟩
          rcases List.mem_cons.1 hd with rfl | hd
          · exact .inl hx
          · exact h2 d hd
      · refine .inl ⟨x, by simp, hx, fun e he hbe => ?_⟩
        have h1 := List.all_eq_true.1 hb e (by simpa using he)
        rw [hbe] at h1
        exact hL _ h1
    | false =>
      rw [hb] at h
      rcases sortA_spec (L := L) l _ _ h hL with ⟨d, hd, h1⟩ | ⟨h1, h2⟩
      · exact .inl ⟨d, List.mem_cons_of_mem _ hd, h1⟩
      · refine .inr ⟨h1, fun d hd => ?_⟩
        rcases List.mem_cons.1 hd with rfl | hd
        · exact .inr (sortA_rest l _ _ h d (by simp))
        · exact h2 d hd
theorem sortsA_spec {md : Region.Mode} {L : Nat → Prop} : ∀ (n : Nat) (l : List DOp) (done : Nat), sortsA md n l done = true → (∀ i, hasB done i = true → L i) → (∃ d ∈ l, RD md L d) ∨ ∀ d ∈ l, L d.i
  | 0, _, _, h, _ => by simp [sortsA] at h
  | n + 1, l, done, h, hL => by
    simp only [sortsA] at h
    split at h
    · rename_i done' hs
      rcases sortA_spec (L := L) l done [] hs hL with h1 | ⟨h1, h2⟩
      · exact .inl h1
      · exact .inr fun d hd => (h2 d hd).resolve_right (by simp)
    · rename_i done' d rest hs
      rcases sortA_spec (L := L) l done [] hs hL with h1 | ⟨h1, h2⟩
      · exact .inl h1
      · cases hb : Nat.beq done' done with
        | true => rw [hb] at h; cases h
        | false =>
          rw [hb] at h
          have sub : ∀ e ∈ (d :: rest), e ∈ l := by
            have : ∀ (l : List DOp) (done : Nat) (rs : List DOp) {done' : Nat} {rest' : List DOp}, sortA md l done rs = some (done', rest') → ∀ e ∈ rest', e ∈ l ∨ e ∈ rs := by
              intro l
              induction l with
              | nil => intro done rs done' rest' h e he; simp only [sortA, Option.some.injEq, Prod.mk.injEq] at h; obtain ⟨_, rfl⟩ := h; exact .inr he
              | cons x l ih =>
                intro done rs done' rest' h e he
                simp only [sortA] at h
                cases hb : edgesIn md done x.o.after.toList with
                | true => rw [hb] at h; exact (ih _ _ h e he).imp (List.mem_cons_of_mem _) id
                | false =>
                  rw [hb] at h
                  rcases ih _ _ h e he with h1 | h1
                  · exact .inl (List.mem_cons_of_mem _ h1)
                  · rcases List.mem_cons.1 h1 with rfl | h1
                    · exact .inl (by simp)
                    · exact .inr h1
            intro e he
            exact (this l done [] hs e he).resolve_right (by simp)
          rcases sortsA_spec n _ done' h h1 with ⟨e, he, h3⟩ | h3
          · exact .inl ⟨e, sub e (List.mem_reverse.1 he), h3⟩
          · refine .inr fun e he => (h2 e he).elim id fun h4 => h3 e (List.mem_reverse.2 h4)
    · cases h

theorem Inv.rev {E0 E : Env} {σ0 τ : St} {w0 w : World} {L : Nat → Prop} {a : Act} {num : Nat → Nat} {s : Dr} (h : Inv P B N ops ds E0 σ0 w0 L [] s num τ E a w) : Inv P B N ops ds E0 σ0 w0 L [] ⟨s.t, s.σ, s.done, s.rem.reverse, s.rs⟩ num τ E a w := by
  have hp : (([] : List DOp) ++ s.rem).Perm ([] ++ s.rem.reverse) := by simpa using (List.reverse_perm s.rem).symm
  refine ⟨h.step, h.size, h.defers, h.sub, fun e he => (h.part e he).imp id fun x => hp.mem_iff.1 x, fun e he => h.mem e (hp.mem_iff.2 he), (hp.pairwise_iff (fun hh => Ne.symm hh)).1 h.nd, fun e he => h.notdone e (hp.mem_iff.2 he), h.clos, h.tmpD, h.tmpO, h.wdone, fun e he hd hL => ?_, h.inj⟩
  cases h.pend e he hd hL with
  | skip hw hd => exact .skip hw hd
  | pure v hk hw hd ho => exact .pure v hk hw hd ho
  | read v hk hw hd hr => exact .read v hk hw hd hr
  | make v σi obj hk hw hd ho hn h0 h1 hE hg => exact .make v σi obj hk hw hd ho hn h0 h1 hE hg

def Ls (listed : Array Bool) (i : Nat) : Prop := listed.getD i false = true
theorem Ls_set {listed : Array Bool} {i : Nat} (hi : i < listed.size) : Ls (listed.setIfInBounds i true) = fun j => Ls listed j ∨ j = i := by
  funext j
  apply propext
  unfold Ls
  by_cases e : j = i
  · subst e; simp [hi]
  · simp [Array.getElem?_setIfInBounds_ne (Ne.symm e), e]

theorem countP_remove {x : Nat} {p p' : Nat → Bool} (hp : p x = true) (hp' : p' x = false) (ho : ∀ i, i ≠ x → p' i = p i) : ∀ {l : List Nat}, l.Nodup → x ∈ l → l.countP p = l.countP p' + 1
  | [], _, h => by simp at h
  | y :: l, hn, h => by
    cases hn with
    | cons h1 h2 =>
      by_cases e : y = x
      · subst e
        have : l.countP p' = l.countP p := List.countP_congr fun i hi => by rw [ho i fun e => h1 i hi e.symm]
        rw [List.countP_cons, List.countP_cons, hp, hp', this]; simp
      · have hx : x ∈ l := (List.mem_cons.1 h).resolve_left fun e' => e e'.symm
        have := countP_remove hp hp' ho h2 hx
        rw [List.countP_cons, List.countP_cons, ho y e, this]; omega
theorem draws_any (hB : Fits P B) {call : CallF} (hC : CallOK P call) (hds : DS ops ds) (hfl : Flow P ops ds) {md : Region.Mode} (hmd : sortsA md 9 ds 0 = true) {E0 : Env} {σ0 : St} {w0 : World} {tf : PT V} {σf : St} {Q : Exit → Act → World → Prop}
    (hQ : ∀ E' a' w', Step E0 σ0 w0 E' σf w' → AR B E' N tf a' → Q .normal a' w') :
    ∀ (fuel : Nat) (n : Nat) (s : Dr) (num : Nat → Nat) (listed : Array Bool) (E : Env) (a : Act) (w : World), listed.size = ops.size → (∀ i o, Ls listed i → ops[i]? = some o → ∀ e ∈ o.after, Region.binds md e = true → Ls listed e.on) →
      ((List.range ops.size).countP fun i => !listed.getD i false) = fuel → Inv P B N ops ds E0 σ0 w0 (Ls listed) [] s num s.σ E a w → drawsA P B call N ops n s = some (tf, σf) → wpAny P md ops Q fuel listed a w := by
  intro fuel
  -- when nothing is left
  have fin : ∀ (n : Nat) (s : Dr) (num : Nat → Nat) (listed : Array Bool) (E : Env) (a : Act) (w : World), listed.size = ops.size → Inv P B N ops ds E0 σ0 w0 (Ls listed) [] s num s.σ E a w → drawsA P B call N ops n s = some (tf, σf) →
      Region.ready md ops listed = [] → Q .normal a w := by
    intro n s num listed E a w hsz h hv hr
    have hall : ∀ d ∈ ds, Ls listed d.i := by
      rcases sortsA_spec (L := Ls listed) 9 ds 0 hmd (fun i hi => by rw [hasB_zero] at hi; cases hi) with ⟨d, hd, h1, h2⟩ | h1
      · exfalso
        have hlt : d.i < listed.size := by rw [hsz]; exact (Array.getElem?_eq_some_iff.1 (hds.at_ d hd)).1
        have : d.i ∈ Region.ready md ops listed := mem_ready.2 ⟨by
          unfold Ls at h1
          simpa [hlt] using h1, d.o, hds.at_ d hd, h2⟩
        rw [hr] at this; simp at this
      · exact h1
    have hrem : s.rem = [] := by
      cases hs : s.rem with
      | nil => rfl
      | cons d l =>
        exfalso
        have h1 := h.notdone d (by simp [hs])
        have h2 := h.sub _ (hall d (h.mem d (by simp [hs])))
        rw [h1] at h2; cases h2
    cases n with
    | zero => simp [drawsA] at hv
    | succ n =>
      simp only [drawsA, hrem] at hv
      obtain ⟨_, hv⟩ := cond_some hv
      simp only [Option.some.injEq, Prod.mk.injEq] at hv
      obtain ⟨rfl, rfl⟩ := hv
      refine hQ E a w h.step ⟨h.size, fun i v hi => ?_, h.defers⟩
      by_cases hx : ∃ d ∈ ds, d.o.dst = some i
      · obtain ⟨d, hd, hdi⟩ := hx
        exact h.tmpD d hd (hall d hd) i v hdi hi
      · exact h.tmpO i v (fun d hd hdi => absurd ⟨d, hd, hdi⟩ hx) hi
  induction fuel with
  | zero =>
    intro n s num listed E a w hsz hcl hcnt h hv
    have hr : Region.ready md ops listed = [] := by
      rw [List.eq_nil_iff_forall_not_mem]
      intro i hi
      obtain ⟨h1, o, ho, _⟩ := mem_ready.1 hi
      have hlt : i < ops.size := (Array.getElem?_eq_some_iff.1 ho).1
      have := List.countP_eq_zero.1 hcnt i (List.mem_range.2 hlt)
      simp [show i < listed.size by omega] at this h1
      rw [h1] at this; cases this
    exact ⟨hr, fin n s num listed E a w hsz h hv hr⟩
  | succ fuel ih =>
    intro n s num listed E a w hsz hcl hcnt h hv
    refine ⟨fun hr => fin n s num listed E a w hsz h hv hr, fun i hi => ?_⟩
    obtain ⟨h1, o, ho, hedge⟩ := mem_ready.1 hi
    obtain ⟨d, hd, rfl⟩ := hds.all i o ho
    have hdo := hds.at_ d hd
    rw [ho] at hdo; cases hdo
    have hlt : d.i < ops.size := (Array.getElem?_eq_some_iff.1 ho).1
    have hlt' : d.i < listed.size := by omega
    have hnL : ¬ Ls listed d.i := by unfold Ls; simp [hlt'] at h1 ⊢; exact h1
    have hah : ∀ j, hasB d.b j = true → Ls listed j := ahead hds hcl (d.i + 1) d hd (Nat.lt_succ_self _) hedge
    have hset := Ls_set hlt'
    have hsz' : (listed.setIfInBounds d.i true).size = ops.size := by simpa using hsz
    have hcl' : ∀ i o, Ls (listed.setIfInBounds d.i true) i → ops[i]? = some o → ∀ e ∈ o.after, Region.binds md e = true → Ls (listed.setIfInBounds d.i true) e.on := by
      intro i o' hi' ho' e he hb
      rw [hset] at hi' ⊢
      rcases hi' with hi' | rfl
      · exact .inl (hcl i o' hi' ho' e he hb)
      · rw [ho] at ho'; cases ho'
        exact .inl (hedge e he hb)
    have hcnt' : ((List.range ops.size).countP fun i => !(listed.setIfInBounds d.i true).getD i false) = fuel := by
      have := countP_remove (x := d.i) (p := fun i => !listed.getD i false) (p' := fun i => !(listed.setIfInBounds d.i true).getD i false) (by unfold Ls at hnL; simpa using hnL) (by simp [hlt']) (fun i hi => by
        simp [Array.getElem?_setIfInBounds_ne (Ne.symm hi)]) (List.nodup_range (n := ops.size)) (List.mem_range.2 hlt)
      omega
    have hLb : ∀ i, (listed.getD i false) = true ↔ Ls listed i := fun i => Iff.rfl
    cases n with
    | zero => simp [drawsA] at hv
    | succ n =>
      have hv0 := hv
      simp only [drawsA] at hv
      obtain ⟨hre, hv⟩ := cond_some hv
      by_cases hdone : hasB s.done d.i = true
      · refine float_real hB hC hds hfl h hre hLb hd hdone hnL hah fun E' a' w' h' => ih (n + 1) s num _ E' a' w' hsz' hcl' hcnt' (by rw [hset]; exact h') hv0
      · have hmem : d ∈ s.rem := by
          rcases h.part d hd with h2 | h2
          · exact absurd h2 hdone
          · simpa using h2
        cases hrem : s.rem with
        | nil => rw [hrem] at hmem; simp at hmem
        | cons d' l =>
          rw [hrem] at hv hmem
          simp only at hv
          obtain ⟨hst, hv⟩ := cond_some hv
          obtain ⟨hb, hst⟩ := cond_and hst
          have hsub : subB d.b s.done = true := subB_of fun j hj => h.sub j (hah j hj)
          have hdd : d = d' := by
            rcases List.mem_cons.1 hmem with h2 | h2
            · exact h2
            · exfalso
              have h3 := List.all_eq_true.1 hst d h2
              rw [hsub] at h3; cases h3
          subst hdd
          split at hv
          · rename_i hw
            split at hv
            · rename_i hk
              split at hv
              · rename_i v σ' hex
                split at hv
                · rename_i t' hput
                  split at hv
                  · rename_i s' hpass
                    refine write_real hB hC hds hfl hrem h hLb hah hw hex hput fun E' a' w' h' => ?_
                    obtain ⟨num', h2⟩ := pass_inv hfl l _ num h' hpass
                    exact ih n _ num' _ E' a' w' hsz' hcl' hcnt' (by rw [hset]; exact h2.rev) hv
                  · cases hv
                · cases hv
              · cases hv
            · cases hv
          · cases hv

theorem draw_ok (hB : Fits P B) {call : CallF} (hC : CallOK P call) : DrawOK P B call N := by
  intro id ops E σ w t a e t' σ' h ha hv Q hQ
  dsimp only at hv
  split at hv
  · rename_i t1 σ1 h1
    simp only [Option.some.injEq, Prod.mk.injEq] at hv; obtain ⟨rfl, rfl, rfl⟩ := hv
    unfold drawA at h1
    obtain ⟨hord, h1⟩ := cond_some h1
    unfold orderOk at hord
    obtain ⟨hflow, hord⟩ := cond_and hord
    obtain ⟨ha1, hord⟩ := cond_and hord
    obtain ⟨ha2, ha3⟩ := cond_and hord
    have hds := dops_DS ops
    have hfl := flow_spec hflow
    split at h1
    · rename_i s hpass
      refine wp_region_draw fun tt => ?_
      have hstart : Inv P B N ops (dops 0 [] ops.toList) E σ { w with drawn := w.drawn + 1 } (Ls (Array.replicate ops.size false)) (dops 0 [] ops.toList) ⟨t, σ, 0, [], []⟩ (fun _ => 0) σ E a { w with drawn := w.drawn + 1 } := by
        have hno : ∀ i, ¬ Ls (Array.replicate ops.size false) i := fun i hi => by
          unfold Ls at hi
          rw [Array.getD_eq_getD_getElem?, Array.getElem?_replicate] at hi
          split at hi <;> simp at hi
        refine ⟨Step.refl h.drew, ha.size, ha.defers, fun i hi => absurd hi (hno i), fun d hd => .inr (by simpa using hd), fun d hd => by simpa using hd, by simpa using hds.nodup, fun d _ => hasB_zero _, fun d _ hdz => (by rw [hasB_zero] at hdz; cases hdz),
          fun d _ hL => absurd hL (hno _), fun x v _ hx => ha.get x v hx, fun d _ _ hdz => (by rw [hasB_zero] at hdz; cases hdz), fun d _ hdz => (by rw [hasB_zero] at hdz; cases hdz), fun d _ e _ hdz => (by rw [hasB_zero] at hdz; cases hdz)⟩
      obtain ⟨num', hinv⟩ := pass_inv hfl _ _ _ hstart hpass
      have hfin : ∀ E' a' w', Step E σ { w with drawn := w.drawn + 1 } E' σ1 w' → AR B E' N t1 a' → Q .normal a' w' := fun E' a' w' s1 ha' => hQ E' a' w' ((Step.drew h).trans s1) ha'
      have hcnt : ((List.range ops.size).countP fun i => !(Array.replicate ops.size false).getD i false) = ops.size := by
        rw [List.countP_eq_length.2, List.length_range]
        intro i hi
        rw [Array.getD_eq_getD_getElem?, Array.getElem?_replicate]
        split <;> rfl
      have main : ∀ md, sortsA md 9 (dops 0 [] ops.toList) 0 = true → ∀ k, wpOps P ops Q (Region.linearise md ops k) a { w with drawn := w.drawn + 1 } := by
        intro md hmd k
        refine wpAny_sound ops.size k _ a _ (draws_any hB hC hds hfl hmd hfin ops.size _ _ num' _ E a _ (by simp) (fun i o hi => ?_) hcnt hinv.rev h1)
        exfalso
        unfold Ls at hi
        rw [Array.getD_eq_getD_getElem?, Array.getElem?_replicate] at hi
        split at hi <;> simp at hi
      unfold Region.schedule
      split
      · exact main .any ha1 tt
      · split
        · exact main .text ha2 _
        · exact main .gc ha3 _
    · cases h1
  · cases hv
/-- a call that is reckoned comes to that, in the model -/
theorem calls_ok {B : Beside} (hB : Fits P B) (F n : Nat) : CallOK P (callA P B F n) := call_ok hB (fun _ _ hC => draw_ok hB hC) n
end
end
end Go.Dg

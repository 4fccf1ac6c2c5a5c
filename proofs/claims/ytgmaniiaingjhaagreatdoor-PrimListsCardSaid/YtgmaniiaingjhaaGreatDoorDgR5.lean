/- The deterministic machine, part 23: what is reckoned ahead of the model. -/
import Derived.Test.YtgmaniiaingjhaaGreatDoorDgR4
namespace Go.Dg
open Go Go.RowKit
noncomputable section
section
variable {P : Program} {B : Beside} {N : Nat} {ops : Array Oper} {ds : List DOp} {E0 E : Env} {σ0 : St} {w0 w : World} {L : Nat → Prop} {a : Act} {num : Nat → Nat}

theorem new_get {σ : St} {obj : Obj} {k : Nat} (h : k ≠ σ.next) : (σ.new obj).heap.get k = σ.heap.get k := PT.get_set_ne _ _ h
theorem Step.ahead {σ : St} (h : Step E0 σ0 w0 E σ w) (obj : Obj) : Step E0 σ0 w0 E (σ.new obj) w := by
  have hE : E σ.next = none := h.rel.fresh _ (Nat.le_refl _)
  have old : ∀ id p, E id = some p → (σ.new obj).heap.get id = σ.heap.get id := fun id p hp => new_get fun e => by rw [e, hE] at hp; cases hp
  refine ⟨h.le, ⟨fun id o p ho hp => h.rel.obj id o p (by rw [← old id p hp]; exact ho) hp, fun i j o o' p q hi hj hp hq => h.rel.inj i j o o' p q (by rw [← old i p hp]; exact hi) (by rw [← old j q hq]; exact hj) hp hq,
    fun id hid => h.rel.fresh id (Nat.le_trans (Nat.le_succ _) hid)⟩, Nat.le_trans h.next (Nat.le_succ _), h.dom, h.size, h.os, h.tape, h.output, h.frame, ?_, ?_⟩
  · rintro b hb ⟨id, o, p, ho, hp, hpb⟩
    exact h.own b hb ⟨id, o, p, by rw [← old id p hp]; exact ho, hp, hpb⟩
  · intro id hid he
    rw [new_get (by have := h.next; omega)]
    exact h.kept id hid he

theorem Inv.later {d : DOp} {l : List DOp} {s : Dr} {τ : St} (h : Inv P B N ops ds E0 σ0 w0 L (d :: l) s num τ E a w) : Inv P B N ops ds E0 σ0 w0 L l ⟨s.t, s.σ, s.done, d :: s.rem, s.rs⟩ num τ E a w := by
  have hp : (d :: l ++ s.rem).Perm (l ++ d :: s.rem) := by
    simp only [List.cons_append]
    exact (List.perm_middle (a := d) (l₁ := l) (l₂ := s.rem)).symm
  refine ⟨h.step, h.size, h.defers, h.sub, fun e he => (h.part e he).imp id fun x => hp.mem_iff.1 x, fun e he => h.mem e (hp.mem_iff.2 he), (hp.pairwise_iff (fun hh => Ne.symm hh)).1 h.nd, fun e he => h.notdone e (hp.mem_iff.2 he), h.clos, h.tmpD, h.tmpO, h.wdone, fun e he hd hL => ?_, h.inj⟩
  cases h.pend e he hd hL with
  | skip hw hd => exact .skip hw hd
  | pure v hk hw hd ho => exact .pure v hk hw hd ho
  | read v hk hw hd hr => exact .read v hk hw hd hr
  | make v σi obj hk hw hd ho hn h0 h1 hE hg => exact .make v σi obj hk hw hd ho hn h0 h1 hE hg

theorem pass_inv (hfl : Flow P ops ds) : ∀ (l : List DOp) (s : Dr) (num : Nat → Nat) {s' : Dr}, Inv P B N ops ds E0 σ0 w0 L l s num s.σ E a w → passA P N ops l s = some s' →
    ∃ num', Inv P B N ops ds E0 σ0 w0 L [] s' num' s'.σ E a w
  | [], s, num, s', h, hv => by
    simp only [passA, Option.some.injEq] at hv; subst hv
    exact ⟨num, h⟩
  | d :: l, s, num, s', h, hv => by
    simp only [passA] at hv
    have hmd : d ∈ ds := h.mem d (by simp)
    have hnd : hasB s.done d.i = false := h.notdone d (by simp)
    cases hb : subB d.b s.done with
    | false =>
      rw [hb] at hv; simp only [cond_false] at hv
      exact pass_inv hfl l _ num h.later hv
    | true =>
      rw [hb] at hv; simp only [cond_true] at hv
      have hself := apart_self hfl hmd hb hnd
      split at hv
      · rename_i hw
        split at hv
        · exact pass_inv hfl l _ num h.later hv
        · rename_i hk
          have hna : antiA P d.o = false := by
            cases hx : antiA P d.o with
            | false => rfl
            | true => have := (antiA_spec hx).1; rw [hk] at this; cases this
          split at hv
          · rename_i v σ' hop
            split at hv
            · rename_i t' hput
              have hq := quiet_r hk hop; subst hq
              obtain ⟨c1, c2⟩ := put_congr (P := P) hself hput
              refine pass_inv hfl l _ num (h.float hfl hna hb hput (rs' := d :: s.rs) (fun r hr => List.mem_cons_of_mem _ hr) (fun _ _ _ => rfl) h.step (Nat.le_refl _) (fun _ _ _ => rfl)
                (.read v hk (by rw [c2]; exact hw) (putA_get hput).1 (by simp)) (fun hka => by rw [hk] at hka; cases hka)) hv
            · cases hv
          · cases hv
        · rename_i hnw hnr
          have hna : antiA P d.o = false := by
            cases hx : antiA P d.o with
            | false => rfl
            | true => exact (hnw (antiA_spec hx).1).elim
          split at hv
          · rename_i v σ' hop
            split at hv
            · rename_i t' hput
              obtain ⟨c1, c2⟩ := put_congr (P := P) hself hput
              cases hk : kindA P d.o with
              | w => exact (hnw hk).elim
              | r => exact (hnr hk).elim
              | p =>
                obtain ⟨rfl, hall⟩ := quiet_p hk hop
                exact pass_inv hfl l _ num (h.float hfl hna hb hput (rs' := s.rs) (fun r hr => hr) (fun _ _ _ => rfl) h.step (Nat.le_refl _) (fun _ _ _ => rfl)
                  (.pure v hk (by rw [c2]; exact hw) (putA_get hput).1 (fun τ => by rw [c1]; exact hall τ)) (fun hka => by rw [hk] at hka; cases hka)) hv
              | a =>
                obtain ⟨obj, rfl, hmk⟩ := made_a hk hop
                have hE : E s.σ.next = none := h.step.rel.fresh _ (Nat.le_refl _)
                have hne : ∀ e ∈ ds, hasB s.done e.i = true → e.i ≠ d.i := fun e _ hed heq => by rw [heq, hnd] at hed; cases hed
                refine pass_inv hfl l _ (fun i => if i = d.i then s.σ.next else num i) (h.float hfl hna hb hput (rs' := s.rs) (fun r hr => hr) (fun e he hed => if_neg (hne e he hed)) (h.step.ahead obj) (Nat.le_succ _)
                  (fun k hk _ => new_get (Nat.ne_of_lt hk)) (.make v s.σ obj hk (by rw [c2]; exact hw) (putA_get hput).1 (by rw [c1]; exact hop) (by simp) (by simpa using h.step.next) (by simp [St.new]) (by simpa using hE) (by simp [St.new])) ?_) hv
                intro _ _ e he hed hLe hke hwe
                have c3 := (put_congr (P := P) (apart_of hfl h.clos hmd hnd he hed (fun hx => by rw [hna] at hx; cases hx)) hput).2
                rw [if_pos rfl, if_neg (hne e he hed)]
                have hp := h.pend e he hed hLe
                have hwe' : wantA ops s.t e.o = some true := by rw [← c3]; exact hwe
                cases hp with
                | skip hw2 _ => rw [hwe'] at hw2; cases hw2
                | pure v hk2 _ _ _ => rw [hke] at hk2; cases hk2
                | read v hk2 _ _ _ => rw [hke] at hk2; cases hk2
                | make v2 σi obj2 hk2 hw2 hd2 ho2 hn2 h02 h12 hE2 hg2 => omega
            · cases hv
          · cases hv
      · rename_i hw
        have hna : antiA P d.o = false := by
          cases hx : antiA P d.o with
          | false => rfl
          | true =>
            have hg := (antiA_spec hx).2
            unfold wantA at hw
            rw [hg] at hw; cases hw
        split at hv
        · rename_i t' hput
          obtain ⟨c1, c2⟩ := put_congr (P := P) hself hput
          exact pass_inv hfl l _ num (h.float hfl hna hb hput (rs' := s.rs) (fun r hr => hr) (fun _ _ _ => rfl) h.step (Nat.le_refl _) (fun _ _ _ => rfl)
            (.skip (by rw [c2]; exact hw) (putA_get hput).1) (fun _ hwt => by rw [c2, hw] at hwt; cases hwt)) hv
        · cases hv
      · cases hv
end
end
end Go.Dg

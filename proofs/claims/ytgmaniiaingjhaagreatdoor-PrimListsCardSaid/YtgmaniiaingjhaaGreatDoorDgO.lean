/- The deterministic machine, part 15: the operations together. -/
import Derived.Test.YtgmaniiaingjhaaGreatDoorDgN
namespace Go.Dg
open Go Go.RowKit
noncomputable section
section
variable {E : Env} {σ : St} {w : World} {P : Program}

theorem methodA_spec {t : TypeId} {v u : V} {name : String} {f : FuncId} (h : methodA P t v name = some (f, u)) :
    u = v ∧ ∃ i m e, P.info? t = some i ∧ P.underlying t = some (.pointer e) ∧ i.methods.find? (·.name == name) = some m ∧ m.path.toList = [] ∧ m.func = some (f, true) := by
  unfold methodA at h
  split at h
  · rename_i i e hi hu
    split at h
    · rename_i m hm
      split at h
      · rename_i f' hp hf
        simp only [Option.some.injEq, Prod.mk.injEq] at h
        obtain ⟨rfl, rfl⟩ := h
        exact ⟨rfl, i, m, e, hi, hu, hm, hp, hf⟩
      · cases h
    · cases h
  · cases h
theorem method_run {t : TypeId} {i : TypeInfo} {m : Method} {e : TypeId} {name : String} {f : FuncId} (x : Value) (n : Nat) (hi : P.info? t = some i) (hu : P.underlying t = some (.pointer e))
    (hm : i.methods.find? (·.name == name) = some m) (hp : m.path.toList = []) (hf : m.func = some (f, true)) :
    (method (n + 1) t x name).run P w = .ok (f, x) w ∧ (nilAhead (n + 1) t x name).run P w = .ok (some false) w := by
  constructor
  · simp [method, typeInfo, hi, hm, hp, hf, follow, receiverAt, run_underlying hu, Go.Place.get]
  · simp [nilAhead, typeInfo, hi, hm, hp, hf, followBlind]
theorem fuel_pos (P : Program) : ∃ n, P.types.size + Made.depth = n + 1 := ⟨P.types.size + 99, rfl⟩

theorem arr_of_list {α : Type} {a : Array α} {l : List α} (h : a.toList = l) : a = l.toArray := by rw [← h]
theorem builtinA_run (h : Rel E σ w) {b : Builtin} {ats : Array TypeId} {ty : TypeId} {cs : Array Bool} {args : List V} {xs : Array Value} (hx : LR E args xs.toList) {v : V} {σ' : St} (hv : builtinA P b ats.toList args σ = some (v, σ')) :
    OpGives P E σ w (builtin b ats ty cs xs) v σ' := by
  unfold builtinA at hv
  split at hv
  · rename_i t x e
    obtain ⟨h1, rfl⟩ := q1_some hv
    simp only [LR] at hx; obtain ⟨y, _, hy, hxy, _, rfl⟩ := hx
    rw [arr_of_list e, arr_of_list hy]
    exact OpGives.val h (lenA_run h hxy h1)
  · rename_i st xt s x e
    simp only [LR] at hx; obtain ⟨y, _, hy, hxy, z, _, rfl, hxz, rfl⟩ := hx
    rw [arr_of_list e, arr_of_list hy]
    exact (appendA_run h hxy hxz hv).op
  · rename_i t u x k e
    obtain ⟨h1, rfl⟩ := q3_some hv
    simp only [LR] at hx; obtain ⟨y, _, hy, hxy, z, _, rfl, hxz, rfl⟩ := hx
    rw [arr_of_list e, arr_of_list hy]
    obtain ⟨w', h2, h3⟩ := deleteA_run h (u := u) (ty := ty) hxy hxz h1
    exact Gives.op (s := Builtin.delete_ #[t, u] ty #[y, z]) ⟨_, E, w', h2, h3, by simp only [VR, LR]; exact ⟨#[], rfl, rfl⟩⟩
  · rename_i x l e
    obtain ⟨h1, rfl⟩ := q1_some hv
    simp only [LR] at hx; obtain ⟨y, ys, hy, hxy, hl⟩ := hx
    refine OpGives.val h ?_
    obtain ⟨z, h2, h3⟩ := minA_run (P := P) (w := w) (mx := false) hxy hl h1
    exact ⟨z, by simp only [Builtin.min_, hy]; exact h2, h3⟩
  · rename_i x l e
    obtain ⟨h1, rfl⟩ := q1_some hv
    simp only [LR] at hx; obtain ⟨y, ys, hy, hxy, hl⟩ := hx
    refine OpGives.val h ?_
    obtain ⟨z, h2, h3⟩ := minA_run (P := P) (w := w) (mx := true) hxy hl h1
    exact ⟨z, by simp only [Builtin.max_, hy]; exact h2, h3⟩
  · cases hv

set_option maxHeartbeats 4000000 in
theorem opA_run {t : PT V} {ρ : Operand → Value} {o : Oper} {v : V} {σ' : St} (h : Rel E σ w) (he : EvR E t ρ) (hv : opA P t o σ = some (v, σ')) : OpGives P E σ w (execOp ρ o) v σ' := by
  obtain ⟨dst, op, type, pos, after, guard⟩ := o
  cases op
  case move x =>
    obtain ⟨h1, rfl⟩ := q1_some hv
    exact OpGives.pure h (he _ _ h1)
  case assign x =>
    obtain ⟨h1, rfl⟩ := q1_some hv
    exact OpGives.pure h (he _ _ h1)
  case pick c a b =>
    simp only [opA] at hv
    split at hv
    · rename_i r hc
      obtain ⟨h1, rfl⟩ := q1_some hv
      have hcv := he _ _ hc
      simp only [VR] at hcv
      cases r with
      | true => exact ⟨ρ a, E, w, .inl (by simp [execOp, hcv, asBool]), Step.refl h, he _ _ h1⟩
      | false => exact ⟨ρ b, E, w, .inl (by simp [execOp, hcv, asBool]), Step.refl h, he _ _ h1⟩
    · cases hv
  case alloc e => exact (allocA_run h hv).op
  case box e x =>
    simp only [opA] at hv
    split at hv
    · rename_i u hu
      simp only [Option.some.injEq] at hv
      have := boxA_run (P := P) h e (he _ _ hu)
      rw [hv] at this
      exact this.op
    · cases hv
  case build ty ps =>
    simp only [opA] at hv
    split at hv
    · rename_i l hl
      obtain ⟨h1, rfl⟩ := q1_some hv
      exact OpGives.val h (buildA_run w (parts := ps.map fun (i, x) => (i, ρ x)) (by simpa using evp_rel he hl) h1)
    · cases hv
  case buildSlice ty n ps =>
    simp only [opA] at hv
    split at hv
    · rename_i l hl
      exact (buildSliceA_run h (parts := ps.map fun (i, x) => (i, ρ x)) (by simpa using evp_rel he hl) hv).op
    · cases hv
  case load ty a =>
    simp only [opA] at hv
    split at hv
    · rename_i id off ha
      obtain ⟨h1, rfl⟩ := q1_some hv
      have hav := he _ _ ha
      simp only [VR] at hav; obtain ⟨p, hp, hav⟩ := hav
      obtain ⟨z, h2, h3⟩ := loadA_run h hp h1
      exact OpGives.val h ⟨z, by simp [Instr.loadAt, hav, Instr.sureAddr, h2], h3⟩
    · cases hv
  case store ty a x =>
    simp only [opA] at hv
    split at hv
    · rename_i id off u ha hx
      obtain ⟨h1, rfl⟩ := q2_some hv
      have hav := he _ _ ha
      simp only [VR] at hav; obtain ⟨p, hp, hav⟩ := hav
      obtain ⟨w', h2, h3⟩ := storeA_run h hp (he _ _ hx) h1
      exact OpGives.unit ⟨w', by simp [Instr.storeAt, hav, Instr.sureAddr, h2], h3⟩
    · cases hv
  case nilCheck x =>
    simp only [opA] at hv
    split at hv
    · rename_i id off hx
      simp only [Option.some.injEq, Prod.mk.injEq] at hv; obtain ⟨rfl, rfl⟩ := hv
      have hxv := he _ _ hx
      refine ⟨ρ x, E, w, .inl ?_, Step.refl h, hxv⟩
      simp only [VR] at hxv; obtain ⟨p, hp, hxv⟩ := hxv
      simp [execOp, hxv]
    · rename_i f a b hx
      simp only [Option.some.injEq, Prod.mk.injEq] at hv; obtain ⟨rfl, rfl⟩ := hv
      have hxv := he _ _ hx
      refine ⟨ρ x, E, w, .inl ?_, Step.refl h, hxv⟩
      simp only [VR] at hxv; obtain ⟨p, q, hxv, _⟩ := hxv
      simp [execOp, hxv]
    · rename_i ty u hx
      simp only [Option.some.injEq, Prod.mk.injEq] at hv; obtain ⟨rfl, rfl⟩ := hv
      have hxv := he _ _ hx
      refine ⟨ρ x, E, w, .inl ?_, Step.refl h, hxv⟩
      simp only [VR] at hxv; obtain ⟨q, hxv, _⟩ := hxv
      simp [execOp, hxv]
    · rename_i name ty u c hx
      split at hv
      · rename_i fu hm
        obtain ⟨f, u'⟩ := fu
        simp only [Option.some.injEq, Prod.mk.injEq] at hv; obtain ⟨rfl, rfl⟩ := hv
        have hxv := he _ _ hx
        refine ⟨ρ x, E, w, .inl ?_, Step.refl h, hxv⟩
        obtain ⟨_, i, m, e, hi, hu, hfind, hp, hf⟩ := methodA_spec hm
        simp only [VR, LR] at hxv; obtain ⟨p, q, hxv, ⟨z, _, hz, ⟨y, rfl, hy⟩, rfl⟩, hc⟩ := hxv
        obtain ⟨n, hn⟩ := fuel_pos P
        have h0 : p[0]? = some (.iface ty y) := by rw [← Array.getElem?_toList, hz]; rfl
        have hna := (method_run (P := P) (w := w) y n hi hu hfind hp hf).2
        rw [hxv]
        simp [execOp, hxv, h0, hn, hna]
      · cases hv
    · cases hv
  case binOp op ty x y yt =>
    simp only [opA] at hv
    split at hv
    · rename_i a b ha hb
      obtain ⟨h1, rfl⟩ := q1_some hv
      exact OpGives.val h (binA_run (he _ _ ha) (he _ _ hb) h1)
    · cases hv
  case unOp op ty x =>
    simp only [opA] at hv
    split at hv
    · rename_i a ha
      obtain ⟨h1, rfl⟩ := q1_some hv
      exact OpGives.val h (unA_run (he _ _ ha) h1)
    · cases hv
  case convert s d x =>
    simp only [opA] at hv
    split at hv
    · rename_i a ha
      exact (convertA_run h (he _ _ ha) hv).op
    · cases hv
  case makeInterface xt x =>
    simp only [opA] at hv
    split at hv
    · cases hv
    · rename_i d u hni hu hx
      simp only [Option.some.injEq, Prod.mk.injEq] at hv; obtain ⟨rfl, rfl⟩ := hv
      refine OpGives.val h ⟨.iface xt (ρ x), ?_, by simp only [VR]; exact ⟨_, rfl, he _ _ hx⟩⟩
      cases d <;> first | exact (hni _ rfl).elim | simp [Instr.makeInterface, run_underlying hu]
    · cases hv
  case makeFunc fn a b =>
    simp only [opA] at hv
    split at hv
    · rename_i l m hl hm
      simp only [Option.some.injEq, Prod.mk.injEq] at hv; obtain ⟨rfl, rfl⟩ := hv
      exact OpGives.val h ⟨.func fn (a.map ρ) (b.map ρ), by simp [Instr.makeFunc], by simp only [VR]; exact ⟨_, _, rfl, evs_rel he hl, evs_rel he hm⟩⟩
    · cases hv
  case makeMap ty r =>
    simp only [opA] at hv
    split at hv
    · rename_i x k e hx hu
      exact (makeMapA_run h (evo_rel he hx) (.inl ⟨_, _, hu⟩) hv).op
    · cases hv
  case makeSlice ty l c =>
    simp only [opA] at hv
    split at hv
    · rename_i a b ha hb
      exact (makeSliceA_run h (he _ _ ha) (he _ _ hb) hv).op
    · cases hv
  case slice ty x lo hi mx =>
    simp only [opA] at hv
    split at hv
    · rename_i u a b c hx h1 h2 h3
      obtain ⟨h4, rfl⟩ := q1_some hv
      exact OpGives.val h (sliceA_run w (he _ _ hx) (evo_rel he h1) (evo_rel he h2) (evo_rel he h3) h4)
    · cases hv
  case fieldAddr s x f =>
    simp only [opA] at hv
    split at hv
    · rename_i u hx
      obtain ⟨h4, rfl⟩ := q1_some hv
      exact OpGives.val h (fieldAddrA_run w (he _ _ hx) h4)
    · cases hv
  case field ty x f =>
    simp only [opA] at hv
    split at hv
    · rename_i u hx
      obtain ⟨h4, rfl⟩ := q1_some hv
      exact OpGives.val h (fieldA_run w (he _ _ hx) h4)
    · cases hv
  case indexAddr ty x i =>
    simp only [opA] at hv
    split at hv
    · rename_i u j hx hj
      obtain ⟨h4, rfl⟩ := q1_some hv
      exact OpGives.val h (indexAddrA_run w (he _ _ hx) (he _ _ hj) h4)
    · cases hv
  case index ty x i =>
    simp only [opA] at hv
    split at hv
    · rename_i u j hx hj
      obtain ⟨h4, rfl⟩ := q1_some hv
      exact OpGives.val h (indexA_run w (he _ _ hx) (he _ _ hj) h4)
    · cases hv
  case lookup xt x k ok =>
    simp only [opA] at hv
    split at hv
    · rename_i u j hx hj
      obtain ⟨h4, rfl⟩ := q1_some hv
      exact OpGives.val h (lookupA_run h (he _ _ hx) (he _ _ hj) h4)
    · cases hv
  case mapUpdate ty m k x =>
    simp only [opA] at hv
    split at hv
    · rename_i a b c ha hb hc
      obtain ⟨h4, rfl⟩ := q2_some hv
      exact OpGives.unit (mapUpdateA_run h (he _ _ ha) (he _ _ hb) (he _ _ hc) h4)
    · cases hv
  case insert ty m k x =>
    simp only [opA] at hv
    split at hv
    · rename_i a b c ha hb hc
      obtain ⟨h4, rfl⟩ := q2_some hv
      exact OpGives.unit (mapUpdateA_run h (he _ _ ha) (he _ _ hb) (he _ _ hc) h4)
    · cases hv
  case range ty x =>
    simp only [opA] at hv
    split at hv
    · rename_i u hx
      exact (rangeA_run h (he _ _ hx) hv).op
    · cases hv
  case next it s =>
    simp only [opA] at hv
    split at hv
    · rename_i u hx
      exact (nextA_run h (he _ _ hx) hv).op
    · cases hv
  case typeAssert x xt ty ok =>
    simp only [opA] at hv
    split at hv
    · rename_i u hx
      obtain ⟨h4, rfl⟩ := q1_some hv
      exact OpGives.val h (typeAssertA_run (he _ _ hx) h4)
    · cases hv
  case extract x i =>
    simp only [opA] at hv
    split at hv
    · rename_i vs hx
      obtain ⟨h4, rfl⟩ := q1_some hv
      have hxv := he _ _ hx
      simp only [VR] at hxv; obtain ⟨a, hxv, hl⟩ := hxv
      obtain ⟨z, hz, hr⟩ := hl.get i h4
      refine OpGives.val h ⟨z, ?_, hr⟩
      have : a[i]? = some z := by simpa using hz
      simp [Instr.extract, hxv, this]
    · cases hv
  case call c =>
    simp only [opA] at hv
    split at hv
    · rename_i b hb
      split at hv
      · rename_i l hl
        have hx := evs_rel he hl
        obtain ⟨x, E', w', h1, h2, h3⟩ := builtinA_run h (ty := type) (cs := c.args.map fun | .const _ => true | _ => false) hx hv
        refine ⟨x, E', w', ?_, h2, h3⟩
        have e : execOp ρ ⟨dst, .call c, type, pos, after, guard⟩ = (builtin b c.argTypes type (c.args.map fun | .const _ => true | _ => false) (c.args.map ρ)) := by
          simp only [execOp, resolve, hb]
          rfl
        rw [e]; exact h1
      · cases hv
    · cases hv
  all_goals (exfalso; simp [opA] at hv; done)
end
end
end Go.Dg

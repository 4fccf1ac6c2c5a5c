/- The deterministic machine, part 14: what an operation comes to, proved: the rest. -/
import Derived.Test.YtgmaniiaingjhaaGreatDoorDgM
namespace Go.Dg
open Go Go.RowKit
noncomputable section
section
variable {E : Env} {σ : St} {w : World} {P : Program}

theorem unA_run {op : UnOp} {x : V} {y : Value} (hx : VR E x y) {v : V} (h : unA op x = some v) : ∃ z, (Op.unary op y).run P w = .ok z w ∧ VR E v z := by
  unfold unA at h
  split at h
  · simp only [Option.some.injEq] at h; subst h
    simp only [VR] at hx; subst hx
    exact ⟨_, by simp [Op.unary]; rfl, by rw [cond_not]; exact VR_bool E _⟩
  · rename_i k n
    simp only [Option.some.injEq] at h; subst h
    simp only [VR] at hx; subst hx
    rw [wrapK_eq, ineg_eq]
    refine ⟨_, ?_, VR_int E _ _⟩
    simp [Op.unary, Op.intArith]
  · cases h
theorem lenA_run (hR : Rel E σ w) {t ty : TypeId} {x : V} {y : Value} (hx : VR E x y) {v : V} (h : lenA P t x σ = some v) : ∃ z, (Builtin.len_ #[t] ty #[y]).run P w = .ok z w ∧ VR E v z := by
  unfold lenA at h
  split at h
  · rename_i n c hu
    simp only [Option.some.injEq] at h; subst h
    obtain ⟨s, rfl, rfl, rfl⟩ := VR_str_inv hx
    refine ⟨_, ?_, VR_int E _ _⟩
    have hl : Int.ofNat s.data.toList.length = (s.size : Int) := congrArg Int.ofNat (Array.length_toList (xs := s.data))
    rw [hl]
    simp [Builtin.len_, run_underlying hu, goInt]
  · rename_i n e hu
    simp only [Option.some.injEq] at h; subst h
    refine ⟨_, ?_, VR_int E _ _⟩
    simp [Builtin.len_, run_underlying hu, goInt]
  · rename_i e hu
    simp only [Option.some.injEq] at h; subst h
    simp only [VR] at hx; subst hx
    refine ⟨_, ?_, VR_int E _ _⟩
    simp [Builtin.len_, run_underlying hu, goInt]
  · rename_i e id off n cap hu
    simp only [Option.some.injEq] at h; subst h
    simp only [VR] at hx; obtain ⟨p, a, c, hp, rfl, _⟩ := hx
    refine ⟨_, ?_, VR_int E _ _⟩
    simp [Builtin.len_, run_underlying hu, goInt]
  · rename_i k e hu
    simp only [Option.some.injEq] at h; subst h
    simp only [VR] at hx; subst hx
    refine ⟨_, ?_, VR_int E _ _⟩
    simp [Builtin.len_, run_underlying hu, goInt]
  · rename_i k e id hu
    simp only [VR] at hx; obtain ⟨p, hp, rfl⟩ := hx
    split at h
    · rename_i es clock ho
      simp only [Option.some.injEq] at h; subst h
      obtain ⟨es', hb, hm⟩ := hR.mapAt ho hp
      have hl : es'.size = es.length := by
        have : ∀ {l : List (V × V × Nat)} {ms : List MapEntry}, MR E l ms → ms.length = l.length := by
          intro l
          induction l with
          | nil => intro ms h; simp only [MR] at h; subst h; rfl
          | cons a l ih => intro ms h; simp only [MR] at h; obtain ⟨m, ms', rfl, _, h2⟩ := h; simp [ih h2]
        have h1 := this hm
        simpa using h1
      refine ⟨_, ?_, VR_int E _ _⟩
      simp [Builtin.len_, run_underlying hu, goInt, getObj, Sem.run, hb, hl]
    · cases h
  · cases h
theorem min2A_run {mx : Bool} {x y : V} {a b : Value} (hx : VR E x a) (hy : VR E y b) {v : V} (h : min2A mx x y = some v) :
    ∃ z, (cond mx (Builtin.max2 a b) (Builtin.min2 a b)).run P w = .ok z w ∧ VR E v z := by
  unfold min2A at h
  split at h
  · rename_i k m j n
    simp only [Option.some.injEq] at h; subst h
    simp only [VR] at hx hy; subst hx; subst hy
    refine ⟨_, ?_, VR_int E _ _⟩
    rw [ilt_eq, ilt_eq]
    cases mx
    · simp only [cond_false, Builtin.min2]
      by_cases e : n < m <;> simp [e]
    · simp only [cond_true, Builtin.max2]
      by_cases e : m < n <;> simp [e]
  · cases h
theorem minA_run {mx : Bool} : ∀ {l : List V} {xs : List Value} {x : V} {a : Value}, VR E x a → LR E l xs → ∀ {v : V}, minA mx x l = some v → ∃ z, (xs.foldlM (cond mx Builtin.max2 Builtin.min2) a : Sem Value).run P w = .ok z w ∧ VR E v z
  | [], _, x, a, hx, hl, v, h => by
    simp only [LR] at hl; subst hl
    simp only [minA, Option.some.injEq] at h; subst h
    exact ⟨a, by simp, hx⟩
  | y :: l, _, x, a, hx, hl, v, h => by
    simp only [LR] at hl; obtain ⟨b, ys, rfl, hb, hl⟩ := hl
    simp only [minA] at h
    cases hm : min2A mx x y with
    | none => rw [hm] at h; cases h
    | some u =>
      rw [hm] at h
      obtain ⟨z, h1, h2⟩ := min2A_run (P := P) (w := w) hx hb hm
      obtain ⟨z', h3, h4⟩ := minA_run (mx := mx) h2 hl h
      refine ⟨z', ?_, h4⟩
      have e : (cond mx Builtin.max2 Builtin.min2) a b = cond mx (Builtin.max2 a b) (Builtin.min2 a b) := by cases mx <;> rfl
      simp [List.foldlM_cons, e, h1, h3]
theorem typeAssertA_run {x : V} {y : Value} (hx : VR E x y) {st ty : TypeId} {ok : Bool} {v : V} (h : typeAssertA P x ty ok = some v) : ∃ z, (Instr.typeAssert y st ty ok).run P w = .ok z w ∧ VR E v z := by
  unfold typeAssertA at h
  split at h
  · cases h
  · rename_i d t u hni hu
    simp only [VR] at hx; obtain ⟨b, rfl, hb⟩ := hx
    have hni' : ∀ a, d ≠ .interface a := fun a e => hni a e
    cases ht : Nat.beq t ty with
    | true =>
      have e := Nat.eq_of_beq_eq_true ht; subst e
      rw [ht] at h; simp only [cond_true, Option.some.injEq] at h; subst h
      cases ok with
      | true =>
        refine ⟨.tuple #[b, .bool true], ?_, ?_⟩
        · cases d <;> first | exact absurd rfl (hni' _) | simp [Instr.typeAssert, run_underlying hu]
        · simp only [cond_true, VR, LR]; exact ⟨_, rfl, b, _, rfl, hb, _, _, rfl, rfl, rfl⟩
      | false =>
        refine ⟨b, ?_, hb⟩
        cases d <;> first | exact absurd rfl (hni' _) | simp [Instr.typeAssert, run_underlying hu]
    | false =>
      have e := Nat.ne_of_beq_eq_false ht
      rw [ht] at h; simp only [cond_false] at h
      obtain ⟨h1, h2⟩ := cond_some h; subst h1
      split at h2
      · rename_i z hz
        simp only [Option.some.injEq] at h2; subst h2
        obtain ⟨i, zv, _, _, hrun, hr⟩ := zeroV_spec hz
        refine ⟨.tuple #[zv, .bool false], ?_, ?_⟩
        · cases d <;> first | exact absurd rfl (hni' _) | simp [Instr.typeAssert, run_underlying hu, e, hrun]
        · simp only [VR, LR]; exact ⟨_, rfl, zv, _, rfl, hr E, _, _, rfl, rfl, rfl⟩
      · cases h2
  · rename_i d hni hu
    simp only [VR] at hx; subst hx
    have hni' : ∀ a, d ≠ .interface a := fun a e => hni a e
    obtain ⟨h1, h2⟩ := cond_some h; subst h1
    split at h2
    · rename_i z hz
      simp only [Option.some.injEq] at h2; subst h2
      obtain ⟨i, zv, _, _, hrun, hr⟩ := zeroV_spec hz
      refine ⟨.tuple #[zv, .bool false], ?_, ?_⟩
      · cases d <;> first | exact absurd rfl (hni' _) | simp [Instr.typeAssert, run_underlying hu, hrun]
      · simp only [VR, LR]; exact ⟨_, rfl, zv, _, rfl, hr E, _, _, rfl, rfl, rfl⟩
    · cases h2
  · cases h
theorem MR_erase : ∀ {es : List (V × V × Nat)} {ms : List MapEntry}, MR E es ms → ∀ i : Nat, MR E (es.eraseIdx i) (ms.eraseIdx i)
  | [], _, h, _ => by simp only [MR] at h; subst h; simp [MR]
  | e :: es, _, h, 0 => by simp only [MR] at h; obtain ⟨m, ms, rfl, _, h2⟩ := h; simpa using h2
  | e :: es, _, h, i + 1 => by simp only [MR] at h; obtain ⟨m, ms, rfl, h1, h2⟩ := h; exact ⟨m, _, rfl, h1, MR_erase h2 i⟩
theorem deleteA_run (hR : Rel E σ w) {t u ty : TypeId} {x k : V} {y ky : Value} (hx : VR E x y) (hk : VR E k ky) {σ' : St} (h : deleteA P t x k σ = some σ') :
    ∃ w', (Builtin.delete_ #[t, u] ty #[y, ky]).run P w = .ok (.tuple #[]) w' ∧ Step E σ w E σ' w' := by
  unfold deleteA at h
  split at h
  · rename_i key e id hu
    simp only [VR] at hx; obtain ⟨p, hp, rfl⟩ := hx
    split at h
    · rename_i es clock ho
      obtain ⟨es', hb, hm⟩ := hR.mapAt ho hp
      obtain ⟨q1, q2⟩ := cond_some h
      have hck := ckA_run (P := P) w hk q1 es'.isEmpty 9998
      have hget : (getObj p.block).run P w = .ok (.map es' clock) w := by simp [getObj, Sem.run, hb]
      have hlt : p.block < w.heap.size := (Array.getElem?_eq_some_iff.1 hb).1
      have step : ∀ (ms : Array MapEntry) (l : List (V × V × Nat)), MR E l ms.toList → ∃ w', (setObj p.block (.map ms clock)).run P w = .ok () w' ∧ Step E σ w E (σ.put id (.map l clock)) w' := by
        intro ms l hml
        obtain ⟨g1, g2⟩ := MapKept.heap_set (o' := Go.Obj.map ms clock) hb
        exact ⟨_, MapKept.run_setObj_map _ hb, Step.put (w' := { w with heap := w.heap.setIfInBounds p.block (.map ms clock) }) hR ho hp (by simp) rfl rfl rfl g1 g2 ⟨_, rfl, hml⟩⟩
      split at q2
      · rename_i i v hf
        simp only [Option.some.injEq] at q2; subst q2
        obtain ⟨r', hr, hfr⟩ := findKey_run (P := P) w hk q1 hm hf
        simp only [FoundR] at hfr; obtain ⟨yv, rfl, _⟩ := hfr
        obtain ⟨w', h1, h2⟩ := step (es'.eraseIdxIfInBounds i) _ (by simpa using MR_erase hm i)
        refine ⟨w', ?_, h2⟩
        simp [Builtin.delete_, run_underlying hu, hget, hck, hr, h1]
      · rename_i hf
        simp only [Option.some.injEq] at q2; subst q2
        obtain ⟨r', hr, hfr⟩ := findKey_run (P := P) w hk q1 hm hf
        simp only [FoundR] at hfr; subst hfr
        obtain ⟨w', h1, h2⟩ := step es' _ hm
        refine ⟨w', ?_, h2⟩
        simp [Builtin.delete_, run_underlying hu, hget, hck, hr, h1]
      · cases q2
    · cases h
  · cases h
end
end
end Go.Dg

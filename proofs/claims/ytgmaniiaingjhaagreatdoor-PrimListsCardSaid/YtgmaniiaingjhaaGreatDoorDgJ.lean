/- The deterministic machine, part 10: maps. -/
import Derived.Test.YtgmaniiaingjhaaGreatDoorDgI
namespace Go.Dg
open Go Go.RowKit
noncomputable section

def Cap.beq : Cap → Cap → Bool
  | .exact a, .exact b => Nat.beq a b
  | .toEnd a, .toEnd b => Nat.beq a b
  | _, _ => false
theorem Cap.beq_eq {a b : Cap} (h : a.beq b = true) : a = b := by
  cases a <;> cases b <;> simp only [Cap.beq, Bool.false_eq_true] at h <;> rw [Nat.eq_of_beq_eq_true h]
mutual
def V.beq : V → V → Bool
  | .bool a, .bool b => cond a b (cond b false true)
  | .int k a, .int j b => cond (decide (k = j)) (ieq a b) false
  | .str n c, .str m d => cond (Nat.beq n m) (Nat.beq c d) false
  | .nilp, .nilp | .nils, .nils | .nilm, .nilm | .nilf, .nilf | .nili, .nili => true
  | .ptr a b, .ptr c d => cond (Nat.beq a c) (Nat.beq b d) false
  | .slice a b c d, .slice a' b' c' d' => cond (Nat.beq a a') (cond (Nat.beq b b') (cond (Nat.beq c c') (d.beq d') false) false) false
  | .map a, .map b => Nat.beq a b
  | .func f a b, .func g c d => cond (decide (f = g)) (cond (V.beqL a c) (V.beqL b d) false) false
  | .iface t v, .iface u x => cond (Nat.beq t u) (V.beq v x) false
  | .agg a, .agg b => V.beqL a b
  | .tuple a, .tuple b => V.beqL a b
  | _, _ => false
def V.beqL : List V → List V → Bool
  | [], [] => true
  | a :: l, b :: m => cond (V.beq a b) (V.beqL l m) false
  | _, _ => false
end
mutual
theorem V.beq_eq : ∀ (a b : V), V.beq a b = true → a = b
  | .bool a, b, h => by cases b <;> simp only [V.beq, Bool.false_eq_true] at h; rename_i b; cases a <;> cases b <;> simp_all
  | .int k a, b, h => by
    cases b <;> simp only [V.beq, Bool.false_eq_true] at h
    obtain ⟨h1, h2⟩ := cond_and h
    rw [ieq_eq] at h2; simp at h1 h2; rw [h1, h2]
  | .str n c, b, h => by
    cases b <;> simp only [V.beq, Bool.false_eq_true] at h
    obtain ⟨h1, h2⟩ := cond_and h
    rw [Nat.eq_of_beq_eq_true h1, Nat.eq_of_beq_eq_true h2]
  | .nilp, b, h => by cases b <;> simp only [V.beq, Bool.false_eq_true] at h; rfl
  | .nils, b, h => by cases b <;> simp only [V.beq, Bool.false_eq_true] at h; rfl
  | .nilm, b, h => by cases b <;> simp only [V.beq, Bool.false_eq_true] at h; rfl
  | .nilf, b, h => by cases b <;> simp only [V.beq, Bool.false_eq_true] at h; rfl
  | .nili, b, h => by cases b <;> simp only [V.beq, Bool.false_eq_true] at h; rfl
  | .ptr n c, b, h => by
    cases b <;> simp only [V.beq, Bool.false_eq_true] at h
    obtain ⟨h1, h2⟩ := cond_and h
    rw [Nat.eq_of_beq_eq_true h1, Nat.eq_of_beq_eq_true h2]
  | .slice _ _ _ _, b, h => by
    cases b <;> simp only [V.beq, Bool.false_eq_true] at h
    obtain ⟨h1, h⟩ := cond_and h
    obtain ⟨h2, h⟩ := cond_and h
    obtain ⟨h3, h⟩ := cond_and h
    rw [Nat.eq_of_beq_eq_true h1, Nat.eq_of_beq_eq_true h2, Nat.eq_of_beq_eq_true h3, Cap.beq_eq h]
  | .map _, b, h => by cases b <;> simp only [V.beq, Bool.false_eq_true] at h; rw [Nat.eq_of_beq_eq_true h]
  | .func f a c, b, h => by
    cases b <;> simp only [V.beq, Bool.false_eq_true] at h
    obtain ⟨h1, h⟩ := cond_and h
    obtain ⟨h2, h3⟩ := cond_and h
    rw [of_decide_eq_true h1, V.beqL_eq a _ h2, V.beqL_eq c _ h3]
  | .iface t v, b, h => by
    cases b <;> simp only [V.beq, Bool.false_eq_true] at h
    obtain ⟨h1, h2⟩ := cond_and h
    rw [Nat.eq_of_beq_eq_true h1, V.beq_eq v _ h2]
  | .agg a, b, h => by cases b <;> simp only [V.beq, Bool.false_eq_true] at h; rw [V.beqL_eq a _ h]
  | .tuple a, b, h => by cases b <;> simp only [V.beq, Bool.false_eq_true] at h; rw [V.beqL_eq a _ h]
theorem V.beqL_eq : ∀ (a b : List V), V.beqL a b = true → a = b
  | [], b, h => by cases b <;> simp only [V.beqL, Bool.false_eq_true] at h; rfl
  | a :: l, b, h => by
    cases b <;> simp only [V.beqL, Bool.false_eq_true] at h
    obtain ⟨h1, h2⟩ := cond_and h
    rw [V.beq_eq a _ h1, V.beqL_eq l _ h2]
end
/-- a value that is all bits: it stands for one value alone -/
def bitsV : V → Bool
  | .bool _ | .int _ _ | .str _ _ => true
  | _ => false
def bitsK : V → Bool
  | .agg l => l.all bitsV
  | v => bitsV v
theorem bitsV_unique {E E' : Env} {v : V} {x y : Value} (hb : bitsV v = true) (hx : VR E v x) (hy : VR E' v y) : x = y := by
  cases v <;> simp only [bitsV, Bool.false_eq_true] at hb
  · simp only [VR] at hx hy; rw [hx, hy]
  · simp only [VR] at hx hy; rw [hx, hy]
  · obtain ⟨s, rfl, h1, h2⟩ := VR_str_inv hx
    obtain ⟨u, rfl, h3, h4⟩ := VR_str_inv hy
    have : s.data.toList = u.data.toList := codeOf_inj (by omega) (by omega)
    have e : s = u := by
      obtain ⟨⟨s⟩⟩ := s; obtain ⟨⟨u⟩⟩ := u
      simpa using this
    rw [e]
theorem bitsL_unique {E E' : Env} : ∀ {l : List V} {xs ys : List Value}, l.all bitsV = true → LR E l xs → LR E' l ys → xs = ys
  | [], _, _, _, h1, h2 => by simp only [LR] at h1 h2; rw [h1, h2]
  | v :: l, _, _, hb, h1, h2 => by
    simp only [LR] at h1 h2; obtain ⟨x, xs, rfl, hx, hxs⟩ := h1; obtain ⟨y, ys, rfl, hy, hys⟩ := h2
    simp only [List.all_cons, Bool.and_eq_true] at hb
    rw [bitsV_unique hb.1 hx hy, bitsL_unique hb.2 hxs hys]
theorem bitsK_unique {E E' : Env} {v : V} {x y : Value} (hb : bitsK v = true) (hx : VR E v x) (hy : VR E' v y) : x = y := by
  cases v with
  | agg l =>
    simp only [VR] at hx hy; obtain ⟨a, rfl, ha⟩ := hx; obtain ⟨b, rfl, hb'⟩ := hy
    have := bitsL_unique hb ha hb'
    rw [Array.ext' this]
  | bool _ | int _ _ | str _ _ => exact bitsV_unique rfl hx hy
  | _ => simp [bitsK, bitsV] at hb
theorem sameBits_bits {E : Env} {v : V} {x : Value} (hb : bitsV v = true) (hx : VR E v x) (n : Nat) : Instr.sameBits n x x = true := by
  cases v <;> simp only [bitsV, Bool.false_eq_true] at hb
  · simp only [VR] at hx; subst hx; simp [Instr.sameBits]
  · simp only [VR] at hx; subst hx; simp [Instr.sameBits]
  · obtain ⟨s, rfl, _⟩ := VR_str_inv hx; simp [Instr.sameBits, beq_toListBytes]
theorem sameBits_all {E : Env} : ∀ {l : List V} {xs : List Value}, l.all bitsV = true → LR E l xs → ∀ n, ((xs.zip xs).all fun (x, y) => Instr.sameBits n x y) = true
  | [], _, _, h, _ => by simp only [LR] at h; subst h; rfl
  | v :: l, _, hb, h, n => by
    simp only [LR] at h; obtain ⟨x, xs, rfl, hx, hxs⟩ := h
    simp only [List.all_cons, Bool.and_eq_true] at hb
    simp only [List.zip_cons_cons, List.all_cons, Bool.and_eq_true]
    exact ⟨sameBits_bits hb.1 hx n, sameBits_all hb.2 hxs n⟩
theorem sameBits_key {E : Env} {v : V} {x : Value} (hb : bitsK v = true) (hx : VR E v x) (n : Nat) : Instr.sameBits (n + 1) x x = true := by
  cases v with
  | agg l =>
    simp only [VR] at hx; obtain ⟨a, rfl, ha⟩ := hx
    simp only [Instr.sameBits, beq_self_eq_true, Bool.true_and]
    exact sameBits_all hb ha n
  | bool _ | int _ _ | str _ _ => exact sameBits_bits rfl hx _
  | _ => simp [bitsK, bitsV] at hb
section
variable {E : Env} {σ : St} {w : World} {P : Program}
/-- may a value be a key? (numbers, texts, bools, structs of these) -/
def ckF (P : Program) (l : List V) (fs : List Field) : Bool := fs.all fun f => (match partL P f.type l f.offset, P.underlying f.type with
  | some _, some (.int _) | some _, some .string | some _, some .bool => true
  | _, _ => false)
def ckA (P : Program) (t : TypeId) (v : V) : Bool :=
  match P.underlying t, v with
  | some (.int _), _ | some .string, _ | some .bool, _ => true
  | some (.struct fs), .agg l => ckF P l fs.toList
  | _, _ => false
theorem ckA_run (w : World) {t : TypeId} {v : V} {x : Value} (hx : VR E v x) (h : ckA P t v = true) (empty : Bool) (n : Nat) : (Instr.checkKey empty (n + 2) t x).run P w = .ok () w := by
  have base : ∀ (t : TypeId) (x : Value) (m : Nat), ((∃ k, P.underlying t = some (.int k)) ∨ P.underlying t = some .string ∨ P.underlying t = some .bool) → (Instr.checkKey empty (m + 1) t x).run P w = .ok () w := by
    rintro t x m (⟨k, hu⟩ | hu | hu) <;> simp [Instr.checkKey, run_underlying hu]
  unfold ckA at h
  split at h
  · rename_i hu; exact base _ _ _ (.inl ⟨_, hu⟩)
  · rename_i hu; exact base _ _ _ (.inr (.inl hu))
  · rename_i hu; exact base _ _ _ (.inr (.inr hu))
  · rename_i fs l hu
    simp only [VR] at hx; obtain ⟨a, rfl, ha⟩ := hx
    rw [Instr.checkKey]
    simp only [Sem.run_bind, run_underlying hu, Result.andThen_ok]
    rw [← Array.forIn_toList]
    unfold ckF at h
    revert h
    generalize fs.toList = L
    intro h
    clear hu
    induction L with
    | nil => simp
    | cons f L ih =>
      simp only [List.all_cons, Bool.and_eq_true] at h
      have hp : ∃ y, (part f.type a f.offset).run P w = .ok y w ∧ (Instr.checkKey empty (n + 1) f.type y).run P w = .ok () w := by
        have h1 := h.1
        split at h1 <;> first
          | (rename_i hpl hu; obtain ⟨y, hy, _⟩ := partL_run (w := w) ha hpl; exact ⟨y, hy, base _ _ _ (by first | exact .inl ⟨_, hu⟩ | exact .inr (.inl hu) | exact .inr (.inr hu))⟩)
          | cases h1
      obtain ⟨y, hy, hc⟩ := hp
      have ih' := ih h.2
      simp only [List.forIn_cons, Sem.run_bind, Sem.run_ite]
      by_cases hn : f.name = "_"
      · simp only [hn, ne_eq, not_true_eq_false, if_false, Sem.run_pure, Result.andThen_ok]
        exact ih'
      · simp only [ne_eq, hn, not_false_eq_true, if_true, hy, Result.andThen_ok, hc, Sem.run_pure]
        exact ih'
  · cases h
def FoundR (E : Env) : Option (Nat × V) → Option (Nat × Value) → Prop
  | none, r => r = none
  | some (j, v), r => ∃ y, r = some (j, y) ∧ VR E v y
/-- where a key stands -/
def findL (P : Program) (t : TypeId) (k : V) : List (V × V × Nat) → Nat → Option (Option (Nat × V))
  | [], _ => some none
  | e :: es, i => (match eqA P 3 t k e.1 with
    | some true => cond (V.beq k e.1) (some (some (i, e.2.1))) none
    | some false => findL P t k es (Nat.succ i)
    | none => none)
theorem findAsking_run {t : TypeId} {k : V} {x : Value} (hk : VR E k x) : ∀ {es : List (V × V × Nat)} {ms : List MapEntry} {i : Nat} {r : Option (Nat × V)}, MR E es ms → findL P t k es i = some r →
    ∃ r', (Instr.findAsking t x ms i).run P w = .ok r' w ∧ FoundR E r r'
  | [], _, i, r, hm, h => by
    simp only [MR] at hm; subst hm
    simp only [findL, Option.some.injEq] at h; subst h
    exact ⟨none, by simp [Instr.findAsking], rfl⟩
  | e :: es, _, i, r, hm, h => by
    simp only [MR] at hm; obtain ⟨m, ms, rfl, he, hms⟩ := hm
    simp only [findL] at h
    cases hq : eqA P 3 t k e.1 with
    | none => rw [hq] at h; cases h
    | some b =>
      rw [hq] at h
      have hr := eqA_run (w := w) 3 10000 t k e.1 x m.key b hk he.1 (by decide) hq
      cases b with
      | true =>
        simp only at h
        obtain ⟨_, h2⟩ := cond_some h
        simp only [Option.some.injEq] at h2; subst h2
        exact ⟨some (i, m.val), by simp [Instr.findAsking, Op.equal, Op.maxDepth, hr], m.val, rfl, he.2.1⟩
      | false =>
        simp only at h
        obtain ⟨r', h1, h2⟩ := findAsking_run hk (i := i + 1) hms h
        exact ⟨r', by simp [Instr.findAsking, Op.equal, Op.maxDepth, hr, h1], h2⟩
theorem findNow_run {t : TypeId} {d : TypeDesc} (hu : P.underlying t = some d) (hd : (∃ k, d = .int k) ∨ d = .string ∨ d = .bool) {k : V} {x : Value} (hk : VR E k x) :
    ∀ {es : List (V × V × Nat)} {ms : List MapEntry} {i : Nat} {r : Option (Nat × V)}, MR E es ms → findL P t k es i = some r →
    ∃ r', Instr.findNow d x ms i = some r' ∧ FoundR E r r'
  | [], _, i, r, hm, h => by
    simp only [MR] at hm; subst hm
    simp only [findL, Option.some.injEq] at h; subst h
    exact ⟨none, rfl, rfl⟩
  | e :: es, _, i, r, hm, h => by
    simp only [MR] at hm; obtain ⟨m, ms, rfl, he, hms⟩ := hm
    simp only [findL] at h
    cases hq : eqA P 3 t k e.1 with
    | none => rw [hq] at h; cases h
    | some b =>
      rw [hq] at h
      have hs : Instr.sameNow d x m.key = some b := by
        have he1 := he.1
        unfold eqA at hq
        rcases hd with ⟨kk, rfl⟩ | rfl | rfl
        · rw [hu] at hq
          cases k <;> simp only [reduceCtorEq] at hq
          rename_i k1 a1
          generalize e.1 = ek at hq he1
          cases ek <;> simp only [reduceCtorEq] at hq
          rename_i k2 a2
          simp only [VR] at hk he1; subst hk; rw [he1]
          by_cases hkk : k1 = k2
          · subst hkk; simp only [decide_true, cond_true, Option.some.injEq, ieq_eq] at hq; subst hq; simp [Instr.sameNow]
          · simp [hkk] at hq
        · rw [hu] at hq
          cases k <;> simp only [reduceCtorEq] at hq
          generalize e.1 = ek at hq he1
          cases ek <;> simp only [reduceCtorEq] at hq
          obtain ⟨s, rfl, rfl, rfl⟩ := VR_str_inv hk
          obtain ⟨u, hu', rfl, rfl⟩ := VR_str_inv he1
          rw [seq_eq, Option.some.injEq] at hq
          rw [hu']
          simp only [Instr.sameNow, ← hq, beq_toListBytes, ByteArray.toList_eq]
        · rw [hu] at hq
          cases k <;> simp only [reduceCtorEq] at hq
          rename_i b1
          generalize e.1 = ek at hq he1
          cases ek <;> simp only [reduceCtorEq] at hq
          rename_i b2
          simp only [VR] at hk he1; subst hk; rw [he1]
          simp only [Option.some.injEq] at hq
          simp only [Instr.sameNow, ← hq]
          cases b1 <;> cases b2 <;> rfl
      cases b with
      | true =>
        simp only at h
        obtain ⟨_, h2⟩ := cond_some h
        simp only [Option.some.injEq] at h2; subst h2
        exact ⟨some (i, m.val), by simp [Instr.findNow, hs], m.val, rfl, he.2.1⟩
      | false =>
        simp only at h
        obtain ⟨r', h1, h2⟩ := findNow_run hu hd hk (i := i + 1) hms h
        exact ⟨r', by simp [Instr.findNow, hs, h1], h2⟩
theorem findKey_run (w : World) {t : TypeId} {k : V} {x : Value} (hk : VR E k x) (hc : ckA P t k = true) {es : List (V × V × Nat)} {ms : List MapEntry} {r : Option (Nat × V)} (hm : MR E es ms) (h : findL P t k es 0 = some r) :
    ∃ r', (Instr.findKey t x ms).run P w = .ok r' w ∧ FoundR E r r' := by
  unfold ckA at hc
  have now : ∀ d, P.underlying t = some d → ((∃ k, d = .int k) ∨ d = .string ∨ d = .bool) → ∃ r', (Instr.findKey t x ms).run P w = .ok r' w ∧ FoundR E r r' := by
    intro d hu hd
    obtain ⟨r', h1, h2⟩ := findNow_run hu hd hk hm h
    exact ⟨r', by simp [Instr.findKey, run_underlying hu, h1], h2⟩
  split at hc
  · rename_i hu; exact now _ hu (.inl ⟨_, rfl⟩)
  · rename_i hu; exact now _ hu (.inr (.inl rfl))
  · rename_i hu; exact now _ hu (.inr (.inr rfl))
  · rename_i fs l hu
    obtain ⟨r', h1, h2⟩ := findAsking_run (w := w) hk hm h
    refine ⟨r', ?_, h2⟩
    cases ms with
    | nil =>
      have hes : es = [] := by cases es with | nil => rfl | cons e es => simp only [MR] at hm; obtain ⟨_, _, e0, _⟩ := hm; cases e0
      subst hes
      simp only [findL, Option.some.injEq] at h; subst h
      subst h2
      simp [Instr.findKey, run_underlying hu, Instr.findNow]
    | cons m ms => simp [Instr.findKey, run_underlying hu, Instr.findNow, Instr.sameNow, h1]
  · cases hc
end
end
end Go.Dg

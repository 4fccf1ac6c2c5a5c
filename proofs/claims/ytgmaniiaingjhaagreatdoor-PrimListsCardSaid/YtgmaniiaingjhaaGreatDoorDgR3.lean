/- The deterministic machine, part 21: what stands ahead of what in a region that draws. -/
import Derived.Test.YtgmaniiaingjhaaGreatDoorDgR2
namespace Go.Dg
open Go Go.RowKit
noncomputable section
section
variable {P : Program}

theorem hasB_eq (d i : Nat) : hasB d i = Nat.testBit d i := by
  unfold hasB
  rw [Nat.testBit_eq_decide_div_mod_eq]
  show Nat.beq ((d >>> i) &&& 1) 1 = _
  rw [Nat.and_one_is_mod, Nat.shiftRight_eq_div_pow, Bool.eq_iff_iff, Nat.beq_eq, decide_eq_true_eq]
theorem hasB_zero (i : Nat) : hasB 0 i = false := by rw [hasB_eq]; simp
theorem hasB_or (a b i : Nat) : hasB (Nat.lor a b) i = (hasB a i || hasB b i) := by
  rw [hasB_eq, hasB_eq, hasB_eq]; exact Nat.testBit_or a b i
theorem hasB_one (j i : Nat) : hasB (Nat.shiftLeft 1 j) i = decide (j = i) := by
  rw [hasB_eq]
  show (1 <<< j).testBit i = _
  rw [Nat.one_shiftLeft, Nat.testBit_two_pow]
theorem hasB_add (d j i : Nat) : hasB (addB d j) i = (hasB d i || decide (j = i)) := by
  unfold addB; rw [hasB_or, hasB_one]
theorem subB_spec {b d : Nat} (h : subB b d = true) {j : Nat} (hj : hasB b j = true) : hasB d j = true := by
  have e : b &&& d = b := Nat.eq_of_beq_eq_true h
  rw [hasB_eq] at *
  have : (b &&& d).testBit j = true := by rw [e]; exact hj
  rw [Nat.testBit_and] at this
  exact (Bool.and_eq_true _ _ ▸ this).2
theorem subB_of {b d : Nat} (h : ∀ j, hasB b j = true → hasB d j = true) : subB b d = true := by
  have e : b &&& d = b := by
    apply Nat.eq_of_testBit_eq
    intro j
    rw [Nat.testBit_and]
    cases hb : b.testBit j with
    | false => rfl
    | true => have := h j (by rw [hasB_eq]; exact hb); rw [hasB_eq] at this; rw [this]; rfl
  show Nat.beq (b &&& d) b = true
  rw [e]; exact Nat.beq_refl b
theorem bitsOf_spec {acc : List Nat} : ∀ {l : List Edge} {j : Nat}, hasB (bitsOf acc l) j = true → ∃ e ∈ l, bindAny e = true ∧ (j = e.on ∨ hasB (getB acc e.on) j = true)
  | [], j, h => by simp only [bitsOf, hasB_zero] at h; cases h
  | e :: l, j, h => by
    simp only [bitsOf] at h
    cases hb : bindAny e with
    | false =>
      rw [hb] at h
      obtain ⟨e', h1, h2⟩ := bitsOf_spec (l := l) h
      exact ⟨e', List.mem_cons_of_mem _ h1, h2⟩
    | true =>
      rw [hb] at h
      simp only [cond_true, hasB_or, hasB_one, Bool.or_eq_true, decide_eq_true_eq] at h
      rcases h with (h | h) | h
      · exact ⟨e, by simp, hb, .inl h.symm⟩
      · exact ⟨e, by simp, hb, .inr h⟩
      · obtain ⟨e', h1, h2⟩ := bitsOf_spec (l := l) h
        exact ⟨e', List.mem_cons_of_mem _ h1, h2⟩
theorem getB_eq : ∀ (l : List Nat) (i : Nat), getB l i = (l[i]?).getD 0
  | [], _ => by simp [getB]
  | b :: l, 0 => by simp [getB]
  | b :: l, i + 1 => by simp only [getB]; rw [getB_eq l i]; simp
theorem bindAny_binds {e : Edge} (h : bindAny e = true) (md : Region.Mode) : Region.binds md e = true := by
  unfold bindAny at h
  unfold Region.binds
  split <;> simp_all

/-- the operations with their numbers -/
structure DS (ops : Array Oper) (ds : List DOp) : Prop where
  at_ : ∀ d ∈ ds, ops[d.i]? = some d.o
  all : ∀ i o, ops[i]? = some o → ∃ d ∈ ds, d.i = i
  uniq : ∀ d ∈ ds, ∀ e ∈ ds, d.i = e.i → d = e
  nodup : ds.Pairwise fun d e => d.i ≠ e.i
  bits : ∀ d ∈ ds, ∀ j, hasB d.b j = true → ∃ e ∈ d.o.after, bindAny e = true ∧ (j = e.on ∨ ∃ d' ∈ ds, d'.i = e.on ∧ d'.i < d.i ∧ hasB d'.b j = true)

theorem dops_spec : ∀ (l : List Oper) (i : Nat) (acc : List Nat), acc.length = i → ∀ d ∈ dops i acc l, ∃ k, d.i = i + k ∧ l[k]? = some d.o ∧ ∃ acc', d.b = bitsOf acc' d.o.after.toList ∧ acc'.length = d.i ∧
    (∀ j, j < i → acc'[j]? = acc[j]?) ∧ ∀ j, i ≤ j → j < d.i → ∃ d' ∈ dops i acc l, d'.i = j ∧ acc'[j]? = some d'.b
  | [], i, acc, _, d, hd => by simp [dops] at hd
  | o :: l, i, acc, ha, d, hd => by
    simp only [dops] at hd
    rcases List.mem_cons.1 hd with rfl | hd
    · exact ⟨0, rfl, rfl, acc, rfl, ha, fun _ _ => rfl, fun j h1 h2 => absurd h2 (Nat.not_lt.2 h1)⟩
    · obtain ⟨k, h1, h2, acc', h3, h4, h5, h6⟩ := dops_spec l (i + 1) (acc ++ [bitsOf acc o.after.toList]) (by simp [ha]) d hd
      refine ⟨k + 1, by omega, by simpa using h2, acc', h3, h4, fun j hj => ?_, fun j hj1 hj2 => ?_⟩
      · rw [h5 j (by omega), List.getElem?_append_left (by omega)]
      · by_cases e : j = i
        · subst e
          refine ⟨_, by simp only [dops]; exact List.mem_cons_self, rfl, ?_⟩
          rw [h5 j (by omega), List.getElem?_append_right (by omega)]
          simp [ha]
        · obtain ⟨d', hd', h7, h8⟩ := h6 j (by omega) hj2
          exact ⟨d', by simp only [dops]; exact List.mem_cons_of_mem _ hd', h7, h8⟩
theorem dops_get : ∀ (l : List Oper) (i : Nat) (acc : List Nat) (k : Nat) (o : Oper), l[k]? = some o → ∃ d ∈ dops i acc l, d.i = i + k
  | [], i, acc, k, o, h => by simp at h
  | o' :: l, i, acc, 0, o, h => ⟨_, by simp only [dops]; exact List.mem_cons_self, rfl⟩
  | o' :: l, i, acc, k + 1, o, h => by
    obtain ⟨d, hd, h1⟩ := dops_get l (i + 1) (acc ++ [bitsOf acc o'.after.toList]) k o (by simpa using h)
    exact ⟨d, by simp only [dops]; exact List.mem_cons_of_mem _ hd, by omega⟩
theorem dops_lt : ∀ (l : List Oper) (i : Nat) (acc : List Nat), ∀ d ∈ dops i acc l, i ≤ d.i
  | [], _, _, _, h => by simp [dops] at h
  | o :: l, i, acc, d, h => by
    simp only [dops] at h
    rcases List.mem_cons.1 h with rfl | h
    · exact Nat.le_refl _
    · have := dops_lt l (i + 1) _ d h; omega
theorem dops_pair : ∀ (l : List Oper) (i : Nat) (acc : List Nat), (dops i acc l).Pairwise fun d e => d.i ≠ e.i
  | [], _, _ => by simp [dops]
  | o :: l, i, acc => by
    simp only [dops]
    refine List.Pairwise.cons (fun e he => ?_) (dops_pair l (i + 1) _)
    have := dops_lt l (i + 1) _ e he
    simp only; omega
theorem pair_uniq : ∀ {l : List DOp}, (l.Pairwise fun d e => d.i ≠ e.i) → ∀ d ∈ l, ∀ e ∈ l, d.i = e.i → d = e
  | [], _, d, hd, _, _, _ => by simp at hd
  | x :: l, h, d, hd, e, he, hde => by
    cases h with
    | cons h1 h2 =>
      rcases List.mem_cons.1 hd with h3 | h3 <;> rcases List.mem_cons.1 he with h4 | h4
      · rw [h3, h4]
      · subst h3; exact absurd hde (h1 e h4)
      · subst h4; exact absurd hde.symm (h1 d h3)
      · exact pair_uniq h2 d h3 e h4 hde
theorem dops_DS (ops : Array Oper) : DS ops (dops 0 [] ops.toList) := by
  refine ⟨fun d hd => ?_, fun i o ho => ?_, pair_uniq (dops_pair _ _ _), dops_pair _ _ _, fun d hd j hj => ?_⟩
  · obtain ⟨k, h1, h2, _⟩ := dops_spec ops.toList 0 [] rfl d hd
    rw [h1]; simpa using h2
  · obtain ⟨d, hd, h1⟩ := dops_get ops.toList 0 [] i o (by simpa using ho)
    exact ⟨d, hd, by omega⟩
  · obtain ⟨k, h1, h2, acc', h3, h4, h5, h6⟩ := dops_spec ops.toList 0 [] rfl d hd
    rw [h3] at hj
    obtain ⟨e, he, hb, hor⟩ := bitsOf_spec hj
    refine ⟨e, by simpa using he, hb, ?_⟩
    rcases hor with h | h
    · exact .inl h
    · rw [getB_eq] at h
      cases hg : acc'[e.on]? with
      | none => rw [hg] at h; simp only [Option.getD_none, hasB_zero] at h; cases h
      | some b =>
        rw [hg] at h
        have hlt : e.on < d.i := by rw [← h4]; exact (List.getElem?_eq_some_iff.1 hg).1
        obtain ⟨d', hd', h7, h8⟩ := h6 e.on (by omega) hlt
        rw [hg] at h8; cases h8
        exact .inr ⟨d', hd', h7, by omega, h⟩

/-- who reads what -/
structure Flow (P : Program) (ops : Array Oper) (ds : List DOp) : Prop where
  dst : ∀ d ∈ ds, ∀ e ∈ ds, d.i ≠ e.i → ∀ x, d.o.dst = some x → e.o.dst ≠ some x
  looks : ∀ d ∈ ds, ∀ e ∈ ds, ∀ x, e.o.dst = some x → x ∈ d.o.looksAt ops → hasB d.b e.i = true ∨ (hasB e.b d.i = true ∧ antiA P e.o = true)
theorem antiA_spec {o : Oper} (h : antiA P o = true) : kindA P o = .w ∧ o.guard = none := by
  unfold antiA at h
  split at h
  · rename_i h1 h2; exact ⟨h1, h2⟩
  · cases h
theorem flow_spec {ops : Array Oper} {ds : List DOp} (h : flowOk P ops ds = true) : Flow P ops ds := by
  unfold flowOk at h
  rw [List.all_eq_true] at h
  have key : ∀ d ∈ ds, ∀ e ∈ ds, _ := fun d hd => List.all_eq_true.1 (h d hd)
  refine ⟨fun d hd e he hne x hx hex => ?_, fun d hd e he x hx hl => ?_⟩
  · obtain ⟨h1, _⟩ := cond_and (key d hd e he)
    have hb : Nat.beq d.i e.i = false := by
      cases hh : Nat.beq d.i e.i with
      | false => rfl
      | true => exact absurd (Nat.eq_of_beq_eq_true hh) hne
    rw [hb, hx, hex] at h1
    simp [dst2] at h1
  · obtain ⟨_, h1⟩ := cond_and (key d hd e he)
    rw [hx] at h1
    have ha : ((d.o.looksAt ops).any fun y => Nat.beq y x) = true := List.any_eq_true.2 ⟨x, hl, Nat.beq_refl x⟩
    simp only [ha, cond_true] at h1
    cases hb : hasB d.b e.i with
    | true => exact .inl rfl
    | false =>
      rw [hb] at h1
      simp only [cond_false] at h1
      exact .inr (cond_and h1)

/-- what is done has behind it what must be ahead -/
theorem ahead {ops : Array Oper} {ds : List DOp} (hds : DS ops ds) {md : Region.Mode} {L : Nat → Prop} (hL : ∀ i o, L i → ops[i]? = some o → ∀ e ∈ o.after, Region.binds md e = true → L e.on) :
    ∀ (n : Nat) d, d ∈ ds → d.i < n → (∀ e ∈ d.o.after, Region.binds md e = true → L e.on) → ∀ j, hasB d.b j = true → L j
  | 0, d, _, h, _, _, _ => by omega
  | n + 1, d, hd, hn, he, j, hj => by
    obtain ⟨e, h1, h2, h3⟩ := hds.bits d hd j hj
    have hon := he e h1 (bindAny_binds h2 md)
    rcases h3 with rfl | ⟨d', hd', h4, h5, h6⟩
    · exact hon
    · refine ahead hds hL n d' hd' (by omega) (fun e' he' hb' => ?_) j h6
      exact hL d'.i d'.o (h4 ▸ hon) (hds.at_ d' hd') e' he' hb'
end
end
end Go.Dg

/- The law PrimLists, reckoned. -/
import Derived.Test.YtgmaniiaingjhaaGreatDoorPlD
namespace Go.Dg
open Go Go.Proofs
noncomputable section
set_option maxRecDepth 10000
@[simp] theorem kb16 (F n : Nat) (σ : St) : callA P B2 F (n + 1) 16 [] σ = some (.bool true, σ) := rfl
@[simp] theorem kb18 (F n nl nc : Nat) (σ : St) : callA P B2 F (n + 1) 18 [.str nl nc] σ = some (.int .i64 (numOf nl nc), σ) := rfl
@[simp] theorem kb26 (F n : Nat) (i : Int) (σ : St) : callA P B2 F (n + 1) 26 [.int .i64 i] σ = some (getOf i, σ) := rfl
@[simp] theorem kb27 (F n : Nat) (i : Int) (σ : St) : callA P B2 F (n + 1) 27 [.int .i64 i] σ = some (.bool (decide (85 ≤ i ∧ i < 92)), σ) := rfl
theorem prims_eq2 (F n : Nat) (σ : St) : callA P B2 F (n + 1) 25 [] σ = some (.slice σ.next 0 92 (.exact 92), σ.new (.cells 67 primsTbl false)) := by kernel_rfl

/-- the last place of a name -/
def wantF (nl nc : Nat) : Nat → Nat → Int → Int
  | 0, _, w => w
  | d + 1, i, w => wantF nl nc d (i + 1) (if seq (nlA i) (ncA i) nl nc = true then (i : Int) else w)
theorem want_none {nl nc : Nat} : ∀ (d i : Nat) (w : Int), (∀ l, i ≤ l → l < i + d → seq (nlA l) (ncA l) nl nc = false) → wantF nl nc d i w = w
  | 0, _, _, _ => rfl
  | d + 1, i, w, h => by
    rw [wantF, h i (Nat.le_refl _) (by omega)]
    exact want_none d (i + 1) w fun l h1 h2 => h l (by omega) (by omega)
theorem want_some {nl nc j : Nat} : ∀ (d i : Nat) (w : Int), i ≤ j → j < i + d → seq (nlA j) (ncA j) nl nc = true → (∀ l, l < i + d → l ≠ j → seq (nlA l) (ncA l) nl nc = false) → wantF nl nc d i w = j
  | 0, _, _, h1, h2, _, _ => by omega
  | d + 1, i, w, h1, h2, h3, h4 => by
    rw [wantF]
    by_cases e : i = j
    · subst e
      rw [if_pos h3]
      exact want_none d (i + 1) i fun l a b => h4 l (by omega) (by omega)
    · rw [h4 i (by omega) e]
      exact want_some d (i + 1) _ (by omega) (by omega) h3 fun l a b => h4 l (by omega) b
theorem seq_trans {a b n c m d : Nat} (h : seq a b n c = true) (h' : seq m d n c = true) : seq a b m d = true := by
  simp only [seq, beq_dec] at *
  by_cases e1 : a = n <;> by_cases e2 : m = n <;> simp_all
theorem want_num (nl nc : Nat) : numOf nl nc = wantF nl nc 92 0 (-1) := by
  unfold numOf
  cases h : (List.range 92).find? fun i => seq (nlA i) (ncA i) nl nc with
  | none =>
    simp only
    rw [want_none 92 0 (-1) fun l _ h2 => ?_]
    have := List.find?_eq_none.1 h l (List.mem_range.2 (by omega))
    simpa using this
  | some j =>
    simp only
    have h1 := List.find?_some h
    have h2 := List.mem_range.1 (List.mem_of_find?_eq_some h)
    rw [want_some 92 0 (-1) (Nat.zero_le _) (by omega) h1 fun l a b => ?_]
    cases hs : seq (nlA l) (ncA l) nl nc with
    | false => rfl
    | true => exact absurd (names_apart l (by omega) j h2 (seq_trans hs h1)) b
theorem seq_self (n c : Nat) : seq n c n c = true := by simp [seq]
theorem num_self (i : Nat) (h : i < 92) : numOf (nlA i) (ncA i) = i := by
  unfold numOf
  rw [find_first (p := fun l => seq (nlA l) (ncA l) (nlA i) (ncA i)) h (seq_self _ _) fun l hl => ?_]
  show seq (nlA l) (ncA l) (nlA i) (ncA i) = false
  cases hs : seq (nlA l) (ncA l) (nlA i) (ncA i) with
  | false => rfl
  | true => have := names_apart l (by omega) i h hs; omega

def WPost (nl nc d i : Nat) (w : Int) (t : PT V) (σ : St) (k : Ex → PT V → St → Option (V × St)) (x : Option (V × St)) : Prop :=
  ∃ t', x = k (.exit 0) t' σ ∧ t'.get 9 = some (.int .i64 (wantF nl nc d i w)) ∧ t'.get 0 = t.get 0 ∧ t'.get 1 = t.get 1 ∧ t'.get 5 = t.get 5 ∧ t'.get 8 = t.get 8
theorem WPost.step {nl nc d i : Nat} {w w' : Int} {t t1 : PT V} {σ : St} {k : Ex → PT V → St → Option (V × St)} {x : Option (V × St)} (h : WPost nl nc d (i + 1) w' t1 σ k x)
    (hw : (if seq (nlA i) (ncA i) nl nc = true then (i : Int) else w) = w') (h0 : t1.get 0 = t.get 0) (h1 : t1.get 1 = t.get 1) (h5 : t1.get 5 = t.get 5) (h8 : t1.get 8 = t.get 8) : WPost nl nc (d + 1) i w t σ k x := by
  obtain ⟨t', a1, a2, a3, a4, a5, a6⟩ := h
  exact ⟨t', a1, by rw [a2, wantF, hw], a3.trans h0, a4.trans h1, a5.trans h5, a6.trans h8⟩
theorem want_loop (call : CallF) (F : Nat) (nl nc pid : Nat) (cap : Cap) (k : Ex → PT V → St → Option (V × St)) (σ : St) (hp : σ.heap.get pid = some (.cells 67 primsTbl false)) {body : Code} (hb : body = loopAt 0 (bodyOf Tryz.f7)) :
   ∀ (d i m : Nat) (w : Int) (t : PT V), i + d = 92 → d < m →
   t.get 1 = some (.str nl nc) → t.get 5 = some (.slice pid 0 92 cap) → t.get 10 = some (.int .i64 i) → t.get 9 = some (.int .i64 w) →
   WPost nl nc d i w t σ k (loopK P B2 call F 96 body m t σ k) := by
  subst hb
  intro d
  induction d with
  | zero =>
    intro i m w t hi hm h1 h5 h10 h9
    obtain ⟨m, rfl⟩ : ∃ m', m = m' + 1 := ⟨m - 1, by omega⟩
    obtain rfl : i = 92 := by omega
    rw [loopK_succ]
    simp [Tryz.f7, loopAt, loopsOf, h5, h10]
    exact ⟨_, rfl, by simp [h9, wantF], by simp, by simp, by simp, by simp⟩
  | succ d ih =>
    intro i m w t hi hm h1 h5 h10 h9
    obtain ⟨m, rfl⟩ : ∃ m', m = m' + 1 := ⟨m - 1, by omega⟩
    obtain ⟨g0, g1, g2⟩ := tbl_get i (by omega)
    have hi92 : (i : Int) < 92 := by omega
    have hw : IntKind.i64.wrap ((i : Int) + 1) = ((i + 1 : Nat) : Int) := by rw [wrap_i64 _ (by omega) (by omega)]; rfl
    rw [loopK_succ]
    cases hs : seq (nlA i) (ncA i) nl nc with
    | true =>
      simp [Tryz.f7, loopAt, loopsOf, h1, h5, h10, hp, hi92, Nat.mul_comm i 3, g0, strOp, hs, hw]
      refine WPost.step (ih (i + 1) m i _ (by omega) (by omega) ?_ ?_ ?_ ?_) (if_pos hs) ?_ ?_ ?_ ?_
      all_goals simp [h1, h5]
    | false =>
      simp [Tryz.f7, loopAt, loopsOf, h1, h5, h10, hp, hi92, Nat.mul_comm i 3, g0, strOp, hs, hw]
      refine WPost.step (ih (i + 1) m w _ (by omega) (by omega) ?_ ?_ ?_ ?_) (if_neg (by rw [hs]; simp)) ?_ ?_ ?_ ?_
      all_goals simp [h1, h5, h9]
theorem eq67 (n c : Nat) (a b : Int) : eqA P 8 67 (.agg [.str n c, .int .i64 a, .int .i64 b]) (.agg [.str n c, .int .i64 a, .int .i64 b]) = some true := by
  have h : eqA P 8 67 (.agg [.str n c, .int .i64 a, .int .i64 b]) (.agg [.str n c, .int .i64 a, .int .i64 b]) =
      (match some (seq n c n c) with
      | some true => (match some (ieq a a) with
        | some true => (match some (ieq b b) with
          | some true => some true
          | some false => some false
          | none => none)
        | some false => some false
        | none => none)
      | some false => some false
      | none => none) := by kernel_rfl
  rw [h, seq_self]; simp [ieq_eq]
theorem neq67 (x y : Operand) (n c : Nat) (a b : Int) : binA P .neq 67 x y (.agg [.str n c, .int .i64 a, .int .i64 b]) (.agg [.str n c, .int .i64 a, .int .i64 b]) = some (.bool false) := by
  have hg : P.eqGuardType P.depth 67 = false := by kernel_rfl
  simp [binA, hg, eq67]
theorem WPost.fin {nl nc : Nat} {t : PT V} {σ : St} {k : Ex → PT V → St → Option (V × St)} {x : Option (V × St)} (h : WPost nl nc 92 0 (-1) t σ k x)
    (hk : ∀ t', t'.get 9 = some (.int .i64 (numOf nl nc)) → t'.get 0 = t.get 0 → t'.get 1 = t.get 1 → t'.get 5 = t.get 5 → t'.get 8 = t.get 8 → ∃ σ', k (.exit 0) t' σ = some (.bool true, σ')) :
    ∃ σ', x = some (.bool true, σ') := by
  obtain ⟨t', rfl, h9, h0, h1, h5, h8⟩ := h
  exact hk t' (by rw [h9, want_num]) h0 h1 h5 h8
set_option maxHeartbeats 2000000 in
theorem law_no (F n : Nat) (i : Int) (nl nc : Nat) (σ : St) (hF : 93 ≤ F) (h : i < 0 ∨ 92 ≤ i) : ∃ σ', callA P B2 F (n + 2) 7 [.int .i64 i, .str nl nc] σ = some (.bool true, σ') := by
  have d4 := fun {t σ} {k : Ex → PT V → St → Option (V × St)} => @codeK_drawn _ P B2 (callA P B2 F (n + 1)) Tryz.f7.ntmps F 4 t σ k (regAt 4 (bodyOf Tryz.f7)) [0, 0, 3, 7, 15, 31, 63, 63, 63, 447, 959, 2047, 4095, 8191, 16383, 32767, 65535, 131071, 262143, 262143, 1048575, 2097151, 4194303, 8388607, 16777215, 33554431, 16777215, 134217727, 268435455, 268435455, 805306367, 1879048191, 4294967295, 8589934591, 17179869183, 34359738367] 37 (by kernel_rfl)
  simp only [Tryz.f7, bodyOf, Option.getD_some, regAt, regsOf, nthR, List.nil_append, List.cons_append] at d4
  rw [callK P B2 F Tryz.func7 rfl rfl]
  have hg : getOf i = .tuple [.agg [.str 0 0, .int .i64 0, .int .i64 0], .bool false] := if_neg (by omega)
  have hc : ¬ (85 ≤ i ∧ i < 92) := by omega
  by_cases h1 : 0 ≤ i
  · have h2 : ¬ i < 92 := by omega
    simp [Tryz.f7, prims_eq2, hg, h1, h2, ↓d4, build67, neq67]
    clear d4
    refine WPost.fin (want_loop _ F nl nc σ.next (.exact 92) _ _ ?_ rfl 92 0 F (-1) _ (by omega) (by omega) ?_ ?_ ?_ ?_) ?_
    all_goals simp
    intro t' a9 a0 a1 a5 a8
    simp [a9, a1, a8]
  · simp [Tryz.f7, prims_eq2, hg, h1, ↓d4, build67, neq67, hc]
    clear d4
    refine WPost.fin (want_loop _ F nl nc σ.next (.exact 92) _ _ ?_ rfl 92 0 F (-1) _ (by omega) (by omega) ?_ ?_ ?_ ?_) ?_
    all_goals simp
    intro t' a9 a0 a1 a5 a8
    simp [a9, a1, a8]
set_option maxHeartbeats 2000000 in
theorem law_yes (F n : Nat) (i : Nat) (nl nc : Nat) (σ : St) (hF : 93 ≤ F) (h : i < 92) : ∃ σ', callA P B2 F (n + 2) 7 [.int .i64 i, .str nl nc] σ = some (.bool true, σ') := by
  have d4 := fun {t σ} {k : Ex → PT V → St → Option (V × St)} => @codeK_drawn _ P B2 (callA P B2 F (n + 1)) Tryz.f7.ntmps F 4 t σ k (regAt 4 (bodyOf Tryz.f7)) [0, 0, 3, 7, 15, 31, 63, 63, 63, 447, 959, 2047, 4095, 8191, 16383, 32767, 65535, 131071, 262143, 262143, 1048575, 2097151, 4194303, 8388607, 16777215, 33554431, 16777215, 134217727, 268435455, 268435455, 805306367, 1879048191, 4294967295, 8589934591, 17179869183, 34359738367] 37 (by kernel_rfl)
  simp only [Tryz.f7, bodyOf, Option.getD_some, regAt, regsOf, nthR, List.nil_append, List.cons_append] at d4
  rw [callK P B2 F Tryz.func7 rfl rfl]
  obtain ⟨g0, g1, g2⟩ := tbl_get i h
  have hg : getOf i = .tuple [.agg [.str (nlA i) (ncA i), .int .i64 (leA i), .int .i64 (moA i)], .bool true] := by
    unfold getOf; rw [if_pos (by omega)]; simp
  have hi : (i : Int) < 92 := by omega
  have hw : IntKind.i64.wrap 85 = 85 := by decide
  simp [Tryz.f7, prims_eq2, hg, hi, ↓d4, neq67, g0, g1, g2, Nat.mul_comm i 3, hw]
  clear d4
  refine WPost.fin (want_loop _ F nl nc σ.next (.exact 92) _ _ ?_ rfl 92 0 F (-1) _ (by omega) (by omega) ?_ ?_ ?_ ?_) ?_
  all_goals simp
  intro t' a9 a0 a1 a5 a8
  simp [a9, a0, a1, a5, a8, hi, g0, Nat.mul_comm i 3, num_self i h]
end
end Go.Dg

/- Laws by which simp reckons a run. -/
import Derived.Test.YtgmaniiaingjhaaGreatDoorFxA
namespace Go.Dg
open Go Go.RowKit
noncomputable section
theorem runK_nil {β : Type} (P : Program) (B : Beside) (call : CallF) (N : Nat) (ops : Array Oper) (t : PT V) (σ : St) (k : PT V → St → Option β) : runK P B call N ops [] t σ k = k t σ := rfl
theorem runK_cons {β : Type} (P : Program) (B : Beside) (call : CallF) (N : Nat) (ops : Array Oper) (o : Oper) (l : List Oper) (t : PT V) (σ : St) (k : PT V → St → Option β) :
    runK P B call N ops (o :: l) t σ k = (match stepV P B call ops t o σ with
    | some (v, σ') => (match o.dst with
      | none => runK P B call N ops l t σ' k
      | some d => if d < N then runK P B call N ops l (t.set d v) σ' k else none)
    | none => none) := rfl
theorem putK_none {β : Type} (N : Nat) (t : PT V) (v : V) (k : PT V → Option β) : putK N t none v k = k t := rfl
theorem putK_some {β : Type} (N : Nat) (t : PT V) (d : Nat) (v : V) (k : PT V → Option β) : putK N t (some d) v k = if d < N then k (t.set d v) else none := rfl
theorem codeK_reg {β : Type} (P : Program) (B : Beside) (call : CallF) (F N : Nat) (id : Nat) (l : List Oper) (t : PT V) (σ : St) (k : Ex → PT V → St → Option β) :
    codeK P B call F N (.region id l.toArray false) t σ k = runK P B call N l.toArray l t σ (k .normal) := codeK_region P B call F N id l.toArray t σ k
attribute [simp ↓] codeK_reg codeK_seq codeK_cond codeK_ret codeK_skip codeK_exit codeK_block codeK_loop runK_nil runK_cons putK_none putK_some
attribute [simp] stepV wantA execA opA q1 q2 q3 ev ofValue ofValueD get_start calleeA evs evo evp mapO bodyOf retK oneA
attribute [simp] PT.get_set

theorem resA_nil (P : Program) (t : PT V) (σ : St) : resA P t σ [] = some [] := rfl
theorem resA_tmp {P : Program} {t : PT V} {σ : St} {i : Nat} {l : List ResultVar} : resA P t σ (.tmp i :: l) = (match t.get i, resA P t σ l with
    | some v, some vs => some (v :: vs)
    | _, _ => none) := rfl
theorem resA_cell {P : Program} {t : PT V} {σ : St} {i : Nat} {ty : TypeId} {l : List ResultVar} : resA P t σ (.cell i ty :: l) = (match t.get i, resA P t σ l with
    | some (.ptr id off), some vs => (match loadA P ty id off σ with
      | some v => some (v :: vs)
      | none => none)
    | _, _ => none) := rfl
attribute [simp] resA_nil resA_tmp resA_cell
theorem bodyOf_eq {fn : Func} {x : Code} (h : fn.body = some x) : bodyOf fn = x := by simp [bodyOf, h]
/-! ## numbers -/
@[simp] theorem ble_dec (a b : Nat) : Nat.ble a b = decide (a ≤ b) := by
  cases h : Nat.ble a b with
  | true => simp [Nat.le_of_ble_eq_true h]
  | false => symm; rw [decide_eq_false_iff_not]; intro hh; rw [Nat.ble_eq_true_of_le hh] at h; cases h
@[simp] theorem beq_dec (a b : Nat) : Nat.beq a b = decide (a = b) := by
  cases h : Nat.beq a b with
  | true => simp [Nat.eq_of_beq_eq_true h]
  | false => symm; rw [decide_eq_false_iff_not]; exact Nat.ne_of_beq_eq_false h
@[simp] theorem binA_int (P : Program) (op : BinOp) (ty : TypeId) (x y : Operand) (k j : IntKind) (m n : Int) : binA P op ty x y (.int k m) (.int j n) = arith op k m j n := rfl
@[simp] theorem binA_str (P : Program) (op : BinOp) (ty : TypeId) (x y : Operand) (n c m d : Nat) : binA P op ty x y (.str n c) (.str m d) = strOp op n c m d := rfl
@[simp] theorem arith_add (k : IntKind) (a b : Int) : arith .add k a k b = some (.int k (k.wrap (a + b))) := by simp [arith, wrapK_eq, iadd_eq]
@[simp] theorem arith_sub (k : IntKind) (a b : Int) : arith .sub k a k b = some (.int k (k.wrap (a - b))) := by simp [arith, wrapK_eq, isub_eq]
@[simp] theorem arith_mul (k : IntKind) (a b : Int) : arith .mul k a k b = some (.int k (k.wrap (a * b))) := by simp [arith, wrapK_eq, imul_eq]
theorem arith_quo (k : IntKind) (a b : Int) (h : b ≠ 0) : arith .quo k a k b = some (.int k (k.wrap (a.tdiv b))) := by
  have : ieq b 0 = false := by rw [ieq_eq]; simpa using h
  simp [arith, wrapK_eq, itdiv_eq, this]
theorem arith_rem (k : IntKind) (a b : Int) (h : b ≠ 0) : arith .rem k a k b = some (.int k (a.tmod b)) := by
  have : ieq b 0 = false := by rw [ieq_eq]; simpa using h
  simp [arith, itmod_eq, this]
@[simp] theorem arith_eql (k : IntKind) (a b : Int) : arith .eql k a k b = some (.bool (decide (a = b))) := by simp [arith, ieq_eq]; rfl
@[simp] theorem arith_neq (k : IntKind) (a b : Int) : arith .neq k a k b = some (.bool (!decide (a = b))) := by simp [arith, ieq_eq]; rfl
@[simp] theorem arith_lss (k : IntKind) (a b : Int) : arith .lss k a k b = some (.bool (decide (a < b))) := by simp [arith, ilt_eq]
@[simp] theorem arith_leq (k : IntKind) (a b : Int) : arith .leq k a k b = some (.bool (decide (a ≤ b))) := by
  simp only [arith, ilt_eq, cond_not, decide_true, cond_true]
  by_cases h : a ≤ b
  · simp [h]
  · simp [h]; omega
@[simp] theorem arith_gtr (k : IntKind) (a b : Int) : arith .gtr k a k b = some (.bool (decide (b < a))) := by simp [arith, ilt_eq]
@[simp] theorem arith_geq (k : IntKind) (a b : Int) : arith .geq k a k b = some (.bool (decide (b ≤ a))) := by
  simp only [arith, ilt_eq, cond_not, decide_true, cond_true]
  by_cases h : b ≤ a
  · simp [h]
  · simp [h]; omega
theorem wrap_i64 (n : Int) (h1 : -9223372036854775808 ≤ n) (h2 : n ≤ 9223372036854775807) : IntKind.i64.wrap n = n := by
  simp [IntKind.wrap, IntKind.bits, IntKind.signed]
  split <;> omega
theorem wrap_u64 (n : Int) (h1 : 0 ≤ n) (h2 : n ≤ 18446744073709551615) : IntKind.u64.wrap n = n := by
  simp [IntKind.wrap, IntKind.bits, IntKind.signed]
  omega
@[simp] theorem lenA_nils (P : Program) (t : TypeId) (e : TypeId) (σ : St) (h : P.underlying t = some (.slice e)) : lenA P t .nils σ = some (.int .i64 0) := by simp [lenA, h]
theorem idx_int (k : IntKind) (i : Int) (n : Nat) : idx (.int k i) n = if 0 ≤ i ∧ i < n then some i.toNat else none := by
  cases i with
  | ofNat j =>
    simp only [idx]
    cases h : Nat.ble (Nat.succ j) n with
    | true => have := Nat.le_of_ble_eq_true h; rw [if_pos ⟨Int.natCast_nonneg _, by show (j : Int) < n; omega⟩]; rfl
    | false => rw [if_neg fun hh => by
        have : j + 1 ≤ n := by have := hh.2; change (j : Int) < n at this; omega
        rw [Nat.ble_eq_true_of_le this] at h; cases h]; rfl
  | negSucc j => simp only [idx]; rw [if_neg fun hh => by have := hh.1; simp at this]
end
end Go.Dg

/- The deterministic machine's runs, in the form in which they are reckoned by rewriting. -/
import Derived.Test.YtgmaniiaingjhaaGreatDoorDgL
namespace Go.Dg
open Go Go.RowKit
noncomputable section

def stepV (P : Program) (B : Beside) (call : CallF) (ops : Array Oper) (t : PT V) (o : Oper) (σ : St) : Option (V × St) :=
  match wantA ops t o with
  | some true => execA P B call t o σ
  | some false => some (V.undef, σ)
  | none => none
def putK {β : Type} (N : Nat) (t : PT V) (d : Option Tmp) (v : V) (k : PT V → Option β) : Option β :=
  match d with
  | none => k t
  | some i => if i < N then k (t.set i v) else none
def runK {β : Type} (P : Program) (B : Beside) (call : CallF) (N : Nat) (ops : Array Oper) : List Oper → PT V → St → (PT V → St → Option β) → Option β
  | [], t, σ, k => k t σ
  | o :: l, t, σ, k => (match stepV P B call ops t o σ with
    | some (v, σ') => putK N t o.dst v fun t' => runK P B call N ops l t' σ' k
    | none => none)
def codeK {β : Type} (P : Program) (B : Beside) (call : CallF) (F N : Nat) (c : Code) (t : PT V) (σ : St) (k : Ex → PT V → St → Option β) : Option β :=
  match (codeA P B call F N c).run t σ with
  | some (e, t', σ') => k e t' σ'
  | none => none
def loopK {β : Type} (P : Program) (B : Beside) (call : CallF) (F N : Nat) (c : Code) (m : Nat) (t : PT V) (σ : St) (k : Ex → PT V → St → Option β) : Option β :=
  match iterA (codeA P B call F N c).run m t σ with
  | some (e, t', σ') => k e t' σ'
  | none => none
section
variable {β : Type} (P : Program) (B : Beside) (call : CallF) (F N : Nat)

theorem steps_runK (ops : Array Oper) : ∀ (l : List Oper) (i : Nat) (t : PT V) (σ : St) (k : PT V → St → Option β), (∀ k, k < l.length → ops[i + k]? = l[k]?) →
    (match stepsA P B call N ops (List.range' i l.length) t σ with
      | some (t', σ') => k t' σ'
      | none => none) = runK P B call N ops l t σ k
  | [], i, t, σ, k, _ => rfl
  | o :: l, i, t, σ, k, h => by
    have h0 : ops[i]? = some o := by simpa using h 0 (by simp)
    have ih := steps_runK ops l (i + 1)
    have hl : ∀ k, k < l.length → ops[i + 1 + k]? = l[k]? := fun k hk => by
      have := h (k + 1) (by simp; omega)
      rw [show i + 1 + k = i + (k + 1) by omega]; simpa using this
    simp only [List.length_cons, List.range'_succ, stepsA, runK, stepA, h0, stepV]
    cases hw : wantA ops t o with
    | none => rfl
    | some b =>
      cases b with
      | true =>
        simp only
        cases execA P B call t o σ with
        | none => rfl
        | some r =>
          obtain ⟨v, σ'⟩ := r
          simp only
          unfold putA putK
          cases o.dst with
          | none => exact ih t σ' k hl
          | some d =>
            simp only
            cases hb : (Nat.succ d).ble N with
            | false => rw [if_neg fun (h : d < N) => by rw [Nat.ble_eq_true_of_le (show Nat.succ d ≤ N from h)] at hb; cases hb]; rfl
            | true => rw [if_pos (show d < N from Nat.le_of_ble_eq_true hb)]; exact ih _ σ' k hl
      | false =>
        simp only
        unfold putA putK
        cases o.dst with
        | none => exact ih t σ k hl
        | some d =>
          simp only
          cases hb : (Nat.succ d).ble N with
          | false => rw [if_neg fun (h : d < N) => by rw [Nat.ble_eq_true_of_le (show Nat.succ d ≤ N from h)] at hb; cases hb]; rfl
          | true => rw [if_pos (show d < N from Nat.le_of_ble_eq_true hb)]; exact ih _ σ k hl
theorem codeK_region (id : Nat) (ops : Array Oper) (t : PT V) (σ : St) (k : Ex → PT V → St → Option β) :
    codeK P B call F N (.region id ops false) t σ k = runK P B call N ops ops.toList t σ (k .normal) := by
  have h := steps_runK (β := β) P B call N ops ops.toList 0 t σ (k .normal) (by simp)
  rw [← h, ← List.range_eq_range']
  simp only [codeK, codeA, Array.length_toList]
  cases stepsA P B call N ops (List.range ops.size) t σ with
  | none => rfl
  | some r => rfl
theorem codeK_draw (id : Nat) (ops : Array Oper) (t : PT V) (σ : St) (k : Ex → PT V → St → Option β) :
    codeK P B call F N (.region id ops true) t σ k = (match drawA P B call N ops t σ with
      | some (t', σ') => k .normal t' σ'
      | none => none) := by
  simp only [codeK, codeA]
  cases drawA P B call N ops t σ with
  | none => rfl
  | some r => rfl
theorem codeK_seq (a b : Code) (t : PT V) (σ : St) (k : Ex → PT V → St → Option β) :
    codeK P B call F N (.seq a b) t σ k = codeK P B call F N a t σ fun e t' σ' => (match e with
      | .normal => codeK P B call F N b t' σ' k
      | e => k e t' σ') := by
  simp only [codeK, codeA, thenA]
  cases (codeA P B call F N a).run t σ with
  | none => rfl
  | some r => obtain ⟨e, t', σ'⟩ := r; cases e <;> rfl
theorem codeK_cond (c : Operand) (a b : Code) (t : PT V) (σ : St) (k : Ex → PT V → St → Option β) :
    codeK P B call F N (.cond c a b) t σ k = (match ev t c with
      | some (.bool r) => if r = true then codeK P B call F N a t σ k else codeK P B call F N b t σ k
      | _ => none) := by
  simp only [codeK, codeA]
  cases ev t c with
  | none => rfl
  | some v => cases v <;> first | rfl | (rename_i r; cases r <;> rfl)
theorem codeK_ret (t : PT V) (σ : St) (k : Ex → PT V → St → Option β) : codeK P B call F N .ret t σ k = k .ret t σ := rfl
theorem codeK_skip (t : PT V) (σ : St) (k : Ex → PT V → St → Option β) : codeK P B call F N .skip t σ k = k .normal t σ := rfl
theorem codeK_exit (i : Nat) (t : PT V) (σ : St) (k : Ex → PT V → St → Option β) : codeK P B call F N (.exit i) t σ k = k (.exit i) t σ := rfl
theorem codeK_block (i : Nat) (c : Code) (t : PT V) (σ : St) (k : Ex → PT V → St → Option β) :
    codeK P B call F N (.block i c) t σ k = codeK P B call F N c t σ fun e t' σ' => (match e with
      | .exit j => cond (Nat.beq j i) (k .normal t' σ') (k (.exit j) t' σ')
      | e => k e t' σ') := by
  simp only [codeK, codeA]
  cases (codeA P B call F N c).run t σ with
  | none => rfl
  | some r =>
    obtain ⟨e, t', σ'⟩ := r
    cases e with
    | exit j => cases h : Nat.beq j i <;> simp [h]
    | _ => rfl
theorem codeK_loop (c : Code) (t : PT V) (σ : St) (k : Ex → PT V → St → Option β) : codeK P B call F N (.loop c) t σ k = loopK P B call F N c F t σ k := rfl
theorem loopK_succ (c : Code) (m : Nat) (t : PT V) (σ : St) (k : Ex → PT V → St → Option β) :
    loopK P B call F N c (m + 1) t σ k = codeK P B call F N c t σ fun e t' σ' => (match e with
      | .normal => loopK P B call F N c m t' σ' k
      | e => k e t' σ') := by
  simp only [loopK, codeK, iterA]
  cases (codeA P B call F N c).run t σ with
  | none => rfl
  | some r => obtain ⟨e, t', σ'⟩ := r; cases e <;> rfl
def retK (P : Program) (rs : List ResultVar) (e : Ex) (t : PT V) (σ : St) : Option (V × St) :=
  match e with
  | .normal | .ret => (match resA P t σ rs with
    | some l => some (oneA l, σ)
    | none => none)
  | _ => none
def bodyOf (fn : Func) : Code := fn.body.getD .skip
theorem callK {f : FuncId} {fn : Func} (h : P.funcs[f]? = some fn) (hb : fn.body.isSome = true) {args : List V} (hk : B.known f args = none) (n : Nat) (σ : St) :
    callA P B F (n + 1) f args σ = codeK P B (callA P B F n) F fn.ntmps (bodyOf fn) (startT args fn.ntmps) σ (retK P fn.results.toList) := by
  obtain ⟨c, hc⟩ := Option.isSome_iff_exists.1 hb
  rw [callA, hk, h]; simp only [hc, codeK, retK, bodyOf, Option.getD_some]
  cases (codeA P B (callA P B F n) F fn.ntmps c).run (startT args fn.ntmps) σ with
  | none => rfl
  | some r => obtain ⟨e, t', σ'⟩ := r; cases e <;> rfl
theorem get_start (args : List V) (n i : Nat) : (startT args n).get i = if i < args.length then args[i]? else if i < n then some V.undef else none := by
  simp only [startT, PT.get_setL, List.length_replicate, PT.get_leaf, Nat.sub_eq]
  by_cases h1 : i < args.length
  · rw [if_pos h1, if_neg (by omega), if_pos (by omega)]; simp
  · rw [if_neg h1]
    by_cases h2 : i < n
    · rw [if_pos h2, if_pos (by omega)]; simp [List.getElem?_replicate]; omega
    · rw [if_neg h2, if_neg (by omega), if_neg (by omega)]
theorem enter_of {P : Program} {f : FuncId} {fn : Func} (h : P.funcs[f]? = some fn) (hc : fn.body.isSome = true) (args : List V) : enterA P f args = some (true, f, args) := by
  simp [enterA, h, hc]
end
end
end Go.Dg
namespace Go.Dg
open Go Go.RowKit
/-- the loops of a code, from the outside in, in the order of the text -/
def loopsOf : Code → List Code
  | .seq a b => loopsOf a ++ loopsOf b
  | .cond _ a b => loopsOf a ++ loopsOf b
  | .block _ c => loopsOf c
  | .scope c => loopsOf c
  | .loop c => c :: loopsOf c
  | _ => []
def loopAt (i : Nat) (c : Code) : Code := (loopsOf c).getD i .skip
end Go.Dg
namespace Go.Dg
open Go Go.RowKit
noncomputable section
section
variable (P : Program) (B : Beside) (call : CallF) (F N : Nat)
/-- a code as the list of what it does one after the other -/
def flat : Code → List Code
  | .seq a b => flat a ++ flat b
  | c => [c]
def runAll {β : Type} : List Code → PT V → St → (Ex → PT V → St → Option β) → Option β
  | [], t, σ, k => k .normal t σ
  | c :: l, t, σ, k => codeK P B call F N c t σ fun e t' σ' => (match e with
    | .normal => runAll l t' σ' k
    | e => k e t' σ')
variable {β : Type}
theorem runAll_nil (t : PT V) (σ : St) (k : Ex → PT V → St → Option β) : runAll P B call F N [] t σ k = k .normal t σ := rfl
theorem runAll_cons (c : Code) (l : List Code) (t : PT V) (σ : St) (k : Ex → PT V → St → Option β) : runAll P B call F N (c :: l) t σ k =
    codeK P B call F N c t σ fun e t' σ' => (match e with
    | .normal => runAll P B call F N l t' σ' k
    | e => k e t' σ') := rfl
theorem codeK_ext {c : Code} {t : PT V} {σ : St} {k k' : Ex → PT V → St → Option β} (h : ∀ e t σ, k e t σ = k' e t σ) : codeK P B call F N c t σ k = codeK P B call F N c t σ k' := by
  have : k = k' := funext fun e => funext fun t => funext fun σ => h e t σ
  rw [this]
theorem runAll_append : ∀ (l m : List Code) (t : PT V) (σ : St) (k : Ex → PT V → St → Option β), runAll P B call F N (l ++ m) t σ k = runAll P B call F N l t σ fun e t' σ' => (match e with
    | .normal => runAll P B call F N m t' σ' k
    | e => k e t' σ')
  | [], m, t, σ, k => rfl
  | c :: l, m, t, σ, k => by
    simp only [List.cons_append, runAll]
    refine codeK_ext P B call F N fun e t' σ' => ?_
    cases e with
    | normal => exact runAll_append l m t' σ' k
    | _ => rfl
theorem codeK_flat : ∀ (c : Code) (t : PT V) (σ : St) (k : Ex → PT V → St → Option β), codeK P B call F N c t σ k = runAll P B call F N (flat c) t σ k := by
  have one : ∀ (c : Code) (t : PT V) (σ : St) (k : Ex → PT V → St → Option β), codeK P B call F N c t σ k = runAll P B call F N [c] t σ k := by
    intro c t σ k
    simp only [runAll]
    refine codeK_ext P B call F N fun e t' σ' => ?_
    cases e <;> rfl
  intro c
  induction c with
  | seq a b iha ihb =>
    intro t σ k
    rw [codeK_seq, flat, runAll_append, iha]
    congr 1
    funext e t' σ'
    cases e with
    | normal => exact ihb t' σ' k
    | _ => rfl
  | _ => intro t σ k; exact one _ t σ k
/-- the end of a piece -/
def S3 (e : Ex) (t : PT V) (σ : St) : Option (Ex × PT V × St) := some (e, t, σ)
variable {P} {B} {call} {F} {N}
theorem runAll_use {l : List Code} {t t' : PT V} {σ σ' : St} {e : Ex} (h : runAll P B call F N l t σ S3 = some (e, t', σ')) (k : Ex → PT V → St → Option β) : runAll P B call F N l t σ k = k e t' σ' := by
  induction l generalizing t σ with
  | nil => simp only [runAll, S3, Option.some.injEq, Prod.mk.injEq] at h; obtain ⟨rfl, rfl, rfl⟩ := h; rfl
  | cons c l ih =>
    simp only [runAll, codeK] at h ⊢
    cases hr : (codeA P B call F N c).run t σ with
    | none => rw [hr] at h; simp at h
    | some r =>
      obtain ⟨e1, t1, σ1⟩ := r
      rw [hr] at h
      simp only at h ⊢
      cases e1 with
      | normal => exact ih h
      | _ => simp only [S3, Option.some.injEq, Prod.mk.injEq] at h; obtain ⟨rfl, rfl, rfl⟩ := h; rfl
/-- the pieces from a place on, so many -/
def pieces (fn : Func) (i n : Nat) : List Code := ((flat (bodyOf fn)).drop i).take n
end
end
end Go.Dg

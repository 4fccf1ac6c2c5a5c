/- The deterministic machine, part 2: memory as a tree by numbers; how it stands to the model's memory; one step from such a pair to another. -/
import Derived.Test.YtgmaniiaingjhaaGreatDoorDgA
namespace Go.Dg
open Go Go.RowKit
noncomputable section

inductive Pa where
  | e | o (p : Pa) | i (p : Pa)
def pathF (f : Nat) : Nat → Pa :=
  Nat.rec (motive := fun _ => Nat → Pa) (fun _ => .e)
    (fun _ ih k => Nat.rec (motive := fun _ => Pa) .e
      (fun m _ => Bool.rec (motive := fun _ => Pa) (.i (ih (Nat.div m 2))) (.o (ih (Nat.div m 2))) (Nat.beq (Nat.mod m 2) 0)) k) f
def path (k : Nat) : Pa := pathF (Nat.succ k) k
def Pa.num : Pa → Nat
  | .e => 0
  | .o p => 2 * p.num + 1
  | .i p => 2 * p.num + 2
theorem pathF_num : ∀ f k, k < f → (pathF f k).num = k
  | 0, _, h => by omega
  | f + 1, 0, _ => rfl
  | f + 1, m + 1, h => by
    have hm : m / 2 < f := by omega
    have ih := pathF_num f (m / 2) hm
    have e : pathF (f + 1) (m + 1) = Bool.rec (motive := fun _ => Pa) (.i (pathF f (m / 2))) (.o (pathF f (m / 2))) (Nat.beq (m % 2) 0) := rfl
    rw [e]
    cases hb : Nat.beq (m % 2) 0 with
    | true => have := Nat.eq_of_beq_eq_true hb; simp only [Pa.num, ih]; omega
    | false => have := Nat.ne_of_beq_eq_false hb; simp only [Pa.num, ih]; omega
theorem path_num (k : Nat) : (path k).num = k := pathF_num (k + 1) k (by omega)
theorem path_inj {j k : Nat} (h : path j = path k) : j = k := by rw [← path_num j, ← path_num k, h]

inductive PT (α : Type) where
  | leaf
  | node (l : PT α) (v : Option α) (r : PT α)
  deriving Inhabited
namespace PT
variable {α : Type}
def getP (t : PT α) : Pa → Option α :=
  PT.rec (motive := fun _ => Pa → Option α) (fun _ => none)
    (fun _ v _ gl gr k => Pa.rec (motive := fun _ => Option α) v (fun p _ => gl p) (fun p _ => gr p) k) t
def mkL (t : PT α) (v : Option α) (r : PT α) : PT α :=
  PT.rec (motive := fun _ => PT α) (.node .leaf v r) (fun a b c _ _ => .node (.node a b c) v r) t
def mkR (l : PT α) (v : Option α) (t : PT α) : PT α :=
  PT.rec (motive := fun _ => PT α) (.node l v .leaf) (fun a b c _ _ => .node l v (.node a b c)) t
def setP (x : Option α) (p : Pa) : PT α → PT α :=
  Pa.rec (motive := fun _ => PT α → PT α)
    (fun t => PT.rec (motive := fun _ => PT α) (.node .leaf x .leaf) (fun l _ r _ _ => .node l x r) t)
    (fun _ ih t => PT.rec (motive := fun _ => PT α) (mkL (ih .leaf) none .leaf) (fun l v r _ _ => mkL (ih l) v r) t)
    (fun _ ih t => PT.rec (motive := fun _ => PT α) (mkR .leaf none (ih .leaf)) (fun l v r _ _ => mkR l v (ih r)) t) p
def get (t : PT α) (k : Nat) : Option α := t.getP (path k)
def set (t : PT α) (k : Nat) (x : α) : PT α := setP (some x) (path k) t
def del (t : PT α) (k : Nat) : PT α := setP none (path k) t
theorem mkL_eq (t : PT α) (v r) : mkL t v r = .node t v r := by cases t <;> rfl
theorem mkR_eq (l : PT α) (v t) : mkR l v t = .node l v t := by cases t <;> rfl
theorem getP_leaf (p : Pa) : (leaf : PT α).getP p = none := rfl
theorem getP_setP (x : Option α) : ∀ (p : Pa) (t : PT α) (q : Pa), (q = p → (setP x p t).getP q = x) ∧ (q ≠ p → (setP x p t).getP q = t.getP q)
  | .e, .leaf, q => by refine ⟨fun h => by subst h; rfl, fun h => ?_⟩; cases q <;> first | exact absurd rfl h | rfl
  | .e, .node l v r, q => by refine ⟨fun h => by subst h; rfl, fun h => ?_⟩; cases q <;> first | exact absurd rfl h | rfl
  | .o p, .leaf, q => by
    have e : setP x (.o p) (leaf : PT α) = .node (setP x p .leaf) none .leaf := mkL_eq _ _ _
    rw [e]
    refine ⟨fun h => by subst h; exact (getP_setP x p .leaf p).1 rfl, fun h => ?_⟩
    cases q with
    | e => rfl
    | o q => exact (getP_setP x p .leaf q).2 fun e => h (by rw [e])
    | i q => rfl
  | .o p, .node l v r, q => by
    have e : setP x (.o p) (.node l v r) = .node (setP x p l) v r := mkL_eq _ _ _
    rw [e]
    refine ⟨fun h => by subst h; exact (getP_setP x p l p).1 rfl, fun h => ?_⟩
    cases q with
    | e => rfl
    | o q => exact (getP_setP x p l q).2 fun e => h (by rw [e])
    | i q => rfl
  | .i p, .leaf, q => by
    have e : setP x (.i p) (leaf : PT α) = .node .leaf none (setP x p .leaf) := mkR_eq _ _ _
    rw [e]
    refine ⟨fun h => by subst h; exact (getP_setP x p .leaf p).1 rfl, fun h => ?_⟩
    cases q with
    | e => rfl
    | i q => exact (getP_setP x p .leaf q).2 fun e => h (by rw [e])
    | o q => rfl
  | .i p, .node l v r, q => by
    have e : setP x (.i p) (.node l v r) = .node l v (setP x p r) := mkR_eq _ _ _
    rw [e]
    refine ⟨fun h => by subst h; exact (getP_setP x p r p).1 rfl, fun h => ?_⟩
    cases q with
    | e => rfl
    | i q => exact (getP_setP x p r q).2 fun e => h (by rw [e])
    | o q => rfl
@[simp] theorem get_leaf (k : Nat) : (leaf : PT α).get k = none := rfl
@[simp] theorem get_set_same (t : PT α) (k : Nat) (x : α) : (t.set k x).get k = some x := (getP_setP (some x) (path k) t (path k)).1 rfl
theorem get_set_ne (t : PT α) {j k : Nat} (x : α) (h : j ≠ k) : (t.set k x).get j = t.get j :=
  (getP_setP (some x) (path k) t (path j)).2 fun e => h (path_inj e)
theorem get_set (t : PT α) (j k : Nat) (x : α) : (t.set k x).get j = if j = k then some x else t.get j := by
  by_cases h : j = k
  · subst h; simp
  · rw [if_neg h, get_set_ne t x h]
@[simp] theorem get_del_same (t : PT α) (k : Nat) : (t.del k).get k = none := (getP_setP none (path k) t (path k)).1 rfl
theorem get_del_ne (t : PT α) {j k : Nat} (h : j ≠ k) : (t.del k).get j = t.get j :=
  (getP_setP none (path k) t (path j)).2 fun e => h (path_inj e)
/-- many, from a place on -/
def setL (t : PT α) (i : Nat) (l : List α) : PT α :=
  List.rec (motive := fun _ => PT α → Nat → PT α) (fun t _ => t)
    (fun x _ ih t i => PT.rec (motive := fun _ => PT α) (ih .leaf (Nat.succ i)) (fun a b c _ _ => ih (.node a b c) (Nat.succ i)) (t.set i x)) l t i
theorem setL_nil (t : PT α) (i : Nat) : t.setL i [] = t := rfl
theorem setL_cons (t : PT α) (i : Nat) (x : α) (l : List α) : t.setL i (x :: l) = (t.set i x).setL (i + 1) l := by
  have e : t.setL i (x :: l) = PT.rec (motive := fun _ => PT α) (PT.setL .leaf (Nat.succ i) l) (fun a b c _ _ => PT.setL (.node a b c) (Nat.succ i) l) (t.set i x) := rfl
  rw [e]; cases t.set i x <;> rfl
theorem get_setL (l : List α) : ∀ (t : PT α) (i j : Nat), (t.setL i l).get j = if i ≤ j ∧ j < i + l.length then l[j - i]? else t.get j := by
  induction l with
  | nil => intro t i j; rw [setL_nil, if_neg (by simp only [List.length_nil]; omega)]
  | cons x l ih =>
    intro t i j
    rw [setL_cons, ih]
    simp only [List.length_cons]
    by_cases h1 : i + 1 ≤ j ∧ j < i + 1 + l.length
    · rw [if_pos h1, if_pos (by omega), show j - i = (j - (i + 1)) + 1 by omega, List.getElem?_cons_succ]
    · rw [if_neg h1, get_set]
      by_cases h2 : j = i
      · subst h2; rw [if_pos rfl, if_pos (by omega)]; simp
      · rw [if_neg h2, if_neg (by omega)]
/-- many, read one after the other; none: one is not there -/
def getL (t : PT α) : Nat → Nat → Option (List α)
  | _, 0 => some []
  | i, n + 1 => match t.get i with
    | none => none
    | some x => match t.getL (i + 1) n with
      | none => none
      | some l => some (x :: l)
theorem getL_spec (t : PT α) : ∀ (n i : Nat) (l : List α), t.getL i n = some l → l.length = n ∧ ∀ j x, l[j]? = some x → t.get (i + j) = some x
  | 0, i, l, h => by simp only [getL, Option.some.injEq] at h; subst h; simp
  | n + 1, i, l, h => by
    simp only [getL] at h
    cases hx : t.get i with
    | none => simp [hx] at h
    | some x =>
      rw [hx] at h
      cases hl : t.getL (i + 1) n with
      | none => simp [hl] at h
      | some l' =>
        rw [hl] at h; simp only [Option.some.injEq] at h; subst h
        obtain ⟨h1, h2⟩ := getL_spec t n (i + 1) l' hl
        refine ⟨by simp [h1], fun j y hj => ?_⟩
        cases j with
        | zero => simp at hj; subst hj; simpa using hx
        | succ j => have := h2 j y (by simpa using hj); rwa [show i + (j + 1) = i + 1 + j by omega]
end PT

/-! ## memory -/
inductive Obj where
  | cells (elem : TypeId) (cs : PT V) (ro : Bool)
  | map (es : List (V × V × Nat)) (clock : Nat)
  | iter (n c pos : Nat)
  deriving Inhabited
structure St where
  heap : PT Obj
  next : Nat
def V.oneCell : V → Bool
  | .agg _ | .tuple _ => false
  | _ => true
theorem VR.oneCell {E : Env} {v : V} {x : Value} (h : VR E v x) (hv : v.oneCell = true) : x.oneCell' = true := by
  cases v <;> simp only [VR] at h <;> first
    | (subst h; rfl)
    | (obtain ⟨_, rfl, _⟩ := h; rfl)
    | (obtain ⟨_, _, rfl⟩ := h; rfl)
    | (obtain ⟨_, _, _, _, rfl, _⟩ := h; rfl)
    | (obtain ⟨_, _, rfl, _⟩ := h; rfl)
    | (simp [V.oneCell] at hv)

/-- an entry of a map -/
def ER (E : Env) (e : V × V × Nat) (m : MapEntry) : Prop := VR E e.1 m.key ∧ VR E e.2.1 m.val ∧ m.born = e.2.2
def MR (E : Env) : List (V × V × Nat) → List MapEntry → Prop
  | [], l => l = []
  | e :: es, l => ∃ m ms, l = m :: ms ∧ ER E e m ∧ MR E es ms
theorem ER.mono {E E' : Env} (h : E.le E') {e : V × V × Nat} {m : MapEntry} (hr : ER E e m) : ER E' e m := ⟨hr.1.mono h, hr.2.1.mono h, hr.2.2⟩
theorem MR.mono {E E' : Env} (h : E.le E') : ∀ {l : List (V × V × Nat)} {ms : List MapEntry}, MR E l ms → MR E' l ms
  | [], _, hm => by simpa [MR] using hm
  | _ :: _, _, hm => by simp only [MR] at *; obtain ⟨m, ms, h0, h1, h2⟩ := hm; exact ⟨m, ms, h0, h1.mono h, MR.mono h h2⟩

def ObjR (E : Env) (p : Place) : Obj → Go.Obj → Prop
  | .cells elem cs ro, ob => ∃ (C : Array Value) (lo hi : Nat), ob = .cells C elem (lo, hi) ∧ C.size = p.size ∧
      (∀ i v, cs.get i = some v → ∃ x, C[p.off + i]? = some x ∧ VR E v x) ∧ (ro = false → hi ≤ lo ∨ p.size ≤ lo)
  | .map es clock, ob => ∃ es' : Array MapEntry, ob = .map es' clock ∧ MR E es es'.toList
  | .iter n c pos, ob => ∃ s : ByteArray, ob = .stringIter s pos ∧ n = s.data.toList.length ∧ c = codeOf s.data.toList ∧ p.off = 0
theorem ObjR.mono {E E' : Env} (h : E.le E') {p : Place} {o : Obj} {ob : Go.Obj} (hr : ObjR E p o ob) : ObjR E' p o ob := by
  cases o with
  | cells elem cs ro =>
    obtain ⟨C, lo, hi, h1, h2, h3, h4⟩ := hr
    exact ⟨C, lo, hi, h1, h2, fun i v hv => let ⟨x, hx, hr⟩ := h3 i v hv; ⟨x, hx, hr.mono h⟩, h4⟩
  | map es clock => obtain ⟨es', h1, h2⟩ := hr; exact ⟨es', h1, h2.mono h⟩
  | iter n c pos => exact hr

def Live (σ : St) (E : Env) (b : Nat) : Prop := ∃ id o p, σ.heap.get id = some o ∧ E id = some p ∧ p.block = b
structure Rel (E : Env) (σ : St) (w : World) : Prop where
  obj : ∀ id o p, σ.heap.get id = some o → E id = some p → ∃ ob, w.heap[p.block]? = some ob ∧ ObjR E p o ob
  inj : ∀ i j o o' p q, σ.heap.get i = some o → σ.heap.get j = some o' → E i = some p → E j = some q → p.block = q.block → i = j
  fresh : ∀ id, σ.next ≤ id → E id = none

structure Step (E : Env) (σ : St) (w : World) (E' : Env) (σ' : St) (w' : World) : Prop where
  le : E.le E'
  rel : Rel E' σ' w'
  next : σ.next ≤ σ'.next
  dom : ∀ id, id < σ.next → E' id = E id
  size : w.heap.size ≤ w'.heap.size
  os : w'.os = w.os
  tape : w'.tape = w.tape
  output : w'.output = w.output
  frame : ∀ b, b < w.heap.size → ¬ Live σ E b → w'.heap[b]? = w.heap[b]?
  own : ∀ b, b < w.heap.size → Live σ' E' b → Live σ E b
  /-- what the model has not made yet stays as it is -/
  kept : ∀ id, id < σ.next → E id = none → σ'.heap.get id = σ.heap.get id

theorem Step.refl {E : Env} {σ : St} {w : World} (h : Rel E σ w) : Step E σ w E σ w :=
  ⟨E.le_refl, h, Nat.le_refl _, fun _ _ => rfl, Nat.le_refl _, rfl, rfl, rfl, fun _ _ _ => rfl, fun _ _ h => h, fun _ _ _ => rfl⟩
theorem Step.trans {E E' E'' : Env} {σ σ' σ'' : St} {w w' w'' : World} (h : Step E σ w E' σ' w') (k : Step E' σ' w' E'' σ'' w'') : Step E σ w E'' σ'' w'' where
  le := Env.le_trans h.le k.le
  rel := k.rel
  next := Nat.le_trans h.next k.next
  dom := fun id hid => (k.dom id (Nat.lt_of_lt_of_le hid h.next)).trans (h.dom id hid)
  size := Nat.le_trans h.size k.size
  os := k.os.trans h.os
  tape := k.tape.trans h.tape
  output := k.output.trans h.output
  frame := fun b hb hl => (k.frame b (Nat.lt_of_lt_of_le hb h.size) fun hl' => hl (h.own b hb hl')).trans (h.frame b hb hl)
  own := fun b hb hl => h.own b hb (k.own b (Nat.lt_of_lt_of_le hb h.size) hl)
  kept := fun id hid he => (k.kept id (Nat.lt_of_lt_of_le hid h.next) ((h.dom id hid).trans he)).trans (h.kept id hid he)

/-- a draw turns nothing -/
theorem Rel.drew {E : Env} {σ : St} {w : World} (h : Rel E σ w) : Rel E σ w.drew := ⟨h.obj, h.inj, h.fresh⟩
theorem Step.drew {E : Env} {σ : St} {w : World} (h : Rel E σ w) : Step E σ w E σ w.drew :=
  ⟨E.le_refl, h.drew, Nat.le_refl _, fun _ _ => rfl, Nat.le_refl _, rfl, rfl, rfl, fun _ _ _ => rfl, fun _ _ h => h, fun _ _ _ => rfl⟩

theorem Rel.lt {E : Env} {σ : St} {w : World} (h : Rel E σ w) {b : Nat} (hl : Live σ E b) : b < w.heap.size := by
  obtain ⟨id, o, p, h1, h2, rfl⟩ := hl
  obtain ⟨ob, hb, _⟩ := h.obj id o p h1 h2
  exact (Array.getElem?_eq_some_iff.1 hb).1

/-- the number that comes next -/
def Env.add (E : Env) (k : Nat) (p : Place) : Env := fun id => if id = k then some p else E id
theorem Env.le_add {E : Env} {k : Nat} {p : Place} (h : E k = none) : E.le (E.add k p) := fun id q hq => by
  unfold Env.add; split
  · subst id; rw [h] at hq; cases hq
  · exact hq

/-- a new block -/
def St.new (σ : St) (o : Obj) : St := ⟨σ.heap.set σ.next o, Nat.succ σ.next⟩
theorem Step.new {E : Env} {σ : St} {w : World} (h : Rel E σ w) {o : Obj} {ob : Go.Obj} {p : Place} (hp : p.block = w.heap.size)
    (ho : ObjR (E.add σ.next p) p o ob) : Step E σ w (E.add σ.next p) (σ.new o) (w.alloc ob) := by
  have hE : E σ.next = none := h.fresh _ (Nat.le_refl _)
  have hle : E.le (E.add σ.next p) := Env.le_add hE
  have hold : ∀ b, b < w.heap.size → (w.alloc ob).heap[b]? = w.heap[b]? := fun b hb => Below.heap_alloc w ob b hb
  have live : ∀ id o' q, id ≠ σ.next → σ.heap.get id = some o' → (E.add σ.next p) id = some q → E id = some q ∧ q.block < w.heap.size := by
    intro id o' q hne ho' hq
    have : E id = some q := by simpa [Env.add, hne] using hq
    exact ⟨this, h.lt ⟨id, o', q, ho', this, rfl⟩⟩
  refine ⟨hle, ⟨?_, ?_, ?_⟩, Nat.le_succ _, fun id hid => by simp [Env.add, Nat.ne_of_lt hid], by simp, rfl, rfl, rfl, fun b hb _ => hold b hb, ?_, fun id hid _ => PT.get_set_ne _ _ (Nat.ne_of_lt hid)⟩
  · intro id o' q ho' hq
    simp only [St.new, PT.get_set] at ho'
    split at ho'
    · subst id; cases ho'
      have e : q = p := by simpa [Env.add] using hq.symm
      subst e
      refine ⟨ob, ?_, ho⟩
      rw [hp]; show (w.heap.push ob)[w.heap.size]? = _; simp
    · rename_i hne
      have hq' := (live id o' q hne ho' hq).1
      obtain ⟨ob', hb, hr⟩ := h.obj id o' q ho' hq'
      exact ⟨ob', by rw [hold _ (Array.getElem?_eq_some_iff.1 hb).1]; exact hb, hr.mono hle⟩
  · intro i j o1 o2 q1 q2 h1 h2 e1 e2 hb
    simp only [St.new, PT.get_set] at h1 h2
    split at h1 <;> split at h2
    · omega
    · rename_i hi hj
      subst hi
      have := live j o2 q2 hj h2 e2
      have e : q1 = p := by simpa [Env.add] using e1.symm
      subst e; omega
    · rename_i hi hj
      subst hj
      have := live i o1 q1 hi h1 e1
      have e : q2 = p := by simpa [Env.add] using e2.symm
      subst e; omega
    · rename_i hi hj
      exact h.inj i j o1 o2 q1 q2 h1 h2 (live i o1 q1 hi h1 e1).1 (live j o2 q2 hj h2 e2).1 hb
  · intro id hid
    simp only [St.new] at hid
    have : id ≠ σ.next := by omega
    simp only [Env.add, this, if_false]
    exact h.fresh id (by omega)
  · rintro b hb ⟨id, o', q, h1, h2, rfl⟩
    simp only [St.new, PT.get_set] at h1
    split at h1
    · subst id
      have e : q = p := by simpa [Env.add] using h2.symm
      subst e; omega
    · rename_i hne
      exact ⟨id, o', q, h1, (live id o' q hne h1 h2).1, rfl⟩

/-- a block that is there, turned -/
def St.put (σ : St) (id : Nat) (o : Obj) : St := ⟨σ.heap.set id o, σ.next⟩
theorem Step.put {E : Env} {σ : St} {w w' : World} (h : Rel E σ w) {id : Nat} {o o' : Obj} {p : Place} {ob : Go.Obj} (ho : σ.heap.get id = some o) (hp : E id = some p)
    (hs : w'.heap.size = w.heap.size) (hos : w'.os = w.os) (ht : w'.tape = w.tape) (hout : w'.output = w.output)
    (hb : w'.heap[p.block]? = some ob) (hother : ∀ b, b ≠ p.block → w'.heap[b]? = w.heap[b]?) (hr : ObjR E p o' ob) :
    Step E σ w E (σ.put id o') w' := by
  refine ⟨E.le_refl, ⟨?_, ?_, fun id' hid => h.fresh id' hid⟩, Nat.le_refl _, fun _ _ => rfl, by omega, hos, ht, hout, ?_, ?_, fun j _ hj => PT.get_set_ne _ _ fun e => by rw [e, hp] at hj; cases hj⟩
  · intro j oj q hj hq
    simp only [St.put, PT.get_set] at hj
    split at hj
    · subst j; cases hj; rw [hp] at hq; cases hq; exact ⟨ob, hb, hr⟩
    · rename_i hne
      obtain ⟨ob', hb', hr'⟩ := h.obj j oj q hj hq
      refine ⟨ob', ?_, hr'⟩
      rw [hother q.block fun e => hne (h.inj j id oj o q p hj ho hq hp e)]
      exact hb'
  · intro i j o1 o2 q1 q2 h1 h2 e1 e2 hb'
    have tolive : ∀ k ok, (σ.put id o').heap.get k = some ok → ∃ o3, σ.heap.get k = some o3 := by
      intro k ok hk
      simp only [St.put, PT.get_set] at hk
      split at hk
      · subst k; exact ⟨o, ho⟩
      · exact ⟨ok, hk⟩
    obtain ⟨o3, h3⟩ := tolive i o1 h1
    obtain ⟨o4, h4⟩ := tolive j o2 h2
    exact h.inj i j o3 o4 q1 q2 h3 h4 e1 e2 hb'
  · intro b _ hl
    exact hother b fun e => hl ⟨id, o, p, ho, hp, e.symm⟩
  · rintro b _ ⟨j, oj, q, h1, h2, rfl⟩
    simp only [St.put, PT.get_set] at h1
    split at h1
    · subst j; exact ⟨id, o, q, ho, h2, rfl⟩
    · exact ⟨j, oj, q, h1, h2, rfl⟩

/-- a block that is there, moved to a new number, from a place in it on -/
def St.move (σ : St) (id : Nat) (o : Obj) : St := ⟨(σ.heap.del id).set σ.next o, Nat.succ σ.next⟩
theorem Step.move {E : Env} {σ : St} {w w' : World} (h : Rel E σ w) {id : Nat} {o o' : Obj} {p q : Place} {ob : Go.Obj} (ho : σ.heap.get id = some o) (hp : E id = some p) (hq : q.block = p.block)
    (hs : w'.heap.size = w.heap.size) (hos : w'.os = w.os) (ht : w'.tape = w.tape) (hout : w'.output = w.output)
    (hb : w'.heap[p.block]? = some ob) (hother : ∀ b, b ≠ p.block → w'.heap[b]? = w.heap[b]?) (hr : ObjR (E.add σ.next q) q o' ob) :
    Step E σ w (E.add σ.next q) (σ.move id o') w' := by
  have hE : E σ.next = none := h.fresh _ (Nat.le_refl _)
  have hid : id ≠ σ.next := fun e => by rw [e, hE] at hp; cases hp
  have hle : E.le (E.add σ.next q) := Env.le_add hE
  have get : ∀ k ok, (σ.move id o').heap.get k = some ok → (k = σ.next ∧ ok = o') ∨ (k ≠ σ.next ∧ k ≠ id ∧ σ.heap.get k = some ok) := by
    intro k ok hk
    simp only [St.move, PT.get_set] at hk
    split at hk
    · rename_i e; cases hk; exact .inl ⟨e, rfl⟩
    · rename_i e
      by_cases e2 : k = id
      · subst e2; rw [PT.get_del_same] at hk; cases hk
      · rw [PT.get_del_ne _ e2] at hk; exact .inr ⟨e, e2, hk⟩
  have addne : ∀ k r, k ≠ σ.next → (E.add σ.next q) k = some r → E k = some r := fun k r hk hr => by simpa [Env.add, hk] using hr
  have addeq : ∀ r, (E.add σ.next q) σ.next = some r → r = q := fun r hr => by simpa [Env.add] using hr.symm
  refine ⟨hle, ⟨?_, ?_, ?_⟩, Nat.le_succ _, fun j hj => by simp [Env.add, Nat.ne_of_lt hj], by omega, hos, ht, hout, ?_, ?_, fun j hj he => ?_⟩
  · intro k ok r hk hr'
    rcases get k ok hk with ⟨rfl, rfl⟩ | ⟨h1, h2, h3⟩
    · have e := addeq _ hr'; subst e
      exact ⟨ob, by rw [hq]; exact hb, hr⟩
    · replace hr' := addne _ _ h1 hr'
      obtain ⟨ob', hb', hrel⟩ := h.obj k ok r h3 hr'
      refine ⟨ob', ?_, hrel.mono hle⟩
      rw [hother r.block fun e => h2 (h.inj k id ok o r p h3 ho hr' hp e)]
      exact hb'
  · intro i j o1 o2 q1 q2 h1 h2 e1 e2 hb'
    rcases get i o1 h1 with ⟨rfl, rfl⟩ | ⟨a1, a2, a3⟩ <;> rcases get j o2 h2 with ⟨rfl, rfl⟩ | ⟨b1, b2, b3⟩
    · rfl
    · have e := addeq _ e1; subst e
      exact absurd (h.inj j id o2 o q2 p b3 ho (addne _ _ b1 e2) hp (by rw [← hb', hq])) b2
    · have e := addeq _ e2; subst e
      exact absurd (h.inj i id o1 o q1 p a3 ho (addne _ _ a1 e1) hp (by rw [hb', hq])) a2
    · exact h.inj i j o1 o2 q1 q2 a3 b3 (addne _ _ a1 e1) (addne _ _ b1 e2) hb'
  · intro k hk
    simp only [St.move] at hk
    have : k ≠ σ.next := by omega
    simp only [Env.add, this, if_false]
    exact h.fresh k (by omega)
  · intro b _ hl
    exact hother b fun e => hl ⟨id, o, p, ho, hp, e.symm⟩
  · rintro b _ ⟨k, ok, r, h1, h2, rfl⟩
    rcases get k ok h1 with ⟨rfl, rfl⟩ | ⟨a1, a2, a3⟩
    · have e := addeq _ h2; subst e
      exact ⟨id, o, p, ho, hp, hq.symm⟩
    · exact ⟨k, ok, r, a3, addne _ _ a1 h2, rfl⟩
  · show ((σ.heap.del id).set σ.next o').get j = _
    rw [PT.get_set_ne _ _ (Nat.ne_of_lt hj), PT.get_del_ne _ fun e => by rw [e, hp] at he; cases he]
end
end Go.Dg

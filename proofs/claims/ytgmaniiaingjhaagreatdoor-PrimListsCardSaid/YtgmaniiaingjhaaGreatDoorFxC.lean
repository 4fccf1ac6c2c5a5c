/- Laws by which simp reckons a run: memory. -/
import Derived.Test.YtgmaniiaingjhaaGreatDoorFxB
namespace Go.Dg
open Go Go.RowKit
noncomputable section

/-! ## memory that grew -/
def Ext (σ σ' : St) : Prop := σ.next ≤ σ'.next ∧ ∀ id, id < σ.next → σ'.heap.get id = σ.heap.get id
theorem Ext.refl (σ : St) : Ext σ σ := ⟨Nat.le_refl _, fun _ _ => rfl⟩
theorem Ext.trans {a b c : St} (h : Ext a b) (h' : Ext b c) : Ext a c := ⟨Nat.le_trans h.1 h'.1, fun id hid => (h'.2 id (Nat.lt_of_lt_of_le hid h.1)).trans (h.2 id hid)⟩
theorem Ext.new (σ : St) (o : Obj) : Ext σ (σ.new o) := ⟨Nat.le_succ _, fun _ hid => PT.get_set_ne _ _ (Nat.ne_of_lt hid)⟩
theorem Ext.put_new {σ σ' : St} (h : Ext σ σ') {i : Nat} (hi : σ.next ≤ i) (o : Obj) : Ext σ (σ'.put i o) :=
  ⟨h.1, fun id hid => (PT.get_set_ne _ _ (show id ≠ i by omega)).trans (h.2 id hid)⟩
theorem Ext.then_new {σ σ' : St} (h : Ext σ σ') (o : Obj) : Ext σ (σ'.new o) := h.trans (Ext.new _ _)
@[simp] theorem new_next (σ : St) (o : Obj) : (σ.new o).next = σ.next + 1 := rfl
@[simp] theorem put_next (σ : St) (i : Nat) (o : Obj) : (σ.put i o).next = σ.next := rfl
@[simp] theorem move_next (σ : St) (i : Nat) (o : Obj) : (σ.move i o).next = σ.next + 1 := rfl
@[simp] theorem new_heap (σ : St) (o : Obj) (j : Nat) : (σ.new o).heap.get j = if j = σ.next then some o else σ.heap.get j := PT.get_set _ _ _ _
@[simp] theorem put_heap (σ : St) (i : Nat) (o : Obj) (j : Nat) : (σ.put i o).heap.get j = if j = i then some o else σ.heap.get j := PT.get_set _ _ _ _
theorem get_del {α : Type} (t : PT α) (j k : Nat) : (t.del k).get j = if j = k then none else t.get j := by
  by_cases h : j = k
  · subst h; simp
  · rw [if_neg h, PT.get_del_ne t h]
@[simp] theorem move_heap (σ : St) (i : Nat) (o : Obj) (j : Nat) : (σ.move i o).heap.get j = if j = σ.next then some o else if j = i then none else σ.heap.get j := by
  simp only [St.move, PT.get_set, get_del]

/-! ## reading and writing -/
def ld1 : Option Obj → Nat → Option V
  | some (.cells _ cs _), off => cs.get off
  | _, _ => none
@[simp] theorem ld1_cells (e : TypeId) (cs : PT V) (ro : Bool) (off : Nat) : ld1 (some (.cells e cs ro)) off = cs.get off := rfl
def ldn : Option Obj → Nat → Nat → Option V
  | some (.cells _ cs _), off, n => (match cs.getL off n with
    | some l => some (.agg l)
    | none => none)
  | _, _, _ => none
@[simp] theorem ldn_cells (e : TypeId) (cs : PT V) (ro : Bool) (off n : Nat) : ldn (some (.cells e cs ro)) off n = (match cs.getL off n with
    | some l => some (.agg l)
    | none => none) := rfl
def plain : TypeDesc → Bool
  | .struct _ | .array _ _ => false
  | _ => true
def plainAt (P : Program) (t : TypeId) : Bool := match P.underlying t with
  | some d => plain d
  | none => false
def aggAt (P : Program) (t : TypeId) (n : Nat) : Bool := match P.underlying t, P.info? t with
  | some d, some i => cond (plain d) false (Nat.beq i.size n)
  | _, _ => false
def sizeAt (P : Program) (t : TypeId) (n : Nat) : Bool := match P.info? t with
  | some i => Nat.beq i.size n
  | none => false
theorem ld1_of {P : Program} {t : TypeId} (h : plainAt P t = true) (id off : Nat) (σ : St) : loadA P t id off σ = ld1 (σ.heap.get id) off := by
  unfold plainAt at h
  unfold loadA ld1
  cases hu : P.underlying t with
  | none => rw [hu] at h; cases h
  | some d =>
    rw [hu] at h
    cases hg : σ.heap.get id with
    | none => rfl
    | some o => cases o <;> first | rfl | (cases d <;> first | rfl | cases h)
theorem ldn_of {P : Program} {t : TypeId} {n : Nat} (h : aggAt P t n = true) (id off : Nat) (σ : St) : loadA P t id off σ = ldn (σ.heap.get id) off n := by
  unfold aggAt at h
  unfold loadA ldn
  split at h
  · rename_i d i hu hi
    cases hd : plain d with
    | true => rw [hd] at h; cases h
    | false =>
      rw [hd] at h
      have hn : i.size = n := Nat.eq_of_beq_eq_true h
      rw [hu, hi]
      cases hg : σ.heap.get id with
      | none => rfl
      | some o =>
        cases o <;> first | rfl | skip
        cases d <;> first | (cases hd; done) | (simp only [hn]; rfl)
  · cases h
def stn (o : Option Obj) (n id off : Nat) (v : V) (σ : St) : Option St :=
  match o with
  | some (.cells e cs false) => (match cs.getL off n with
    | some _ => cond (fits (cellsL v) n) (some (σ.put id (.cells e (cs.setL off (cellsL v)) false))) none
    | none => none)
  | _ => none
@[simp] theorem stn_cells (e : TypeId) (cs : PT V) (n id off : Nat) (v : V) (σ : St) : stn (some (.cells e cs false)) n id off v σ = (match cs.getL off n with
    | some _ => cond (fits (cellsL v) n) (some (σ.put id (.cells e (cs.setL off (cellsL v)) false))) none
    | none => none) := rfl
theorem stn_of {P : Program} {t : TypeId} {n : Nat} (h : sizeAt P t n = true) (id off : Nat) (v : V) (σ : St) : storeA P t id off v σ = stn (σ.heap.get id) n id off v σ := by
  unfold sizeAt at h
  unfold storeA stn
  split at h
  · rename_i i hi
    have hn : i.size = n := Nat.eq_of_beq_eq_true h
    rw [hi, ← hn]
    cases σ.heap.get id with
    | none => rfl
    | some o => cases o <;> first | rfl | (rename_i e cs ro; cases ro <;> rfl)
  · cases h
attribute [simp] PT.getL PT.setL_nil PT.setL_cons cellsL fits V.oneCell
attribute [simp] allocA boxA newA indexAddrA idx_int makeMapA
@[simp] theorem natV_int (k : IntKind) (i : Int) : natV (.int k i) = if 0 ≤ i then some i.toNat else none := by
  cases i with
  | ofNat j => simp only [natV]; rw [if_pos (show 0 ≤ Int.ofNat j from Int.natCast_nonneg j)]; rfl
  | negSucc j => simp only [natV]; rw [if_neg (by omega)]
attribute [simp] builtinA lenA unA
/-! ## equality of what is no number and no text -/
section
variable {P : Program} {ty e : TypeId} (x y : Operand)
@[simp] theorem eql_bool (h : P.underlying ty = some .bool) (a b : Bool) : binA P .eql ty x y (.bool a) (.bool b) = some (.bool (decide (a = b))) := by
  cases a <;> cases b <;> simp [binA, eqA, h]
@[simp] theorem neq_bool (h : P.underlying ty = some .bool) (a b : Bool) : binA P .neq ty x y (.bool a) (.bool b) = some (.bool (!decide (a = b))) := by
  cases a <;> cases b <;> simp [binA, eqA, h]
@[simp] theorem eql_ptr0 (h : P.underlying ty = some (.pointer e)) : binA P .eql ty x y .nilp .nilp = some (.bool true) := by simp [binA, eqA, h]
@[simp] theorem eql_ptr1 (h : P.underlying ty = some (.pointer e)) (i o : Nat) : binA P .eql ty x y (.ptr i o) .nilp = some (.bool false) := by simp [binA, eqA, h]
@[simp] theorem eql_ptr2 (h : P.underlying ty = some (.pointer e)) (i o : Nat) : binA P .eql ty x y .nilp (.ptr i o) = some (.bool false) := by simp [binA, eqA, h]
@[simp] theorem neq_ptr0 (h : P.underlying ty = some (.pointer e)) : binA P .neq ty x y .nilp .nilp = some (.bool false) := by simp [binA, eqA, h]
@[simp] theorem neq_ptr1 (h : P.underlying ty = some (.pointer e)) (i o : Nat) : binA P .neq ty x y (.ptr i o) .nilp = some (.bool true) := by simp [binA, eqA, h]
@[simp] theorem neq_ptr2 (h : P.underlying ty = some (.pointer e)) (i o : Nat) : binA P .neq ty x y .nilp (.ptr i o) = some (.bool true) := by simp [binA, eqA, h]
end
end
end Go.Dg

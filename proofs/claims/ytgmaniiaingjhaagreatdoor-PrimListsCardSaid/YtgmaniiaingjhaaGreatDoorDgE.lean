/- The deterministic machine, part 5: memory read and written: variables, new blocks, structs, slices. -/
import Derived.Test.YtgmaniiaingjhaaGreatDoorDgD
import Derived.Laws.IdiomCopy
import Derived.Laws.IdiomStrings
import Derived.Laws.BytesString
import Derived.Laws.MakeOwn
import Derived.Laws.Slices
namespace Go.Dg
open Go Go.RowKit
noncomputable section

def cellsL : V → List V
  | .agg l => l
  | v => [v]
theorem cellsL_rel {E : Env} {v : V} {x : Value} (h : VR E v x) : LR E (cellsL v) x.cells.toList := by
  have one : (∀ cs, x ≠ .agg cs) → cellsL v = [v] → LR E (cellsL v) x.cells.toList := by
    intro hx hv
    have e : x.cells = #[x] := by cases x <;> first | rfl | exact absurd rfl (hx _)
    rw [hv, e]; exact ⟨x, [], rfl, h, rfl⟩
  cases v with
  | agg l => simp only [VR] at h; obtain ⟨a, rfl, hl⟩ := h; exact hl
  | bool _ | int _ _ | nilp | nils | nilm | nilf | nili => simp only [VR] at h; exact one (by rw [h]; intro _ e; cases e) rfl
  | str _ _ => simp only [VR] at h; obtain ⟨_, e, _⟩ := h; exact one (by rw [e]; intro _ e; cases e) rfl
  | ptr _ _ | map _ => simp only [VR] at h; obtain ⟨_, _, e⟩ := h; exact one (by rw [e]; intro _ e; cases e) rfl
  | slice _ _ _ _ => simp only [VR] at h; obtain ⟨_, _, _, _, e, _⟩ := h; exact one (by rw [e]; intro _ e; cases e) rfl
  | func _ _ _ => simp only [VR] at h; obtain ⟨_, _, e, _⟩ := h; exact one (by rw [e]; intro _ e; cases e) rfl
  | iface _ _ => simp only [VR] at h; obtain ⟨_, e, _⟩ := h; exact one (by rw [e]; intro _ e; cases e) rfl
  | tuple _ => simp only [VR] at h; obtain ⟨_, e, _⟩ := h; exact one (by rw [e]; intro _ e; cases e) rfl

section
variable {E : Env} {σ : St} {w : World}
theorem Rel.cells (h : Rel E σ w) {id : Nat} {elem : TypeId} {cs : PT V} {ro : Bool} {p : Place} (ho : σ.heap.get id = some (.cells elem cs ro)) (hp : E id = some p) :
    ∃ (C : Array Value) (lo hi : Nat), w.heap[p.block]? = some (.cells C elem (lo, hi)) ∧ C.size = p.size ∧
      (∀ i v, cs.get i = some v → ∃ x, C[p.off + i]? = some x ∧ VR E v x) ∧ (ro = false → hi ≤ lo ∨ p.size ≤ lo) := by
  obtain ⟨ob, hb, C, lo, hi, rfl, h2, h3, h4⟩ := h.obj id _ p ho hp
  exact ⟨C, lo, hi, hb, h2, h3, h4⟩
theorem Rel.cell (h : Rel E σ w) {id : Nat} {elem : TypeId} {cs : PT V} {ro : Bool} {p : Place} (ho : σ.heap.get id = some (.cells elem cs ro)) (hp : E id = some p) {i : Nat} {v : V} (hv : cs.get i = some v) :
    ∃ x, w.cell? ⟨p.block, p.off + i, none⟩ = some x ∧ VR E v x := by
  obtain ⟨C, lo, hi, hb, _, h3, _⟩ := h.cells ho hp
  obtain ⟨x, hx, hr⟩ := h3 i v hv
  exact ⟨x, by simp [World.cell?, hb, hx], hr⟩
theorem Rel.range (h : Rel E σ w) {id : Nat} {elem : TypeId} {cs : PT V} {ro : Bool} {p : Place} (ho : σ.heap.get id = some (.cells elem cs ro)) (hp : E id = some p) {off : Nat} :
    ∀ {n : Nat} {l : List V}, cs.getL off n = some l → ∃ xs : List Value, LR E l xs ∧ ∀ (j : Nat) (x : Value), xs[j]? = some x → w.cell? ⟨p.block, p.off + off + j, none⟩ = some x := by
  intro n l hl
  obtain ⟨h1, h2⟩ := PT.getL_spec cs n off l hl
  clear hl h1
  induction l generalizing off with
  | nil => exact ⟨[], rfl, fun j x hj => by simp at hj⟩
  | cons v l ih =>
    obtain ⟨x, hx, hr⟩ := h.cell ho hp (by simpa using h2 0 v rfl)
    obtain ⟨xs, hxs, hc⟩ := ih (off := off + 1) (fun j y hj => by have := h2 (j + 1) y (by simpa using hj); rwa [show off + (j + 1) = off + 1 + j by omega] at this)
    refine ⟨x :: xs, ⟨x, xs, rfl, hr, hxs⟩, fun j y hj => ?_⟩
    cases j with
    | zero => simp at hj; subst hj; exact hx
    | succ j => have := hc j y (by simpa using hj); rwa [show p.off + off + (j + 1) = p.off + (off + 1) + j by omega]
theorem add_lit (b o j : Nat) : (⟨b, o, none⟩ : Addr).add j = ⟨b, o + j, none⟩ := by
  unfold Addr.add; split <;> simp_all
theorem run_loadRange (P : Program) (b o : Nat) (xs : List Value) (h : ∀ (j : Nat) (x : Value), xs[j]? = some x → w.cell? ⟨b, o + j, none⟩ = some x) :
    (loadCells ⟨b, o, none⟩ xs.length).run P w = .ok xs.toArray w :=
  run_loadCells_list w _ xs fun j v hj => by rw [add_lit]; exact h j v hj

/-! ## a variable read -/
def loadA (P : Program) (t : TypeId) (id off : Nat) (σ : St) : Option V :=
  match σ.heap.get id with
  | some (.cells _ cs _) => match P.underlying t with
    | some (.struct _) | some (.array _ _) => (match P.info? t with
      | some i => (match cs.getL off i.size with
        | some l => some (.agg l)
        | none => none)
      | none => none)
    | some _ => cs.get off
    | none => none
  | _ => none
theorem loadA_run {P : Program} (h : Rel E σ w) {t : TypeId} {id off : Nat} {v : V} {p : Place} (hp : E id = some p) (hl : loadA P t id off σ = some v) :
    ∃ x, (loadVar t ⟨p.block, p.off + off, none⟩).run P w = .ok x w ∧ VR E v x := by
  unfold loadA at hl
  split at hl
  · rename_i elem cs ro ho
    cases hu : P.underlying t with
    | none => rw [hu] at hl; cases hl
    | some d =>
      rw [hu] at hl
      have agg : (∀ (i : TypeInfo) (xs : List Value), P.info? t = some i → i.size = xs.length → (∀ (j : Nat) (x : Value), xs[j]? = some x → w.cell? ⟨p.block, p.off + off + j, none⟩ = some x) → (loadVar t ⟨p.block, p.off + off, none⟩).run P w = .ok (.agg xs.toArray) w) →
          (match P.info? t with | some i => (match cs.getL off i.size with | some l => some (V.agg l) | none => none) | none => none) = some v →
          ∃ x, (loadVar t ⟨p.block, p.off + off, none⟩).run P w = .ok x w ∧ VR E v x := by
        intro hr hl
        cases hi : P.info? t with
        | none => rw [hi] at hl; cases hl
        | some i =>
          rw [hi] at hl; simp only at hl
          cases hg : cs.getL off i.size with
          | none => rw [hg] at hl; cases hl
          | some l =>
            rw [hg] at hl; simp only [Option.some.injEq] at hl; subst hl
            obtain ⟨xs, hxs, hc⟩ := h.range ho hp hg
            have hlen := (PT.getL_spec cs _ _ _ hg).1
            exact ⟨_, hr i xs hi (by rw [hxs.length, hlen]) hc, by simp only [VR]; exact ⟨_, rfl, by simpa using hxs⟩⟩
      have one : (∀ x, w.cell? ⟨p.block, p.off + off, none⟩ = some x → (loadVar t ⟨p.block, p.off + off, none⟩).run P w = .ok x w) → cs.get off = some v →
          ∃ x, (loadVar t ⟨p.block, p.off + off, none⟩).run P w = .ok x w ∧ VR E v x := by
        intro hr hl
        obtain ⟨x, hx, hr'⟩ := h.cell ho hp hl
        exact ⟨x, hr x hx, hr'⟩
      cases d <;> first
        | (refine agg (fun i xs hi hs hc => ?_) hl; have := run_loadRange P p.block (p.off + off) xs hc; simp [loadVar, isAgg, run_underlying hu, sizeOf, typeInfo, hi, hs, this])
        | (refine one (fun x hx => ?_) hl; simp [loadVar, isAgg, run_underlying hu, hx])
  · cases hl

/-! ## cells written -/
def wr (C : Array Value) : Nat → List Value → Array Value
  | _, [] => C
  | o, v :: r => wr (C.setIfInBounds o v) (o + 1) r
theorem wr_size : ∀ (vs : List Value) (o : Nat) (C : Array Value), (wr C o vs).size = C.size
  | [], _, _ => rfl
  | v :: r, o, C => by rw [wr, wr_size r]; simp
theorem wr_get : ∀ (vs : List Value) (o : Nat) (C : Array Value) (j : Nat), (wr C o vs)[j]? = if o ≤ j ∧ j < o + vs.length ∧ j < C.size then vs[j - o]? else C[j]?
  | [], o, C, j => by rw [wr, if_neg (by simp only [List.length_nil]; omega)]
  | v :: r, o, C, j => by
    rw [wr, wr_get r]
    simp only [Array.size_setIfInBounds, List.length_cons]
    by_cases h1 : o + 1 ≤ j ∧ j < o + 1 + r.length ∧ j < C.size
    · rw [if_pos h1, if_pos (by omega), show j - o = (j - (o + 1)) + 1 by omega, List.getElem?_cons_succ]
    · rw [if_neg h1, Array.getElem?_setIfInBounds]
      by_cases h2 : o = j
      · subst h2
        by_cases h3 : o < C.size
        · rw [if_pos (show o ≤ o ∧ o < o + (r.length + 1) ∧ o < C.size from ⟨Nat.le_refl _, by omega, h3⟩)]; simp [h3]
        · rw [if_neg (show ¬ (o ≤ o ∧ o < o + (r.length + 1) ∧ o < C.size) by omega)]; simp [h3]
      · rw [if_neg h2, if_neg (by omega)]
theorem setCells_heap (b : Nat) : ∀ (vs : List Value) (o : Nat) (w : World) (C : Array Value) (e : TypeId) (fr : Nat × Nat), w.heap[b]? = some (.cells C e fr) → (w.setCells b o vs).heap[b]? = some (.cells (wr C o vs) e fr)
  | [], _, _, _, _, _, h => h
  | v :: r, o, w, C, e, fr, h => by
    rw [World.setCells, wr]
    refine setCells_heap b r (o + 1) _ _ e fr ?_
    rw [setCell_eq_setRow w b o C e fr v h]
    exact setRow_heap w b C _ e fr h
theorem setCells_other (b : Nat) : ∀ (vs : List Value) (o : Nat) (w : World) (k : Nat), k ≠ b → (w.setCells b o vs).heap[k]? = w.heap[k]?
  | [], _, _, _, _ => rfl
  | v :: r, o, w, k, h => by rw [World.setCells, setCells_other b r _ _ k h]; exact Below.heap_setCell _ _ _ _ h
theorem setCells_size (b : Nat) : ∀ (vs : List Value) (o : Nat) (w : World), (w.setCells b o vs).heap.size = w.heap.size
  | [], _, _ => rfl
  | v :: r, o, w => by rw [World.setCells, setCells_size b r]; simp
theorem setCells_rest (b : Nat) : ∀ (vs : List Value) (o : Nat) (w : World), (w.setCells b o vs).os = w.os ∧ (w.setCells b o vs).tape = w.tape ∧ (w.setCells b o vs).output = w.output
  | [], _, _ => ⟨rfl, rfl, rfl⟩
  | v :: r, o, w => by rw [World.setCells]; exact setCells_rest b r _ _
theorem LR.oneCell : ∀ {l : List V} {xs : List Value}, LR E l xs → l.all V.oneCell = true → ∀ x ∈ xs, x.oneCell' = true
  | [], _, h, _ => by simp only [LR] at h; subst h; simp
  | v :: l, _, h, hl => by
    simp only [LR] at h; obtain ⟨x, xs, rfl, h1, h2⟩ := h
    simp only [List.all_cons, Bool.and_eq_true] at hl
    intro y hy
    rcases List.mem_cons.1 hy with rfl | hy
    · exact h1.oneCell hl.1
    · exact LR.oneCell h2 hl.2 y hy
/-- storeCells runs, where the block is wide enough and none of the cells is frozen -/
theorem storeCells_run (P : Program) {b o : Nat} {C : Array Value} {e : TypeId} {lo hi : Nat} (hb : w.heap[b]? = some (.cells C e (lo, hi))) {xs : List Value} (hx : ∀ x ∈ xs, x.oneCell' = true)
    (hsz : o + xs.length ≤ C.size) (hfr : hi ≤ lo ∨ C.size ≤ lo) : (storeCells ⟨b, o, none⟩ xs).run P w = .ok () (w.setCells b o xs) := by
  have := run_storeCells_cells (P := P) b o xs 0 w (fun j hj => ?_) (fun j hj => ?_) hx
  · simpa using this
  · have : o + 0 + j < C.size := by omega
    simp only [World.cell?, hb]; simp; omega
  · simp only [World.frozen?, hb]; simp; omega
/-- the abstract tree behind it -/
theorem wr_rel {p : Place} {cs : PT V} {C : Array Value} (hs : C.size = p.size) (hC : ∀ i v, cs.get i = some v → ∃ x, C[p.off + i]? = some x ∧ VR E v x) {l : List V} {xs : List Value} (hl : LR E l xs) {off : Nat} (hsz : p.off + off + xs.length ≤ p.size) :
    ∀ i v, (cs.setL off l).get i = some v → ∃ x, (wr C (p.off + off) xs)[p.off + i]? = some x ∧ VR E v x := by
  intro i v hv
  rw [PT.get_setL] at hv
  have hlen := hl.length
  rw [wr_get]
  split at hv
  · rename_i h
    rw [if_pos (by omega), show p.off + i - (p.off + off) = i - off by omega]
    exact hl.get _ hv
  · rename_i h
    rw [if_neg (by omega)]
    exact hC i v hv
/-- as many cells as a variable has, none of them a struct -/
def fits (l : List V) (n : Nat) : Bool := cond (Nat.beq l.length n) (cond (Nat.ble 1 n) (l.all V.oneCell) false) false
theorem fits_spec {l : List V} {n : Nat} (h : fits l n = true) : l.length = n ∧ 0 < n ∧ l.all V.oneCell = true := by
  unfold fits at h
  cases h1 : Nat.beq l.length n with
  | false => rw [h1] at h; cases h
  | true =>
    cases h2 : Nat.ble 1 n with
    | false => rw [h1, h2] at h; cases h
    | true => rw [h1, h2] at h; exact ⟨Nat.eq_of_beq_eq_true h1, Nat.le_of_ble_eq_true h2, h⟩
def storeA (P : Program) (t : TypeId) (id off : Nat) (v : V) (σ : St) : Option St :=
  match σ.heap.get id, P.info? t with
  | some (.cells e cs false), some i => match cs.getL off i.size with
    | some _ => cond (fits (cellsL v) i.size) (some (σ.put id (.cells e (cs.setL off (cellsL v)) false))) none
    | none => none
  | _, _ => none
theorem storeA_run {P : Program} (h : Rel E σ w) {t : TypeId} {id off : Nat} {v : V} {p : Place} (hp : E id = some p) {x : Value} (hv : VR E v x) {σ' : St} (hl : storeA P t id off v σ = some σ') :
    ∃ w', (storeVar t ⟨p.block, p.off + off, none⟩ x).run P w = .ok () w' ∧ Step E σ w E σ' w' := by
  unfold storeA at hl
  split at hl
  · rename_i e cs i ho hi
    cases hg : cs.getL off i.size with
    | none => rw [hg] at hl; cases hl
    | some old =>
      rw [hg] at hl; simp only at hl
      cases hc : fits (cellsL v) i.size with
      | false => rw [hc] at hl; cases hl
      | true =>
        rw [hc] at hl; simp only [cond_true, Option.some.injEq] at hl; subst hl
        obtain ⟨hlen, hpos, hone⟩ := fits_spec hc
        have hcl := cellsL_rel hv
        have hxl : x.cells.toList.length = (cellsL v).length := by rw [hcl.length]
        obtain ⟨C, lo, hi', hb, hs, hC, hfr⟩ := h.cells ho hp
        obtain ⟨h1, h2⟩ := PT.getL_spec cs _ _ _ hg
        have hsz : p.off + off + x.cells.toList.length ≤ p.size := by
          have hlast : i.size - 1 < old.length := by omega
          obtain ⟨y, hy, _⟩ := hC _ _ (h2 (i.size - 1) _ (List.getElem?_eq_getElem hlast))
          have := (Array.getElem?_eq_some_iff.1 hy).1
          omega
        have hrun := storeCells_run P hb (hcl.oneCell hone) (o := p.off + off) (by rw [hs]; exact hsz) (by rw [hs]; exact hfr rfl)
        refine ⟨w.setCells p.block (p.off + off) x.cells.toList, ?_, Step.put h ho hp (setCells_size _ _ _ _) (setCells_rest _ _ _ _).1 (setCells_rest _ _ _ _).2.1 (setCells_rest _ _ _ _).2.2 (setCells_heap _ _ _ _ _ _ _ hb) (fun k hk => setCells_other _ _ _ _ _ hk) ?_⟩
        · have hxs : x.cells.size = i.size := by rw [← hlen]; simpa using hxl
          simp [storeVar, sizeOf, typeInfo, hi, hxs, hrun]
        · exact ⟨_, lo, hi', rfl, by rw [wr_size, hs], wr_rel hs hC hcl hsz, hfr⟩
  · cases hl
end
end
end Go.Dg

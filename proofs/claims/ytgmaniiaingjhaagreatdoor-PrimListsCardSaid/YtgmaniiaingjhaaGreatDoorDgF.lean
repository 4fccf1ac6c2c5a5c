/- The deterministic machine, part 6: new blocks; structs and arrays put together; addresses. -/
import Derived.Test.YtgmaniiaingjhaaGreatDoorDgE
namespace Go.Dg
open Go Go.RowKit
noncomputable section
section
variable {E : Env} {σ : St} {w : World} {P : Program}

/-- a new row of cells -/
def newA (elem : TypeId) (l : List V) (σ : St) : St := σ.new (.cells elem (PT.setL .leaf 0 l) false)
theorem ObjR_new {E : Env} {p : Place} {elem : TypeId} {l : List V} {C : Array Value} (hl : LR E l C.toList) (hp : p.off = 0) (hs : p.size = C.size) : ObjR E p (.cells elem (PT.setL .leaf 0 l) false) (.cells C elem (0, 0)) := by
  refine ⟨C, 0, 0, rfl, hs.symm, fun i v hv => ?_, fun _ => .inl (Nat.le_refl _)⟩
  rw [PT.get_setL] at hv
  split at hv
  · obtain ⟨x, hx, hr⟩ := hl.get _ hv
    exact ⟨x, by rw [hp]; simpa using hx, hr⟩
  · simp at hv
/-- more cells behind -/
theorem ObjR_more {E : Env} {p : Place} {elem : TypeId} {l : List V} {C D : Array Value} {lo hi : Nat} (hl : LR E l C.toList) (hp : p.off = 0) (hs : p.size = (C ++ D).size) (hf : hi ≤ lo ∨ p.size ≤ lo) :
    ObjR E p (.cells elem (PT.setL .leaf 0 l) false) (.cells (C ++ D) elem (lo, hi)) := by
  refine ⟨C ++ D, lo, hi, rfl, hs.symm, fun i v hv => ?_, fun _ => hf⟩
  rw [PT.get_setL] at hv
  split at hv
  · rename_i h
    obtain ⟨x, hx, hr⟩ := hl.get _ hv
    refine ⟨x, ?_, hr⟩
    rw [hp]
    simp only [Nat.sub_zero, Nat.zero_add] at hx ⊢
    have : i < C.size := by have := (List.getElem?_eq_some_iff.1 hx).1; simpa using this
    rw [Array.getElem?_append_left this]; simpa using hx
  · simp at hv
theorem newA_step (h : Rel E σ w) (elem : TypeId) {l : List V} {C : Array Value} (hl : LR E l C.toList) :
    Step E σ w (E.add σ.next ⟨w.heap.size, 0, C.size⟩) (newA elem l σ) (w.alloc (.cells C elem (0, 0))) :=
  Step.new h rfl (ObjR_new (hl.mono (Env.le_add (h.fresh _ (Nat.le_refl _))) l) rfl rfl)

def zeroV (P : Program) (t : TypeId) : Option V :=
  match P.info? t with
  | some i => match i.zero with
    | some z => ofValue z
    | none => none
  | none => none
theorem zeroV_spec {t : TypeId} {v : V} (h : zeroV P t = some v) : ∃ i z, P.info? t = some i ∧ i.zero = some z ∧ (∀ w, (zeroValue t).run P w = .ok z w) ∧ ∀ E, VR E v z := by
  unfold zeroV at h
  cases hi : P.info? t with
  | none => rw [hi] at h; cases h
  | some i =>
    rw [hi] at h; simp only at h
    cases hz : i.zero with
    | none => rw [hz] at h; cases h
    | some z =>
      rw [hz] at h; simp only at h
      exact ⟨i, z, rfl, hz, fun w => by simp [zeroValue, typeInfo, hi, hz], fun E => ofValue_rel E h⟩
/-- what an operation comes to -/
def Gives (P : Program) (E : Env) (σ : St) (w : World) (s : Sem Value) (v : V) (σ' : St) : Prop :=
  ∃ x E' w', s.run P w = .ok x w' ∧ Step E σ w E' σ' w' ∧ VR E' v x
theorem Gives.quiet {s : Sem Value} {v : V} {x : Value} (h : Rel E σ w) (hr : s.run P w = .ok x w) (hv : VR E v x) : Gives P E σ w s v σ :=
  ⟨x, E, w, hr, Step.refl h, hv⟩

def boxA (elem : TypeId) (v : V) (σ : St) : V × St := (.ptr σ.next 0, newA elem (cellsL v) σ)
/-- one new block, whenever it is made -/
def Makes (P : Program) (E : Env) (w : World) (s : Sem Value) (v : V) (k : Nat) (obj : Obj) : Prop :=
  ∃ x w1 ob n, s.run P w = .ok x (w1.alloc ob) ∧ (w1 = w ∨ w1 = w.drew) ∧ ∀ E' : Env, E.le E' → E' k = some ⟨w.heap.size, 0, n⟩ → VR E' v x ∧ ObjR E' ⟨w.heap.size, 0, n⟩ obj ob
def Made (P : Program) (E : Env) (σ : St) (w : World) (s : Sem Value) (v : V) (σ' : St) : Prop :=
  ∃ obj, σ' = σ.new obj ∧ Makes P E w s v σ.next obj
theorem Made.gives {s : Sem Value} {v : V} {σ' : St} (h : Rel E σ w) (hm : Made P E σ w s v σ') : Gives P E σ w s v σ' := by
  obtain ⟨obj, rfl, x, w1, ob, n, hrun, hw, hf⟩ := hm
  have hle : E.le (E.add σ.next ⟨w.heap.size, 0, n⟩) := Env.le_add (h.fresh _ (Nat.le_refl _))
  obtain ⟨h1, h2⟩ := hf _ hle (by simp [Env.add])
  rcases hw with rfl | rfl
  · exact ⟨x, _, _, hrun, Step.new h rfl h2, h1⟩
  · exact ⟨x, _, _, hrun, (Step.drew h).trans (Step.new h.drew rfl h2), h1⟩
theorem boxA_made (σ : St) (elem : TypeId) {v : V} {x : Value} (hv : VR E v x) : Made P E σ w (Instr.box elem x) (boxA elem v σ).1 (boxA elem v σ).2 := by
  refine ⟨_, rfl, .pointer (some ⟨w.heap.size, 0, none⟩), w, .cells x.cells elem (0, 0), x.cells.size, ?_, .inl rfl, fun E' hle hk => ⟨?_, ObjR_new ((cellsL_rel hv).mono hle _) rfl rfl⟩⟩
  · simp [Instr.box, newVar, newRow]
  · simp only [boxA, VR]; exact ⟨⟨w.heap.size, 0, x.cells.size⟩, hk, rfl⟩
theorem boxA_run (h : Rel E σ w) (elem : TypeId) {v : V} {x : Value} (hv : VR E v x) : Gives P E σ w (Instr.box elem x) (boxA elem v σ).1 (boxA elem v σ).2 := (boxA_made σ elem hv).gives h
def allocA (P : Program) (elem : TypeId) (σ : St) : Option (V × St) :=
  match zeroV P elem with
  | some z => some (boxA elem z σ)
  | none => none
theorem allocA_made {elem : TypeId} {v : V} {σ σ' : St} (hl : allocA P elem σ = some (v, σ')) : Made P E σ w (Instr.alloc elem true (.tuple #[])) v σ' := by
  unfold allocA at hl
  cases hz : zeroV P elem with
  | none => rw [hz] at hl; cases hl
  | some z =>
    rw [hz] at hl; simp only [Option.some.injEq] at hl
    obtain ⟨i, y, _, _, hrun, hr⟩ := zeroV_spec hz
    have e1 : v = (boxA elem z σ).1 := by rw [hl]
    have e2 : σ' = (boxA elem z σ).2 := by rw [hl]
    obtain ⟨obj, ho, x, w1, ob, n, hx, hs, hv⟩ := boxA_made (P := P) (E := E) (w := w) σ elem (hr E)
    refine ⟨obj, e2 ▸ ho, x, w1, ob, n, ?_, hs, e1 ▸ hv⟩
    simp only [Instr.alloc, Sem.run_bind, hrun, Result.andThen_ok]
    simpa [Instr.box] using hx
theorem allocA_run (h : Rel E σ w) {elem : TypeId} {v : V} {σ' : St} (hl : allocA P elem σ = some (v, σ')) : Gives P E σ w (Instr.alloc elem true (.tuple #[])) v σ' := (allocA_made hl).gives h

/-! ## structs and arrays -/
/-- a tree against cells -/
def FR (E : Env) (tr : PT V) (C : Array Value) : Prop := ∀ i v, tr.get i = some v → ∃ x, C[i]? = some x ∧ VR E v x
def fillA (place : Nat → Option (Nat × Nat)) (n : Nat) : PT V → List (Nat × V) → Option (PT V)
  | tr, [] => some tr
  | tr, (i, v) :: rest => match place i with
    | none => none
    | some (off, size) => cond (Nat.beq (cellsL v).length size) (cond (Nat.ble (Nat.add off size) n) (fillA place n (tr.setL off (cellsL v)) rest) none) none
def PR (E : Env) : List (Nat × V) → List (Nat × Value) → Prop
  | [], l => l = []
  | (i, v) :: ps, l => ∃ x xs, l = (i, x) :: xs ∧ VR E v x ∧ PR E ps xs
theorem foldl_wr (cs : List Value) : ∀ (C : Array Value) (off k : Nat), ((cs.zipIdx k).foldl (fun a (cj : Value × Nat) => a.setIfInBounds (off + cj.2) cj.1) C) = wr C (off + k) cs := by
  induction cs with
  | nil => intro C off k; rfl
  | cons c cs ih => intro C off k; simp only [List.zipIdx_cons, List.foldl_cons, wr]; rw [ih, Nat.add_assoc]
theorem fill_wr (cells cs : Array Value) (off : Nat) : (cs.zipIdx.foldl (fun a (c, j) => a.setIfInBounds (off + j) c) cells) = wr cells off cs.toList := by
  rw [← Array.foldl_toList]
  have := foldl_wr cs.toList cells off 0
  simpa using this
theorem fillA_run (place : Nat → Option (Nat × Nat)) (n : Nat) : ∀ (ps : List (Nat × V)) (tr tr' : PT V) (C : Array Value) (xs : List (Nat × Value)), FR E tr C → C.size = n → PR E ps xs → fillA place n tr ps = some tr' →
    ∃ C', Instr.fill place C xs = some C' ∧ FR E tr' C' ∧ C'.size = n
  | [], tr, tr', C, xs, hf, hn, hp, h => by
    simp only [PR] at hp; subst hp
    simp only [fillA, Option.some.injEq] at h; subst h
    exact ⟨C, rfl, hf, hn⟩
  | (i, v) :: ps, tr, tr', C, xs, hf, hn, hp, h => by
    simp only [PR] at hp; obtain ⟨x, xs, rfl, hv, hps⟩ := hp
    simp only [fillA] at h
    cases hpl : place i with
    | none => rw [hpl] at h; cases h
    | some os =>
      obtain ⟨off, size⟩ := os
      rw [hpl] at h; simp only at h
      cases h1 : Nat.beq (cellsL v).length size with
      | false => rw [h1] at h; cases h
      | true =>
        cases h2 : Nat.ble (Nat.add off size) n with
        | false => rw [h1, h2] at h; cases h
        | true =>
          rw [h1, h2] at h; simp only [cond_true] at h
          have e1 := Nat.eq_of_beq_eq_true h1
          have e2 : off + size ≤ n := Nat.le_of_ble_eq_true h2
          have hc := cellsL_rel hv
          have hlen : x.cells.toList.length = size := by rw [hc.length, e1]
          have hlen' : x.cells.size = size := by simpa using hlen
          have hf' : FR E (tr.setL off (cellsL v)) (wr C off x.cells.toList) := by
            have := wr_rel (E := E) (p := ⟨0, 0, n⟩) (cs := tr) (C := C) hn (fun i v hv => by simpa using hf i v hv) hc (off := off) (by simp only [Nat.zero_add]; omega)
            intro j u hu
            simpa using this j u hu
          obtain ⟨C', hC', hfr, hn'⟩ := fillA_run place n ps _ tr' (wr C off x.cells.toList) xs hf' (by rw [wr_size, hn]) hps h
          refine ⟨C', ?_, hfr, hn'⟩
          simp only [Instr.fill, hpl]
          rw [if_neg (by rw [hlen', hn]; simp; omega), fill_wr]
          exact hC'
def placesL (P : Program) (fs : List Field) : Option (List (Nat × Nat)) := mapO (fun f : Field => match P.info? f.type with | some i => some (f.offset, i.size) | none => none) fs
theorem placesL_eq (fs : List Field) : placesL P fs = fs.mapM (fun f => (P.info? f.type).map fun i => (f.offset, i.size)) := by
  unfold placesL
  induction fs with
  | nil => rfl
  | cons f fs ih =>
    rw [mapO_cons, ih]
    cases hi : P.info? f.type <;> simp [List.mapM_cons, hi]
def buildA (P : Program) (t : TypeId) (parts : List (Nat × V)) : Option V :=
  match P.info? t, P.underlying t with
  | some it, some (.array _ e) =>
    (match it.zero, P.info? e with
    | some z, some ie => (match mapO ofValue z.cells.toList with
      | some zl => (match fillA (fun i => some (Nat.mul i ie.size, ie.size)) zl.length (PT.setL .leaf 0 zl) parts with
        | some tr => (match tr.getL 0 zl.length with
          | some l => some (.agg l)
          | none => none)
        | none => none)
      | none => none)
    | _, _ => none)
  | some it, some (.struct fields) =>
    (match it.zero, placesL P fields.toList with
    | some z, some places => (match mapO ofValue z.cells.toList with
      | some zl => (match fillA (fun i => places[i]?) zl.length (PT.setL .leaf 0 zl) parts with
        | some tr => (match tr.getL 0 zl.length with
          | some l => some (.agg l)
          | none => none)
        | none => none)
      | none => none)
    | _, _ => none)
  | _, _ => none
theorem FR_setL {l : List V} {C : Array Value} (hl : LR E l C.toList) : FR E (PT.setL .leaf 0 l) C := by
  intro i v hv
  rw [PT.get_setL] at hv
  split at hv
  · obtain ⟨x, hx, hr⟩ := hl.get _ hv
    exact ⟨x, by simpa using hx, hr⟩
  · simp at hv
theorem FR_getL {tr : PT V} {C : Array Value} (h : FR E tr C) {l : List V} (hl : tr.getL 0 C.size = some l) : LR E l C.toList := by
  obtain ⟨h1, h2⟩ := PT.getL_spec tr _ _ _ hl
  refine LR.intro (by simpa using h1.symm) fun i v hv => ?_
  obtain ⟨x, hx, hr⟩ := h i v (by simpa using h2 i v hv)
  exact ⟨x, by simpa using hx, hr⟩
theorem LR_zero {C : Array Value} {zl : List V} (h : mapO ofValue C.toList = some zl) : LR E zl C.toList := LR_of_mapO (fun _ _ h => ofValue_rel E h) h
theorem build_aux {place : Nat → Option (Nat × Nat)} {C : Array Value} {zl : List V} (hz : mapO ofValue C.toList = some zl) {ps : List (Nat × V)} {xs : List (Nat × Value)} (hp : PR E ps xs) {v : V}
    (h : (match fillA place zl.length (PT.setL .leaf 0 zl) ps with | some tr => (match tr.getL 0 zl.length with | some l => some (V.agg l) | none => none) | none => none) = some v) :
    ∃ C', Instr.fill place C xs = some C' ∧ VR E v (.agg C') := by
  have hl := LR_zero (E := E) hz
  have hs : C.size = zl.length := by have := hl.length; simpa using this
  cases hf : fillA place zl.length (PT.setL .leaf 0 zl) ps with
  | none => rw [hf] at h; cases h
  | some tr =>
    rw [hf] at h; simp only at h
    obtain ⟨C', h1, h2, h3⟩ := fillA_run place _ ps _ tr C xs (FR_setL hl) hs hp hf
    cases hg : tr.getL 0 zl.length with
    | none => rw [hg] at h; cases h
    | some l =>
      rw [hg] at h; simp only [Option.some.injEq] at h; subst h
      exact ⟨C', h1, by simp only [VR]; exact ⟨C', rfl, FR_getL h2 (by rw [h3]; exact hg)⟩⟩
theorem buildA_run (w : World) {t : TypeId} {ps : List (Nat × V)} {parts : Array (Nat × Value)} (hp : PR E ps parts.toList) {v : V} (h : buildA P t ps = some v) :
    ∃ x, (Instr.build t parts).run P w = .ok x w ∧ VR E v x := by
  have key : ∀ C, P.built t parts.toList = some C → VR E v (.agg C) → ∃ x, (Instr.build t parts).run P w = .ok x w ∧ VR E v x := fun C hC hv => ⟨_, run_build w t parts C hC, hv⟩
  unfold buildA at h
  split at h
  · rename_i it n e hi hu
    split at h
    · rename_i z ie hz hie
      cases hm : mapO ofValue z.cells.toList with
      | none => rw [hm] at h; cases h
      | some zl =>
        rw [hm] at h; simp only at h
        obtain ⟨C', h1, h2⟩ := build_aux hm hp h
        refine key C' ?_ h2
        simp only [Program.built, hi, hu, hz, hie]; exact h1
    · cases h
  · rename_i it fields hi hu
    split at h
    · rename_i z places hz hpl
      cases hm : mapO ofValue z.cells.toList with
      | none => rw [hm] at h; cases h
      | some zl =>
        rw [hm] at h; simp only at h
        obtain ⟨C', h1, h2⟩ := build_aux hm hp h
        refine key C' ?_ h2
        rw [placesL_eq] at hpl
        simp only [Program.built, hi, hu, hz, hpl]
        have : (fun i : Nat => places[i]?) = (fun i : Nat => places.toArray[i]?) := by funext i; simp
        rw [this] at h1; exact h1
    · cases h
  · cases h
end
end
end Go.Dg

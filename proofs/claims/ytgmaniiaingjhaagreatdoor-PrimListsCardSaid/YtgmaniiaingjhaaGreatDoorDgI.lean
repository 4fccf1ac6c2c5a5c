/- The deterministic machine, part 9: maps, texts walked through, conversions, what is made. -/
import Derived.Test.YtgmaniiaingjhaaGreatDoorDgH
import Derived.Laws.RangeString
import Derived.MapKept
namespace Go.Dg
open Go Go.RowKit
noncomputable section
section
variable {E : Env} {σ : St} {w : World} {P : Program}

theorem appendA_run (h : Rel E σ w) {st xt ty : TypeId} {s x : V} {sy xy : Value} (hs : VR E s sy) (hx : VR E x xy) {v : V} {σ' : St} (hv : appendA P st xt s x σ = some (v, σ')) :
    Gives P E σ w (Builtin.append_ #[st, xt] ty #[sy, xy]) v σ' := by
  unfold appendA at hv
  split at hv
  · rename_i elem k hst hxt
    split at hv
    · rename_i it z n hi hz hn
      obtain ⟨q3, q4⟩ := cond_some hv
      obtain ⟨q5, q6⟩ := cond_and q3
      obtain ⟨q7, q8⟩ := cond_and q6
      obtain ⟨i, zv, hi', hz', _, hzr⟩ := zeroV_spec hz
      rw [hi] at hi'; cases hi'
      have hcl := cellsL_rel (hzr E)
      have hzs : zv.cells.size = it.size := by
        have h1 := hcl.length
        have h2 := Nat.eq_of_beq_eq_true q7
        simp only [Array.length_toList] at h1; omega
      obtain ⟨k', rfl⟩ := natV_spec hn hx
      obtain ⟨r1, r2⟩ := room_spec q8
      have hrep := LR_rep hcl n
      refine appendC_run h (src_zeros_room hst hxt hi hz' hzs r1 r2) (src_zeros_new hst hxt hi hz' hzs r1 r2) hzs (Nat.le_of_ble_eq_true q5) hs ?_ hrep q4
      rw [repL_length, Nat.eq_of_beq_eq_true q7]
    · cases hv
  · rename_i elem d hni hst hxt
    obtain ⟨q1, q2⟩ := cond_some hv
    split at q2
    · rename_i it z hi hz
      obtain ⟨q3, q4⟩ := cond_some q2
      obtain ⟨q5, q6⟩ := cond_and q3
      split at q4
      · rename_i n new hsrc
        obtain ⟨q7, q8⟩ := cond_some q4
        obtain ⟨i, zv, hi', hz', _, hzr⟩ := zeroV_spec hz
        rw [hi] at hi'; cases hi'
        have hzs : zv.cells.size = it.size := by
          have h1 := (cellsL_rel (hzr E)).length
          have h2 := Nat.eq_of_beq_eq_true q6
          simp only [Array.length_toList] at h1; omega
        obtain ⟨a1, a2, xs, a3, a4⟩ := srcA_run (P := P) h hx hsrc (fun m c e => by subst e; exact Nat.eq_of_beq_eq_true q7)
        exact appendC_run h (fun base len c w' hroom hstore => run_append_room hst hxt q1 hi a1 (a4 w rfl) hroom hstore)
          (fun base len c olds hfo hroom r1 r2 => run_append_new hst hxt q1 hi hz' a1 (a4 w.drew rfl) hfo hroom r1 r2) hzs (Nat.le_of_ble_eq_true q5) hs a2 a3 q8
      · cases q4
    · cases q2
  · cases hv

/-! ## make -/
def makeSliceA (P : Program) (t : TypeId) (l c : V) (σ : St) : Option (V × St) :=
  match P.underlying t, natV l, natV c with
  | some (.slice elem), some n, some m => (match P.info? elem, zeroV P elem with
    | some it, some z => cond (cond (Nat.beq (cellsL z).length it.size) (cond (Nat.ble n m) (cond (Nat.ble (Nat.mul it.bytes m) 281474976710656) (Nat.ble m 9223372036854775807) false) false) false)
        (some (.slice σ.next 0 n (.exact m), newA elem (repL (cellsL z) m) σ)) none
    | _, _ => none)
  | _, _, _ => none
theorem makeSliceA_made {σ : St} {t : TypeId} {l c : V} {ly cy : Value} (hl : VR E l ly) (hc : VR E c cy) {v : V} {σ' : St} (hv : makeSliceA P t l c σ = some (v, σ')) : Made P E σ w (Instr.makeSlice t ly cy) v σ' := by
  unfold makeSliceA at hv
  split at hv
  · rename_i elem n m hu hn hm
    split at hv
    · rename_i it z hi hz
      obtain ⟨q1, q2⟩ := cond_some hv
      obtain ⟨q3, q4⟩ := cond_and q1
      obtain ⟨q5, q6⟩ := cond_and q4
      obtain ⟨q7, q8⟩ := cond_and q6
      simp only [Option.some.injEq, Prod.mk.injEq] at q2; obtain ⟨rfl, rfl⟩ := q2
      obtain ⟨kl, rfl⟩ := natV_spec hn hl
      obtain ⟨kc, rfl⟩ := natV_spec hm hc
      obtain ⟨i, zv, hi', hz', _, hzr⟩ := zeroV_spec hz
      rw [hi] at hi'; cases hi'
      have hcl := cellsL_rel (hzr E)
      have hzs : zv.cells.size = it.size := by
        have h1 := hcl.length
        have h2 := Nat.eq_of_beq_eq_true q3
        simp only [Array.length_toList] at h1; omega
      have b1 : n ≤ m := Nat.le_of_ble_eq_true q5
      have b2 : it.bytes * m ≤ 281474976710656 := Nat.le_of_ble_eq_true q7
      have b3 : m ≤ 9223372036854775807 := Nat.le_of_ble_eq_true q8
      have b2' : (it.bytes : Int) * (m : Int) ≤ 281474976710656 := by
        have e : ((it.bytes * m : Nat) : Int) ≤ 281474976710656 := by omega
        rwa [Int.natCast_mul] at e
      have hrun := run_make (P := P) w t elem it zv hu hi hz' kl kc (n : Int) (m : Int) (by omega) (by omega) b2' (by omega)
      simp only [Int.toNat_natCast] at hrun
      have hrep := LR_rep hcl m
      rw [hzs] at hrep
      refine ⟨_, rfl, _, w, _, _, hrun, .inl rfl, fun E' hle hk => ⟨?_, ObjR_new (hrep.mono hle _) rfl rfl⟩⟩
      simp only [VR]
      exact ⟨_, _, m, hk, rfl, .inl ⟨rfl, rfl, b1⟩⟩
    · cases hv
  · cases hv
theorem makeSliceA_run (h : Rel E σ w) {t : TypeId} {l c : V} {ly cy : Value} (hl : VR E l ly) (hc : VR E c cy) {v : V} {σ' : St} (hv : makeSliceA P t l c σ = some (v, σ')) : Gives P E σ w (Instr.makeSlice t ly cy) v σ' := (makeSliceA_made hl hc hv).gives h
def buildSliceA (P : Program) (t : TypeId) (len : Nat) (parts : List (Nat × V)) (σ : St) : Option (V × St) :=
  match P.underlying t with
  | some (.slice elem) => (match P.info? elem, zeroV P elem with
    | some it, some z => cond (cond (Nat.beq (cellsL z).length it.size) (cond (Nat.ble 1 it.size) (Nat.ble (Nat.mul len it.size) 16777216) false) false)
        (match fillA (fun i => some (Nat.mul i it.size, it.size)) (Nat.mul len it.size) (cond (Nat.beq parts.length len) .leaf (PT.setL .leaf 0 (repL (cellsL z) len))) parts with
        | some tr => some (.slice σ.next 0 len (.exact len), σ.new (.cells elem tr false))
        | none => none) none
    | _, _ => none)
  | _ => none
theorem buildSliceA_made {σ : St} {t : TypeId} {len : Nat} {ps : List (Nat × V)} {parts : Array (Nat × Value)} (hp : PR E ps parts.toList) {v : V} {σ' : St} (hv : buildSliceA P t len ps σ = some (v, σ')) :
    Made P E σ w (Instr.buildSlice t len parts) v σ' := by
  unfold buildSliceA at hv
  split at hv
  · rename_i elem hu
    split at hv
    · rename_i it z hi hz
      obtain ⟨q1, q2⟩ := cond_some hv
      obtain ⟨q3, q4⟩ := cond_and q1
      obtain ⟨q5, q6⟩ := cond_and q4
      obtain ⟨i, zv, hi', hz', hzrun, hzr⟩ := zeroV_spec hz
      rw [hi] at hi'; cases hi'
      have hcl := cellsL_rel (hzr E)
      have hzs : zv.cells.size = it.size := by
        have h1 := hcl.length
        have h2 := Nat.eq_of_beq_eq_true q3
        simp only [Array.length_toList] at h1; omega
      split at q2
      · rename_i tr hf
        simp only [Option.some.injEq, Prod.mk.injEq] at q2; obtain ⟨rfl, rfl⟩ := q2
        -- the cells that the model begins with
        have h24 : len * it.size ≤ 16777216 := Nat.le_of_ble_eq_true q6
        have hpos : 0 < it.size := Nat.le_of_ble_eq_true q5
        let C0 : Array Value := (Array.range (len * it.size)).map fun j => (if len * it.size = 0 then (#[] : Array Value) else zv.cells)[j % (if len * it.size = 0 then (#[] : Array Value) else zv.cells).size]!
        have hC0 : FR E (cond (Nat.beq ps.length len) .leaf (PT.setL .leaf 0 (repL (cellsL z) len))) C0 := by
          cases hb : Nat.beq ps.length len with
          | true => intro i v hv; simp at hv
          | false =>
            have hrep := LR_rep hcl len
            rw [hzs] at hrep
            by_cases h0 : len * it.size = 0
            · have : repL (cellsL z) len = [] := List.length_eq_zero_iff.1 (by rw [repL_length, Nat.eq_of_beq_eq_true q3]; exact h0)
              rw [this]; intro i v hv; simp [PT.setL_nil] at hv
            · have e : C0 = madeCells zv.cells (len * it.size) := by simp only [C0, h0, if_false, madeCells]
              rw [e]; exact FR_setL hrep
        obtain ⟨C', hC', hfr, hsz⟩ := fillA_run _ _ ps _ tr C0 parts.toList hC0 (by simp [C0]) hp hf
        have hrun : (Instr.buildSlice t len parts).run P w = .ok (.slice (some ⟨w.heap.size, 0, none⟩) len len) (w.alloc (.cells C' elem (0, 0))) := by
          have hno : ¬ (16777216 < len * it.size) := by omega
          have hfill : Instr.fill (fun i => some (i * it.size, it.size)) C0 parts.toList = some C' := hC'
          by_cases h0 : len * it.size = 0
          · have e : C0 = (Array.range (len * it.size)).map fun j => (#[] : Array Value)[j % (#[] : Array Value).size]! := by simp only [C0, h0, if_true]
            rw [e] at hfill
            simp only [h0] at hfill hno
            simp [Instr.buildSlice, run_underlying hu, sizeOf, typeInfo, hi, h0, newRow] at hfill ⊢
            rw [hfill]; rfl
          · have e : C0 = (Array.range (len * it.size)).map fun j => zv.cells[j % zv.cells.size]! := by simp only [C0, h0, if_false]
            rw [e] at hfill
            have h0' : ¬ (len = 0 ∨ it.size = 0) := by rintro (e | e) <;> simp [e] at h0
            simp only [Instr.buildSlice, Sem.run_bind, run_underlying hu, Result.andThen_ok, sizeOf, typeInfo, run_program, hi, Sem.run_pure, Sem.run_ite]
            rw [if_neg (by simpa using hno), if_neg h0]
            simp [hzrun, hfill, newRow]
        refine ⟨_, rfl, _, w, _, C'.size, hrun, .inl rfl, fun E' hle hk => ⟨?_, C', 0, 0, rfl, rfl, fun i v hv => ?_, fun _ => .inl (Nat.le_refl _)⟩⟩
        · simp only [VR]
          exact ⟨_, _, len, hk, rfl, .inl ⟨rfl, rfl, Nat.le_refl _⟩⟩
        · obtain ⟨x, hx, hr⟩ := hfr i v hv
          exact ⟨x, by simpa using hx, hr.mono hle⟩
      · cases q2
    · cases hv
  · cases hv
theorem buildSliceA_run (h : Rel E σ w) {t : TypeId} {len : Nat} {ps : List (Nat × V)} {parts : Array (Nat × Value)} (hp : PR E ps parts.toList) {v : V} {σ' : St} (hv : buildSliceA P t len ps σ = some (v, σ')) :
    Gives P E σ w (Instr.buildSlice t len parts) v σ' := (buildSliceA_made hp hv).gives h
end
end
end Go.Dg

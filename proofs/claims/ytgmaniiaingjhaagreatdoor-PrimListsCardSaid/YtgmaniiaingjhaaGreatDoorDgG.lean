/- The deterministic machine, part 7: addresses of fields and elements, parts of values, slicing, lengths. -/
import Derived.Test.YtgmaniiaingjhaaGreatDoorDgF
namespace Go.Dg
open Go Go.RowKit
noncomputable section
section
variable {E : Env} {σ : St} {w : World} {P : Program}

def fieldAddrA (P : Program) (s : TypeId) (f : Nat) (x : V) : Option V :=
  match x, P.underlying s with
  | .ptr id off, some (.struct fs) => (match fs[f]? with
    | some fd => (match P.info? fd.type with
      | some i => cond (Nat.beq i.size 0) none (some (.ptr id (Nat.add off fd.offset)))
      | none => none)
    | none => none)
  | _, _ => none
theorem fieldAddrA_run (w : World) {s : TypeId} {f : Nat} {x : V} {y : Value} (hx : VR E x y) {v : V} (h : fieldAddrA P s f x = some v) : ∃ z, (Instr.fieldAt s y f).run P w = .ok z w ∧ VR E v z := by
  unfold fieldAddrA at h
  split at h
  · rename_i id off fs hu
    simp only [VR] at hx; obtain ⟨p, hp, rfl⟩ := hx
    split at h
    · rename_i fd hf
      split at h
      · rename_i i hi
        cases hs : Nat.beq i.size 0 with
        | true => rw [hs] at h; cases h
        | false =>
          rw [hs] at h; simp only [cond_false, Option.some.injEq] at h; subst h
          have hne : i.size ≠ 0 := Nat.ne_of_beq_eq_false hs
          refine ⟨.pointer (some ⟨p.block, p.off + (off + fd.offset), none⟩), ?_, by simp only [VR]; exact ⟨p, hp, rfl⟩⟩
          simp only [Instr.fieldAt, Sem.run_bind, run_underlying hu, Result.andThen_ok, hf, Instr.sureAddr, Sem.run_pure, fieldPlace, sizeOf, typeInfo, run_program, hi, Sem.run_ite]
          rw [if_neg (by simpa using hne)]
          simp only [Result.andThen_ok, add_lit, Nat.add_assoc]
      · cases h
    · cases h
  · cases h
/-- an index from 0 to below a length -/
def idx (i : V) (n : Nat) : Option Nat :=
  match i with
  | .int _ (.ofNat j) => cond (Nat.ble (Nat.succ j) n) (some j) none
  | _ => none
theorem idx_spec {i : V} {n j : Nat} (h : idx i n = some j) {y : Value} (hy : VR E i y) : ∃ k, y = .int k (j : Int) ∧ j < n := by
  unfold idx at h
  split at h
  · rename_i k m
    cases hb : Nat.ble (Nat.succ m) n with
    | false => rw [hb] at h; cases h
    | true =>
      rw [hb] at h; simp only [cond_true, Option.some.injEq] at h; subst h
      simp only [VR] at hy
      exact ⟨k, hy, Nat.le_of_ble_eq_true hb⟩
  · cases h
def indexAddrA (P : Program) (t : TypeId) (x i : V) : Option V :=
  match P.underlying t, x with
  | some (.array len elem), .ptr id off => (match idx i len, P.info? elem with
    | some j, some it => some (.ptr id (Nat.add off (Nat.mul j it.size)))
    | _, _ => none)
  | some (.slice elem), .slice id off len _ => (match idx i len, P.info? elem with
    | some j, some it => some (.ptr id (Nat.add off (Nat.mul j it.size)))
    | _, _ => none)
  | _, _ => none
theorem indexAddrA_run (w : World) {t : TypeId} {x i : V} {y iy : Value} (hx : VR E x y) (hi : VR E i iy) {v : V} (h : indexAddrA P t x i = some v) : ∃ z, (Instr.indexAt t y iy).run P w = .ok z w ∧ VR E v z := by
  unfold indexAddrA at h
  split at h
  · rename_i len elem id off hu
    split at h
    · rename_i j it hj hit
      simp only [Option.some.injEq] at h; subst h
      obtain ⟨k, rfl, hlt⟩ := idx_spec hj hi
      simp only [VR] at hx; obtain ⟨p, hp, rfl⟩ := hx
      refine ⟨.pointer (some ⟨p.block, p.off + (off + j * it.size), none⟩), ?_, by simp only [VR]; exact ⟨p, hp, rfl⟩⟩
      have hc : (0 : Int) ≤ (j : Int) ∧ (j : Int) < (len : Int) := by omega
      simp [Instr.indexAt, run_underlying hu, Instr.sureAddr, asIntOf, sizeOf, typeInfo, hit, hlt, add_lit, Nat.add_assoc]
    · cases h
  · rename_i elem id off len cap hu
    split at h
    · rename_i j it hj hit
      simp only [Option.some.injEq] at h; subst h
      obtain ⟨k, rfl, hlt⟩ := idx_spec hj hi
      simp only [VR] at hx; obtain ⟨p, a, c, hp, rfl, hca⟩ := hx
      have ha : a = ⟨p.block, p.off + off, none⟩ := by
        rcases hca with ⟨ha, _⟩ | ⟨h0, _⟩
        · exact ha
        · omega
      subst ha
      refine ⟨.pointer (some ⟨p.block, p.off + (off + j * it.size), none⟩), ?_, by simp only [VR]; exact ⟨p, hp, rfl⟩⟩
      simp [Instr.indexAt, run_underlying hu, asIntOf, sizeOf, typeInfo, hit, hlt, add_lit, Nat.add_assoc]
    · cases h
  · cases h
def fieldA (P : Program) (t : TypeId) (x : V) (f : Nat) : Option V :=
  match P.underlying t, x with
  | some (.struct fs), .agg l => (match fs[f]? with
    | some fd => partL P fd.type l fd.offset
    | none => none)
  | _, _ => none
theorem fieldA_run (w : World) {t : TypeId} {x : V} {y : Value} {f : Nat} (hx : VR E x y) {v : V} (h : fieldA P t x f = some v) : ∃ z, (Instr.field t y f).run P w = .ok z w ∧ VR E v z := by
  unfold fieldA at h
  split at h
  · rename_i fs l hu
    simp only [VR] at hx; obtain ⟨a, rfl, hl⟩ := hx
    split at h
    · rename_i fd hf
      obtain ⟨z, hz, hv⟩ := partL_run (w := w) hl h
      exact ⟨z, by simp [Instr.field, run_underlying hu, hf, asAgg, hz], hv⟩
    · cases h
  · cases h
def indexA (P : Program) (t : TypeId) (x i : V) : Option V :=
  match P.underlying t, x with
  | some (.array len elem), .agg l => (match idx i len, P.info? elem with
    | some j, some it => partL P elem l (Nat.mul j it.size)
    | _, _ => none)
  | some .string, .str n c => (match i with
    | .int _ m => strIndex n c m
    | _ => none)
  | _, _ => none
theorem indexA_run (w : World) {t : TypeId} {x i : V} {y iy : Value} (hx : VR E x y) (hi : VR E i iy) {v : V} (h : indexA P t x i = some v) : ∃ z, (Instr.index t y iy).run P w = .ok z w ∧ VR E v z := by
  unfold indexA at h
  split at h
  · rename_i len elem l hu
    split at h
    · rename_i j it hj hit
      obtain ⟨k, rfl, hlt⟩ := idx_spec hj hi
      simp only [VR] at hx; obtain ⟨a, rfl, hl⟩ := hx
      obtain ⟨z, hz, hv⟩ := partL_run (w := w) hl h
      refine ⟨z, ?_, hv⟩
      have hz' : (part elem a (j * it.size)).run P w = .ok z w := hz
      simp [Instr.index, run_underlying hu, asIntOf, sizeOf, typeInfo, hit, hlt, hz']
    · cases h
  · rename_i n c hu
    split at h
    · rename_i k m
      obtain ⟨s, rfl, rfl, rfl⟩ := VR_str_inv hx
      simp only [VR] at hi; subst hi
      obtain ⟨z, hz, hv⟩ := strIndex_run (w := w) (k := k) hu h
      exact ⟨z, hz, hv E⟩
    · cases h
  · cases h

/-! ## slicing -/
/-- a bound that may not be given -/
def bound : Option V → Nat → Option Nat
  | none, d => some d
  | some (.int _ (.ofNat n)), _ => some n
  | _, _ => none
def OR (E : Env) : Option V → Option Value → Prop
  | none, y => y = none
  | some v, y => ∃ x, y = some x ∧ VR E v x
theorem run_bounds {isSlice : Bool} {len cap : Nat} {lo hi mx : Option V} {lo' hi' mx' : Option Value} (h1 : OR E lo lo') (h2 : OR E hi hi') (h3 : OR E mx mx') {l h m : Nat}
    (b1 : bound lo 0 = some l) (b2 : bound hi len = some h) (b3 : bound mx cap = some m) (hh : mx.isSome = true → hi.isSome = true) (c1 : l ≤ h) (c2 : h ≤ m) (c3 : m ≤ cap) (w : World) :
    (Instr.sliceBounds isSlice len cap lo' hi' mx').run P w = .ok (l, h, m) w := by
  have hb : ∀ {x : Option V} {d n : Nat}, bound x d = some n → (x = none ∧ n = d) ∨ ∃ k, x = some (.int k (Int.ofNat n)) := by
    intro x d n e
    unfold bound at e
    split at e
    · cases e; exact .inl ⟨rfl, rfl⟩
    · cases e; exact .inr ⟨_, rfl⟩
    · cases e
  have sb : ∀ (k : IntKind) (n y : Nat) (code : BoundsCode), n ≤ y → (Instr.sliceBound (.int k (n : Int)) y code).run P w = .ok n w := by
    intro k n y code hle
    have := run_sliceBound (P := P) (w := w) k (n : Int) y code (by omega) (by omega)
    simpa using this
  have inv : ∀ {k : IntKind} {n : Nat} {y : Option Value}, OR E (some (.int k (Int.ofNat n))) y → y = some (.int k (n : Int)) := by
    intro k n y e
    obtain ⟨x, rfl, hx⟩ := e
    simp only [VR] at hx; rw [hx]; rfl
  rcases hb b3 with ⟨rfl, rfl⟩ | ⟨k3, rfl⟩
  · have e3 : mx' = none := h3
    subst e3
    rcases hb b2 with ⟨rfl, rfl⟩ | ⟨k2, rfl⟩
    · have e2 : hi' = none := h2
      subst e2
      rcases hb b1 with ⟨rfl, rfl⟩ | ⟨k1, rfl⟩
      · have e1 : lo' = none := h1
        subst e1
        simp [Instr.sliceBounds]
      · rw [inv h1]
        have := sb k1 l h .sliceB c1
        simp [Instr.sliceBounds, this] 
    · rw [inv h2]
      have s2 := fun code => sb k2 h m code c2
      rcases hb b1 with ⟨rfl, rfl⟩ | ⟨k1, rfl⟩
      · have e1 : lo' = none := h1
        subst e1
        simp [Instr.sliceBounds, s2]
      · rw [inv h1]
        have s1 := sb k1 l h .sliceB c1
        simp [Instr.sliceBounds, s1, s2]
  · rw [inv h3]
    have s3 := fun code => sb k3 m cap code c3
    rcases hb b2 with ⟨rfl, rfl⟩ | ⟨k2, rfl⟩
    · simp at hh
    · rw [inv h2]
      have s2 := fun code => sb k2 h m code c2
      rcases hb b1 with ⟨rfl, rfl⟩ | ⟨k1, rfl⟩
      · have e1 : lo' = none := h1
        subst e1
        simp [Instr.sliceBounds, s2, s3]
      · rw [inv h1]
        have s1 := fun code => sb k1 l h code c1
        simp [Instr.sliceBounds, s1, s2, s3]
def le3 (l h m c : Nat) : Bool := cond (Nat.ble l h) (cond (Nat.ble h m) (Nat.ble m c) false) false
theorem le3_spec {l h m c : Nat} (e : le3 l h m c = true) : l ≤ h ∧ h ≤ m ∧ m ≤ c := by
  unfold le3 at e
  cases h1 : Nat.ble l h with
  | false => rw [h1] at e; cases e
  | true =>
    cases h2 : Nat.ble h m with
    | false => rw [h1, h2] at e; cases e
    | true => rw [h1, h2] at e; exact ⟨Nat.le_of_ble_eq_true h1, Nat.le_of_ble_eq_true h2, Nat.le_of_ble_eq_true e⟩
def okHi (mx hi : Option V) : Bool := match mx with | none => true | some _ => hi.isSome
def sliceA (P : Program) (t : TypeId) (x : V) (lo hi mx : Option V) : Option V :=
  match P.underlying t, x with
  | some .string, .str n c => (match mx, bound lo 0, bound hi n with
    | none, some l, some h => cond (le3 l h n n) (some (.str (Nat.sub h l) (low8 (shr8 c l) (Nat.sub h l)))) none
    | _, _, _ => none)
  | some (.slice elem), .nils => (match bound lo 0, bound hi 0, bound mx 0, P.info? elem with
    | some 0, some 0, some 0, some _ => cond (okHi mx hi) (some .nils) none
    | _, _, _, _ => none)
  | some (.slice elem), .slice id off len (.exact c) => (match bound lo 0, bound hi len, bound mx c, P.info? elem with
    | some l, some h, some m, some it => cond (cond (le3 l h m c) (okHi mx hi) false)
        (cond (Nat.beq m l) (some (.slice id off 0 (.exact 0))) (some (.slice id (Nat.add off (Nat.mul l it.size)) (Nat.sub h l) (.exact (Nat.sub m l))))) none
    | _, _, _, _ => none)
  | some (.slice elem), .slice id off len (.toEnd u) => (match mx, bound lo 0, bound hi len, P.info? elem with
    | none, some l, some h, some it => cond (cond (le3 l h len len) (Nat.beq it.size u) false) (some (.slice id (Nat.add off (Nat.mul l it.size)) (Nat.sub h l) (.toEnd u))) none
    | some _, some l, some h, some it => (match bound mx 0 with
      | some m => cond (cond (le3 l h m len) (okHi mx hi) false)
        (cond (Nat.beq m l) (some (.slice id off 0 (.exact 0))) (some (.slice id (Nat.add off (Nat.mul l it.size)) (Nat.sub h l) (.exact (Nat.sub m l))))) none
      | none => none)
    | _, _, _, _ => none)
  | some (.array n elem), .ptr id off => (match bound lo 0, bound hi n, bound mx n, P.info? elem with
    | some l, some h, some m, some it => cond (cond (le3 l h m n) (okHi mx hi) false)
        (cond (Nat.beq m l) (some (.slice id off 0 (.exact 0))) (some (.slice id (Nat.add off (Nat.mul l it.size)) (Nat.sub h l) (.exact (Nat.sub m l))))) none
    | _, _, _, _ => none)
  | _, _ => none
theorem okHi_spec {mx hi : Option V} (h : okHi mx hi = true) : mx.isSome = true → hi.isSome = true := by
  cases mx with
  | none => intro e; cases e
  | some _ => intro _; exact h
theorem cond_and {a b : Bool} (h : cond a b false = true) : a = true ∧ b = true := by cases a <;> simp_all
theorem bound_isSome {x : Option V} {d d' n : Nat} (h : bound x d = some n) (hx : x.isSome = true) : bound x d' = some n := by
  cases x with
  | none => cases hx
  | some v => unfold bound at h ⊢; split at h <;> simp_all
theorem run_sliceSome {t elem : TypeId} (hu : P.underlying t = some (.slice elem)) {it : TypeInfo} (hi0 : P.info? elem = some it) {a : Addr} {len c l h m : Nat} {lo' hi' mx' : Option Value}
    (hr : (Instr.sliceBounds true len c lo' hi' mx').run P w = .ok (l, h, m) w) :
    (Instr.sliceAt t (.slice (some a) len c) lo' hi' mx').run P w = .ok (.slice (some (if m = l then a else a.add (l * it.size))) (h - l) (m - l)) w := by
  simp only [Instr.sliceAt, Sem.run_bind, run_underlying hu, Result.andThen_ok, Instr.slice, hr, sizeOf, typeInfo, run_program, hi0, Sem.run_pure]
  split <;> simp_all
theorem run_sliceArr {t elem : TypeId} {n : Nat} (hu : P.underlying t = some (.array n elem)) {it : TypeInfo} (hi0 : P.info? elem = some it) {a : Addr} {l h m : Nat} {lo' hi' mx' : Option Value}
    (hr : (Instr.sliceBounds false n n lo' hi' mx').run P w = .ok (l, h, m) w) :
    (Instr.sliceAt t (.pointer (some a)) lo' hi' mx').run P w = .ok (.slice (some (if m = l then a else a.add (l * it.size))) (h - l) (m - l)) w := by
  simp only [Instr.sliceAt, Sem.run_bind, run_underlying hu, Result.andThen_ok, Instr.sureAddr, hr, sizeOf, typeInfo, run_program, hi0, Sem.run_pure]
/-- what a slice comes to, its capacity known -/
theorem slice_exact {id off len c l h m sz : Nat} {p : Place} (hp : E id = some p) {a : Addr} (ha : (a = ⟨p.block, p.off + off, none⟩ ∧ m ≤ c) ∨ (len = 0 ∧ m = 0)) (c1 : l ≤ h) (c2 : h ≤ m) {v : V}
    (hv : cond (Nat.beq m l) (some (V.slice id off 0 (.exact 0))) (some (.slice id (Nat.add off (Nat.mul l sz)) (Nat.sub h l) (.exact (Nat.sub m l)))) = some v) :
    VR E v (.slice (some (if m = l then a else a.add (l * sz))) (h - l) (m - l)) := by
  cases hb : Nat.beq m l with
  | true =>
    rw [hb] at hv; simp only [cond_true, Option.some.injEq] at hv; subst hv
    have e := Nat.eq_of_beq_eq_true hb
    subst e
    have eh : h - m = 0 := by omega
    rw [eh, Nat.sub_self, if_pos rfl]
    simp only [VR]
    exact ⟨p, a, 0, hp, rfl, .inr (by simp [CapZ])⟩
  | false =>
    rw [hb] at hv; simp only [cond_false, Option.some.injEq] at hv; subst hv
    have e := Nat.ne_of_beq_eq_false hb
    rw [if_neg e]
    simp only [VR]
    rcases ha with ⟨rfl, _⟩ | ⟨h0, h1⟩
    · refine ⟨p, _, _, hp, rfl, .inl ⟨?_, rfl, ?_⟩⟩
      · rw [add_lit, Nat.add_assoc]; rfl
      · show h - l ≤ m - l; omega
    · omega
theorem sliceA_run (w : World) {t : TypeId} {x : V} {y : Value} {lo hi mx : Option V} {lo' hi' mx' : Option Value} (hx : VR E x y) (h1 : OR E lo lo') (h2 : OR E hi hi') (h3 : OR E mx mx') {v : V}
    (hv : sliceA P t x lo hi mx = some v) : ∃ z, (Instr.sliceAt t y lo' hi' mx').run P w = .ok z w ∧ VR E v z := by
  unfold sliceA at hv
  split at hv
  · rename_i n c hu
    split at hv
    · rename_i l h hb1 hb2
      cases hc : le3 l h n n with
      | false => rw [hc] at hv; cases hv
      | true =>
        rw [hc] at hv; simp only [cond_true, Option.some.injEq] at hv; subst hv
        obtain ⟨c1, c2, _⟩ := le3_spec hc
        obtain ⟨s, rfl, rfl, rfl⟩ := VR_str_inv hx
        have hm : mx' = none := h3
        subst hm
        have hsz : s.size = s.data.toList.length := by simp
        have hr := run_bounds (P := P) (isSlice := false) (len := s.size) (cap := s.size) (mx := none) h1 h2 (show OR E none none from rfl) hb1 (by rw [hsz]; exact hb2) (show bound none s.size = some s.size from rfl) (by simp) c1 (by omega) (Nat.le_refl _) w
        refine ⟨.string (s.extract l h), ?_, ?_⟩
        · simp only [Instr.sliceAt, Sem.run_bind, run_underlying hu, Result.andThen_ok, Instr.slice, hr, Option.isSome_none, Bool.false_eq_true, if_false]
          rfl
        · have e : (s.extract l h).data.toList = (s.data.toList.drop l).take (h - l) := by
            rw [ByteArray.data_extract, Array.toList_extract, List.extract_eq_take_drop]
          have el : (s.data.toList.drop l).length = s.data.toList.length - l := List.length_drop ..
          refine VR_str' _ ?_ ?_
          · rw [e, List.length_take, el]; show h - l = _; omega
          · rw [e, codeOf_take, codeOf_drop, low8_eq, shr8_eq]; rfl
    · cases hv
  · rename_i elem hu
    split at hv
    · rename_i it hb1 hb2 hb3 hi0
      cases ho : okHi mx hi with
      | false => rw [ho] at hv; cases hv
      | true =>
        rw [ho] at hv; simp only [cond_true, Option.some.injEq] at hv; subst hv
        simp only [VR] at hx; subst hx
        have hr := run_bounds (P := P) (isSlice := true) (len := 0) (cap := 0) h1 h2 h3 hb1 hb2 hb3 (okHi_spec ho) (Nat.le_refl _) (Nat.le_refl _) (Nat.le_refl _) w
        refine ⟨.slice none 0 0, ?_, by simp [VR]⟩
        simp [Instr.sliceAt, run_underlying hu, Instr.slice, hr, sizeOf, typeInfo, hi0]
    · cases hv
  · rename_i elem id off len c hu
    split at hv
    · rename_i l h m it hb1 hb2 hb3 hi0
      cases hc : cond (le3 l h m c) (okHi mx hi) false with
      | false => rw [hc] at hv; cases hv
      | true =>
        rw [hc] at hv; simp only [cond_true] at hv
        obtain ⟨q1, q2⟩ := cond_and hc
        obtain ⟨c1, c2, c3⟩ := le3_spec q1
        simp only [VR] at hx; obtain ⟨p, a, c', hp, rfl, hca⟩ := hx
        have hcc : c' = c := by
          rcases hca with ⟨_, e⟩ | ⟨_, e, e2⟩
          · exact e.1
          · simp only [CapZ] at e2; omega
        subst hcc
        have hr := run_bounds (P := P) (isSlice := true) (len := len) (cap := c') h1 h2 h3 hb1 hb2 hb3 (okHi_spec q2) c1 c2 c3 w
        refine ⟨_, run_sliceSome hu hi0 hr, slice_exact hp (len := len) (c := c') ?_ c1 c2 hv⟩
        rcases hca with ⟨e, _⟩ | ⟨e1, e2, _⟩
        · exact .inl ⟨e, c3⟩
        · exact .inr ⟨e1, by omega⟩
    · cases hv
  · rename_i elem id off len u hu
    simp only [VR] at hx; obtain ⟨p, a, c, hp, rfl, hca⟩ := hx
    have hlc : len ≤ c := by
      rcases hca with ⟨_, e⟩ | ⟨e, _⟩
      · exact e.2.2
      · omega
    split at hv
    · rename_i l h it hb1 hb2 hi0
      cases hc : cond (le3 l h len len) (Nat.beq it.size u) false with
      | false => rw [hc] at hv; cases hv
      | true =>
        rw [hc] at hv; simp only [cond_true, Option.some.injEq] at hv; subst hv
        obtain ⟨q1, q2⟩ := cond_and hc
        obtain ⟨c1, c2, _⟩ := le3_spec q1
        have hu' := Nat.eq_of_beq_eq_true q2
        have hm : mx' = none := h3
        subst hm
        have hr := run_bounds (P := P) (isSlice := true) (len := len) (cap := c) (mx := none) h1 h2 (show OR E none none from rfl) hb1 hb2 (show bound none c = some c from rfl) (by simp) c1 (by omega) (Nat.le_refl _) w
        refine ⟨_, run_sliceSome hu hi0 hr, ?_⟩
        simp only [VR]
        by_cases e : c = l
        · have eh : h - l = 0 := by omega
          rw [if_pos e, eh, e, Nat.sub_self]
          refine ⟨p, a, 0, hp, by rw [show Nat.sub h l = h - l from rfl, eh], .inr ⟨eh, rfl, ?_⟩⟩
          rcases hca with ⟨_, e2⟩ | ⟨_, _, e2⟩
          · exact e2.2.1
          · exact e2
        · rcases hca with ⟨rfl, e2⟩ | ⟨e1, e2, _⟩
          · rw [if_neg e]
            refine ⟨p, _, _, hp, rfl, .inl ⟨by rw [add_lit, Nat.add_assoc]; rfl, ?_, e2.2.1, ?_⟩⟩
            · have := e2.1
              show p.off + (off + l * it.size) + (c - l) * u = p.size
              rw [hu', Nat.sub_mul]
              have : l * u ≤ c * u := Nat.mul_le_mul_right _ (by omega)
              omega
            · show h - l ≤ c - l; omega
          · omega
    · rename_i mv l h it hb1 hb2 hi0
      split at hv
      · rename_i m hb3
        cases hc : cond (le3 l h m len) (okHi (some mv) hi) false with
        | false => rw [hc] at hv; cases hv
        | true =>
          rw [hc] at hv; simp only [cond_true] at hv
          obtain ⟨q1, q2⟩ := cond_and hc
          obtain ⟨c1, c2, c3⟩ := le3_spec q1
          have hr := run_bounds (P := P) (isSlice := true) (len := len) (cap := c) h1 h2 h3 hb1 hb2 (bound_isSome hb3 rfl) (okHi_spec q2) c1 c2 (by omega) w
          refine ⟨_, run_sliceSome hu hi0 hr, slice_exact hp (len := len) (c := c) ?_ c1 c2 hv⟩
          rcases hca with ⟨e, _⟩ | ⟨e1, e2, _⟩
          · exact .inl ⟨e, by omega⟩
          · exact .inr ⟨e1, by omega⟩
      · cases hv
    · cases hv
  · rename_i n elem id off hu
    split at hv
    · rename_i l h m it hb1 hb2 hb3 hi0
      cases hc : cond (le3 l h m n) (okHi mx hi) false with
      | false => rw [hc] at hv; cases hv
      | true =>
        rw [hc] at hv; simp only [cond_true] at hv
        obtain ⟨q1, q2⟩ := cond_and hc
        obtain ⟨c1, c2, c3⟩ := le3_spec q1
        simp only [VR] at hx; obtain ⟨p, hp, rfl⟩ := hx
        have hr := run_bounds (P := P) (isSlice := false) (len := n) (cap := n) h1 h2 h3 hb1 hb2 hb3 (okHi_spec q2) c1 c2 c3 w
        exact ⟨_, run_sliceArr hu hi0 hr, slice_exact hp (len := 1) (c := n) (.inl ⟨rfl, c3⟩) c1 c2 hv⟩
    · cases hv
  · cases hv
end
end
end Go.Dg

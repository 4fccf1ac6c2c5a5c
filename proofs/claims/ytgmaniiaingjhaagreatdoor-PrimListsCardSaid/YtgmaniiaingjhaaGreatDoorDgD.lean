/- The deterministic machine, part 4: texts, equality, parts of values. -/
import Derived.Test.YtgmaniiaingjhaaGreatDoorDgC
import Derived.Laws.StructEq
import Derived.Laws.Cover1
namespace Go.Dg
open Go Go.RowKit
noncomputable section

theorem VR_str (E : Env) (s : ByteArray) : VR E (.str s.data.toList.length (codeOf s.data.toList)) (.string s) := by
  simp only [VR]; exact ⟨s, rfl, rfl, rfl⟩
theorem VR_str' {E : Env} {n c : Nat} (s : ByteArray) (hn : n = s.data.toList.length) (hc : c = codeOf s.data.toList) : VR E (.str n c) (.string s) := by
  simp only [VR]; exact ⟨s, rfl, hn, hc⟩
theorem VR_str_inv {E : Env} {n c : Nat} {x : Value} (h : VR E (.str n c) x) : ∃ s : ByteArray, x = .string s ∧ n = s.data.toList.length ∧ c = codeOf s.data.toList := by
  simpa only [VR] using h

/-! ## texts -/
def shl8 (c n : Nat) : Nat := Nat.shiftLeft c (Nat.mul 8 n)
def shr8 (c n : Nat) : Nat := Nat.shiftRight c (Nat.mul 8 n)
def low8 (c n : Nat) : Nat := Nat.mod c (Nat.shiftLeft 1 (Nat.mul 8 n))
theorem p256 (n : Nat) : 2 ^ (8 * n) = 256 ^ n := by rw [Nat.pow_mul]
theorem shl8_eq (c n : Nat) : shl8 c n = 256 ^ n * c := by
  show c <<< (8 * n) = _; rw [Nat.shiftLeft_eq, p256, Nat.mul_comm]
theorem shr8_eq (c n : Nat) : shr8 c n = c / 256 ^ n := by
  show c >>> (8 * n) = _; rw [Nat.shiftRight_eq_div_pow, p256]
theorem low8_eq (c n : Nat) : low8 c n = c % 256 ^ n := by
  show c % (1 <<< (8 * n)) = _; rw [Nat.one_shiftLeft, p256]
def seq (n c m d : Nat) : Bool := cond (Nat.beq n m) (Nat.beq c d) false
theorem seq_eq (a b : List UInt8) : seq a.length (codeOf a) b.length (codeOf b) = (a == b) := by
  unfold seq
  rw [Bool.eq_iff_iff, beq_iff_eq]
  cases h : Nat.beq a.length b.length with
  | true =>
    simp only [cond_true, Nat.beq_eq]
    exact ⟨fun e => codeOf_inj (Nat.eq_of_beq_eq_true h) e, fun e => by rw [e]⟩
  | false =>
    simp only [cond_false, Bool.false_eq_true, false_iff]
    intro e; subst e; simp at h
def sless (n c m d : Nat) : Bool := Op.bytesLess (bytesOf n c) (bytesOf m d)
theorem sless_eq (a b : List UInt8) : sless a.length (codeOf a) b.length (codeOf b) = Op.bytesLess a b := by
  unfold sless; rw [bytesOf_codeOf, bytesOf_codeOf]
def strOp (op : BinOp) (n c m d : Nat) : Option V :=
  match op with
  | .add => cond (Nat.ble (Nat.add n m) 9223372036854775807) (some (.str (Nat.add n m) (Nat.add c (shl8 d n)))) none
  | .eql => some (.bool (seq n c m d))
  | .neq => some (.bool (cond (seq n c m d) false true))
  | .lss => some (.bool (sless n c m d))
  | .leq => some (.bool (cond (sless n c m d) true (seq n c m d)))
  | .gtr => some (.bool (cond (cond (sless n c m d) true (seq n c m d)) false true))
  | .geq => some (.bool (cond (sless n c m d) false true))
  | _ => none
theorem strOp_run {P : Program} {w : World} {op : BinOp} {s u : ByteArray} {v : V} (t : TypeId)
    (h : strOp op s.data.toList.length (codeOf s.data.toList) u.data.toList.length (codeOf u.data.toList) = some v) :
    ∃ x, (Go.binOp op t (.string s) (.string u)).run P w = .ok x w ∧ ∀ E, VR E v x := by
  have hb : (Go.binOp op t (.string s) (.string u)).run P w = (Op.stringOp op s u).run P w := by cases op <;> rfl
  rw [hb]
  have hcor : ∀ a b : Bool, cond a true b = (a || b) := fun a b => by cases a <;> rfl
  cases op <;> simp only [strOp, seq_eq, sless_eq, cond_not, hcor, Option.some.injEq] at h
  case add =>
    cases hc : Nat.ble (Nat.add s.data.toList.length u.data.toList.length) 9223372036854775807 with
    | false => rw [hc] at h; cases h
    | true =>
      rw [hc] at h; simp only [cond_true, Option.some.injEq] at h; subst h
      have hle := Nat.le_of_ble_eq_true hc
      have hs : s.size = s.data.toList.length := by simp
      have hu : u.size = u.data.toList.length := by simp
      refine ⟨.string (s ++ u), ?_, fun E => ?_⟩
      · simp only [Op.stringOp]
        have hno : ¬ ((s.size + u.size : Nat) : Int) > IntKind.i64.max := by
          rw [hs, hu]; simp only [IntKind.max, IntKind.signed, IntKind.bits]; simp only [Nat.add_eq] at hle; simp only [if_true]; omega
        rw [if_neg hno]; rfl
      · have e : (s ++ u).data.toList = s.data.toList ++ u.data.toList := by simp
        refine VR_str' _ (by rw [e, List.length_append]; rfl) ?_
        rw [e, codeOf_append, shl8_eq]; rfl
  all_goals first
    | (cases h; done)
    | (subst h; exact ⟨_, by simp [Op.stringOp, ByteArray.toList_eq], fun E => VR_bool E _⟩)
    | (subst h; exact ⟨_, by simp only [Op.stringOp, ByteArray.toList_eq]; rfl, fun E => VR_bool E _⟩)
def strIndex (n c : Nat) (i : Int) : Option V :=
  match i with
  | .ofNat j => cond (Nat.ble (Nat.succ j) n) (some (.int .u8 (Int.ofNat (Nat.mod (shr8 c j) 256)))) none
  | _ => none
theorem strIndex_run {P : Program} {w : World} {s : ByteArray} {k : IntKind} {i : Int} {v : V} {t : TypeId} (ht : P.underlying t = some .string)
    (h : strIndex s.data.toList.length (codeOf s.data.toList) i = some v) :
    ∃ x, (Instr.index t (.string s) (.int k i)).run P w = .ok x w ∧ ∀ E, VR E v x := by
  cases i with
  | negSucc j => cases h
  | ofNat j =>
    simp only [strIndex] at h
    cases hc : Nat.ble (Nat.succ j) s.data.toList.length with
    | false => rw [hc] at h; cases h
    | true =>
      rw [hc] at h; simp only [cond_true, Option.some.injEq] at h; subst h
      have hlt : j < s.data.toList.length := Nat.le_of_ble_eq_true hc
      have hsz : j < s.size := by simpa using hlt
      refine ⟨.int .u8 (s[j]).toNat, ?_, fun E => ?_⟩
      · have e : (if (0 : Int) ≤ Int.ofNat j then s[(Int.ofNat j).toNat]? else none) = some s[j] := by
          rw [if_pos (show (0 : Int) ≤ Int.ofNat j from Int.natCast_nonneg j)]
          show s[j]? = some s[j]
          exact getElem?_pos s j hsz
        simp only [Instr.index, Sem.run_bind, asIntOf, Sem.run_pure, Result.andThen_ok, run_underlying ht, e]
      · have e := codeOf_get s.data.toList j hlt
        have e2 : s.data.toList[j] = s[j] := by simp; rfl
        have : (Nat.mod (shr8 (codeOf s.data.toList) j) 256) = (s[j]).toNat := by rw [shr8_eq, ← e2, e]; rfl
        rw [this]; exact VR_int E _ _

/-! ## equality -/
def isNil : V → Bool
  | .nilp | .nils | .nilm | .nilf | .nili => true
  | _ => false
def partL (P : Program) (t : TypeId) (cs : List V) (off : Nat) : Option V :=
  match P.underlying t with
  | some (.struct _) | some (.array _ _) => match P.info? t with
    | some i => some (.agg (cs.extract off (off + i.size)))
    | none => none
  | some _ => cs[off]?
  | none => none
theorem LR.drop {E : Env} : ∀ (n : Nat) {l : List V} {xs : List Value}, LR E l xs → LR E (l.drop n) (xs.drop n)
  | 0, _, _, h => h
  | n + 1, [], _, h => by simp only [LR] at h; subst h; simp [LR]
  | n + 1, v :: l, _, h => by simp only [LR] at h; obtain ⟨x, xs, rfl, _, h2⟩ := h; exact LR.drop n h2
theorem LR.take {E : Env} : ∀ (n : Nat) {l : List V} {xs : List Value}, LR E l xs → LR E (l.take n) (xs.take n)
  | 0, _, _, _ => by simp [LR]
  | n + 1, [], _, h => by simp only [LR] at h; subst h; simp [LR]
  | n + 1, v :: l, _, h => by simp only [LR] at h; obtain ⟨x, xs, rfl, h1, h2⟩ := h; exact ⟨x, _, rfl, h1, LR.take n h2⟩
theorem LR.extract {E : Env} {l : List V} {a : Array Value} (h : LR E l a.toList) (i j : Nat) : LR E (l.extract i j) (a.extract i j).toList := by
  rw [Array.toList_extract]
  simp only [List.extract_eq_take_drop]
  exact (h.drop i).take _
theorem partL_run {P : Program} {w : World} {E : Env} {t : TypeId} {l : List V} {a : Array Value} (hl : LR E l a.toList) {off : Nat} {v : V} (h : partL P t l off = some v) :
    ∃ x, (part t a off).run P w = .ok x w ∧ VR E v x := by
  unfold partL at h
  cases hu : P.underlying t with
  | none => rw [hu] at h; cases h
  | some d =>
    rw [hu] at h
    have agg : (∀ i, P.info? t = some i → (part t a off).run P w = .ok (.agg (a.extract off (off + i.size))) w) → (match P.info? t with | some i => some (V.agg (l.extract off (off + i.size))) | none => none) = some v → ∃ x, (part t a off).run P w = .ok x w ∧ VR E v x := by
      intro hr h
      cases hi : P.info? t with
      | none => rw [hi] at h; cases h
      | some i =>
        rw [hi] at h; simp only [Option.some.injEq] at h; subst h
        exact ⟨_, hr i hi, by simp only [VR]; exact ⟨_, rfl, hl.extract _ _⟩⟩
    have one : (∀ x, a[off]? = some x → (part t a off).run P w = .ok x w) → l[off]? = some v → ∃ x, (part t a off).run P w = .ok x w ∧ VR E v x := by
      intro hr h
      obtain ⟨x, hx, hv⟩ := hl.get off h
      exact ⟨x, hr x (by simpa using hx), hv⟩
    cases d <;> first
      | (refine agg (fun i hi => ?_) h; simp [part, isAgg, run_underlying hu, sizeOf, typeInfo, hi])
      | (refine one (fun x hx => ?_) h; simp [part, isAgg, run_underlying hu, hx])
def eqA (P : Program) : Nat → TypeId → V → V → Option Bool
  | 0, _, _, _ => none
  | d + 1, t, x, y =>
    match P.underlying t, x, y with
    | some .bool, .bool a, .bool b => some (cond a b (cond b false true))
    | some (.int _), .int k a, .int k' b => cond (decide (k = k')) (some (ieq a b)) none
    | some .string, .str n c, .str m e => some (seq n c m e)
    | some (.pointer _), .nilp, .nilp => some true
    | some (.pointer _), .nilp, .ptr _ _ => some false
    | some (.pointer _), .ptr _ _, .nilp => some false
    | some (.slice _), .nils, .nils => some true
    | some (.slice _), .nils, .slice _ _ _ _ => some false
    | some (.slice _), .slice _ _ _ _, .nils => some false
    | some (.map _ _), .nilm, .nilm => some true
    | some (.map _ _), .nilm, .map _ => some false
    | some (.map _ _), .map _, .nilm => some false
    | some (.func _ _ _), .nilf, .nilf => some true
    | some (.func _ _ _), .nilf, .func _ _ _ => some false
    | some (.func _ _ _), .func _ _ _, .nilf => some false
    | some (.interface _), .nili, .nili => some true
    | some (.interface _), .nili, .iface _ _ => some false
    | some (.interface _), .iface _ _, .nili => some false
    | some (.interface _), .iface tx a, .iface ty b => cond (Nat.beq tx ty) (match P.info? tx with
      | some i => cond i.comparable (eqA P d tx a b) none
      | none => none) (some false)
    | some (.struct fs), .agg xs, .agg ys => cond (P.stoodInHeld t) none
        (List.rec (motive := fun _ => Option Bool) (some true) (fun f _ ih => cond (decide (f.name = "_")) ih
          (match partL P f.type xs f.offset, partL P f.type ys f.offset with
            | some a, some b => match eqA P d f.type a b with
              | some true => ih
              | some false => some false
              | none => none
            | _, _ => none)) fs.toList)
    | _, _, _ => none
theorem eqA_run {P : Program} {w : World} {E : Env} : ∀ (d e : Nat) (t : TypeId) (x y : V) (x' y' : Value) (r : Bool), VR E x x' → VR E y y' → d ≤ e → eqA P d t x y = some r → (Op.equalIn e t x' y').run P w = .ok r w
  | 0, _, _, _, _, _, _, _, _, _, _, h => by simp [eqA] at h
  | d + 1, 0, _, _, _, _, _, _, _, _, hd, _ => by omega
  | d + 1, e + 1, t, x, y, x', y', r, hx, hy, hd, h => by
    have ih := fun t x y x' y' r (hx : VR E x x') (hy : VR E y y') (h : eqA P d t x y = some r) => eqA_run (w := w) d e t x y x' y' r hx hy (by omega) h
    unfold eqA at h
    split at h <;> rename_i hu
    · simp only [VR] at hx hy; subst hx; subst hy; cases h
      rename_i a b
      simp only [Op.equalIn, Sem.run_bind, run_underlying hu, Result.andThen_ok, Sem.run_pure]
      cases a <;> cases b <;> rfl
    · simp only [VR] at hx hy; subst hx; subst hy
      rename_i k a k' b
      by_cases hk : k = k'
      · subst hk; simp only [decide_true, cond_true, Option.some.injEq] at h; subst h
        simp [Op.equalIn, run_underlying hu, ieq_eq]
      · simp [hk] at h
    · obtain ⟨s, rfl, rfl, rfl⟩ := VR_str_inv hx
      obtain ⟨u, rfl, rfl, rfl⟩ := VR_str_inv hy
      rw [seq_eq] at h; cases h
      rw [run_equalIn_string w e t s u hu, ByteArray.toList_eq, ByteArray.toList_eq]
    · simp only [VR] at hx hy; subst hx; subst hy; cases h
      simp [Op.equalIn, run_underlying hu]
    · simp only [VR] at hx hy; subst hx; obtain ⟨p, _, rfl⟩ := hy; cases h
      simp [Op.equalIn, run_underlying hu]
    · simp only [VR] at hx hy; subst hy; obtain ⟨p, _, rfl⟩ := hx; cases h
      simp [Op.equalIn, run_underlying hu]
    · simp only [VR] at hx hy; subst hx; subst hy; cases h
      simp [Op.equalIn, run_underlying hu]
    · simp only [VR] at hx hy; subst hx; obtain ⟨p, a, c, _, rfl, _⟩ := hy; cases h
      simp [Op.equalIn, run_underlying hu]
    · simp only [VR] at hx hy; subst hy; obtain ⟨p, a, c, _, rfl, _⟩ := hx; cases h
      simp [Op.equalIn, run_underlying hu]
    · simp only [VR] at hx hy; subst hx; subst hy; cases h
      simp [Op.equalIn, run_underlying hu]
    · simp only [VR] at hx hy; subst hx; obtain ⟨p, _, rfl⟩ := hy; cases h
      simp [Op.equalIn, run_underlying hu]
    · simp only [VR] at hx hy; subst hy; obtain ⟨p, _, rfl⟩ := hx; cases h
      simp [Op.equalIn, run_underlying hu]
    · simp only [VR] at hx hy; subst hx; subst hy; cases h
      simp [Op.equalIn, run_underlying hu]
    · simp only [VR] at hx hy; subst hx; obtain ⟨a, b, rfl, _, _⟩ := hy; cases h
      simp [Op.equalIn, run_underlying hu]
    · simp only [VR] at hx hy; subst hy; obtain ⟨a, b, rfl, _, _⟩ := hx; cases h
      simp [Op.equalIn, run_underlying hu]
    · simp only [VR] at hx hy; subst hx; subst hy; cases h
      simp [Op.equalIn, run_underlying hu]
    · simp only [VR] at hx hy; subst hx; obtain ⟨a, rfl, _⟩ := hy; cases h
      simp [Op.equalIn, run_underlying hu]
    · simp only [VR] at hx hy; subst hy; obtain ⟨a, rfl, _⟩ := hx; cases h
      simp [Op.equalIn, run_underlying hu]
    · rename_i tx a ty b
      simp only [VR] at hx hy; obtain ⟨a', rfl, ha⟩ := hx; obtain ⟨b', rfl, hb⟩ := hy
      cases hc : Nat.beq tx ty with
      | false =>
        rw [hc] at h; simp only [cond_false, Option.some.injEq] at h; subst h
        have : tx ≠ ty := Nat.ne_of_beq_eq_false hc
        simp [Op.equalIn, run_underlying hu, this]
      | true =>
        rw [hc] at h; simp only [cond_true] at h
        have := Nat.eq_of_beq_eq_true hc; subst this
        cases hi : P.info? tx with
        | none => rw [hi] at h; cases h
        | some i =>
          rw [hi] at h; simp only at h
          cases hcm : i.comparable with
          | false => rw [hcm] at h; cases h
          | true =>
            rw [hcm] at h; simp only [cond_true] at h
            have := ih tx a b a' b' r ha hb h
            simp [Op.equalIn, run_underlying hu, typeInfo, hi, hcm, this]
    · rename_i fs xs ys
      simp only [VR] at hx hy; obtain ⟨a', rfl, ha⟩ := hx; obtain ⟨b', rfl, hb⟩ := hy
      cases hs : P.stoodInHeld t with
      | true => rw [hs] at h; cases h
      | false =>
        rw [hs] at h; simp only [cond_false] at h
        have hf : P.fieldsOf t = fs := by simp [Program.fieldsOf, hu]
        rw [run_equalIn_struct w e t a' b' (by rw [hf]; exact hu) hs, hf]
        clear hu hf
        generalize fs.toList = l at h ⊢
        induction l with
        | nil => simp only [Option.some.injEq] at h; subst h; rfl
        | cons f l ihl =>
          simp only [Op.eqFields]
          by_cases hn : f.name = "_"
          · simp only [hn, decide_true, cond_true] at h
            simp only [hn, ne_eq, not_true_eq_false, if_false]
            exact ihl h
          · simp only [hn, decide_false, cond_false] at h
            simp only [ne_eq, hn, not_false_eq_true, if_true]
            cases h1 : partL P f.type xs f.offset with
            | none => rw [h1] at h; cases h
            | some a =>
              cases h2 : partL P f.type ys f.offset with
              | none => rw [h1, h2] at h; cases h
              | some b =>
                rw [h1, h2] at h; simp only at h
                obtain ⟨xa, ra, va⟩ := partL_run (w := w) ha h1
                obtain ⟨xb, rb, vb⟩ := partL_run (w := w) hb h2
                cases h3 : eqA P d f.type a b with
                | none => rw [h3] at h; cases h
                | some q =>
                  rw [h3] at h
                  have rq := ih f.type a b xa xb q va vb h3
                  cases q with
                  | true => simp only at h; simp [ra, rb, rq, ihl h]
                  | false => simp only [Option.some.injEq] at h; subst h; simp [ra, rb, rq]
    · cases h
end
end Go.Dg

/- The deterministic machine, part 3: operands, constants, numbers, texts: what an operation comes to that leaves memory as it is. -/
import Derived.Test.YtgmaniiaingjhaaGreatDoorDgB
import Derived.Laws.Entries
namespace Go.Dg
open Go Go.RowKit
noncomputable section

/-! ## constants -/
def mapO {α β : Type} (f : α → Option β) (l : List α) : Option (List β) :=
  List.rec (motive := fun _ => Option (List β)) (some []) (fun x _ ih => Option.rec (motive := fun _ => Option (List β)) none (fun y => Option.rec (motive := fun _ => Option (List β)) none (fun ys => some (y :: ys)) ih) (f x)) l
theorem mapO_nil {α β : Type} (f : α → Option β) : mapO f [] = some [] := rfl
theorem mapO_cons {α β : Type} (f : α → Option β) (x : α) (l : List α) : mapO f (x :: l) = (f x).bind fun y => (mapO f l).bind fun ys => some (y :: ys) := by
  show Option.rec (motive := fun _ => Option (List β)) none (fun y => Option.rec (motive := fun _ => Option (List β)) none (fun ys => some (y :: ys)) (mapO f l)) (f x) = _
  cases f x with
  | none => rfl
  | some y => cases mapO f l <;> rfl
theorem mapO_some {α β : Type} (f : α → Option β) : ∀ (l : List α) (ys : List β), mapO f l = some ys → ys.length = l.length ∧ ∀ (i : Nat) (x : α), l[i]? = some x → ∃ y, ys[i]? = some y ∧ f x = some y
  | [], ys, h => by rw [mapO_nil] at h; cases h; exact ⟨rfl, fun i x hx => by simp at hx⟩
  | x :: l, ys, h => by
    rw [mapO_cons] at h
    cases hf : f x with
    | none => rw [hf] at h; cases h
    | some y =>
      cases hl : mapO f l with
      | none => rw [hf, hl] at h; cases h
      | some ys' =>
        rw [hf, hl] at h; simp only [Option.bind_some, Option.some.injEq] at h; subst h
        obtain ⟨h1, h2⟩ := mapO_some f l ys' hl
        refine ⟨by simp [h1], fun i z hz => ?_⟩
        cases i with
        | zero => simp at hz; subst hz; exact ⟨y, rfl, hf⟩
        | succ i => simpa using h2 i z (by simpa using hz)
def ofValueD : Nat → Value → Option V
  | 0, _ => none
  | d + 1, x => match x with
    | .bool b => some (.bool b)
    | .int k n => some (.int k n)
    | .string s => some (.str s.data.toList.length (codeOf s.data.toList))
    | .pointer none => some .nilp
    | .slice none 0 0 => some .nils
    | .map none => some .nilm
    | .nilFunc => some .nilf
    | .nilIface => some .nili
    | .func fn a b => (mapO (ofValueD d) a.toList).bind fun l => (mapO (ofValueD d) b.toList).bind fun l' => some (.func fn l l')
    | .iface t v => (ofValueD d v).bind fun v' => some (.iface t v')
    | .agg a => (mapO (ofValueD d) a.toList).bind fun l => some (.agg l)
    | .tuple a => (mapO (ofValueD d) a.toList).bind fun l => some (.tuple l)
    | _ => none
theorem LR_of_mapO {E : Env} {f : Value → Option V} (hf : ∀ x v, f x = some v → VR E v x) {xs : List Value} {l : List V} (h : mapO f xs = some l) : LR E l xs := by
  obtain ⟨h1, h2⟩ := mapO_some f xs l h
  refine LR.intro h1.symm fun i v hv => ?_
  have hi : i < xs.length := by rw [← h1]; exact (List.getElem?_eq_some_iff.1 hv).1
  obtain ⟨y, hy, e⟩ := h2 i xs[i] (List.getElem?_eq_getElem hi)
  rw [hv] at hy; cases hy
  exact ⟨xs[i], List.getElem?_eq_getElem hi, hf _ _ e⟩
theorem ofValueD_rel (E : Env) : ∀ (d : Nat) (x : Value) (v : V), ofValueD d x = some v → VR E v x
  | 0, _, _, h => by simp [ofValueD] at h
  | d + 1, x, v, h => by
    have ih := ofValueD_rel E d
    unfold ofValueD at h
    split at h
    · cases h; simp [VR]
    · cases h; simp [VR]
    · cases h; simp only [VR]; exact ⟨_, rfl, rfl, rfl⟩
    · cases h; simp [VR]
    · cases h; simp [VR]
    · cases h; simp [VR]
    · cases h; simp [VR]
    · cases h; simp [VR]
    · rename_i fn a b
      cases h1 : mapO (ofValueD d) a.toList with
      | none => rw [h1] at h; cases h
      | some l =>
        cases h2 : mapO (ofValueD d) b.toList with
        | none => rw [h1, h2] at h; cases h
        | some l' => rw [h1, h2] at h; cases h; simp only [VR]; exact ⟨a, b, rfl, LR_of_mapO ih h1, LR_of_mapO ih h2⟩
    · rename_i t y
      cases h1 : ofValueD d y with
      | none => rw [h1] at h; cases h
      | some v' => rw [h1] at h; cases h; simp only [VR]; exact ⟨y, rfl, ih _ _ h1⟩
    · rename_i a
      cases h1 : mapO (ofValueD d) a.toList with
      | none => rw [h1] at h; cases h
      | some l => rw [h1] at h; cases h; simp only [VR]; exact ⟨a, rfl, LR_of_mapO ih h1⟩
    · rename_i a
      cases h1 : mapO (ofValueD d) a.toList with
      | none => rw [h1] at h; cases h
      | some l => rw [h1] at h; cases h; simp only [VR]; exact ⟨a, rfl, LR_of_mapO ih h1⟩
    · cases h
def ofValue (x : Value) : Option V := ofValueD 4 x
theorem ofValue_rel (E : Env) {x : Value} {v : V} (h : ofValue x = some v) : VR E v x := ofValueD_rel E 4 x v h

/-! ## operands -/
def ev (t : PT V) : Operand → Option V
  | .tmp i => t.get i
  | .const x => ofValue x
  | .func f => some (.func (.func f) [] [])
  | .global _ => none
/-- the frame's values -/
structure TR (E : Env) (N : Nat) (t : PT V) (a : Act) : Prop where
  defers : a.defers = []
  size : a.tmps.size = N
  get : ∀ i v, t.get i = some v → ∃ x, a.tmps[i]? = some x ∧ VR E v x
theorem TR.mono {E E' : Env} (h : E.le E') {N : Nat} {t : PT V} {a : Act} (ht : TR E N t a) : TR E' N t a :=
  ⟨ht.defers, ht.size, fun i v hv => let ⟨x, hx, hr⟩ := ht.get i v hv; ⟨x, hx, hr.mono h⟩⟩
theorem TR.ev {E : Env} {N : Nat} {t : PT V} {a : Act} (ht : TR E N t a) {x : Operand} {v : V} (h : ev t x = some v) : VR E v (a.eval x) := by
  cases x with
  | tmp i =>
    obtain ⟨y, hy, hr⟩ := ht.get i v h
    simpa [Act.eval, Array.getD_eq_getD_getElem?, hy] using hr
  | const y => exact ofValue_rel E h
  | func f =>
    simp only [Dg.ev, Option.some.injEq] at h; subst h
    simp only [VR]; exact ⟨#[], #[], rfl, by simp [LR], by simp [LR]⟩
  | global g => simp [Dg.ev] at h
theorem TR.put {E : Env} {N : Nat} {t : PT V} {a : Act} (ht : TR E N t a) {d : Nat} (hd : d < N) {v : V} {x : Value} (hr : VR E v x) : TR E N (t.set d v) (a.put (some d) x) := by
  refine ⟨ht.defers, by simp [Act.put, ht.size], fun i u hu => ?_⟩
  rw [PT.get_set] at hu
  split at hu
  · subst i; cases hu
    exact ⟨x, by simp [Act.put, ht.size, hd], hr⟩
  · rename_i hne
    obtain ⟨y, hy, hr'⟩ := ht.get i u hu
    exact ⟨y, by simp [Act.put, Ne.symm hne, hy], hr'⟩

/-! ## numbers -/
def iofn (n : Nat) : Int := Int.ofNat n
def wrapN (k : IntKind) (m : Nat) : Int :=
  match k with
  | .i64 => cond (Nat.ble 9223372036854775808 m) (Int.negSucc (Nat.sub 18446744073709551615 m)) (Int.ofNat m)
  | .u64 => Int.ofNat m
  | .i32 => cond (Nat.ble 2147483648 m) (Int.negSucc (Nat.sub 4294967295 m)) (Int.ofNat m)
  | .u32 => Int.ofNat m
  | .i16 => cond (Nat.ble 32768 m) (Int.negSucc (Nat.sub 65535 m)) (Int.ofNat m)
  | .u16 => Int.ofNat m
  | .i8 => cond (Nat.ble 128 m) (Int.negSucc (Nat.sub 255 m)) (Int.ofNat m)
  | .u8 => Int.ofNat m
def modK : IntKind → Nat
  | .i64 | .u64 => 18446744073709551616
  | .i32 | .u32 => 4294967296
  | .i16 | .u16 => 65536
  | .i8 | .u8 => 256
/-- a number modulo 2^bits, as a natural number -/
def umod (k : IntKind) : Int → Nat
  | .ofNat n => Nat.mod n (modK k)
  | .negSucc n => Nat.sub (Nat.pred (modK k)) (Nat.mod n (modK k))
theorem umod_eq (k : IntKind) (n : Int) : (umod k n : Int) = n % (2 ^ k.bits : Int) := by
  cases n with
  | ofNat n => cases k <;> (simp only [umod, modK, IntKind.bits]; show ((n % _ : Nat) : Int) = _; simp)
  | negSucc n =>
    cases k <;> (simp only [umod, modK, IntKind.bits]; rw [Int.negSucc_emod _ (by decide)]; simp only [Nat.pred]; show ((_ - n % _ : Nat) : Int) = _; omega)
theorem wr_aux (c b m : Nat) (hm : m < b) : cond (Nat.ble c m) (Int.negSucc (Nat.sub (Nat.pred b) m)) (Int.ofNat m) = if (m : Int) ≥ (c : Int) then (m : Int) - (b : Int) else (m : Int) := by
  cases h : Nat.ble c m with
  | true => have := Nat.le_of_ble_eq_true h; rw [if_pos (by omega)]; simp only [cond_true]; rw [Int.negSucc_eq]; show -((Nat.pred b - m : Nat) + 1 : Int) = _; simp only [Nat.pred_eq_sub_one]; omega
  | false =>
    have : ¬ c ≤ m := fun hh => by rw [Nat.ble_eq_true_of_le hh] at h; cases h
    rw [if_neg (by omega)]; rfl
theorem wrapN_eq (k : IntKind) (n : Int) : wrapN k (umod k n) = k.wrap n := by
  have h := umod_eq k n
  have hm : umod k n < modK k := by
    have : n % (2 ^ k.bits : Int) < 2 ^ k.bits := Int.emod_lt_of_pos _ (by cases k <;> decide)
    rw [← h] at this
    cases k <;> simp only [IntKind.bits, modK] at this ⊢ <;> omega
  generalize umod k n = m at h hm
  unfold IntKind.wrap
  rw [← h]
  cases k
  · show cond (Nat.ble 128 m) (Int.negSucc (Nat.sub (Nat.pred 256) m)) (Int.ofNat m) = _
    rw [wr_aux 128 256 m hm]; simp [IntKind.signed, IntKind.bits]
  · show cond (Nat.ble 32768 m) (Int.negSucc (Nat.sub (Nat.pred 65536) m)) (Int.ofNat m) = _
    rw [wr_aux 32768 65536 m hm]; simp [IntKind.signed, IntKind.bits]
  · show cond (Nat.ble 2147483648 m) (Int.negSucc (Nat.sub (Nat.pred 4294967296) m)) (Int.ofNat m) = _
    rw [wr_aux 2147483648 4294967296 m hm]; simp [IntKind.signed, IntKind.bits]
  · show cond (Nat.ble 9223372036854775808 m) (Int.negSucc (Nat.sub (Nat.pred 18446744073709551616) m)) (Int.ofNat m) = _
    rw [wr_aux 9223372036854775808 18446744073709551616 m hm]; simp [IntKind.signed, IntKind.bits]
  all_goals rfl
def wrapK (k : IntKind) (n : Int) : Int := wrapN k (umod k n)
theorem wrapK_eq (k : IntKind) (n : Int) : wrapK k n = k.wrap n := wrapN_eq k n

def iadd : Int → Int → Int
  | .ofNat a, .ofNat b => .ofNat (Nat.add a b)
  | a, b => a + b
theorem iadd_eq (a b : Int) : iadd a b = a + b := by cases a <;> cases b <;> rfl
def ineg : Int → Int
  | .ofNat a => Nat.rec (motive := fun _ => Int) (.ofNat 0) (fun m _ => .negSucc m) a
  | .negSucc a => .ofNat (Nat.succ a)
theorem ineg_eq (a : Int) : ineg a = -a := by
  cases a with
  | ofNat a => cases a <;> rfl
  | negSucc a => rfl
def natsub (a b : Nat) : Int := cond (Nat.ble b a) (.ofNat (Nat.sub a b)) (.negSucc (Nat.pred (Nat.sub b a)))
theorem natsub_eq (a b : Nat) : natsub a b = (a : Int) - (b : Int) := by
  unfold natsub
  cases h : Nat.ble b a with
  | true => have := Nat.le_of_ble_eq_true h; simp only [cond_true]; show ((a - b : Nat) : Int) = _; omega
  | false =>
    have : ¬ b ≤ a := fun hh => by rw [Nat.ble_eq_true_of_le hh] at h; cases h
    simp only [cond_false]; rw [Int.negSucc_eq]; show -((Nat.pred (b - a) : Nat) + 1 : Int) = _; simp only [Nat.pred_eq_sub_one]; omega
def isub : Int → Int → Int
  | .ofNat a, .ofNat b => natsub a b
  | a, b => a - b
theorem isub_eq (a b : Int) : isub a b = a - b := by
  cases a <;> cases b <;> first | exact natsub_eq _ _ | rfl
def imul : Int → Int → Int
  | .ofNat a, .ofNat b => .ofNat (Nat.mul a b)
  | a, b => a * b
theorem imul_eq (a b : Int) : imul a b = a * b := by cases a <;> cases b <;> rfl
def ilt : Int → Int → Bool
  | .ofNat a, .ofNat b => Nat.ble (Nat.succ a) b
  | .ofNat _, .negSucc _ => false
  | .negSucc _, .ofNat _ => true
  | .negSucc a, .negSucc b => Nat.ble (Nat.succ b) a
theorem ilt_eq (a b : Int) : ilt a b = decide (a < b) := by
  cases a <;> cases b <;> simp only [ilt]
  · rename_i a b; rw [Bool.eq_iff_iff]; simp only [Nat.ble_eq, decide_eq_true_eq]; show a + 1 ≤ b ↔ (a : Int) < (b : Int); omega
  · rename_i a b; symm; simp only [decide_eq_false_iff_not]; show ¬ ((a : Int) < Int.negSucc b); rw [Int.negSucc_eq]; omega
  · rename_i a b; symm; simp only [decide_eq_true_eq]; show Int.negSucc a < (b : Int); rw [Int.negSucc_eq]; omega
  · rename_i a b; rw [Bool.eq_iff_iff]; simp only [Nat.ble_eq, decide_eq_true_eq, Int.negSucc_eq]; omega
def ieq : Int → Int → Bool
  | .ofNat a, .ofNat b => Nat.beq a b
  | .negSucc a, .negSucc b => Nat.beq a b
  | _, _ => false
theorem ieq_eq (a b : Int) : ieq a b = (a == b) := by
  cases a <;> cases b <;> simp only [ieq]
  · rename_i a b; rw [Bool.eq_iff_iff, Nat.beq_eq]; simp only [beq_iff_eq]; show a = b ↔ (a : Int) = (b : Int); omega
  · symm; rw [beq_eq_false_iff_ne]; intro h; cases h
  · symm; rw [beq_eq_false_iff_ne]; intro h; cases h
  · rename_i a b; rw [Bool.eq_iff_iff]; simp
def itdiv : Int → Int → Int
  | .ofNat a, .ofNat b => .ofNat (Nat.div a b)
  | a, b => a.tdiv b
theorem itdiv_eq (a b : Int) : itdiv a b = a.tdiv b := by cases a <;> cases b <;> rfl
def itmod : Int → Int → Int
  | .ofNat a, .ofNat b => .ofNat (Nat.mod a b)
  | a, b => a.tmod b
theorem itmod_eq (a b : Int) : itmod a b = a.tmod b := by cases a <;> cases b <;> rfl

def ton : Int → Nat
  | .ofNat n => n
  | _ => 0
theorem ton_eq (n : Int) : ton n = n.toNat := by cases n <;> rfl
/-- an operation on two numbers of one kind; shifts take two kinds -/
def arith (op : BinOp) (k : IntKind) (a : Int) (k' : IntKind) (b : Int) : Option V :=
  match op with
  | .shl => cond (ilt b 0) none (some (.int k (wrapK k (imul a (Int.ofNat (Nat.shiftLeft 1 (Nat.min (ton b) k.bits)))))))
  | .shr => match a with
    | .ofNat m => cond (ilt b 0) none (some (.int k (Int.ofNat (Nat.shiftRight m (Nat.min (ton b) k.bits)))))
    | _ => none
  | _ => cond (decide (k = k')) (match op with
    | .add => some (.int k (wrapK k (iadd a b)))
    | .sub => some (.int k (wrapK k (isub a b)))
    | .mul => some (.int k (wrapK k (imul a b)))
    | .quo => cond (ieq b 0) none (some (.int k (wrapK k (itdiv a b))))
    | .rem => cond (ieq b 0) none (some (.int k (itmod a b)))
    | .and => some (.int k (wrapN k (Nat.land (umod k a) (umod k b))))
    | .or => some (.int k (wrapN k (Nat.lor (umod k a) (umod k b))))
    | .xor => some (.int k (wrapN k (Nat.xor (umod k a) (umod k b))))
    | .andNot => some (.int k (wrapN k (Nat.land (umod k a) (Nat.sub (Nat.pred (modK k)) (umod k b)))))
    | .eql => some (.bool (ieq a b))
    | .neq => some (.bool (cond (ieq a b) false true))
    | .lss => some (.bool (ilt a b))
    | .leq => some (.bool (cond (ilt b a) false true))
    | .gtr => some (.bool (ilt b a))
    | .geq => some (.bool (cond (ilt a b) false true))
    | _ => none) none
theorem pow2_eq (n : Nat) : (Int.ofNat (Nat.shiftLeft 1 n) : Int) = 2 ^ n := by
  show ((1 <<< n : Nat) : Int) = _
  rw [Nat.one_shiftLeft]; simp
theorem bv_toNat (k : IntKind) (a : Int) : (BitVec.ofInt k.bits a).toNat = umod k a := by
  have h := umod_eq k a
  have : ((BitVec.ofInt k.bits a).toNat : Int) = a % (2 ^ k.bits : Int) := by
    rw [BitVec.toNat_ofInt]
    have : (0 : Int) ≤ a % (2 ^ k.bits : Int) := Int.emod_nonneg _ (by cases k <;> decide)
    have e : ((2 ^ k.bits : Nat) : Int) = (2 ^ k.bits : Int) := by simp
    rw [e]; omega
  omega
theorem wrapN_nat (k : IntKind) (m : Nat) (h : m < modK k) : wrapN k m = k.wrap m := by
  rw [← wrapN_eq]
  have : umod k (m : Int) = m := by show Nat.mod m (modK k) = m; exact Nat.mod_eq_of_lt h
  rw [this]
theorem modK_bits (k : IntKind) : modK k = 2 ^ k.bits := by cases k <;> rfl
theorem cond_not (b : Bool) : cond b false true = !b := by cases b <;> rfl
theorem VR_int (E : Env) (k : IntKind) (n : Int) : VR E (.int k n) (.int k n) := by simp [VR]
theorem VR_bool (E : Env) (b : Bool) : VR E (.bool b) (.bool b) := by simp [VR]
theorem arith_run {P : Program} {w : World} {op : BinOp} {k k' : IntKind} {a b : Int} {v : V} (t : TypeId) (h : arith op k a k' b = some v) :
    ∃ x, (Go.binOp op t (.int k a) (.int k' b)).run P w = .ok x w ∧ ∀ E, VR E v x := by
  by_cases hs : op = .shl ∨ op = .shr
  · rcases hs with rfl | rfl
    · simp only [arith] at h
      cases hb : ilt b 0 with
      | true => rw [hb] at h; cases h
      | false =>
        rw [hb] at h; simp only [cond_false, Option.some.injEq] at h
        rw [ilt_eq] at hb
        have hb' : ¬ b < 0 := by simpa using hb
        rw [wrapK_eq, imul_eq, pow2_eq, ton_eq] at h
        subst h
        refine ⟨_, ?_, fun E => VR_int E _ _⟩
        simp [Go.binOp, Op.shift, hb']
    · simp only [arith] at h
      cases a with
      | negSucc m => cases h
      | ofNat m =>
        simp only at h
        cases hb : ilt b 0 with
        | true => rw [hb] at h; cases h
        | false =>
          rw [hb] at h; simp only [cond_false, Option.some.injEq] at h
          rw [ilt_eq] at hb
          have hb' : ¬ b < 0 := by simpa using hb
          rw [ton_eq] at h
          subst h
          refine ⟨_, ?_, fun E => VR_int E _ _⟩
          simp only [Go.binOp, Op.shift, hb', if_false]
          show Result.ok (Value.int k (Int.fdiv (m : Int) (2 ^ min b.toNat k.bits))) w = _
          congr 2
          have hp : (0 : Int) ≤ 2 ^ min b.toNat k.bits := Int.pow_nonneg (by decide)
          rw [Int.fdiv_eq_ediv_of_nonneg _ hp]
          show _ = ((m >>> (min b.toNat k.bits) : Nat) : Int)
          rw [Nat.shiftRight_eq_div_pow]; simp
  · have hkk : k = k' := by
      by_cases e : k = k'
      · exact e
      · exfalso; cases op <;> simp_all [arith]
    subst hkk
    have ha := bv_toNat k a
    have hb := bv_toNat k b
    have la : umod k a < modK k := by rw [← ha, modK_bits]; exact BitVec.isLt _
    have lb : umod k b < modK k := by rw [← hb, modK_bits]; exact BitVec.isLt _
    cases op <;> simp only [arith, decide_true, cond_true, wrapK_eq, iadd_eq, isub_eq, imul_eq, itdiv_eq, itmod_eq, ieq_eq, ilt_eq, cond_not, Option.some.injEq] at h
    case add | sub | mul => subst h; exact ⟨_, by simp [Go.binOp, Op.intArith], fun E => VR_int E _ _⟩
    case neq => subst h; exact ⟨.bool (a != b), by simp [Go.binOp, Op.intCmp], fun E => VR_bool E _⟩
    case eql | lss | gtr => subst h; exact ⟨_, by simp [Go.binOp, Op.intCmp], fun E => VR_bool E _⟩
    case leq => subst h; exact ⟨.bool (decide (a ≤ b)), by simp [Go.binOp, Op.intCmp], fun E => (by rw [Bool.eq_iff_iff]; simp : decide (a ≤ b) = !decide (b < a)) ▸ VR_bool E _⟩
    case geq => subst h; exact ⟨.bool (decide (b ≤ a)), by simp [Go.binOp, Op.intCmp], fun E => (by rw [Bool.eq_iff_iff]; simp : decide (b ≤ a) = !decide (a < b)) ▸ VR_bool E _⟩
    case quo | rem =>
      cases hz : (b == 0) with
      | true => rw [hz] at h; cases h
      | false =>
        rw [hz] at h; simp only [cond_false, Option.some.injEq] at h; subst h
        simp only [beq_eq_false_iff_ne] at hz
        exact ⟨_, by simp [Go.binOp, Op.intDiv, hz], fun E => VR_int E _ _⟩
    case shl => exact absurd (.inl rfl) hs
    case shr => exact absurd (.inr rfl) hs
    case and =>
      have e := wrapN_nat k (Nat.land (umod k a) (umod k b)) (by rw [modK_bits]; exact Nat.and_lt_two_pow _ (by rw [← modK_bits]; exact lb))
      rw [e] at h; subst h
      refine ⟨_, ?_, fun E => VR_int E _ _⟩
      simp only [Go.binOp, Op.intBits]; simp [BitVec.toNat_and, ha, hb]
    case or =>
      have e := wrapN_nat k (Nat.lor (umod k a) (umod k b)) (by rw [modK_bits]; exact Nat.or_lt_two_pow (by rw [← modK_bits]; exact la) (by rw [← modK_bits]; exact lb))
      rw [e] at h; subst h
      refine ⟨_, ?_, fun E => VR_int E _ _⟩
      simp only [Go.binOp, Op.intBits]; simp [BitVec.toNat_or, ha, hb]
    case xor =>
      have e := wrapN_nat k (Nat.xor (umod k a) (umod k b)) (by rw [modK_bits]; exact Nat.xor_lt_two_pow (by rw [← modK_bits]; exact la) (by rw [← modK_bits]; exact lb))
      rw [e] at h; subst h
      refine ⟨_, ?_, fun E => VR_int E _ _⟩
      simp only [Go.binOp, Op.intBits]; simp [BitVec.toNat_xor, ha, hb]
    case andNot =>
      have e := wrapN_nat k (Nat.land (umod k a) (Nat.sub (Nat.pred (modK k)) (umod k b))) (by rw [modK_bits]; exact Nat.lt_of_le_of_lt Nat.and_le_left (by rw [← modK_bits]; exact la))
      rw [e] at h; subst h
      refine ⟨_, ?_, fun E => VR_int E _ _⟩
      simp only [Go.binOp, Op.intBits]
      simp [BitVec.toNat_and, BitVec.toNat_not, ha, hb, modK_bits, Nat.pred_eq_sub_one]
end
end Go.Dg

/- The deterministic machine, part 8: append, copy, make; texts and bytes. -/
import Derived.Test.YtgmaniiaingjhaaGreatDoorDgG
import Derived.Laws.Append
namespace Go.Dg
open Go Go.RowKit
noncomputable section
section
variable {E : Env} {σ : St} {w : World} {P : Program}

def vbytes (n c : Nat) : List V :=
  Nat.rec (motive := fun _ => Nat → List V) (fun _ => []) (fun _ ih c => .int .u8 (Int.ofNat (Nat.mod c 256)) :: ih (Nat.div c 256)) n c
theorem vbytes_eq : ∀ l : List UInt8, vbytes l.length (codeOf l) = l.map fun b => V.int .u8 (b.toNat : Int)
  | [] => rfl
  | b :: l => by
    have hb : b.toNat < 256 := b.toNat_lt
    show V.int .u8 (Int.ofNat ((b.toNat + 256 * codeOf l) % 256)) :: vbytes l.length ((b.toNat + 256 * codeOf l) / 256) = _
    have h1 : (b.toNat + 256 * codeOf l) % 256 = b.toNat := by omega
    have h2 : (b.toNat + 256 * codeOf l) / 256 = codeOf l := by omega
    rw [h1, h2, vbytes_eq l]; rfl
theorem LR_bytes (E : Env) : ∀ l : List UInt8, LR E (l.map fun b => V.int .u8 (b.toNat : Int)) (l.map fun b => Value.int .u8 (b.toNat : Int))
  | [] => rfl
  | _ :: l => ⟨_, _, rfl, VR_int E _ _, LR_bytes E l⟩
/-- what is appended or copied: how many, and their cells -/
def srcA (x : V) (size : Nat) (σ : St) : Option (Nat × List V) :=
  match x with
  | .nils => some (0, [])
  | .str n c => some (n, vbytes n c)
  | .slice id off len _ => (match len with
    | 0 => some (0, [])
    | Nat.succ _ => (match σ.heap.get id with
      | some (.cells _ cs _) => (match cs.getL off (Nat.mul len size) with
        | some l => some (len, l)
        | none => none)
      | _ => none))
  | _ => none
theorem srcA_run (h : Rel E σ w) {x : V} {y : Value} (hx : VR E x y) {size n : Nat} {l : List V} (hs : srcA x size σ = some (n, l)) (h1 : ∀ m c, x = .str m c → size = 1) :
    (Builtin.lenOf y).run P w = .ok n w ∧ l.length = n * size ∧ ∃ xs : List Value, LR E l xs ∧ (∀ wx : World, wx.heap = w.heap → (Builtin.firstCells size n y).run P wx = .ok xs.toArray wx) := by
  cases x with
  | nils =>
    simp only [srcA, Option.some.injEq, Prod.mk.injEq] at hs
    obtain ⟨rfl, rfl⟩ := hs
    simp only [VR] at hx; subst hx
    exact ⟨by simp [Builtin.lenOf], by simp, [], rfl, fun wx _ => by simp [Builtin.firstCells]⟩
  | str m c =>
    simp only [srcA, Option.some.injEq, Prod.mk.injEq] at hs
    obtain ⟨rfl, rfl⟩ := hs
    have e1 := h1 _ _ rfl
    subst e1
    obtain ⟨s, rfl, rfl, rfl⟩ := VR_str_inv hx
    rw [vbytes_eq]
    refine ⟨by simp [Builtin.lenOf], by simp, _, LR_bytes E _, fun wx _ => ?_⟩
    have e : (s.extract 0 s.data.toList.length).data = s.data := by
      rw [ByteArray.data_extract]; simp
    simp only [Builtin.firstCells, Sem.run_pure, e]
    congr 1
    apply Array.ext'; simp
  | slice id off len cap =>
    simp only [VR] at hx; obtain ⟨p, a, c, hp, rfl, hca⟩ := hx
    cases len with
    | zero =>
      simp only [srcA, Option.some.injEq, Prod.mk.injEq] at hs
      obtain ⟨rfl, rfl⟩ := hs
      exact ⟨by simp [Builtin.lenOf], by simp, [], rfl, fun wx _ => by simp [Builtin.firstCells, loadCells, loadCellsFrom]⟩
    | succ len =>
      simp only [srcA] at hs
      split at hs
      · rename_i e cs ro ho
        split at hs
        · rename_i l' hg
          simp only [Option.some.injEq, Prod.mk.injEq] at hs
          obtain ⟨rfl, rfl⟩ := hs
          have ha : a = ⟨p.block, p.off + off, none⟩ := by
            rcases hca with ⟨ha, _⟩ | ⟨h0, _⟩
            · exact ha
            · cases h0
          subst ha
          obtain ⟨xs, hxs, hc⟩ := h.range ho hp hg
          have hl := (PT.getL_spec cs _ _ _ hg).1
          refine ⟨by simp [Builtin.lenOf], hl, xs, hxs, fun wx hwx => ?_⟩
          have hr := run_loadRange (w := wx) P p.block (p.off + off) xs (fun j x hj => by
            have := hc j x hj
            simp only [World.cell?, hwx] at this ⊢; exact this)
          rw [hxs.length, hl] at hr
          exact hr
        · cases hs
      · cases hs
  | _ => simp [srcA] at hs
def srcKind : TypeDesc → Bool
  | .slice _ => true
  | .string => true
  | _ => false
theorem run_append_room {st xt ty elem : TypeId} {d : TypeDesc} (hst : P.underlying st = some (.slice elem)) (hxt : P.underlying xt = some d) (hd : srcKind d = true) {it : TypeInfo} (hi : P.info? elem = some it)
    {base : Option Addr} {len c n : Nat} {x : Value} {xs : List Value} (hl : (Builtin.lenOf x).run P w = .ok n w) (hf : (Builtin.firstCells it.size n x).run P w = .ok xs.toArray w) (hroom : len + n ≤ c)
    {w' : World} (hstore : match base with | some a => (storeCells (a.add (len * it.size)) xs).run P w = .ok () w' | none => w' = w) :
    (Builtin.append_ #[st, xt] ty #[.slice base len c, x]).run P w = .ok (.slice base (len + n) c) w' := by
  cases base with
  | none =>
    subst hstore
    cases d <;> first
      | (simp [srcKind] at hd; done)
      | simp [Builtin.append_, run_underlying hst, run_underlying hxt, sizeOf, typeInfo, hi, hl, hroom, hf]
  | some a =>
    cases d <;> first
      | (simp [srcKind] at hd; done)
      | simp [Builtin.append_, run_underlying hst, run_underlying hxt, sizeOf, typeInfo, hi, hl, hroom, hf, hstore]
theorem run_append_new {st xt ty elem : TypeId} {d : TypeDesc} (hst : P.underlying st = some (.slice elem)) (hxt : P.underlying xt = some d) (hd : srcKind d = true) {it : TypeInfo} (hi : P.info? elem = some it) {z : Value} (hz : it.zero = some z)
    {base : Option Addr} {len c n : Nat} {x : Value} {xs olds : List Value} (hl : (Builtin.lenOf x).run P w = .ok n w) (hf : (Builtin.firstCells it.size n x).run P w.drew = .ok xs.toArray w.drew)
    (ho : (Builtin.firstCells it.size len (.slice base len c)).run P w.drew = .ok olds.toArray w.drew) (hroom : c < len + n) (h63 : len + n ≤ 9223372036854775807) (h47 : (len + n) * it.bytes ≤ 140737488355328) :
    (Builtin.append_ #[st, xt] ty #[.slice base len c, x]).run P w =
      .ok (.slice (some ⟨w.heap.size, 0, none⟩) (len + n) (grownCap w (len + n) c elem))
        (w.drew.alloc (.cells (olds.toArray ++ xs.toArray ++ Builtin.zeroCells z.cells (grownCap w (len + n) c elem - (len + n))) elem)) := by
  have hn : ¬ (len + n ≤ c) := by omega
  have h48 : ¬ (Builtin.nextslicecap (len + n) c * it.bytes > 281474976710656) := by
    have := growslice_fits (need := len + n) (old := c) (bytes := it.bytes) hroom h47
    omega
  have h63'' : ¬ (9223372036854775807 < (len : Int) + (n : Int)) := by omega
  have h48' : ¬ (281474976710656 < Builtin.nextslicecap (len + n) c * it.bytes) := by omega
  cases d <;> first
    | (simp [srcKind] at hd; done)
    | simp [Builtin.append_, run_underlying hst, run_underlying hxt, sizeOf, typeInfo, zeroValue, hi, hz, hl, hn, h63'', h48', Question.forced, hf, ho, newRow, grownCap]
  all_goals (congr 2; apply Array.ext'; simp [List.append_assoc])

def repL (zl : List V) : Nat → List V
  | 0 => []
  | n + 1 => zl ++ repL zl n
theorem repL_length (zl : List V) : ∀ n, (repL zl n).length = n * zl.length
  | 0 => by simp [repL]
  | n + 1 => by rw [repL, List.length_append, repL_length zl n, Nat.add_mul]; omega
theorem repL_get (zl : List V) : ∀ (n j : Nat), j < n * zl.length → (repL zl n)[j]? = zl[j % zl.length]?
  | 0, j, h => by simp at h
  | n + 1, j, h => by
    rw [repL]
    by_cases hj : j < zl.length
    · rw [List.getElem?_append_left hj, Nat.mod_eq_of_lt hj]
    · rw [List.getElem?_append_right (by omega), repL_get zl n _ (by rw [Nat.add_mul] at h; omega)]
      congr 1
      conv => rhs; rw [show j = (j - zl.length) + zl.length by omega]
      rw [Nat.add_mod_right]
theorem LR_rep {zl : List V} {z : Array Value} (hz : LR E zl z.toList) (n : Nat) : LR E (repL zl n) (madeCells z (n * z.size)).toList := by
  have hl : z.size = zl.length := by have := hz.length; simpa using this
  refine LR.intro (by simp [madeCells, repL_length, hl]) fun i v hv => ?_
  have hi : i < n * zl.length := by rw [← repL_length]; exact (List.getElem?_eq_some_iff.1 hv).1
  rw [repL_get zl n i hi] at hv
  obtain ⟨x, hx, hr⟩ := hz.get _ hv
  refine ⟨x, ?_, hr⟩
  have hpos : 0 < z.size := by
    rcases Nat.eq_zero_or_pos z.size with h0 | h0
    · rw [← hl, h0] at hi; simp at hi
    · exact h0
  have hm : i % z.size < z.size := Nat.mod_lt _ hpos
  have hlen : i < (madeCells z (n * z.size)).toList.length := by simp [madeCells, hl, hi]
  rw [List.getElem?_eq_getElem hlen]
  simp only [madeCells, Array.toList_map, List.getElem_map, Array.getElem_toList, Array.getElem_range]
  rw [← hl] at hx
  simp only [Array.getElem?_toList] at hx
  obtain ⟨h1, h2⟩ := Array.getElem?_eq_some_iff.1 hx
  rw [getElem!_pos z _ hm]
  exact congrArg some h2
def natV : V → Option Nat
  | .int _ (.ofNat n) => some n
  | _ => none
theorem natV_spec {v : V} {n : Nat} (h : natV v = some n) {x : Value} (hx : VR E v x) : ∃ k, x = .int k (n : Int) := by
  unfold natV at h
  split at h
  · cases h; simp only [VR] at hx; exact ⟨_, hx⟩
  · cases h
/-! ## append -/
def room (need bytes : Nat) : Bool := cond (Nat.ble need 9223372036854775807) (Nat.ble (Nat.mul need bytes) 140737488355328) false
theorem room_spec {n b : Nat} (h : room n b = true) : n ≤ 9223372036854775807 ∧ n * b ≤ 140737488355328 := by
  unfold room at h
  cases h1 : Nat.ble n 9223372036854775807 with
  | false => rw [h1] at h; cases h
  | true => rw [h1] at h; exact ⟨Nat.le_of_ble_eq_true h1, Nat.le_of_ble_eq_true h⟩
/-- the cells of a slice's elements -/
def oldL (id off n : Nat) (σ : St) : Option (List V) :=
  match n with
  | 0 => some []
  | Nat.succ _ => (match σ.heap.get id with
    | some (.cells _ cs _) => cs.getL off n
    | _ => none)
def appendC (elem : TypeId) (size bytes n : Nat) (new : List V) (s : V) (σ : St) : Option (V × St) :=
  match s with
  | .nils => (match n with
    | 0 => some (.nils, σ)
    | Nat.succ _ => cond (room n bytes) (some (.slice σ.next 0 n (.toEnd size), newA elem new σ)) none)
  | .slice id off len cap => (match n with
    | 0 => some (.slice id off len cap, σ)
    | Nat.succ _ => (match cap with
      | .exact c => cond (Nat.ble (Nat.add len n) c)
          (match σ.heap.get id with
          | some (.cells e cs false) => (match cs.getL (Nat.add off (Nat.mul len size)) (Nat.mul n size) with
            | some _ => cond (new.all V.oneCell) (some (.slice id off (Nat.add len n) (.exact c), σ.put id (.cells e (cs.setL (Nat.add off (Nat.mul len size)) new) false))) none
            | none => none)
          | _ => none)
          (match oldL id off (Nat.mul len size) σ with
          | some old => cond (room (Nat.add len n) bytes) (some (.slice σ.next 0 (Nat.add len n) (.toEnd size), newA elem (old ++ new) σ)) none
          | none => none)
      | .toEnd u => cond (Nat.beq u size) (match σ.heap.get id with
          | some (.cells e cs false) => cond (Nat.beq e elem) (match cs.getL off (Nat.mul len size) with
            | some old => cond (cond (room (Nat.add len n) bytes) (new.all V.oneCell) false) (some (.slice σ.next 0 (Nat.add len n) (.toEnd size), σ.move id (.cells elem (PT.setL .leaf 0 (old ++ new)) false))) none
            | none => none) none
          | _ => none) none))
  | _ => none
def appendA (P : Program) (st xt : TypeId) (s x : V) (σ : St) : Option (V × St) :=
  match P.underlying st, P.underlying xt with
  | some (.slice elem), some (.int _) => (match P.info? elem, zeroV P elem, natV x with
    | some it, some z, some n => cond (cond (Nat.ble 1 it.size) (cond (Nat.beq (cellsL z).length it.size) (room n it.bytes) false) false) (appendC elem it.size it.bytes n (repL (cellsL z) n) s σ) none
    | _, _, _ => none)
  | some (.slice elem), some d => cond (srcKind d) (match P.info? elem, zeroV P elem with
    | some it, some z => cond (cond (Nat.ble 1 it.size) (Nat.beq (cellsL z).length it.size) false) (match srcA x it.size σ with
      | some (n, new) => cond (match x with | .str _ _ => Nat.beq it.size 1 | _ => true) (appendC elem it.size it.bytes n new s σ) none
      | none => none) none
    | _, _ => none) none
  | _, _ => none
theorem grownCap_ge (w : World) (need old : Nat) (e : TypeId) : need ≤ grownCap w need old e := by
  unfold grownCap; simp only [Question.cut]; omega
theorem zeroCells_size (z : Array Value) (n : Nat) : (Builtin.zeroCells z n).size = n * z.size := by simp [Builtin.zeroCells]
theorem drew_alloc (w : World) (o : Go.Obj) : w.drew.alloc o = (w.alloc o).drew := rfl
/-- a new row that is longer than what is known of it -/
theorem Step.grown (h : Rel E σ w) (elem : TypeId) {l : List V} {C D : Array Value} (hl : LR E l C.toList) :
    Step E σ w (E.add σ.next ⟨w.heap.size, 0, (C ++ D).size⟩) (newA elem l σ) (w.drew.alloc (.cells (C ++ D) elem (0, 0))) := by
  have h1 := Step.drew h
  refine h1.trans (Step.new h1.rel rfl ?_)
  exact ObjR_more (hl.mono (Env.le_add (h.fresh _ (Nat.le_refl _))) l) rfl rfl (.inl (Nat.le_refl _))
/-- the same, and the old number is given up -/
theorem Step.del {E : Env} {σ : St} {w : World} (h : Rel E σ w) {id : Nat} {p : Place} (hp : E id = some p) : Step E σ w E ⟨σ.heap.del id, σ.next⟩ w := by
  have sub : ∀ k o, (σ.heap.del id).get k = some o → σ.heap.get k = some o := by
    intro k o hk
    by_cases e : k = id
    · subst e; rw [PT.get_del_same] at hk; cases hk
    · rwa [PT.get_del_ne _ e] at hk
  refine ⟨E.le_refl, ⟨fun k o q hk hq => h.obj k o q (sub k o hk) hq, fun i j o o' p q h1 h2 => h.inj i j o o' p q (sub _ _ h1) (sub _ _ h2), h.fresh⟩, Nat.le_refl _, fun _ _ => rfl, Nat.le_refl _, rfl, rfl, rfl, fun _ _ _ => rfl, ?_, fun j _ hj => PT.get_del_ne _ fun e => by rw [e, hp] at hj; cases hj⟩
  rintro b _ ⟨k, o, p, h1, h2, h3⟩
  exact ⟨k, o, p, sub _ _ h1, h2, h3⟩
theorem cond_some {α : Type} {b : Bool} {x : Option α} {y : α} (h : cond b x none = some y) : b = true ∧ x = some y := by
  cases b <;> simp_all
/-- a source that is appended: where there is room; where there is none -/
def SrcRoom (P : Program) (w : World) (st xt ty : TypeId) (size n : Nat) (xy : Value) (xs : List Value) : Prop :=
  ∀ (base : Option Addr) (len c : Nat) (w' : World), len + n ≤ c → (match base with | some a => (storeCells (a.add (len * size)) xs).run P w = .ok () w' | none => w' = w) →
    (Builtin.append_ #[st, xt] ty #[.slice base len c, xy]).run P w = .ok (.slice base (len + n) c) w'
def SrcNew (P : Program) (w : World) (st xt ty elem : TypeId) (it : TypeInfo) (z : Value) (n : Nat) (xy : Value) (xs : List Value) : Prop :=
  ∀ (base : Option Addr) (len c : Nat) (olds : List Value), (Builtin.firstCells it.size len (.slice base len c)).run P w.drew = .ok olds.toArray w.drew → c < len + n → len + n ≤ 9223372036854775807 → (len + n) * it.bytes ≤ 140737488355328 →
    (Builtin.append_ #[st, xt] ty #[.slice base len c, xy]).run P w =
      .ok (.slice (some ⟨w.heap.size, 0, none⟩) (len + n) (grownCap w (len + n) c elem))
        (w.drew.alloc (.cells (olds.toArray ++ xs.toArray ++ Builtin.zeroCells z.cells (grownCap w (len + n) c elem - (len + n))) elem))
theorem appendC_run (h : Rel E σ w) {st xt ty elem : TypeId} {it : TypeInfo} {z : Value} {xy : Value} {n : Nat} {xs : List Value} (hR : SrcRoom P w st xt ty it.size n xy xs) (hN : SrcNew P w st xt ty elem it z n xy xs)
    (hzs : z.cells.size = it.size) (hpos : 0 < it.size) {s : V} {sy : Value} (hs : VR E s sy) {new : List V} (hlen : new.length = n * it.size)
    (hnew : LR E new xs) {v : V} {σ' : St} (hv : appendC elem it.size it.bytes n new s σ = some (v, σ')) :
    Gives P E σ w (Builtin.append_ #[st, xt] ty #[sy, xy]) v σ' := by
  have hxlen : xs.length = n * it.size := by rw [hnew.length, hlen]
  -- a new array is made
  have fresh : ∀ {base : Option Addr} {len c : Nat} {old : List V} {olds : List Value}, sy = .slice base len c → LR E old olds → old.length = len * it.size → (Builtin.firstCells it.size len (.slice base len c)).run P w.drew = .ok olds.toArray w.drew → c < len + n →
      room (len + n) it.bytes = true → ∃ (C D : Array Value) (cp : Nat), (Builtin.append_ #[st, xt] ty #[sy, xy]).run P w = .ok (.slice (some ⟨w.heap.size, 0, none⟩) (len + n) cp) (w.drew.alloc (.cells (C ++ D) elem)) ∧ LR E (old ++ new) C.toList ∧
        (C ++ D).size = cp * it.size ∧ len + n ≤ cp := by
    intro base len c old olds hsy hold hol hfo hroom hr
    obtain ⟨r1, r2⟩ := room_spec hr
    have hrun := hN base len c _ hfo hroom r1 r2
    subst hsy
    refine ⟨olds.toArray ++ xs.toArray, _, _, hrun, ?_, ?_, grownCap_ge _ _ _ _⟩
    · simpa using hold.append hnew
    · have := grownCap_ge w (len + n) c elem
      simp only [Array.size_append, List.size_toArray, zeroCells_size, hzs, hold.length, hol, hxlen]
      rw [← Nat.add_mul, ← Nat.add_mul]
      congr 1; omega
  have newslice : ∀ {len cp : Nat} {C D : Array Value} {E' : Env}, (C ++ D).size = cp * it.size → len ≤ cp → E' σ.next = some ⟨w.heap.size, 0, (C ++ D).size⟩ → VR E' (.slice σ.next 0 len (.toEnd it.size)) (.slice (some ⟨w.heap.size, 0, none⟩) len cp) := by
    intro len cp C D E' h1 h2 h3
    simp only [VR]
    exact ⟨_, _, _, h3, rfl, .inl ⟨rfl, by simp only [Nat.zero_add]; exact h1.symm, hpos, h2⟩⟩
  cases s with
  | nils =>
    simp only [VR] at hs; subst hs
    cases n with
    | zero =>
      simp only [appendC, Option.some.injEq, Prod.mk.injEq] at hv; obtain ⟨rfl, rfl⟩ := hv
      have hrun := hR none 0 0 w (Nat.le_refl _) rfl
      exact Gives.quiet h hrun (by simp [VR])
    | succ n =>
      simp only [appendC] at hv
      obtain ⟨q1, q2⟩ := cond_some hv
      simp only [Option.some.injEq, Prod.mk.injEq] at q2; obtain ⟨rfl, rfl⟩ := q2
      obtain ⟨C, D, cp, hrun, hC, hsz, hcp⟩ := fresh (base := none) (len := 0) (c := 0) (old := []) (olds := []) rfl rfl (by simp) (by simp [Builtin.firstCells]) (by omega) (by simpa using q1)
      simp only [Nat.zero_add, List.nil_append] at hrun hC hcp
      exact ⟨_, _, _, hrun, Step.grown h elem hC, newslice hsz hcp (by simp [Env.add])⟩
  | slice id off len cap =>
    simp only [VR] at hs; obtain ⟨p, a, c, hp, rfl, hca⟩ := hs
    have hlc : len ≤ c := by
      rcases hca with ⟨_, e⟩ | ⟨e, _⟩
      · cases cap with
        | exact c' => exact e.2
        | toEnd u => exact e.2.2
      · omega
    cases n with
    | zero =>
      simp only [appendC, Option.some.injEq, Prod.mk.injEq] at hv; obtain ⟨rfl, rfl⟩ := hv
      have hx0 : xs = [] := List.length_eq_zero_iff.1 (by simpa using hxlen)
      have hrun := hR (some a) len c w (by omega) (by rw [hx0]; rfl)
      exact Gives.quiet h hrun (by simp only [VR]; exact ⟨p, a, c, hp, rfl, hca⟩)
    | succ m =>
      have hxpos : 0 < xs.length := by rw [hxlen]; exact Nat.mul_pos (by omega) hpos
      cases cap with
      | exact c' =>
        have hcc : c = c' := by
          rcases hca with ⟨_, e⟩ | ⟨_, e, e2⟩
          · exact e.1
          · simp only [CapZ] at e2; omega
        subst hcc
        simp only [appendC] at hv
        cases hr : Nat.ble (Nat.add len (Nat.succ m)) c with
        | true =>
          rw [hr] at hv; simp only [cond_true] at hv
          have hroom : len + (m + 1) ≤ c := Nat.le_of_ble_eq_true hr
          have ha : a = ⟨p.block, p.off + off, none⟩ := by
            rcases hca with ⟨e, _⟩ | ⟨_, e, _⟩
            · exact e
            · omega
          subst ha
          split at hv
          · rename_i e cs ho
            split at hv
            · rename_i old hg
              obtain ⟨q1, q2⟩ := cond_some hv
              simp only [Option.some.injEq, Prod.mk.injEq] at q2; obtain ⟨rfl, rfl⟩ := q2
              obtain ⟨C, lo, hi', hb, hsz, hC, hfr⟩ := h.cells ho hp
              obtain ⟨g1, g2⟩ := PT.getL_spec cs _ _ _ hg
              have hwide : p.off + (off + len * it.size) + xs.length ≤ p.size := by
                have hlast : xs.length - 1 < old.length := by rw [g1]; show _ < (m + 1) * it.size; omega
                obtain ⟨y, hy, _⟩ := hC _ _ (g2 (xs.length - 1) _ (List.getElem?_eq_getElem hlast))
                have h1 := (Array.getElem?_eq_some_iff.1 hy).1
                have h2 : p.off + (off + len * it.size + (xs.length - 1)) < C.size := h1
                omega
              have hst' := storeCells_run P hb (hnew.oneCell q1) (o := p.off + (off + len * it.size)) (by rw [hsz]; exact hwide) (by rw [hsz]; exact hfr rfl)
              have hrun := hR (some ⟨p.block, p.off + off, none⟩) len c _ hroom (by show (storeCells ((⟨p.block, p.off + off, none⟩ : Addr).add (len * it.size)) xs).run P w = _; rw [add_lit, Nat.add_assoc]; exact hst')
              refine ⟨_, E, _, hrun, Step.put h ho hp (setCells_size _ _ _ _) (setCells_rest _ _ _ _).1 (setCells_rest _ _ _ _).2.1 (setCells_rest _ _ _ _).2.2 (setCells_heap _ _ _ _ _ _ _ hb) (fun k hk => setCells_other _ _ _ _ _ hk) ⟨_, lo, hi', rfl, by rw [wr_size, hsz], wr_rel hsz hC hnew hwide, hfr⟩, ?_⟩
              simp only [VR]
              exact ⟨p, _, c, hp, rfl, .inl ⟨rfl, rfl, hroom⟩⟩
            · cases hv
          · cases hv
        | false =>
          rw [hr] at hv; simp only [cond_false] at hv
          have hroom : c < len + (m + 1) := by
            rcases Nat.lt_or_ge c (len + (m + 1)) with e | e
            · exact e
            · rw [show Nat.ble (Nat.add len (Nat.succ m)) c = true from Nat.ble_eq_true_of_le e] at hr; cases hr
          split at hv
          · rename_i old hold
            obtain ⟨q1, q2⟩ := cond_some hv
            simp only [Option.some.injEq, Prod.mk.injEq] at q2; obtain ⟨rfl, rfl⟩ := q2
            have holds : ∃ olds : List Value, LR E old olds ∧ old.length = len * it.size ∧ (Builtin.firstCells it.size len (.slice (some a) len c)).run P w.drew = .ok olds.toArray w.drew := by
              unfold oldL at hold
              split at hold
              · rename_i e0
                simp only [Option.some.injEq] at hold; subst hold
                have e0' : len * it.size = 0 := e0
                exact ⟨[], rfl, by simp [e0'], by simp [Builtin.firstCells, e0', loadCells, loadCellsFrom]⟩
              · rename_i k e0
                split at hold
                · rename_i e cs ro ho
                  have e0' : len * it.size = k + 1 := e0
                  have ha : a = ⟨p.block, p.off + off, none⟩ := by
                    rcases hca with ⟨e, _⟩ | ⟨e, _, _⟩
                    · exact e
                    · rw [e] at e0'; omega
                  subst ha
                  rw [e0] at hold
                  obtain ⟨olds, ho1, ho2⟩ := h.range ho hp hold
                  have hl1 := (PT.getL_spec cs _ _ _ hold).1
                  have hr1 := run_loadRange (w := w.drew) P p.block (p.off + off) olds (fun j x hj => ho2 j x hj)
                  rw [ho1.length, hl1] at hr1
                  exact ⟨olds, ho1, by rw [hl1]; exact e0'.symm, by simp only [Builtin.firstCells, e0']; exact hr1⟩
                · cases hold
            obtain ⟨olds, hold1, hold2, hold3⟩ := holds
            obtain ⟨C, D, cp, hrun, hC, hsz, hcp⟩ := fresh rfl hold1 hold2 hold3 hroom q1
            exact ⟨_, _, _, hrun, Step.grown h elem hC, newslice hsz hcp (by simp [Env.add])⟩
          · cases hv
      | toEnd u =>
        simp only [appendC] at hv
        obtain ⟨q1, q2⟩ := cond_some hv
        have hu : u = it.size := Nat.eq_of_beq_eq_true q1
        subst hu
        split at q2
        · rename_i e cs ho
          obtain ⟨q3, q4⟩ := cond_some q2
          have he : e = elem := Nat.eq_of_beq_eq_true q3
          subst he
          split at q4
          · rename_i old hg
            obtain ⟨q5, q6⟩ := cond_some q4
            obtain ⟨q7, q8⟩ := cond_and q5
            simp only [Option.some.injEq, Prod.mk.injEq] at q6; obtain ⟨rfl, rfl⟩ := q6
            obtain ⟨olds, ho1, ho2⟩ := h.range ho hp hg
            have hl1 := (PT.getL_spec cs _ _ _ hg).1
            by_cases hroom : len + (m + 1) ≤ c
            · -- in place
              have hcap : a = ⟨p.block, p.off + off, none⟩ ∧ p.off + off + c * it.size = p.size := by
                rcases hca with ⟨e1, e2⟩ | ⟨_, e2, _⟩
                · exact ⟨e1, e2.1⟩
                · omega
              obtain ⟨rfl, hend⟩ := hcap
              obtain ⟨C, lo, hi', hb, hsz, hC, hfr⟩ := h.cells ho hp
              have hle : (len + (m + 1)) * it.size ≤ c * it.size := Nat.mul_le_mul_right _ hroom
              have hwide : p.off + off + len * it.size + xs.length ≤ p.size := by rw [hxlen]; rw [Nat.add_mul] at hle; omega
              have hst' := storeCells_run P hb (hnew.oneCell q8) (o := p.off + off + len * it.size) (by rw [hsz]; exact hwide) (by rw [hsz]; exact hfr rfl)
              have hrun := hR (some ⟨p.block, p.off + off, none⟩) len c _ hroom (by show (storeCells ((⟨p.block, p.off + off, none⟩ : Addr).add (len * it.size)) xs).run P w = _; rw [add_lit]; exact hst')
              have hE : E σ.next = none := h.fresh _ (Nat.le_refl _)
              refine ⟨_, E.add σ.next ⟨p.block, p.off + off, p.size⟩, _, hrun, Step.move h ho hp (q := ⟨p.block, p.off + off, p.size⟩) rfl (setCells_size _ _ _ _) (setCells_rest _ _ _ _).1 (setCells_rest _ _ _ _).2.1 (setCells_rest _ _ _ _).2.2 (setCells_heap _ _ _ _ _ _ _ hb) (fun k hk => setCells_other _ _ _ _ _ hk) ⟨_, lo, hi', rfl, by rw [wr_size, hsz], ?_, hfr⟩, ?_⟩
              · intro i v hv
                rw [PT.get_setL] at hv
                split at hv
                · rename_i hlt
                  simp only [Nat.sub_zero, Nat.zero_add] at hv hlt
                  have hlen2 : (old ++ new).length = len * it.size + (m + 1) * it.size := by rw [List.length_append, hl1, hlen]; rfl
                  rw [wr_get]
                  show ∃ x, (if p.off + off + len * it.size ≤ p.off + off + i ∧ p.off + off + i < p.off + off + len * it.size + xs.length ∧ p.off + off + i < C.size then xs[p.off + off + i - (p.off + off + len * it.size)]? else C[p.off + off + i]?) = some x ∧ _
                  by_cases hi2 : i < len * it.size
                  · rw [if_neg (by omega)]
                    rw [List.getElem?_append_left (by rw [hl1]; exact hi2)] at hv
                    obtain ⟨g1, g2⟩ := PT.getL_spec cs _ _ _ hg
                    obtain ⟨x, hx, hr⟩ := hC _ _ (g2 i v hv)
                    refine ⟨x, ?_, hr.mono (Env.le_add hE)⟩
                    rw [Nat.add_assoc]; exact hx
                  · rw [if_pos (by rw [hsz]; omega)]
                    rw [List.getElem?_append_right (by rw [hl1]; show len * it.size ≤ i; omega), hl1] at hv
                    obtain ⟨x, hx, hr⟩ := hnew.get _ hv
                    refine ⟨x, ?_, hr.mono (Env.le_add hE)⟩
                    rw [← hx]; congr 1; show p.off + off + i - (p.off + off + len * it.size) = i - len * it.size; omega
                · simp at hv
              · simp only [VR]
                refine ⟨⟨p.block, p.off + off, p.size⟩, _, c, by simp [Env.add], rfl, .inl ⟨rfl, ?_, hpos, hroom⟩⟩
                simpa using hend
            · -- a new array
              have hlt : c < len + (m + 1) := by omega
              have holds3 : (Builtin.firstCells it.size len (.slice (some a) len c)).run P w.drew = .ok olds.toArray w.drew := by
                by_cases hz0 : len = 0
                · subst hz0
                  have : olds = [] := List.length_eq_zero_iff.1 (by rw [ho1.length, hl1]; simp)
                  subst this
                  simp [Builtin.firstCells, loadCells, loadCellsFrom]
                · have ha : a = ⟨p.block, p.off + off, none⟩ := by
                    rcases hca with ⟨e, _⟩ | ⟨e, _, _⟩
                    · exact e
                    · omega
                  subst ha
                  have hr1 := run_loadRange (w := w.drew) P p.block (p.off + off) olds (fun j x hj => ho2 j x hj)
                  rw [ho1.length, hl1] at hr1
                  exact hr1
              obtain ⟨C, D, cp, hrun, hC, hsz, hcp⟩ := fresh rfl ho1 hl1 holds3 hlt q7
              have s1 := Step.del h hp
              have s2 := Step.grown (D := D) s1.rel e hC
              exact ⟨_, _, _, hrun, s1.trans s2, newslice hsz hcp (by simp [Env.add])⟩
          · cases q4
        · cases q2
  | _ => simp [appendC] at hv

theorem wrap_i64_nat {n : Nat} (h : n ≤ 9223372036854775807) : IntKind.i64.wrap (n : Int) = n := by
  rw [← wrapK_eq]
  show wrapN .i64 (umod .i64 (n : Int)) = _
  have : umod .i64 (n : Int) = n := by show Nat.mod n 18446744073709551616 = n; exact Nat.mod_eq_of_lt (by omega)
  rw [this]
  have hb : Nat.ble 9223372036854775808 n = false := by
    cases hh : Nat.ble 9223372036854775808 n with
    | false => rfl
    | true => have := Nat.le_of_ble_eq_true hh; omega
  simp only [wrapN, hb, cond_false]; rfl
theorem src_zeros_room {st xt ty elem : TypeId} {k k' : IntKind} (hst : P.underlying st = some (.slice elem)) (hxt : P.underlying xt = some (.int k)) {it : TypeInfo} (hi : P.info? elem = some it) {z : Value} (hz : it.zero = some z) (hzs : z.cells.size = it.size) {n : Nat}
    (r1 : n ≤ 9223372036854775807) (r2 : n * it.bytes ≤ 140737488355328) : SrcRoom P w st xt ty it.size n (.int k' (n : Int)) (madeCells z.cells (n * z.cells.size)).toList := by
  intro base len c w' hroom hstore
  have hw : IntKind.i64.wrap (n : Int) = n := wrap_i64_nat r1
  have h1 : ¬ ((n : Int) < 0) := by omega
  have h2 : ¬ (281474976710656 < (n : Int) * (it.bytes : Int)) := by
    have e : ((n * it.bytes : Nat) : Int) ≤ 140737488355328 := by omega
    rw [Int.natCast_mul] at e; omega
  have hz2 : (zeroValue elem).run P w = .ok z w := by simp [zeroValue, typeInfo, hi, hz]
  by_cases h0 : n * it.size = 0
  · have hnil : (madeCells z.cells (n * z.cells.size)).toList = [] := by rw [hzs, h0]; simp [madeCells]
    rw [hnil] at hstore
    cases base with
    | none =>
      subst hstore
      simp [Builtin.append_, run_underlying hst, run_underlying hxt, sizeOf, typeInfo, hi, hroom, asInt, asIntOf, hw, h1, h2, h0]
    | some a =>
      simp [Builtin.append_, run_underlying hst, run_underlying hxt, sizeOf, typeInfo, hi, hroom, asInt, asIntOf, hw, h1, h2, h0, hstore]
  · have hcells : (Builtin.zeroCells z.cells n).toList = (madeCells z.cells (n * z.cells.size)).toList := rfl
    cases base with
    | none =>
      subst hstore
      simp [Builtin.append_, run_underlying hst, run_underlying hxt, sizeOf, typeInfo, hi, hroom, asInt, asIntOf, hw, h1, h2, h0, hz2]
    | some a =>
      simp only at hstore
      rw [← hcells] at hstore
      simp [Builtin.append_, run_underlying hst, run_underlying hxt, sizeOf, typeInfo, hi, hroom, asInt, asIntOf, hw, h1, h2, h0, hz2, hstore]
theorem src_zeros_new {st xt ty elem : TypeId} {k k' : IntKind} (hst : P.underlying st = some (.slice elem)) (hxt : P.underlying xt = some (.int k)) {it : TypeInfo} (hi : P.info? elem = some it) {z : Value} (hz : it.zero = some z) (hzs : z.cells.size = it.size) {n : Nat}
    (r1 : n ≤ 9223372036854775807) (r2 : n * it.bytes ≤ 140737488355328) : SrcNew P w st xt ty elem it z n (.int k' (n : Int)) (madeCells z.cells (n * z.cells.size)).toList := by
  intro base len c olds hfo hroom h63 h47
  have hn : ¬ (len + n ≤ c) := by omega
  have h48 : ¬ (Builtin.nextslicecap (len + n) c * it.bytes > 281474976710656) := by
    have := growslice_fits (need := len + n) (old := c) (bytes := it.bytes) hroom h47
    omega
  have h63'' : ¬ (9223372036854775807 < (len : Int) + (n : Int)) := by omega
  have h48' : ¬ (281474976710656 < Builtin.nextslicecap (len + n) c * it.bytes) := by omega
  have hw : IntKind.i64.wrap (n : Int) = n := wrap_i64_nat r1
  have h1 : ¬ ((n : Int) < 0) := by omega
  have h2 : ¬ (281474976710656 < (n : Int) * (it.bytes : Int)) := by
    have e : ((n * it.bytes : Nat) : Int) ≤ 140737488355328 := by omega
    rw [Int.natCast_mul] at e; omega
  have hz2 : ∀ w, (zeroValue elem).run P w = .ok z w := fun w => by simp [zeroValue, typeInfo, hi, hz]
  by_cases h0 : n * it.size = 0
  · have hnil : (madeCells z.cells (n * z.cells.size)).toList = [] := by rw [hzs, h0]; simp [madeCells]
    rw [hnil]
    simp [Builtin.append_, run_underlying hst, run_underlying hxt, sizeOf, typeInfo, hi, hn, h63'', h48', Question.forced, hfo, newRow, grownCap, asInt, asIntOf, hw, h1, h2, h0, hz2]
  · have hcells : (madeCells z.cells (n * z.cells.size)) = Builtin.zeroCells z.cells n := rfl
    simp [Builtin.append_, run_underlying hst, run_underlying hxt, sizeOf, typeInfo, hi, hn, h63'', h48', Question.forced, hfo, newRow, grownCap, asInt, asIntOf, hw, h1, h2, h0, hz2, hcells]
end
end
end Go.Dg

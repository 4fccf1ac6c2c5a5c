/- The deterministic machine, part 1: values, memory, and how they stand to the model's. -/
import Derived.Below
namespace Go.Dg
open Go Go.RowKit

/-! ## texts as numbers -/
def codeOf : List UInt8 → Nat
  | [] => 0
  | b :: l => b.toNat + 256 * codeOf l
def bytesOf : Nat → Nat → List UInt8
  | 0, _ => []
  | n + 1, c => UInt8.ofNat (c % 256) :: bytesOf n (c / 256)

theorem codeOf_lt : ∀ l : List UInt8, codeOf l < 256 ^ l.length
  | [] => by simp [codeOf]
  | b :: l => by
    have h := codeOf_lt l
    have hb : b.toNat < 256 := b.toNat_lt
    simp only [codeOf, List.length_cons, Nat.pow_succ]
    omega
theorem bytesOf_codeOf : ∀ l : List UInt8, bytesOf l.length (codeOf l) = l
  | [] => rfl
  | b :: l => by
    have hb : b.toNat < 256 := b.toNat_lt
    simp only [codeOf, List.length_cons, bytesOf]
    have h1 : (b.toNat + 256 * codeOf l) % 256 = b.toNat := by omega
    have h2 : (b.toNat + 256 * codeOf l) / 256 = codeOf l := by omega
    rw [h1, h2, bytesOf_codeOf l]; simp
theorem codeOf_inj {a b : List UInt8} (h : a.length = b.length) (hc : codeOf a = codeOf b) : a = b := by
  rw [← bytesOf_codeOf a, ← bytesOf_codeOf b, h, hc]
theorem codeOf_append : ∀ a b : List UInt8, codeOf (a ++ b) = codeOf a + 256 ^ a.length * codeOf b
  | [], b => by simp [codeOf]
  | x :: a, b => by
    simp only [List.cons_append, codeOf, codeOf_append a b, List.length_cons, Nat.pow_succ]
    rw [Nat.mul_add, ← Nat.mul_assoc, Nat.add_assoc, Nat.mul_comm 256 (256 ^ a.length)]
theorem codeOf_drop : ∀ (a : List UInt8) (n : Nat), codeOf (a.drop n) = codeOf a / 256 ^ n
  | a, 0 => by simp
  | [], n + 1 => by simp [codeOf]
  | x :: a, n + 1 => by
    have hb : x.toNat < 256 := x.toNat_lt
    simp only [List.drop_succ_cons, codeOf, codeOf_drop a n, Nat.pow_succ]
    rw [Nat.mul_comm (256 ^ n) 256, ← Nat.div_div_eq_div_mul]
    congr 1; omega
theorem codeOf_take : ∀ (a : List UInt8) (n : Nat), codeOf (a.take n) = codeOf a % 256 ^ n
  | a, 0 => by simp [codeOf, Nat.mod_one]
  | [], n + 1 => by simp [codeOf]
  | x :: a, n + 1 => by
    have hb : x.toNat < 256 := x.toNat_lt
    simp only [List.take_succ_cons, codeOf, codeOf_take a n, Nat.pow_succ]
    rw [Nat.mul_comm (256 ^ n) 256, Nat.mod_mul]
    have h1 : (x.toNat + 256 * codeOf a) % 256 = x.toNat := by omega
    have h2 : (x.toNat + 256 * codeOf a) / 256 = codeOf a := by omega
    rw [h1, h2]
theorem codeOf_get (a : List UInt8) (n : Nat) (h : n < a.length) : (a[n]).toNat = codeOf a / 256 ^ n % 256 := by
  have h1 := codeOf_drop a n
  rw [List.drop_eq_getElem_cons h] at h1
  have hb : (a[n]).toNat < 256 := (a[n]).toNat_lt
  simp only [codeOf] at h1
  omega

/-! ## values -/
inductive Cap where
  | exact (c : Nat)
  | toEnd (w : Nat)
  deriving DecidableEq, Inhabited
inductive V where
  | bool (b : Bool)
  | int (k : IntKind) (n : Int)
  | str (n c : Nat)
  | nilp
  | ptr (id off : Nat)
  | nils
  | slice (id off len : Nat) (cap : Cap)
  | nilm
  | map (id : Nat)
  | func (fn : Fn) (first captured : List V)
  | nilf
  | iface (t : TypeId) (v : V)
  | nili
  | agg (cs : List V)
  | tuple (vs : List V)
  deriving Inhabited
/-- no value yet -/
def V.undef : V := .tuple []

structure Place where
  block : Nat
  off : Nat
  size : Nat
abbrev Env := Nat → Option Place

def CapR (p : Place) (off len : Nat) : Cap → Nat → Prop
  | .exact c', c => c = c' ∧ len ≤ c
  | .toEnd w, c => p.off + off + c * w = p.size ∧ 0 < w ∧ len ≤ c

/-- a capacity that may be 0 -/
def CapZ : Cap → Prop
  | .exact c => c = 0
  | .toEnd w => 0 < w
mutual
def VR (E : Env) : V → Value → Prop
  | .bool b, x => x = .bool b
  | .int k n, x => x = .int k n
  | .str n c, x => ∃ s : ByteArray, x = .string s ∧ n = s.data.toList.length ∧ c = codeOf s.data.toList
  | .nilp, x => x = .pointer none
  | .ptr id off, x => ∃ p, E id = some p ∧ x = .pointer (some ⟨p.block, p.off + off, none⟩)
  | .nils, x => x = .slice none 0 0
  | .slice id off len cap, x => ∃ p a c, E id = some p ∧ x = .slice (some a) len c ∧ ((a = ⟨p.block, p.off + off, none⟩ ∧ CapR p off len cap c) ∨ (len = 0 ∧ c = 0 ∧ CapZ cap))
  | .nilm, x => x = .map none
  | .map id, x => ∃ p, E id = some p ∧ x = .map (some p.block)
  | .func fn first captured, x => ∃ a b : Array Value, x = .func fn a b ∧ LR E first a.toList ∧ LR E captured b.toList
  | .nilf, x => x = .nilFunc
  | .iface t v, x => ∃ y, x = .iface t y ∧ VR E v y
  | .nili, x => x = .nilIface
  | .agg cs, x => ∃ a : Array Value, x = .agg a ∧ LR E cs a.toList
  | .tuple vs, x => ∃ a : Array Value, x = .tuple a ∧ LR E vs a.toList
def LR (E : Env) : List V → List Value → Prop
  | [], l => l = []
  | v :: vs, l => ∃ x xs, l = x :: xs ∧ VR E v x ∧ LR E vs xs
end

def Env.le (E E' : Env) : Prop := ∀ id p, E id = some p → E' id = some p
theorem Env.le_refl (E : Env) : E.le E := fun _ _ h => h
theorem Env.le_trans {E E' E'' : Env} (h : E.le E') (h' : E'.le E'') : E.le E'' := fun id p hp => h' id p (h id p hp)

mutual
theorem VR.mono {E E' : Env} (h : E.le E') : ∀ (v : V) {x : Value}, VR E v x → VR E' v x
  | .bool _, _, hx | .int _ _, _, hx | .nilp, _, hx | .nils, _, hx | .nilm, _, hx | .nilf, _, hx | .nili, _, hx => by simpa [VR] using hx
  | .str _ _, _, hx => by simpa [VR] using hx
  | .ptr _ _, _, hx => by simp only [VR] at *; obtain ⟨p, hp, hx⟩ := hx; exact ⟨p, h _ _ hp, hx⟩
  | .slice _ _ _ _, _, hx => by simp only [VR] at *; obtain ⟨p, a, c, hp, hx⟩ := hx; exact ⟨p, a, c, h _ _ hp, hx⟩
  | .map _, _, hx => by simp only [VR] at *; obtain ⟨p, hp, hx⟩ := hx; exact ⟨p, h _ _ hp, hx⟩
  | .func _ f c, _, hx => by
    simp only [VR] at *; obtain ⟨a, b, hx, h1, h2⟩ := hx; exact ⟨a, b, hx, LR.mono h f h1, LR.mono h c h2⟩
  | .iface _ v, _, hx => by simp only [VR] at *; obtain ⟨y, hx, hy⟩ := hx; exact ⟨y, hx, VR.mono h v hy⟩
  | .agg cs, _, hx => by simp only [VR] at *; obtain ⟨a, hx, hy⟩ := hx; exact ⟨a, hx, LR.mono h cs hy⟩
  | .tuple cs, _, hx => by simp only [VR] at *; obtain ⟨a, hx, hy⟩ := hx; exact ⟨a, hx, LR.mono h cs hy⟩
theorem LR.mono {E E' : Env} (h : E.le E') : ∀ (l : List V) {xs : List Value}, LR E l xs → LR E' l xs
  | [], _, hx => by simpa [LR] using hx
  | v :: l, _, hx => by
    simp only [LR] at *; obtain ⟨x, xs, hx, h1, h2⟩ := hx; exact ⟨x, xs, hx, VR.mono h v h1, LR.mono h l h2⟩
end
theorem LR.length {E : Env} : ∀ {l : List V} {xs : List Value}, LR E l xs → xs.length = l.length
  | [], _, h => by simp only [LR] at h; subst h; rfl
  | v :: l, _, h => by
    simp only [LR] at h; obtain ⟨x, xs, rfl, _, h2⟩ := h; simp [LR.length h2]
theorem LR.get {E : Env} : ∀ {l : List V} {xs : List Value} (_ : LR E l xs) (i : Nat) {v : V}, l[i]? = some v → ∃ x, xs[i]? = some x ∧ VR E v x
  | [], _, _, _, _, hv => by simp at hv
  | v :: l, _, h, 0, _, hv => by
    simp only [LR] at h; obtain ⟨x, xs, rfl, h1, _⟩ := h; simp at hv; subst hv; exact ⟨x, rfl, h1⟩
  | v :: l, _, h, i + 1, _, hv => by
    simp only [LR] at h; obtain ⟨x, xs, rfl, _, h2⟩ := h; simpa using LR.get h2 i (by simpa using hv)
theorem LR.append {E : Env} : ∀ {l : List V} {xs : List Value} {l' : List V} {xs' : List Value}, LR E l xs → LR E l' xs' → LR E (l ++ l') (xs ++ xs')
  | [], _, _, _, h, h' => by simp only [LR] at h; subst h; simpa using h'
  | v :: l, _, _, _, h, h' => by
    simp only [LR] at h; obtain ⟨x, xs, rfl, h1, h2⟩ := h
    exact ⟨x, _, rfl, h1, LR.append h2 h'⟩
theorem LR.intro {E : Env} : ∀ {l : List V} {xs : List Value}, xs.length = l.length → (∀ (i : Nat) (v : V), l[i]? = some v → ∃ x, xs[i]? = some x ∧ VR E v x) → LR E l xs
  | [], xs, hl, _ => by simp only [LR]; exact List.length_eq_zero_iff.1 hl
  | v :: l, [], hl, _ => by simp at hl
  | v :: l, x :: xs, hl, h => by
    refine ⟨x, xs, rfl, ?_, LR.intro (by simpa using hl) fun i v' hv' => by simpa using h (i + 1) v' (by simpa using hv')⟩
    obtain ⟨x', hx', hr⟩ := h 0 v rfl
    simp at hx'; subst hx'; exact hr
end Go.Dg

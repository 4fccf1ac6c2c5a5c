/- The deterministic machine, part 12: what an operation, a region, a body, a call comes to. -/
import Derived.Test.YtgmaniiaingjhaaGreatDoorDgK
import Derived.Orders
namespace Go.Dg
open Go Go.RowKit
noncomputable section

def evs (t : PT V) (l : List Operand) : Option (List V) := mapO (ev t) l
def evo (t : PT V) : Option Operand → Option (Option V)
  | none => some none
  | some x => (match ev t x with
    | some v => some (some v)
    | none => none)
def evp (t : PT V) (l : List (Nat × Operand)) : Option (List (Nat × V)) := mapO (fun (p : Nat × Operand) => (match ev t p.2 with
  | some v => some (p.1, v)
  | none => none)) l
def q1 (σ : St) : Option V → Option (V × St)
  | some v => some (v, σ)
  | none => none
def q2 : Option St → Option (V × St)
  | some σ => some (V.undef, σ)
  | none => none
def isConstB : Operand → Bool
  | .const _ => true
  | _ => false
def binA (P : Program) (op : BinOp) (ty : TypeId) (x y : Operand) (a b : V) : Option V :=
  match a, b with
  | .int k m, .int j n => arith op k m j n
  | .str n c, .str m d => strOp op n c m d
  | a, b => cond (match a, b with
      | .nili, .nili => cond (isConstB x) true (isConstB y)
      | .agg _, .agg _ => cond (P.eqGuardType P.depth ty) false true
      | _, _ => true) (match op with
    | .eql => (match eqA P 8 ty a b with
      | some r => some (.bool r)
      | none => none)
    | .neq => (match eqA P 8 ty a b with
      | some r => some (.bool (cond r false true))
      | none => none)
    | _ => none) none
def unA (op : UnOp) (x : V) : Option V :=
  match op, x with
  | .not, .bool b => some (.bool (cond b false true))
  | .neg, .int k n => some (.int k (wrapK k (ineg n)))
  | _, _ => none
def lenA (P : Program) (t : TypeId) (x : V) (σ : St) : Option V :=
  match P.underlying t, x with
  | some .string, .str n _ => some (.int .i64 (Int.ofNat n))
  | some (.array n _), _ => some (.int .i64 (Int.ofNat n))
  | some (.slice _), .nils => some (.int .i64 (Int.ofNat 0))
  | some (.slice _), .slice _ _ n _ => some (.int .i64 (Int.ofNat n))
  | some (.map _ _), .nilm => some (.int .i64 (Int.ofNat 0))
  | some (.map _ _), .map id => (match σ.heap.get id with
    | some (.map es _) => some (.int .i64 (Int.ofNat es.length))
    | _ => none)
  | _, _ => none
def min2A (mx : Bool) (x y : V) : Option V :=
  match x, y with
  | .int k a, .int _ b => some (.int k (cond mx (cond (ilt a b) b a) (cond (ilt b a) b a)))
  | _, _ => none
def minA (mx : Bool) (x : V) (l : List V) : Option V :=
  match l with
  | [] => some x
  | y :: l => (match min2A mx x y with
    | some z => minA mx z l
    | none => none)
def typeAssertA (P : Program) (x : V) (asserted : TypeId) (commaOk : Bool) : Option V :=
  match P.underlying asserted, x with
  | some (.interface _), _ => none
  | some _, .iface t v => cond (Nat.beq t asserted) (some (cond commaOk (.tuple [v, .bool true]) v)) (cond commaOk (match zeroV P asserted with
    | some z => some (.tuple [z, .bool false])
    | none => none) none)
  | some _, .nili => cond commaOk (match zeroV P asserted with
    | some z => some (.tuple [z, .bool false])
    | none => none) none
  | _, _ => none
def deleteA (P : Program) (t : TypeId) (x k : V) (σ : St) : Option St :=
  match P.underlying t, x with
  | some (.map key _), .map id => (match σ.heap.get id with
    | some (.map es clock) => cond (ckA P key k) (match findL P key k es 0 with
      | some (some (i, _)) => some (σ.put id (.map (es.eraseIdx i) clock))
      | some none => some (σ.put id (.map es clock))
      | none => none) none
    | _ => none)
  | _, _ => none
def q3 : Option St → Option (V × St)
  | some σ => some (.tuple [], σ)
  | none => none
def builtinA (P : Program) (b : Builtin) (ats : List TypeId) (args : List V) (σ : St) : Option (V × St) :=
  match b, ats, args with
  | .len, [t], [x] => q1 σ (lenA P t x σ)
  | .append, [st, xt], [s, x] => appendA P st xt s x σ
  | .delete, [t, _], [x, k] => q3 (deleteA P t x k σ)
  | .min, _, x :: l => q1 σ (minA false x l)
  | .max, _, x :: l => q1 σ (minA true x l)
  | _, _, _ => none
def methodA (P : Program) (t : TypeId) (v : V) (name : String) : Option (FuncId × V) :=
  match P.info? t, P.underlying t with
  | some i, some (.pointer _) => (match i.methods.find? (·.name == name) with
    | some m => (match m.path.toList, m.func with
      | [], some (f, true) => some (f, v)
      | _, _ => none)
    | none => none)
  | _, _ => none
def opA (P : Program) (t : PT V) (o : Oper) (σ : St) : Option (V × St) :=
  match o.op with
  | .move x => q1 σ (ev t x)
  | .assign x => q1 σ (ev t x)
  | .pick c a b => (match ev t c with
    | some (.bool r) => q1 σ (cond r (ev t a) (ev t b))
    | _ => none)
  | .alloc e => allocA P e σ
  | .box e x => (match ev t x with
    | some v => some (boxA e v σ)
    | none => none)
  | .build ty ps => (match evp t ps.toList with
    | some l => q1 σ (buildA P ty l)
    | none => none)
  | .buildSlice ty n ps => (match evp t ps.toList with
    | some l => buildSliceA P ty n l σ
    | none => none)
  | .load ty a => (match ev t a with
    | some (.ptr id off) => q1 σ (loadA P ty id off σ)
    | _ => none)
  | .store ty a x => (match ev t a, ev t x with
    | some (.ptr id off), some v => q2 (storeA P ty id off v σ)
    | _, _ => none)
  | .nilCheck x => (match ev t x with
    | some (.ptr id off) => some (.ptr id off, σ)
    | some (.func (.func f) a b) => some (.func (.func f) a b, σ)
    | some (.iface ty v) => some (.iface ty v, σ)
    | some (.func (.method name) [.iface ty v] c) => (match methodA P ty v name with
      | some _ => some (.func (.method name) [.iface ty v] c, σ)
      | none => none)
    | _ => none)
  | .binOp op ty x y _ => (match ev t x, ev t y with
    | some a, some b => q1 σ (binA P op ty x y a b)
    | _, _ => none)
  | .unOp op _ x => (match ev t x with
    | some v => q1 σ (unA op v)
    | none => none)
  | .convert s d x => (match ev t x with
    | some v => convertA P s d v σ
    | none => none)
  | .makeInterface xt x => (match P.underlying xt, ev t x with
    | some (.interface _), _ => none
    | some _, some v => some (.iface xt v, σ)
    | _, _ => none)
  | .makeFunc fn a b => (match evs t a.toList, evs t b.toList with
    | some l, some m => some (.func fn l m, σ)
    | _, _ => none)
  | .makeMap ty r => (match evo t r, P.underlying ty with
    | some x, some (.map _ _) => makeMapA x σ
    | _, _ => none)
  | .makeSlice ty l c => (match ev t l, ev t c with
    | some a, some b => makeSliceA P ty a b σ
    | _, _ => none)
  | .slice ty x lo hi mx => (match ev t x, evo t lo, evo t hi, evo t mx with
    | some v, some a, some b, some c => q1 σ (sliceA P ty v a b c)
    | _, _, _, _ => none)
  | .fieldAddr s x f => (match ev t x with
    | some v => q1 σ (fieldAddrA P s f v)
    | none => none)
  | .field ty x f => (match ev t x with
    | some v => q1 σ (fieldA P ty v f)
    | none => none)
  | .indexAddr ty x i => (match ev t x, ev t i with
    | some v, some j => q1 σ (indexAddrA P ty v j)
    | _, _ => none)
  | .index ty x i => (match ev t x, ev t i with
    | some v, some j => q1 σ (indexA P ty v j)
    | _, _ => none)
  | .lookup xt x k ok => (match ev t x, ev t k with
    | some m, some v => q1 σ (lookupA P xt m v ok σ)
    | _, _ => none)
  | .mapUpdate ty m k x => (match ev t m, ev t k, ev t x with
    | some a, some b, some c => q2 (mapUpdateA P ty a b c σ)
    | _, _, _ => none)
  | .insert ty m k x => (match ev t m, ev t k, ev t x with
    | some a, some b, some c => q2 (mapUpdateA P ty a b c σ)
    | _, _, _ => none)
  | .range ty x => (match ev t x with
    | some v => rangeA P ty v σ
    | none => none)
  | .next it s => (match ev t it with
    | some v => nextA v s σ
    | none => none)
  | .typeAssert x _ ty ok => (match ev t x with
    | some v => q1 σ (typeAssertA P v ty ok)
    | none => none)
  | .extract x i => (match ev t x with
    | some (.tuple vs) => q1 σ vs[i]?
    | _ => none)
  | .call c => (match c.callee with
    | .builtin b => (match evs t c.args.toList with
      | some l => builtinA P b c.argTypes.toList l σ
      | none => none)
    | _ => none)
  | _ => none
/-- what a call is of -/
def enterA (P : Program) (f : FuncId) (args : List V) : Option (Bool × FuncId × List V) :=
  match P.funcs[f]? with
  | some fn => some (fn.body.isSome, f, args)
  | none => none
def calleeA (P : Program) (t : PT V) (c : Call) : Option (Bool × FuncId × List V) :=
  match c.callee, evs t c.args.toList with
  | .value f, some args => (match ev t f with
    | some (.func (.func g) first captured) => enterA P g (first ++ args ++ captured)
    | _ => none)
  | .invoke r name, some args => (match ev t r with
    | some (.iface ty v) => (match methodA P ty v name with
      | some (g, recv) => enterA P g (recv :: args)
      | none => none)
    | _ => none)
  | _, _ => none
def putA (N : Nat) (t : PT V) (d : Option Tmp) (v : V) : Option (PT V) :=
  match d with
  | none => some t
  | some i => cond (Nat.ble (Nat.succ i) N) (some (t.set i v)) none
/-- is an operation wanted? -/
def wantA (ops : Array Oper) (t : PT V) (o : Oper) : Option Bool :=
  match o.guard with
  | none => some true
  | some (j, want) => (match (ops[j]?).bind (·.dst) with
    | some d => (match t.get d with
      | some (.bool b) => some (cond b want (cond want false true))
      | some (.tuple []) => some false
      | _ => none)
    | none => none)
abbrev CallF := FuncId → List V → St → Option (V × St)
/-- what is known beside the program's text: functions without a body; deferred calls that do nothing where nothing panics -/
structure Beside where
  ext : FuncId → List V → Option V
  harm : FuncId → Bool
  /-- calls that are known to come to a value and to turn nothing that was there -/
  known : FuncId → List V → Option V := fun _ _ => none
def execA (P : Program) (B : Beside) (call : CallF) (t : PT V) (o : Oper) (σ : St) : Option (V × St) :=
  match o.op with
  | .call c => (match c.callee with
    | .builtin _ => opA P t o σ
    | _ => (match calleeA P t c with
      | some (true, f, args) => call f args σ
      | some (false, f, args) => q1 σ (B.ext f args)
      | none => none))
  | .defer c => (match c.callee with
    | .value _ => (match calleeA P t c with
      | some (true, f, _) => cond (B.harm f) (some (V.undef, σ)) none
      | _ => none)
    | _ => none)
  | _ => opA P t o σ
def stepA (P : Program) (B : Beside) (call : CallF) (N : Nat) (ops : Array Oper) (i : Nat) (t : PT V) (σ : St) : Option (PT V × St) :=
  match ops[i]? with
  | none => some (t, σ)
  | some o => (match wantA ops t o with
    | some true => (match execA P B call t o σ with
      | some (v, σ') => (match putA N t o.dst v with
        | some t' => some (t', σ')
        | none => none)
      | none => none)
    | some false => (match putA N t o.dst V.undef with
      | some t' => some (t', σ)
      | none => none)
    | none => none)
def stepsA (P : Program) (B : Beside) (call : CallF) (N : Nat) (ops : Array Oper) : List Nat → PT V → St → Option (PT V × St)
  | [], t, σ => some (t, σ)
  | i :: l, t, σ => (match stepA P B call N ops i t σ with
    | some (t', σ') => stepsA P B call N ops l t' σ'
    | none => none)
/-! ## a region that draws: its operations may be done in any order that its edges leave open -/
def bindAny (e : Edge) : Bool :=
  match e.ground with
  | .textOnly _ => false
  | .gcOnly _ => false
  | _ => true
def hasB (d i : Nat) : Bool := Nat.beq (Nat.land (Nat.shiftRight d i) 1) 1
def subB (b d : Nat) : Bool := Nat.beq (Nat.land b d) b
def addB (d i : Nat) : Nat := Nat.lor d (Nat.shiftLeft 1 i)
def getB : List Nat → Nat → Nat
  | [], _ => 0
  | b :: l, i => (match i with
    | 0 => b
    | Nat.succ j => getB l j)
def bitsOf (acc : List Nat) : List Edge → Nat
  | [] => 0
  | e :: l => cond (bindAny e) (Nat.lor (Nat.lor (Nat.shiftLeft 1 e.on) (getB acc e.on)) (bitsOf acc l)) (bitsOf acc l)
/-- an operation, its number, and what must be done ahead of it -/
structure DOp where
  i : Nat
  o : Oper
  b : Nat
def dops : Nat → List Nat → List Oper → List DOp
  | _, _, [] => []
  | i, acc, o :: l => ⟨i, o, bitsOf acc o.after.toList⟩ :: dops (Nat.succ i) (acc ++ [bitsOf acc o.after.toList]) l
def dst2 (x : Tmp) : Option Tmp → Bool
  | some y => Nat.beq x y
  | none => false
def edgesIn (md : Region.Mode) (done : Nat) (l : List Edge) : Bool := l.all fun e => cond (Region.binds md e) (hasB done e.on) true
/-- an order that the edges allow -/
def sortA (md : Region.Mode) : List DOp → Nat → List DOp → Option (Nat × List DOp)
  | [], done, rest => some (done, rest)
  | d :: l, done, rest => cond (edgesIn md done d.o.after.toList) (sortA md l (addB done d.i) rest) (sortA md l done (d :: rest))
def sortsA (md : Region.Mode) : Nat → List DOp → Nat → Bool
  | 0, _, _ => false
  | Nat.succ n, l, done => (match sortA md l done [] with
    | some (_, []) => true
    | some (done', d :: rest) => cond (Nat.beq done' done) false (sortsA md n (d :: rest).reverse done')
    | none => false)
inductive Kd where
  | w | r | p | a
/-- what an operation does with memory: writes; reads; nothing; makes a block -/
def kindA (P : Program) (o : Oper) : Kd :=
  match o.op with
  | .move _ | .pick .. | .build .. | .nilCheck _ | .binOp .. | .unOp .. | .makeInterface .. | .makeFunc .. | .slice .. | .fieldAddr .. | .field .. | .indexAddr .. | .index .. | .typeAssert .. | .extract .. => .p
  | .load .. | .lookup .. => .r
  | .alloc _ | .box .. | .buildSlice .. | .makeMap .. | .makeSlice .. | .range .. => .a
  | .convert s d _ => (match P.underlying s, P.underlying d with
    | some .string, some (.slice _) => .a
    | some .string, _ => .w
    | _, _ => .r)
  | .call c => (match c.callee with
    | .builtin .len => .r
    | .builtin .min => .r
    | .builtin .max => .r
    | _ => .w)
  | _ => .w
/-- a write that may turn what others, ahead of it, have read -/
def antiA (P : Program) (o : Oper) : Bool :=
  match kindA P o, o.guard with
  | .w, none => true
  | _, _ => false
/-- who reads a temporary comes behind who writes it; each writes its own -/
def flowOk (P : Program) (ops : Array Oper) (ds : List DOp) : Bool :=
  ds.all fun d => ds.all fun e => cond (cond (Nat.beq d.i e.i) true (match d.o.dst with
    | some x => cond (dst2 x e.o.dst) false true
    | none => true)) (match e.o.dst with
    | some x => cond ((d.o.looksAt ops).any fun y => Nat.beq y x) (cond (hasB d.b e.i) true (cond (hasB e.b d.i) (antiA P e.o) false)) true
    | none => true) false
def orderOk (P : Program) (ops : Array Oper) : Bool :=
  (fun ds => cond (flowOk P ops ds) (cond (sortsA .any 9 ds 0) (cond (sortsA .text 9 ds 0) (sortsA .gc 9 ds 0) false) false) false) (dops 0 [] ops.toList)
structure Dr where
  t : PT V
  σ : St
  done : Nat
  rem : List DOp
  rs : List DOp
/-- all that can be done without a write -/
def passA (P : Program) (N : Nat) (ops : Array Oper) : List DOp → Dr → Option Dr
  | [], s => some s
  | d :: l, s => cond (subB d.b s.done) (match wantA ops s.t d.o with
    | some true => (match kindA P d.o with
      | .w => passA P N ops l ⟨s.t, s.σ, s.done, d :: s.rem, s.rs⟩
      | .r => (match opA P s.t d.o s.σ with
        | some (v, σ') => (match putA N s.t d.o.dst v with
          | some t' => passA P N ops l ⟨t', σ', addB s.done d.i, s.rem, d :: s.rs⟩
          | none => none)
        | none => none)
      | _ => (match opA P s.t d.o s.σ with
        | some (v, σ') => (match putA N s.t d.o.dst v with
          | some t' => passA P N ops l ⟨t', σ', addB s.done d.i, s.rem, s.rs⟩
          | none => none)
        | none => none))
    | some false => (match putA N s.t d.o.dst V.undef with
      | some t' => passA P N ops l ⟨t', s.σ, addB s.done d.i, s.rem, s.rs⟩
      | none => none)
    | none => none) (passA P N ops l ⟨s.t, s.σ, s.done, d :: s.rem, s.rs⟩)
/-- what was read reads the same still -/
def recheck (P : Program) (t : PT V) (σ : St) (l : List DOp) : Bool :=
  l.all fun d => (match opA P t d.o σ with
    | some (v, _) => (match d.o.dst with
      | some x => (match t.get x with
        | some u => V.beq v u
        | none => false)
      | none => true)
    | none => false)
def stageOk (done : Nat) (l : List DOp) : Bool := l.all fun d => cond (subB d.b done) false true
def drawsA (P : Program) (B : Beside) (call : CallF) (N : Nat) (ops : Array Oper) : Nat → Dr → Option (PT V × St)
  | 0, _ => none
  | Nat.succ n, s => cond (recheck P s.t s.σ s.rs) (match s.rem with
    | [] => some (s.t, s.σ)
    | d :: l => cond (cond (subB d.b s.done) (stageOk s.done l) false) (match wantA ops s.t d.o with
      | some true => (match kindA P d.o with
        | .w => (match execA P B call s.t d.o s.σ with
          | some (v, σ') => (match putA N s.t d.o.dst v with
            | some t' => (match passA P N ops l ⟨t', σ', addB s.done d.i, [], s.rs.filter fun r => cond (hasB d.b r.i) false true⟩ with
              | some s' => drawsA P B call N ops n ⟨s'.t, s'.σ, s'.done, s'.rem.reverse, s'.rs⟩
              | none => none)
            | none => none)
          | none => none)
        | _ => none)
      | _ => none) none) none
def drawA (P : Program) (B : Beside) (call : CallF) (N : Nat) (ops : Array Oper) (t : PT V) (σ : St) : Option (PT V × St) :=
  cond (orderOk P ops) (match passA P N ops (dops 0 [] ops.toList) ⟨t, σ, 0, [], []⟩ with
    | some s => drawsA P B call N ops (Nat.succ ops.size) ⟨s.t, s.σ, s.done, s.rem.reverse, s.rs⟩
    | none => none) none
inductive Ex where
  | normal
  | exit (i : Nat)
  | goto (l : Nat)
  | ret
abbrev RF := PT V → St → Option (Ex × PT V × St)
def iterA (f : RF) : Nat → RF
  | 0, _, _ => none
  | n + 1, t, σ => (match f t σ with
    | some (.normal, t', σ') => iterA f n t' σ'
    | r => r)
def thenA (f g : RF) : RF := fun t σ => (match f t σ with
  | some (.normal, t', σ') => g t' σ'
  | r => r)
def jumpsA (from_ : Nat → Option RF) : Nat → Ex → RF
  | 0, _, _, _ => none
  | n + 1, .goto l, t, σ => (match from_ l with
    | some f => (match f t σ with
      | some (e, t', σ') => jumpsA from_ n e t' σ'
      | none => none)
    | none => some (.goto l, t, σ))
  | _ + 1, e, t, σ => some (e, t, σ)
/-- a code's run, and its run from a label on -/
structure CF where
  run : RF
  from_ : Nat → Option RF
def skipA : RF := fun t σ => some (.normal, t, σ)
def codeA (P : Program) (B : Beside) (call : CallF) (F N : Nat) : Code → CF
  | .skip => ⟨skipA, fun _ => none⟩
  | .label l' => ⟨skipA, fun l => cond (Nat.beq l' l) (some skipA) none⟩
  | .region _ ops false => ⟨fun t σ => (match stepsA P B call N ops (List.range ops.size) t σ with
    | some (t', σ') => some (.normal, t', σ')
    | none => none), fun _ => none⟩
  | .region _ ops true => ⟨fun t σ => (match drawA P B call N ops t σ with
    | some (t', σ') => some (.normal, t', σ')
    | none => none), fun _ => none⟩
  | .seq a b => ⟨thenA (codeA P B call F N a).run (codeA P B call F N b).run, fun l => (match (codeA P B call F N a).from_ l with
    | some f => some (thenA f (codeA P B call F N b).run)
    | none => (codeA P B call F N b).from_ l)⟩
  | .cond c a b => ⟨fun t σ => (match ev t c with
    | some (.bool r) => cond r ((codeA P B call F N a).run t σ) ((codeA P B call F N b).run t σ)
    | _ => none), fun _ => none⟩
  | .block i c => ⟨fun t σ => (match (codeA P B call F N c).run t σ with
    | some (.exit j, t', σ') => cond (Nat.beq j i) (some (.normal, t', σ')) (some (.exit j, t', σ'))
    | r => r), fun _ => none⟩
  | .loop c => ⟨iterA (codeA P B call F N c).run F, fun _ => none⟩
  | .scope c => ⟨fun t σ => (match (codeA P B call F N c).run t σ with
    | some (e, t', σ') => jumpsA (codeA P B call F N c).from_ F e t' σ'
    | none => none), fun _ => none⟩
  | .exit i => ⟨fun t σ => some (.exit i, t, σ), fun _ => none⟩
  | .goto l => ⟨fun t σ => some (.goto l, t, σ), fun _ => none⟩
  | .ret => ⟨fun t σ => some (.ret, t, σ), fun _ => none⟩
  | _ => ⟨fun _ _ => none, fun _ => none⟩
def resA (P : Program) (t : PT V) (σ : St) : List ResultVar → Option (List V)
  | [] => some []
  | .tmp i :: l => (match t.get i, resA P t σ l with
    | some v, some vs => some (v :: vs)
    | _, _ => none)
  | .cell a ty :: l => (match t.get a, resA P t σ l with
    | some (.ptr id off), some vs => (match loadA P ty id off σ with
      | some v => some (v :: vs)
      | none => none)
    | _, _ => none)
def oneA : List V → V
  | [v] => v
  | l => .tuple l
def undefs (n i : Nat) : PT V := PT.setL .leaf i (List.replicate n V.undef)
def startT (args : List V) (n : Nat) : PT V := PT.setL (PT.setL .leaf 0 args) args.length (List.replicate (Nat.sub n args.length) V.undef)
def callA (P : Program) (B : Beside) (F : Nat) : Nat → CallF
  | 0, _, _, _ => none
  | n + 1, f, args, σ => (match B.known f args with
    | some v => some (v, σ)
    | none => (match P.funcs[f]? with
    | some fn => (match fn.body with
      | some c => (match (codeA P B (callA P B F n) F fn.ntmps c).run (startT args fn.ntmps) σ with
        | some (.normal, t, σ') => (match resA P t σ' fn.results.toList with
          | some l => some (oneA l, σ')
          | none => none)
        | some (.ret, t, σ') => (match resA P t σ' fn.results.toList with
          | some l => some (oneA l, σ')
          | none => none)
        | _ => none)
      | none => none)
    | none => none))
end
end Go.Dg

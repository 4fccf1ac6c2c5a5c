/- The deterministic machine, part 11: looking up and storing in maps; conversions; texts walked through; copy. -/
import Derived.Test.YtgmaniiaingjhaaGreatDoorDgJ
namespace Go.Dg
open Go Go.RowKit
noncomputable section
section
variable {E : Env} {σ : St} {w : World} {P : Program}

def mapOf (x : V) (σ : St) : Option (List (V × V × Nat)) :=
  match x with
  | .nilm => some []
  | .map id => (match σ.heap.get id with
    | some (.map es _) => some es
    | _ => none)
  | _ => none
def foundV (P : Program) (elem : TypeId) : Option (Nat × V) → Option (V × Bool)
  | some (_, v) => some (v, true)
  | none => (match zeroV P elem with
    | some z => some (z, false)
    | none => none)
def lookupA (P : Program) (xt : TypeId) (x k : V) (commaOk : Bool) (σ : St) : Option V :=
  match P.underlying xt, mapOf x σ with
  | some (.map key elem), some es => cond (ckA P key k) (match findL P key k es 0 with
    | some r => (match foundV P elem r with
      | some (v, ok) => some (cond commaOk (.tuple [v, .bool ok]) v)
      | none => none)
    | none => none) none
  | _, _ => none
theorem Rel.mapAt (h : Rel E σ w) {id : Nat} {es : List (V × V × Nat)} {clock : Nat} {p : Place} (ho : σ.heap.get id = some (.map es clock)) (hp : E id = some p) :
    ∃ es' : Array MapEntry, w.heap[p.block]? = some (.map es' clock) ∧ MR E es es'.toList := by
  obtain ⟨ob, hb, es', rfl, hm⟩ := h.obj id _ p ho hp
  exact ⟨es', hb, hm⟩
theorem lookupA_run (h : Rel E σ w) {xt : TypeId} {x k : V} {y ky : Value} {ok : Bool} (hx : VR E x y) (hk : VR E k ky) {v : V} (hv : lookupA P xt x k ok σ = some v) :
    ∃ z, (Instr.lookup xt y ky ok).run P w = .ok z w ∧ VR E v z := by
  unfold lookupA at hv
  split at hv
  · rename_i key elem es hu hes
    obtain ⟨q1, q2⟩ := cond_some hv
    split at q2
    · rename_i r hr
      split at q2
      · rename_i u b hf
        simp only [Option.some.injEq] at q2; subst q2
        have main : ∀ es' : Array MapEntry, MR E es es'.toList → ∃ r' z, (Instr.findKey key ky es'.toList).run P w = .ok r' w ∧ (Instr.checkKey es'.isEmpty 10000 key ky).run P w = .ok () w ∧
            VR E (cond ok (.tuple [u, .bool b]) u) z ∧ ((∃ j yv, r' = some (j, yv) ∧ z = if ok then .tuple #[yv, .bool true] else yv) ∨ (∃ zv, r' = none ∧ (zeroValue elem).run P w = .ok zv w ∧ z = if ok then .tuple #[zv, .bool false] else zv)) := by
          intro es' hm
          obtain ⟨r', h1, h2⟩ := findKey_run w hk q1 hm hr
          have hck := ckA_run w hk q1 es'.isEmpty 9998
          have fin : ∀ uy, VR E u uy → VR E (cond ok (.tuple [u, .bool b]) u) (if ok then .tuple #[uy, .bool b] else uy) := by
            intro uy huy
            cases ok with
            | false => simpa using huy
            | true =>
              simp only [cond_true, if_true, VR]
              exact ⟨_, rfl, uy, _, rfl, huy, _, [], rfl, VR_bool E b, rfl⟩
          cases r with
          | none =>
            simp only [FoundR] at h2; subst h2
            simp only [foundV] at hf
            cases hz : zeroV P elem with
            | none => rw [hz] at hf; cases hf
            | some z0 =>
              rw [hz] at hf; simp only [Option.some.injEq, Prod.mk.injEq] at hf; obtain ⟨rfl, rfl⟩ := hf
              obtain ⟨i, zv, _, _, hzrun, hzr⟩ := zeroV_spec hz
              exact ⟨_, _, h1, hck, fin zv (hzr E), .inr ⟨zv, rfl, hzrun w, rfl⟩⟩
          | some jv =>
            obtain ⟨j, v0⟩ := jv
            simp only [FoundR] at h2; obtain ⟨yv, rfl, hyv⟩ := h2
            simp only [foundV, Option.some.injEq, Prod.mk.injEq] at hf; obtain ⟨rfl, rfl⟩ := hf
            exact ⟨_, _, h1, hck, fin yv hyv, .inl ⟨j, yv, rfl, rfl⟩⟩
        cases x with
        | nilm =>
          simp only [VR] at hx; subst hx
          simp only [mapOf, Option.some.injEq] at hes; subst hes
          obtain ⟨r', z, h1, h2, h3, h4⟩ := main #[] (by simp [MR])
          refine ⟨z, ?_, h3⟩
          have h2 : (Instr.checkKey true 10000 key ky).run P w = .ok () w := h2
          have h1 : (Instr.findKey key ky []).run P w = .ok r' w := h1
          rcases h4 with ⟨j, yv, rfl, rfl⟩ | ⟨zv, rfl, hz, rfl⟩
          · simp [Instr.lookup, run_underlying hu, h1, h2]
          · simp [Instr.lookup, run_underlying hu, h1, h2, hz]
        | map id =>
          simp only [VR] at hx; obtain ⟨p, hp, rfl⟩ := hx
          simp only [mapOf] at hes
          split at hes
          · rename_i es0 clock ho
            simp only [Option.some.injEq] at hes; subst hes
            obtain ⟨es', hb, hm⟩ := h.mapAt ho hp
            obtain ⟨r', z, h1, h2, h3, h4⟩ := main es' hm
            refine ⟨z, ?_, h3⟩
            rcases h4 with ⟨j, yv, rfl, rfl⟩ | ⟨zv, rfl, hz, rfl⟩
            · simp [Instr.lookup, run_underlying hu, MapKept.run_getObj_map hb, h1, h2]
            · simp [Instr.lookup, run_underlying hu, MapKept.run_getObj_map hb, h1, h2, hz]
          · cases hes
        | _ => simp [mapOf] at hes
      · cases q2
    · cases q2
  · cases hv
def mapUpdateA (P : Program) (t : TypeId) (x k v : V) (σ : St) : Option St :=
  match P.underlying t, x with
  | some (.map key _), .map id => (match σ.heap.get id with
    | some (.map es clock) => cond (cond (ckA P key k) (bitsK k) false) (match findL P key k es 0 with
      | some (some (i, _)) => (match es[i]? with
        | some e => cond (V.beq k e.1) (some (σ.put id (.map (es.set i (k, v, e.2.2)) clock))) none
        | none => none)
      | some none => some (σ.put id (.map (es ++ [(k, v, clock)]) (Nat.succ clock)))
      | none => none) none
    | _ => none)
  | _, _ => none
theorem MR_get : ∀ {es : List (V × V × Nat)} {ms : List MapEntry}, MR E es ms → ∀ (i : Nat) {e : V × V × Nat}, es[i]? = some e → ∃ m, ms[i]? = some m ∧ ER E e m
  | [], _, _, _, _, he => by simp at he
  | e :: es, _, h, i, e', he => by
    simp only [MR] at h; obtain ⟨m, ms, rfl, h1, h2⟩ := h
    cases i with
    | zero => simp at he; subst he; exact ⟨m, rfl, h1⟩
    | succ i => simpa using MR_get h2 i (by simpa using he)
theorem MR_set : ∀ {es : List (V × V × Nat)} {ms : List MapEntry}, MR E es ms → ∀ (i : Nat) {e : V × V × Nat} {m : MapEntry}, ER E e m → MR E (es.set i e) (ms.set i m)
  | [], _, h, _, _, _, _ => by simp only [MR] at h; subst h; simp [MR]
  | e0 :: es, _, h, i, e, m, he => by
    simp only [MR] at h; obtain ⟨m0, ms, rfl, h1, h2⟩ := h
    cases i with
    | zero => exact ⟨m, ms, rfl, he, h2⟩
    | succ i => exact ⟨m0, _, rfl, h1, MR_set h2 i he⟩
theorem MR_append : ∀ {es : List (V × V × Nat)} {ms : List MapEntry}, MR E es ms → ∀ {e : V × V × Nat} {m : MapEntry}, ER E e m → MR E (es ++ [e]) (ms ++ [m])
  | [], _, h, e, m, he => by simp only [MR] at h; subst h; exact ⟨m, [], rfl, he, rfl⟩
  | e0 :: es, _, h, e, m, he => by
    simp only [MR] at h; obtain ⟨m0, ms, rfl, h1, h2⟩ := h
    exact ⟨m0, _, rfl, h1, MR_append h2 he⟩
theorem modify_set {α : Type} {l : List α} {i : Nat} (f : α → α) {m : α} (h : l[i]? = some m) : l.modify i f = l.set i (f m) := by
  apply List.ext_getElem?
  intro j
  rw [List.getElem?_modify, List.getElem?_set]
  by_cases e : i = j
  · subst e
    obtain ⟨h1, h2⟩ := List.getElem?_eq_some_iff.1 h
    simp [h1, h2]
  · simp [e]
theorem mapUpdateA_run (h : Rel E σ w) {t : TypeId} {x k v : V} {y ky vy : Value} (hx : VR E x y) (hk : VR E k ky) (hvv : VR E v vy) {σ' : St} (hv : mapUpdateA P t x k v σ = some σ') :
    ∃ w', (Instr.mapUpdate t y ky vy).run P w = .ok () w' ∧ Step E σ w E σ' w' := by
  unfold mapUpdateA at hv
  split at hv
  · rename_i key elem id hu
    simp only [VR] at hx; obtain ⟨p, hp, rfl⟩ := hx
    split at hv
    · rename_i es clock ho
      obtain ⟨q1, q2⟩ := cond_some hv
      obtain ⟨q3, q4⟩ := cond_and q1
      obtain ⟨es', hb, hm⟩ := h.mapAt ho hp
      have hck := ckA_run w hk q3 false 9998
      obtain ⟨hs1, hs2⟩ := MapKept.heap_set (o' := Go.Obj.map es' clock) hb
      split at q2
      · rename_i i u hf
        split at q2
        · rename_i e he
          obtain ⟨q5, q6⟩ := cond_some q2
          simp only [Option.some.injEq] at q6; subst q6
          obtain ⟨r', h1, h2⟩ := findKey_run w hk q3 hm hf
          simp only [FoundR] at h2; obtain ⟨uy, rfl, huy⟩ := h2
          obtain ⟨m, hmi, hem⟩ := MR_get hm i he
          have hke := V.beq_eq _ _ q5
          have hkeq : m.key = ky := bitsK_unique q4 (hke ▸ hem.1) hk
          have hstay : (Instr.keyThatStays m.key ky).run P w = .ok ky w := by
            rw [hkeq]; simp [Instr.keyThatStays, sameBits_key q4 hk 9999]
          have hmi' : es'[i]? = some m := by simpa using hmi
          obtain ⟨g1, g2⟩ := MapKept.heap_set (o' := Go.Obj.map (es'.modify i fun e => { e with key := ky, val := vy }) clock) hb
          refine ⟨_, ?_, Step.put (w' := { w with heap := w.heap.setIfInBounds p.block (.map (es'.modify i fun e => { e with key := ky, val := vy }) clock) }) h ho hp (by simp) rfl rfl rfl g1 g2 ⟨_, rfl, ?_⟩⟩
          · simp [Instr.mapUpdate, run_underlying hu, MapKept.run_getObj_map hb, hck, h1, hmi', hstay, MapKept.run_setObj_map _ hb]
          · have : (es'.modify i fun e => { e with key := ky, val := vy }).toList = es'.toList.set i { m with key := ky, val := vy } := by
              rw [Array.toList_modify, modify_set _ hmi]
            rw [this]
            exact MR_set hm i ⟨hk, hvv, hem.2.2⟩
        · cases q2
      · rename_i hf
        simp only [Option.some.injEq] at q2; subst q2
        obtain ⟨r', h1, h2⟩ := findKey_run w hk q3 hm hf
        simp only [FoundR] at h2; subst h2
        obtain ⟨g1, g2⟩ := MapKept.heap_set (o' := Go.Obj.map (es'.push { key := ky, val := vy, born := clock }) (clock + 1)) hb
        refine ⟨_, ?_, Step.put (w' := { w with heap := w.heap.setIfInBounds p.block (.map (es'.push { key := ky, val := vy, born := clock }) (clock + 1)) }) h ho hp (by simp) rfl rfl rfl g1 g2 ⟨_, rfl, ?_⟩⟩
        · simp [Instr.mapUpdate, run_underlying hu, MapKept.run_getObj_map hb, hck, h1, MapKept.run_setObj_map _ hb]
        · rw [Array.toList_push]; exact MR_append hm ⟨hk, hvv, rfl⟩
      · cases q2
    · cases hv
  · cases hv
def makeMapA (r : Option V) (σ : St) : Option (V × St) :=
  match r with
  | none => some (.map σ.next, σ.new (.map [] 0))
  | some (.int _ _) => some (.map σ.next, σ.new (.map [] 0))
  | _ => none
theorem makeMapA_made {σ : St} {t : TypeId} {r : Option V} {ry : Option Value} (hr : OR E r ry) (ht : (∃ a b, P.underlying t = some (.map a b)) ∨ r = none) {v : V} {σ' : St} (hv : makeMapA r σ = some (v, σ')) : Made P E σ w (Instr.makeMap t ry) v σ' := by
  have fin : (Instr.makeMap t ry).run P w = .ok (.map (some w.heap.size)) (w.alloc (.map #[] 0)) → v = .map σ.next → σ' = σ.new (.map [] 0) → Made P E σ w (Instr.makeMap t ry) v σ' := by
    rintro hrun rfl rfl
    refine ⟨_, rfl, _, w, _, 0, hrun, .inl rfl, fun E' hle hk => ⟨?_, ⟨#[], rfl, rfl⟩⟩⟩
    simp only [VR]; exact ⟨⟨w.heap.size, 0, 0⟩, hk, rfl⟩
  unfold makeMapA at hv
  split at hv
  · simp only [Option.some.injEq, Prod.mk.injEq] at hv
    have e : ry = none := hr
    subst e
    exact fin (by simp [Instr.makeMap]) hv.1.symm hv.2.symm
  · simp only [Option.some.injEq, Prod.mk.injEq] at hv
    obtain ⟨x, rfl, hx⟩ := hr
    simp only [VR] at hx; subst hx
    rcases ht with ⟨a, b, hu⟩ | e
    · exact fin (by simp [Instr.makeMap, run_underlying hu, asInt, asIntOf]) hv.1.symm hv.2.symm
    · cases e
  · cases hv
theorem makeMapA_run (h : Rel E σ w) {t : TypeId} {r : Option V} {ry : Option Value} (hr : OR E r ry) (ht : (∃ a b, P.underlying t = some (.map a b)) ∨ r = none) {v : V} {σ' : St} (hv : makeMapA r σ = some (v, σ')) : Gives P E σ w (Instr.makeMap t ry) v σ' := (makeMapA_made hr ht hv).gives h

/-! ## conversions -/
def codeV : List V → Option Nat
  | [] => some 0
  | .int .u8 (.ofNat b) :: l => cond (Nat.ble b 255) (match codeV l with
    | some c => some (Nat.add b (Nat.mul 256 c))
    | none => none) none
  | _ => none
theorem codeV_spec : ∀ {l : List V} {xs : List Value} {c : Nat}, LR E l xs → codeV l = some c → ∃ bs : List UInt8, xs = bs.map (fun b => Value.int .u8 (b.toNat : Int)) ∧ codeOf bs = c ∧ bs.length = l.length
  | [], _, c, hl, h => by simp only [LR] at hl; subst hl; simp only [codeV, Option.some.injEq] at h; subst h; exact ⟨[], rfl, rfl, rfl⟩
  | v :: l, _, c, hl, h => by
    simp only [LR] at hl; obtain ⟨x, xs, rfl, hx, hxs⟩ := hl
    unfold codeV at h
    split at h
    · cases ‹_ :: _ = []›
    · rename_i b l' e
      cases e
      obtain ⟨q1, q2⟩ := cond_some h
      split at q2
      · rename_i c' hc
        simp only [Option.some.injEq] at q2; subst q2
        obtain ⟨bs, rfl, h2, h3⟩ := codeV_spec hxs hc
        have hb : b ≤ 255 := Nat.le_of_ble_eq_true q1
        have e : (UInt8.ofNat b).toNat = b := by simp; omega
        refine ⟨UInt8.ofNat b :: bs, ?_, ?_, by simp [h3]⟩
        · simp only [VR] at hx; subst hx; simp only [List.map_cons, e]; rfl
        · simp only [codeOf, e, h2]; rfl
      · cases q2
    · cases h
def convertA (P : Program) (src dst : TypeId) (x : V) (σ : St) : Option (V × St) :=
  match P.underlying src, P.underlying dst, x with
  | some _, some (.int k), .int _ n => some (.int k (wrapK k n), σ)
  | some .string, some (.slice e), .str n c => (match P.underlying e with
    | some (.int .u8) => some (.slice σ.next 0 n (.toEnd 1), newA e (vbytes n c) σ)
    | _ => none)
  | some .string, some .string, .str n c => some (.str n c, σ)
  | some (.slice e), some .string, y => (match P.underlying e with
    | some (.int .u8) => (match y with
      | .nils => some (.str 0 0, σ)
      | .slice id off len _ => (match oldL id off len σ with
        | some l => (match codeV l with
          | some c => some (.str len c, σ)
          | none => none)
        | none => none)
      | _ => none)
    | _ => none)
  | _, _, _ => none
theorem foldl_push (bs : List UInt8) : ∀ r : ByteArray, (bs.map (fun b => (b.toNat : Int))).foldl (fun r n => r.push (UInt8.ofNat n.toNat)) r = ⟨r.data ++ bs.toArray⟩ := foldl_push_byteCells bs
theorem convertS_made {σ : St} {src dst e : TypeId} {n c : Nat} {y : Value} (hs : P.underlying src = some .string) (hd : P.underlying dst = some (.slice e)) (he : P.underlying e = some (.int .u8)) (hx : VR E (.str n c) y) :
    Made P E σ w (convert src dst y) (.slice σ.next 0 n (.toEnd 1)) (newA e (vbytes n c) σ) := by
  obtain ⟨s, rfl, rfl, rfl⟩ := VR_str_inv hx
  have hrun := run_bytes_of_string (P := P) w src dst e s hs hd he
  rw [vbytes_eq]
  have hC : (s.data.map fun b => Value.int .u8 (b.toNat : Int)).toList = s.data.toList.map fun b => Value.int .u8 (b.toNat : Int) := by simp
  have hsz : (bytesRow s (grownCap w s.size 0 e)).size = grownCap w s.size 0 e := by
    have := grownCap_ge w s.size 0 e
    have e2 : s.data.size = s.size := rfl
    simp [bytesRow, e2]; omega
  refine ⟨_, rfl, _, w.drew, _, (bytesRow s (grownCap w s.size 0 e)).size, hrun, .inr rfl, fun E' hle hk => ⟨?_, ObjR_more ?_ rfl rfl (.inr (Nat.le_refl _))⟩⟩
  · simp only [VR]
    refine ⟨⟨w.heap.size, 0, (bytesRow s (grownCap w s.size 0 e)).size⟩, _, grownCap w s.size 0 e, hk, ?_, .inl ⟨rfl, ?_⟩⟩
    · have : s.data.toList.length = s.size := by simp
      rw [this]
    · refine ⟨?_, by decide, ?_⟩
      · simp only [hsz]; omega
      · have := grownCap_ge w s.size 0 e
        simpa using this
  · rw [hC]; exact (LR_bytes _ _)
theorem convertA_run (h : Rel E σ w) {src dst : TypeId} {x : V} {y : Value} (hx : VR E x y) {v : V} {σ' : St} (hv : convertA P src dst x σ = some (v, σ')) : Gives P E σ w (convert src dst y) v σ' := by
  unfold convertA at hv
  split at hv
  · rename_i d k k' n hs hd
    simp only [Option.some.injEq, Prod.mk.injEq] at hv; obtain ⟨rfl, rfl⟩ := hv
    simp only [VR] at hx; subst hx
    rw [wrapK_eq]
    refine Gives.quiet h ?_ (VR_int E _ _)
    simp [convert, run_underlying hs, run_underlying hd, Conv.intToInt]
  · rename_i e n c hs hd
    split at hv
    · rename_i he
      simp only [Option.some.injEq, Prod.mk.injEq] at hv; obtain ⟨rfl, rfl⟩ := hv
      exact (convertS_made hs hd he hx).gives h
    · cases hv
  · rename_i n c hs hd
    simp only [Option.some.injEq, Prod.mk.injEq] at hv; obtain ⟨rfl, rfl⟩ := hv
    obtain ⟨s, rfl, h1, h2⟩ := VR_str_inv hx
    refine Gives.quiet h (x := .string s) ?_ (VR_str' s h1 h2)
    simp [convert, run_underlying hs, run_underlying hd]
  · rename_i e hs hd
    split at hv
    · rename_i he
      split at hv
      · simp only [Option.some.injEq, Prod.mk.injEq] at hv; obtain ⟨rfl, rfl⟩ := hv
        simp only [VR] at hx; subst hx
        refine Gives.quiet h (x := .string ByteArray.empty) ?_ (VR_str' _ (by simp) (by simp [codeOf]))
        rw [run_convert_bytes_string w src dst e none 0 0 hs he hd]
        simp [Conv.bytesToString]
      · rename_i id off len cap
        split at hv
        · rename_i l hl
          split at hv
          · rename_i c hc
            simp only [Option.some.injEq, Prod.mk.injEq] at hv; obtain ⟨rfl, rfl⟩ := hv
            simp only [VR] at hx; obtain ⟨p, a, cc, hp, rfl, hca⟩ := hx
            have hload : ∃ xs : List Value, LR E l xs ∧ l.length = len ∧ (loadCells a len).run P w = .ok xs.toArray w := by
              unfold oldL at hl
              split at hl
              · simp only [Option.some.injEq] at hl; subst hl
                exact ⟨[], rfl, rfl, by simp [loadCells, loadCellsFrom]⟩
              · rename_i m
                split at hl
                · rename_i e0 cs ro ho
                  have ha : a = ⟨p.block, p.off + off, none⟩ := by
                    rcases hca with ⟨e, _⟩ | ⟨e, _, _⟩
                    · exact e
                    · cases e
                  subst ha
                  obtain ⟨xs, ho1, ho2⟩ := h.range ho hp hl
                  have hl1 := (PT.getL_spec cs _ _ _ hl).1
                  have hr1 := run_loadRange (w := w) P p.block (p.off + off) xs ho2
                  rw [ho1.length, hl1] at hr1
                  exact ⟨xs, ho1, hl1, hr1⟩
                · cases hl
            obtain ⟨xs, hxs, hlen, hrun⟩ := hload
            obtain ⟨bs, rfl, h2, h3⟩ := codeV_spec hxs hc
            have hr := run_bytesToString (P := P) w a len cc (bs.map fun b => (b.toNat : Int)) (by rw [hrun]; simp)
            rw [foldl_push] at hr
            refine Gives.quiet h (x := .string ⟨ByteArray.empty.data ++ bs.toArray⟩) ?_ (VR_str' _ (by simp [h3, hlen]) (by simp [h2]))
            rw [run_convert_bytes_string w src dst e (some a) len cc hs he hd, hr]
          · cases hv
        · cases hv
      · cases hv
    · cases hv
  · cases hv

/-! ## texts walked through -/
def rangeA (P : Program) (t : TypeId) (x : V) (σ : St) : Option (V × St) :=
  match P.underlying t, x with
  | some .string, .str n c => some (.ptr σ.next 0, σ.new (.iter n c 0))
  | _, _ => none
theorem rangeA_made {σ : St} {t : TypeId} {x : V} {y : Value} (hx : VR E x y) {v : V} {σ' : St} (hv : rangeA P t x σ = some (v, σ')) : Made P E σ w (Instr.range t y) v σ' := by
  unfold rangeA at hv
  split at hv
  · rename_i n c hu
    simp only [Option.some.injEq, Prod.mk.injEq] at hv; obtain ⟨rfl, rfl⟩ := hv
    obtain ⟨s, rfl, h1, h2⟩ := VR_str_inv hx
    refine ⟨_, rfl, _, w, _, 0, run_range_string w t s hu, .inl rfl, fun E' hle hk => ⟨?_, ⟨s, rfl, h1, h2, rfl⟩⟩⟩
    simp only [VR]; exact ⟨⟨w.heap.size, 0, 0⟩, hk, rfl⟩
  · cases hv
theorem rangeA_run (h : Rel E σ w) {t : TypeId} {x : V} {y : Value} (hx : VR E x y) {v : V} {σ' : St} (hv : rangeA P t x σ = some (v, σ')) : Gives P E σ w (Instr.range t y) v σ' := (rangeA_made hx hv).gives h
def nextA (it : V) (isString : Bool) (σ : St) : Option (V × St) :=
  match it, isString with
  | .ptr id 0, true => (match σ.heap.get id with
    | some (.iter n c pos) => cond (Nat.ble (Nat.succ pos) n)
        (cond (Nat.ble (Nat.succ (Nat.mod (shr8 c pos) 256)) 128) (some (.tuple [.bool true, .int .i64 (Int.ofNat pos), .int .i32 (Int.ofNat (Nat.mod (shr8 c pos) 256))], σ.put id (.iter n c (Nat.succ pos)))) none)
        (some (.tuple [.bool false], σ))
    | _ => none)
  | _, _ => none
theorem nextA_run (h : Rel E σ w) {it : V} {y : Value} {b : Bool} {ty : TypeId} (hx : VR E it y) {v : V} {σ' : St} (hv : nextA it b σ = some (v, σ')) : Gives P E σ w (Instr.next y b ty) v σ' := by
  unfold nextA at hv
  split at hv
  · rename_i id
    simp only [VR] at hx; obtain ⟨p, hp, rfl⟩ := hx
    split at hv
    · rename_i n c pos ho
      obtain ⟨ob, hb, s, rfl, hn, hc, hoff⟩ := h.obj id _ p ho hp
      have hget : (getObj p.block).run P w = .ok (.stringIter s pos) w := by simp [getObj, Sem.run, hb]
      have hsz : s.size = n := by rw [hn]; simp
      cases hlt : Nat.ble (Nat.succ pos) n with
      | false =>
        rw [hlt] at hv; simp only [cond_false, Option.some.injEq, Prod.mk.injEq] at hv; obtain ⟨rfl, rfl⟩ := hv
        have hge : ¬ pos < s.size := by intro hh; rw [hsz] at hh; rw [show Nat.ble (Nat.succ pos) n = true from Nat.ble_eq_true_of_le hh] at hlt; cases hlt
        refine Gives.quiet h (x := .tuple #[.bool false]) ?_ (by simp only [VR]; exact ⟨_, rfl, _, [], rfl, VR_bool E _, rfl⟩)
        rw [hoff]
        simp [Instr.next, hget, hge]
      | true =>
        rw [hlt] at hv; simp only [cond_true] at hv
        obtain ⟨q1, q2⟩ := cond_some hv
        simp only [Option.some.injEq, Prod.mk.injEq] at q2; obtain ⟨rfl, rfl⟩ := q2
        have hpos : pos < s.size := by rw [hsz]; exact Nat.le_of_ble_eq_true hlt
        have hpos' : pos < s.data.toList.length := by simpa using hpos
        have hbyte : Nat.mod (shr8 c pos) 256 = (s[pos]).toNat := by
          have e := codeOf_get s.data.toList pos hpos'
          have e2 : s.data.toList[pos] = s[pos] := by simp; rfl
          rw [shr8_eq, hc, ← e2, e]; rfl
        have hasc : (s[pos]).toNat < 128 := by rw [← hbyte]; exact Nat.le_of_ble_eq_true q1
        have hdec := decode_ascii s pos hpos hasc
        obtain ⟨g1, g2⟩ : ({ w with heap := w.heap.setIfInBounds p.block (.stringIter s (pos + 1)) } : World).heap[p.block]? = some (.stringIter s (pos + 1)) ∧ ∀ r', r' ≠ p.block → (w.heap.setIfInBounds p.block (.stringIter s (pos + 1)))[r']? = w.heap[r']? := MapKept.heap_set hb
        have hset : (setObj p.block (.stringIter s (pos + 1))).run P w = .ok () { w with heap := w.heap.setIfInBounds p.block (.stringIter s (pos + 1)) } := by simp [setObj, Sem.run, hb]
        refine ⟨.tuple #[.bool true, goInt pos, .int .i32 (s[pos]).toNat], E, _, ?_, Step.put (w' := { w with heap := w.heap.setIfInBounds p.block (.stringIter s (pos + 1)) }) h ho hp (by simp) rfl rfl rfl g1 g2 ⟨s, rfl, hn, hc, hoff⟩, ?_⟩
        · rw [hoff]
          simp [Instr.next, hget, hpos, hdec, hset]
        · simp only [VR]
          rw [hbyte]
          exact ⟨_, rfl, _, _, rfl, VR_bool E _, _, _, rfl, VR_int E _ _, _, [], rfl, VR_int E _ _, rfl⟩
    · cases hv
  · cases hv
end
end
end Go.Dg

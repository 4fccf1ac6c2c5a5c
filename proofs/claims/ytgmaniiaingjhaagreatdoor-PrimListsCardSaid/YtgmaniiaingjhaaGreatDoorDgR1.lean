/- The deterministic machine, part 19: what an operation asks of the frame; kinds of operations. -/
import Derived.Test.YtgmaniiaingjhaaGreatDoorDgR0
namespace Go.Dg
open Go Go.RowKit
noncomputable section
section
variable {P : Program}

theorem mapO_congr {α β : Type} {f g : α → Option β} : ∀ {l : List α}, (∀ x ∈ l, f x = g x) → mapO f l = mapO g l
  | [], _ => rfl
  | x :: l, h => by
    rw [mapO_cons, mapO_cons, h x (by simp), mapO_congr fun y hy => h y (List.mem_cons_of_mem _ hy)]
theorem evs_congr {t t' : PT V} {l : Array Operand} (h : ∀ x ∈ l, ev t x = ev t' x) : evs t l.toList = evs t' l.toList := mapO_congr fun x hx => h x (by simpa using hx)
theorem evo_congr {t t' : PT V} {l : Option Operand} (h : ∀ x, l = some x → ev t x = ev t' x) : evo t l = evo t' l := by
  cases l with
  | none => rfl
  | some x => simp only [evo, h x rfl]
theorem evp_congr {t t' : PT V} {l : Array (Nat × Operand)} (h : ∀ x ∈ l.map (·.2), ev t x = ev t' x) : evp t l.toList = evp t' l.toList := by
  refine mapO_congr fun x hx => ?_
  rw [h x.2 (Array.mem_map.2 ⟨x, by simpa using hx, rfl⟩)]
set_option maxHeartbeats 4000000 in
theorem opA_congr {t t' : PT V} {o : Oper} (h : ∀ x ∈ o.op.operands, ev t x = ev t' x) (σ : St) : opA P t o σ = opA P t' o σ := by
  obtain ⟨dst, op, type, pos, after, guard⟩ := o
  cases op <;> simp only [Op.operands] at h
  case build ty ps => simp only [opA]; rw [evp_congr fun x hx => h x (by simpa using hx)]
  case buildSlice ty n ps => simp only [opA]; rw [evp_congr fun x hx => h x (by simpa using hx)]
  case makeFunc fn a b => simp only [opA]; rw [evs_congr fun x hx => h x (by simp [hx]), evs_congr (l := b) fun x hx => h x (by simp [hx])]
  case makeMap ty r => simp only [opA]; rw [evo_congr fun x hx => h x (by simp [hx])]
  case slice ty x lo hi mx => simp only [opA]; rw [evo_congr (l := lo) fun x hx => h x (by simp [hx]), evo_congr (l := hi) fun x hx => h x (by simp [hx]), evo_congr (l := mx) fun x hx => h x (by simp [hx]), h x (by simp)]
  case call c => simp only [opA]; rw [evs_congr fun x hx => h x (by simp [Call.operands, hx])]
  all_goals (first
    | rfl
    | (simp only [opA]; simp_all; done)
    | skip)
end
end
end Go.Dg

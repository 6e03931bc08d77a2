/- The rules of the walk, eighth part: ways that meet again, with a property of the state; no condition. -/
import Derived.Test.YtchnnplcpidkiaaDoorB7
namespace Go.Proofs.YtchnnplcpidkiaaDoor
open Go.RowKit
set_option linter.unusedSimpArgs false
set_option linter.unusedVariables false
section
variable {X : Cx} {E : Env} {S : Sto} {F : Nat → Prop} {w1 : World} {Q : Exit → Env → World → Prop}
def kinv (X : Cx) (P : Env → Sto → (Nat → Prop) → World → Prop) : Exit → Env → World → Prop := fun e E w => e = .normal ∧ ∃ S F w1, P E S F w1 ∧ Cur X S F w1 w
theorem JQ.inv {P : Env → Sto → (Nat → Prop) → World → Prop} (h : P E S F w1) : JQ X (kinv X P) .normal E S F w1 := fun w hc => ⟨rfl, S, F, w1, h, hc⟩
theorem np_inv {P : Env → Sto → (Nat → Prop) → World → Prop} : NoPanic (kinv X P) := fun c E w h => by cases h.1
/-- Ways meet: P is what holds there. -/
theorem JC.cutI {c : Code} (P : Env → Sto → (Nat → Prop) → World → Prop) (h2 : JC X c E S F w1 (kinv X P)) (h1 : ∀ E S F w1, P E S F w1 → JQ X Q .normal E S F w1) : JC X c E S F w1 Q := fun w a hc ha =>
  Code.wp_mono (fun e a w h => by
    obtain ⟨E, ha, rfl, S, F, w1, hp, hc⟩ := h
    exact ⟨E, ha, h1 E S F w1 hp w hc⟩) (h2 w a hc ha)
theorem y_nilCheck {d : Option Tmp} {t : TypeId} {pos : String} {af : Array Edge} {g : Option (Nat × Bool)} {x : Operand} {a : Addr} (hx : ev E x = .pointer (some a)) : Yields X ⟨d, .nilCheck x, t, pos, af, g⟩ E S F w1 (.pointer (some a)) := fun w _ => by
  simp [execOp, Sem.run_bind, hx, asAddr]
end
end Go.Proofs.YtchnnplcpidkiaaDoor

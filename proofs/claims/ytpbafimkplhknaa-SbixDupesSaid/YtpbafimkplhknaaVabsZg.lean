/-
  Slices of whole numbers as parameters; more steps.
-/
import Derived.Test.YtpbafimkplhknaaVabsZf
import Derived.Test.YtpbafimkplhknaaVabsZd
namespace Go.Vabs
set_option linter.unusedVariables false
set_option linter.unusedSimpArgs false

noncomputable def nilchkV : V → Option V
  | .ptr none | .nilFunc | .bad | .yield _ => none
  | v => some v
theorem step_nilchk {call : CallT} {s : Env} {st : St} {x : Src} : stepE call (.nilchk x) s st = okv (nilchkV (s.ev x)) st := by
  refine step_of ?_
  show ex_nilchk x s.ev st = _
  unfold ex_nilchk nilchkV
  generalize s.ev x = u
  cases u <;> try rfl
  rename_i a
  cases a <;> rfl
theorem nilchk_ptr {p : Nat × Nat} : nilchkV (.ptr (some p)) = some (.ptr (some p)) := rfl
theorem bin_eqptr {p : Nat × Nat} : binV .eql (.nils .ptr) (.ptr (some p)) (.ptr none) = some (.bool false) := by simp only [binV, eqAny, eqNil]

noncomputable section
/-- A parameter's object, in the small memory's place i; its slice. -/
def objOf (nil : Bool) (cs : List V) : Option AObj := if nil then none else some (.cells false cs)
end
/- shifts, bits -/
end Go.Vabs

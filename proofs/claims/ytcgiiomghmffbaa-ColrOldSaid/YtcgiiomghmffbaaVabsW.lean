/- Lemmas for this claim, text W. No condition. -/
import Derived.Test.YtcgiiomghmffbaaVabsV
namespace Go.Vabs
noncomputable section
def table (P : Program) : Nat → T AFunc
  | 0 => .nil
  | n + 1 => (table P n).set n (compF P n)
def st0 : St := { next := 0, heap := .nil, vis := fun _ => true, wr := fun _ => true }
def isTrue : Option (V × St) → Bool
  | some (.bool true, _) => true
  | _ => false
end
theorem table_ok {P : Program} : ∀ (n : Nat) (g : Nat) (fn : AFunc), (table P n).get g = some fn → compF P g = some fn
  | 0, _, _, h => by cases h
  | n + 1, g, fn, h => by
    have h : T.get (T.set (table P n) n (compF P n)) g = some fn := h
    rw [T.get_set] at h
    by_cases hg : g = n
    · rw [if_pos hg] at h; rw [hg]; exact h
    · rw [if_neg hg] at h; exact table_ok n g fn h
theorem isTrue_some {x : Option (V × St)} (h : isTrue x = true) : ∃ s, x = some (.bool true, s) := by
  unfold isTrue at h
  split at h
  · exact ⟨_, rfl⟩
  · cases h
end Go.Vabs

/-
  A font whose tables stand anywhere: what is read of it (no program in sight).
-/
import Derived.Test.YtpbafimkplhknaaVabsSc
namespace Go.Vabs.Sd
open Go.Vabs.Pk Go.Vabs.Sb Go.Vabs.Sc
set_option linter.unusedVariables false
theorem drop_l {l r : List Nat} {k : Nat} (h : l.length = k) : (l ++ r).drop k = r := by subst h; exact List.drop_left
theorem num_drop {bs : List Nat} {m z : Nat} (h : m + z ≤ bs.length) : num bs (m : Int) z = some (be ((bs.drop m).take z)) := by
  unfold num
  rw [if_pos (thereB_true.2 (by omega)), Int.toNat_natCast]
theorem be_big4 {v : Nat} (h : v < 4294967296) : be (bigB v 4) = v := by rw [be_bigB]; exact Nat.mod_eq_of_lt (by omega)
end Go.Vabs.Sd

/-
  A place on a line of colours, bent: the plain law.
-/
namespace Go.Vabs.Ln
set_option linter.unusedVariables false

/-- A number modulo another one, as the code has it. -/
def modI (a n : Int) : Int := Int.tmod (Int.tmod a n + n) n
theorem modI_eq {a n : Int} (h : 0 < n) : modI a n = a % n := by
  have h1 := Int.lt_tmod_of_pos a h
  unfold modI
  rw [Int.tmod_eq_emod_of_nonneg (by omega), Int.add_emod_right, Int.tmod_def, Int.sub_mul_emod_self_left]
def repeatI (f n t : Int) : Int := f + modI (t - f) n
def reflectI (f n t : Int) : Int := f + min (modI (t - f) (2 * n)) (2 * n - modI (t - f) (2 * n))
theorem repeat_in {f n t : Int} (h : 0 < n) : f ≤ repeatI f n t ∧ repeatI f n t < f + n := by
  unfold repeatI
  rw [modI_eq h]
  have := Int.emod_nonneg (t - f) (show n ≠ 0 by omega)
  have := Int.emod_lt_of_pos (t - f) h
  omega
theorem reflect_in {f n t : Int} (h : 0 < n) : f ≤ reflectI f n t ∧ reflectI f n t ≤ f + n := by
  unfold reflectI
  rw [modI_eq (show 0 < 2 * n by omega)]
  have := Int.emod_nonneg (t - f) (show 2 * n ≠ 0 by omega)
  have := Int.emod_lt_of_pos (t - f) (show 0 < 2 * n by omega)
  omega
theorem repeat_self {f n t : Int} (h1 : f ≤ t) (h2 : t < f + n) : repeatI f n t = t := by
  unfold repeatI
  rw [modI_eq (by omega), Int.emod_eq_of_lt (by omega) (by omega)]
  omega
theorem reflect_self {f n t : Int} (h1 : f ≤ t) (h2 : t < f + n) : reflectI f n t = t := by
  unfold reflectI
  rw [modI_eq (by omega), Int.emod_eq_of_lt (by omega) (by omega)]
  omega
theorem repeat_whole {f n t : Int} (h : 0 < n) : Int.tmod (t - repeatI f n t) n = 0 := by
  unfold repeatI
  rw [modI_eq h]
  have e : t - (f + (t - f) % n) = n * ((t - f) / n) := by
    have := Int.emod_add_mul_ediv (t - f) n
    omega
  rw [e]
  exact Int.mul_tmod_right _ _
theorem repeat_far {f n t k : Int} (h : 0 < n) : repeatI f n (t + 2 * k * n) = repeatI f n t := by
  unfold repeatI
  rw [modI_eq h, modI_eq h, show t + 2 * k * n - f = (t - f) + (2 * k) * n from by omega, Int.add_mul_emod_self_right]
theorem reflect_far {f n t k : Int} (h : 0 < n) : reflectI f n (t + 2 * k * n) = reflectI f n t := by
  unfold reflectI
  have h2 : 0 < 2 * n := by omega
  have e : t + 2 * k * n - f = (t - f) + k * (2 * n) := by
    have : 2 * k * n = k * (2 * n) := by rw [Int.mul_comm 2 k, Int.mul_assoc]
    omega
  rw [modI_eq h2, modI_eq h2, e, Int.add_mul_emod_self_right]
theorem reflect_mirror {f n t : Int} (h : 0 < n) : reflectI f n (2 * f - t) = reflectI f n t := by
  unfold reflectI
  have h2 : 0 < 2 * n := by omega
  rw [modI_eq h2, modI_eq h2]
  have a0 := Int.emod_nonneg (t - f) (show 2 * n ≠ 0 by omega)
  have a1 := Int.emod_lt_of_pos (t - f) h2
  have e := Int.emod_add_mul_ediv (t - f) (2 * n)
  generalize hm : (t - f) % (2 * n) = m at a0 a1 e ⊢
  generalize hq : (t - f) / (2 * n) = q at e
  by_cases h0 : m = 0
  · have e2 : 2 * f - t - f = 0 + (-q) * (2 * n) := by
      rw [Int.neg_mul, Int.mul_comm q]
      omega
    rw [e2, Int.add_mul_emod_self_right, h0]
    rfl
  · have e2 : 2 * f - t - f = (2 * n - m) + (-q - 1) * (2 * n) := by
      rw [Int.sub_mul, Int.neg_mul, Int.mul_comm q, Int.one_mul]
      omega
    rw [e2, Int.add_mul_emod_self_right, Int.emod_eq_of_lt (by omega) (by omega)]
    omega
end Go.Vabs.Ln

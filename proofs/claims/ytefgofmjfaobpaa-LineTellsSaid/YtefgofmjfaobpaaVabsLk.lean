/-
  Stops of a colour line in memory.
-/
import Derived.Test.YtefgofmjfaobpaaVabsZh
import Derived.Test.YtefgofmjfaobpaaVabsLs
import Derived.Test.YtefgofmjfaobpaaVabsLn
namespace Go.Vabs.Ln
set_option linter.unusedVariables false
set_option linter.unusedSimpArgs false

/-- A stop: its offset, its colour's four cells. -/
structure Stop where
  off : Int
  a : V
  b : V
  c : V
  d : V
noncomputable section
def encS (s : Stop) : List V := [.int .i64 s.off, s.a, s.b, s.c, s.d]
def enc : List Stop → List V
  | [] => []
  | s :: l => .int .i64 s.off :: s.a :: s.b :: s.c :: s.d :: enc l
def stopsOf : List V → Option (List Stop)
  | [] => some []
  | .int .i64 x :: a :: b :: c :: d :: l => match stopsOf l with | some r => some (⟨x, a, b, c, d⟩ :: r) | none => none
  | _ => none
end
theorem enc_len : ∀ l : List Stop, (enc l).length = l.length * 5
  | [] => rfl
  | s :: l => by simp only [enc, List.length_cons, enc_len l]; omega
theorem stopsOf_enc : ∀ l : List Stop, stopsOf (enc l) = some l
  | [] => rfl
  | s :: l => by simp only [enc, stopsOf, stopsOf_enc l]
theorem stopsOf_some : ∀ (cs : List V) (l : List Stop), stopsOf cs = some l → cs = enc l := by
  intro cs
  induction cs using stopsOf.induct with
  | case1 => intro l h; cases h; rfl
  | case2 x a b c d l r hr ih =>
    intro q h
    simp only [stopsOf, hr] at h
    cases h
    simp only [enc, ih r hr]
  | case3 x a b c d l hr ih =>
    intro q h
    simp only [stopsOf, hr] at h
    cases h
  | case4 t h1 h2 =>
    intro q h
    exfalso
    unfold stopsOf at h
    split at h
    · exact h1 rfl
    · exact h2 _ _ _ _ _ _ rfl
    · cases h
theorem five (j : Nat) : (j + 1) * 5 = j * 5 + 1 + 1 + 1 + 1 + 1 := by omega
theorem enc_cut : ∀ {l : List Stop} {j : Nat} {s : Stop}, l[j]? = some s → cut (j * 5) 5 (enc l) = some (encS s)
  | [], j, s, h => by simp at h
  | t :: l, 0, s, h => by
    simp at h
    subst h
    rw [Nat.zero_mul, cut_of (by simp [enc])]
    rfl
  | t :: l, j + 1, s, h => by
    have h : l[j]? = some s := by simpa using h
    rw [five]
    show cut (j * 5) 5 (enc l) = _
    exact enc_cut h
theorem enc_nth : ∀ {l : List Stop} {j : Nat} {s : Stop}, l[j]? = some s → nth (j * 5) (enc l) = some (.int .i64 s.off)
  | [], j, s, h => by simp at h
  | t :: l, 0, s, h => by
    simp at h
    subst h
    rfl
  | t :: l, j + 1, s, h => by
    have h : l[j]? = some s := by simpa using h
    rw [five]
    show nth (j * 5) (enc l) = _
    exact enc_nth h
theorem over_nil (l : List V) : over [] l = some l := by cases l <;> rfl
theorem enc_put : ∀ {l : List Stop} {j : Nat} {s t : Stop}, l[j]? = some s → splice (j * 5) (encS t) (enc l) = some (enc (l.set j t))
  | [], j, s, t, h => by simp at h
  | u :: l, 0, s, t, h => by
    rw [Nat.zero_mul]
    show over (encS t) (enc (u :: l)) = _
    simp [encS, enc, over, over_nil]
  | u :: l, j + 1, s, t, h => by
    have h : l[j]? = some s := by simpa using h
    rw [five]
    show splice (j * 5 + 1 + 1 + 1 + 1 + 1) (encS t) (.int .i64 u.off :: u.a :: u.b :: u.c :: u.d :: enc l) = _
    simp only [splice, enc_put h]
    rfl
theorem enc_off : ∀ {l : List Stop} {j : Nat} {s : Stop} {x : Int}, l[j]? = some s → splice (j * 5) [.int .i64 x] (enc l) = some (enc (l.set j { s with off := x }))
  | [], j, s, x, h => by simp at h
  | u :: l, 0, s, x, h => by
    simp at h
    subst h
    rw [Nat.zero_mul]
    show over [.int .i64 x] (enc (u :: l)) = _
    simp [enc, over, over_nil]
  | u :: l, j + 1, s, x, h => by
    have h : l[j]? = some s := by simpa using h
    rw [five]
    show splice (j * 5 + 1 + 1 + 1 + 1 + 1) [.int .i64 x] (.int .i64 u.off :: u.a :: u.b :: u.c :: u.d :: enc l) = _
    simp only [splice, enc_off h]
    rfl
/-- Flat colours. -/
def Stop.ok (s : Stop) : Prop := s.a.flat = true ∧ s.b.flat = true ∧ s.c.flat = true ∧ s.d.flat = true
theorem enc_flat : ∀ {l : List Stop}, (∀ s ∈ l, s.ok) → ∀ v ∈ enc l, v.flat = true
  | [], _, v, hv => by cases hv
  | s :: l, h, v, hv => by
    have hs := h s (List.mem_cons_self ..)
    simp only [enc, List.mem_cons] at hv
    rcases hv with rfl | rfl | rfl | rfl | rfl | hv
    · rfl
    · exact hs.1
    · exact hs.2.1
    · exact hs.2.2.1
    · exact hs.2.2.2
    · exact enc_flat (fun t ht => h t (List.mem_cons_of_mem _ ht)) v hv
theorem flat_enc : ∀ {l : List Stop}, (enc l).all V.flat = true → ∀ s ∈ l, s.ok
  | [], _, s, hs => by cases hs
  | t :: l, h, s, hs => by
    simp only [enc, List.all_cons, Bool.and_eq_true] at h
    rcases List.mem_cons.1 hs with rfl | hs
    · exact ⟨h.2.1, h.2.2.1, h.2.2.2.1, h.2.2.2.2.1⟩
    · exact flat_enc h.2.2.2.2.2 s hs

/- IN MEMORY -/
section
variable {os : List (Option AObj)} {i : Nat} {l : List Stop} {j : Nat} {s t : Stop}
theorem load_stop {own : Bool} (h : (os[i]?).join = some (.cells own (enc l))) (hs : l[j]? = some s) : loadV (few os) true 5 (.ptr (some (i, j * 5))) = some (.agg (encS s)) := by
  rw [load_fewC, cellsAt_eq, h]
  show (cut (j * 5) 5 (enc l)).map V.agg = _
  rw [enc_cut hs]
  rfl
theorem load_off {own : Bool} (h : (os[i]?).join = some (.cells own (enc l))) (hs : l[j]? = some s) : loadV (few os) false 1 (.ptr (some (i, j * 5))) = some (.int .i64 s.off) := by
  rw [load_fewC, cellsAt_eq, h]
  show nth (j * 5) (enc l) = _
  exact enc_nth hs
theorem store_stop (h : (os[i]?).join = some (.cells true (enc l))) (hs : l[j]? = some s) : storeV (few os) 5 (.ptr (some (i, j * 5))) (some (encS t)) = some (V.undef, few (os.set i (some (.cells true (enc (l.set j t)))))) := by
  rw [store_fewC, ownAt_eq, h]
  show (if (encS t).length = 5 then (match splice (j * 5) (encS t) (enc l) with | some r => some (V.undef, few (os.set i (some (.cells true r)))) | none => none) else none) = _
  rw [if_pos (show (encS t).length = 5 from rfl), enc_put hs]
theorem store_off {x : Int} (h : (os[i]?).join = some (.cells true (enc l))) (hs : l[j]? = some s) : storeV (few os) 1 (.ptr (some (i, j * 5))) (some [.int .i64 x]) = some (V.undef, few (os.set i (some (.cells true (enc (l.set j { s with off := x })))))) := by
  rw [store_fewC, ownAt_eq, h]
  show (if [V.int .i64 x].length = 1 then (match splice (j * 5) [.int .i64 x] (enc l) with | some r => some (V.undef, few (os.set i (some (.cells true r)))) | none => none) else none) = _
  rw [if_pos (show [V.int .i64 x].length = 1 from rfl), enc_off hs]
end
end Go.Vabs.Ln

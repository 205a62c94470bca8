/-
  Stops of a colour line in order: each is not above the next ones.
-/
import Derived.Test.YtefgofmjfaobpaaVabsLs
namespace Go.Vabs.Ln
set_option linter.unusedVariables false
universe u
variable {α : Type u}
def SortedTo (key : α → Int) (l : List α) (i : Nat) : Prop := ∀ (p q : Nat) (a b : α), p ≤ q → q ≤ i → l[p]? = some a → l[q]? = some b → key a ≤ key b
theorem sink_sorted {key : α → Int} {less : α → α → Bool} (hl : ∀ a b, less a b = true ↔ key a < key b) : ∀ (j i : Nat) (l : List α), j ≤ i → i < l.length →
    (∀ (p q : Nat) (a b : α), p ≤ q → q ≤ i → p ≠ j → q ≠ j → l[p]? = some a → l[q]? = some b → key a ≤ key b) → (∀ (q : Nat) (a b : α), j < q → q ≤ i → l[j]? = some a → l[q]? = some b → key a ≤ key b) → SortedTo key (sink less j l) i
  | 0, i, l, hj, hi, h1, h2 => by
    intro p q a b hpq hq ha hb
    have ha : l[p]? = some a := ha
    have hb : l[q]? = some b := hb
    by_cases e : p = 0
    · subst e
      by_cases e2 : q = 0
      · subst e2
        rw [ha] at hb; cases hb
        exact Int.le_refl _
      · exact h2 q a b (by omega) hq ha hb
    · exact h1 p q a b hpq hq e (by omega) ha hb
  | j + 1, i, l, hj, hi, h1, h2 => by
    have hb : l[j + 1]? = some l[j + 1] := List.getElem?_eq_getElem (by omega)
    have ha : l[j]? = some l[j] := List.getElem?_eq_getElem (by omega)
    unfold sink
    rw [hb, ha]
    dsimp only
    split
    · rename_i hlt
      have hlt := (hl _ _).1 hlt
      refine sink_sorted hl j i (swap l j) (by omega) (by rw [swap_len]; exact hi) ?_ ?_
      · intro p q a b hpq hq hp0 hq0 hpa hqb
        rw [swap_at ha hb, if_neg hp0] at hpa
        rw [swap_at ha hb, if_neg hq0] at hqb
        by_cases c1 : p = j + 1
        · rw [if_pos c1] at hpa
          cases hpa
          by_cases c2 : q = j + 1
          · rw [if_pos c2] at hqb
            cases hqb
            exact Int.le_refl _
          · rw [if_neg c2] at hqb
            exact h1 j q _ b (by omega) hq (by omega) c2 ha hqb
        · rw [if_neg c1] at hpa
          by_cases c2 : q = j + 1
          · rw [if_pos c2] at hqb
            cases hqb
            exact h1 p j a _ (by omega) (by omega) c1 (by omega) hpa ha
          · rw [if_neg c2] at hqb
            exact h1 p q a b hpq hq c1 c2 hpa hqb
      · intro q a b hk1 hk2 ha' hb'
        rw [swap_at ha hb, if_pos rfl] at ha'
        cases ha'
        rw [swap_at ha hb, if_neg (by omega)] at hb'
        by_cases c : q = j + 1
        · rw [if_pos c] at hb'
          cases hb'
          omega
        · rw [if_neg c] at hb'
          exact h2 q _ b (by omega) hk2 hb hb'
    · rename_i hge
      have hge : ¬ key l[j + 1] < key l[j] := fun h => hge ((hl _ _).2 h)
      intro p q a b hpq hq hpa hqb
      by_cases c1 : p = j + 1
      · subst c1
        by_cases c2 : q = j + 1
        · subst c2
          rw [hpa] at hqb; cases hqb
          exact Int.le_refl _
        · exact h2 q a b (by omega) hq hpa hqb
      · by_cases c2 : q = j + 1
        · subst c2
          rw [hb] at hqb
          cases hqb
          have := h1 p j a _ (by omega) (by omega) c1 (by omega) hpa ha
          omega
        · exact h1 p q a b hpq hq c1 c2 hpa hqb
theorem sinks_sorted {key : α → Int} {less : α → α → Bool} (hl : ∀ a b, less a b = true ↔ key a < key b) : ∀ (k i : Nat) (l : List α), 0 < i → i + k = l.length → SortedTo key l (i - 1) → SortedTo key (sinks less k i l) (l.length - 1)
  | 0, i, l, h0, hk, h => by
    have : i = l.length := by omega
    subst this
    exact h
  | k + 1, i, l, h0, hk, h => by
    have h1 : SortedTo key (sink less i l) i := by
      refine sink_sorted hl i i l (Nat.le_refl _) (by omega) (fun p q a b hpq hq hp hq' ha hb => h p q a b hpq (by omega) ha hb) (fun q a b h1 h2 => by omega)
    have := sinks_sorted hl k (i + 1) (sink less i l) (by omega) (by rw [sink_len]; omega) (by rw [Nat.add_sub_cancel]; exact h1)
    rw [sink_len] at this
    exact this
end Go.Vabs.Ln

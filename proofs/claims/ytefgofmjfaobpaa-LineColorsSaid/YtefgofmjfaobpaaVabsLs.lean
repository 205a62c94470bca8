/-
  Stops of a colour line in order: as the code sorts a few.
-/
namespace Go.Vabs.Ln
set_option linter.unusedVariables false
universe u
variable {α : Type u}
/-- Two neighbours change places. -/
def swap (l : List α) (j : Nat) : List α := match l[j]?, l[j + 1]? with
  | some a, some b => (l.set j b).set (j + 1) a
  | _, _ => l
/-- An element goes down as long as it is below the one ahead of it. -/
def sink (less : α → α → Bool) : Nat → List α → List α
  | 0, l => l
  | j + 1, l => match l[j + 1]?, l[j]? with
    | some b, some a => if less b a then sink less j (swap l j) else l
    | _, _ => l
/-- From element i on, k of them. -/
def sinks (less : α → α → Bool) : Nat → Nat → List α → List α
  | 0, _, l => l
  | k + 1, i, l => sinks less k (i + 1) (sink less i l)
theorem swap_len {l : List α} {j : Nat} : (swap l j).length = l.length := by
  unfold swap
  split <;> simp
theorem sink_len {less : α → α → Bool} : ∀ (j : Nat) (l : List α), (sink less j l).length = l.length
  | 0, l => rfl
  | j + 1, l => by
    unfold sink
    split
    · split
      · rw [sink_len, swap_len]
      · rfl
    · rfl
theorem sinks_len {less : α → α → Bool} : ∀ (k i : Nat) (l : List α), (sinks less k i l).length = l.length
  | 0, i, l => rfl
  | k + 1, i, l => by
    show (sinks less k (i + 1) (sink less i l)).length = _
    rw [sinks_len, sink_len]
theorem swap_at {l : List α} {j : Nat} {a b : α} (ha : l[j]? = some a) (hb : l[j + 1]? = some b) (k : Nat) : (swap l j)[k]? = if k = j then some b else if k = j + 1 then some a else l[k]? := by
  unfold swap
  rw [ha, hb]
  dsimp only
  have h1 := (List.getElem?_eq_some_iff.1 ha).1
  have h2 := (List.getElem?_eq_some_iff.1 hb).1
  rw [List.getElem?_set, List.getElem?_set, List.length_set]
  by_cases c1 : k = j
  · subst c1
    rw [if_neg (by omega), if_pos rfl, if_pos (by omega), if_pos rfl]
  · by_cases c2 : k = j + 1
    · subst c2
      rw [if_pos rfl, if_pos (by omega), if_neg c1, if_pos rfl]
    · rw [if_neg (by omega), if_neg (by omega), if_neg c1, if_neg c2]
theorem swap_mem {l : List α} {j : Nat} {x : α} (h : x ∈ swap l j) : x ∈ l := by
  unfold swap at h
  split at h
  · rename_i a b ha hb
    rcases List.mem_or_eq_of_mem_set h with h | h
    · rcases List.mem_or_eq_of_mem_set h with h | h
      · exact h
      · rw [h]; exact List.mem_of_getElem? hb
    · rw [h]; exact List.mem_of_getElem? ha
  · exact h
theorem sink_mem {less : α → α → Bool} {x : α} : ∀ (j : Nat) (l : List α), x ∈ sink less j l → x ∈ l
  | 0, l, h => h
  | j + 1, l, h => by
    unfold sink at h
    split at h
    · split at h
      · exact swap_mem (sink_mem j _ h)
      · exact h
    · exact h
theorem sinks_mem {less : α → α → Bool} {x : α} : ∀ (k i : Nat) (l : List α), x ∈ sinks less k i l → x ∈ l
  | 0, i, l, h => h
  | k + 1, i, l, h => sink_mem _ _ (sinks_mem k (i + 1) _ h)
/-- The first one is not above the others, up to element i. -/
def Least (key : α → Int) (l : List α) (i : Nat) : Prop := ∀ (k : Nat) (a x : α), k ≤ i → l[0]? = some a → l[k]? = some x → key a ≤ key x
/-- The same, element j left out (and what stands there is not above what stands behind it). -/
theorem sink_least {key : α → Int} {less : α → α → Bool} (hl : ∀ a b, less a b = true ↔ key a < key b) : ∀ (j i : Nat) (l : List α), j ≤ i → i < l.length →
    (∀ (k : Nat) (a x : α), k ≤ i → k ≠ j → j ≠ 0 → l[0]? = some a → l[k]? = some x → key a ≤ key x) → (∀ (k : Nat) (b x : α), j < k → k ≤ i → l[j]? = some b → l[k]? = some x → key b ≤ key x) → Least key (sink less j l) i
  | 0, i, l, hj, hi, h1, h2 => by
    intro k a x hk ha hx
    by_cases e : k = 0
    · subst e
      have ha : l[0]? = some a := ha
      have hx : l[0]? = some x := hx
      rw [ha] at hx; cases hx
      exact Int.le_refl _
    · exact h2 k a x (by omega) hk ha hx
  | j + 1, i, l, hj, hi, h1, h2 => by
    have hb : l[j + 1]? = some l[j + 1] := List.getElem?_eq_getElem (by omega)
    have ha : l[j]? = some l[j] := List.getElem?_eq_getElem (by omega)
    unfold sink
    rw [hb, ha]
    dsimp only
    split
    · rename_i hlt
      have hlt := (hl _ _).1 hlt
      refine sink_least hl j i (swap l j) (by omega) (by rw [swap_len]; exact hi) ?_ ?_
      · intro k a x hk hne hj0 h0 hx
        rw [swap_at ha hb] at h0 hx
        rw [if_neg (by omega), if_neg (by omega)] at h0
        rw [if_neg hne] at hx
        by_cases c : k = j + 1
        · rw [if_pos c] at hx
          cases hx
          exact h1 j a _ (by omega) (by omega) (by omega) h0 ha
        · rw [if_neg c] at hx
          exact h1 k a x hk c (by omega) h0 hx
      · intro k b x hk1 hk2 hb' hx
        rw [swap_at ha hb] at hb' hx
        rw [if_pos rfl] at hb'
        cases hb'
        rw [if_neg (by omega)] at hx
        by_cases c : k = j + 1
        · rw [if_pos c] at hx
          cases hx
          omega
        · rw [if_neg c] at hx
          exact h2 k _ x (by omega) hk2 hb hx
    · rename_i hge
      have hge : ¬ key l[j + 1] < key l[j] := fun h => hge ((hl _ _).2 h)
      intro k a x hk h0 hx
      by_cases c : k = j + 1
      · subst c
        rw [hb] at hx
        cases hx
        have := h1 j a _ (by omega) (by omega) (by omega) h0 ha
        omega
      · exact h1 k a x hk c (by omega) h0 hx
theorem sinks_least {key : α → Int} {less : α → α → Bool} (hl : ∀ a b, less a b = true ↔ key a < key b) : ∀ (k i : Nat) (l : List α), 0 < i → i + k = l.length → Least key l (i - 1) → Least key (sinks less k i l) (l.length - 1)
  | 0, i, l, h0, hk, h => by
    have : i = l.length := by omega
    subst this
    exact h
  | k + 1, i, l, h0, hk, h => by
    have h1 : Least key (sink less i l) i := by
      refine sink_least hl i i l (Nat.le_refl _) (by omega) (fun q a x hq hne _ ha hx => h q a x (by omega) ha hx) (fun q b x h1 h2 => by omega)
    have := sinks_least hl k (i + 1) (sink less i l) (by omega) (by rw [sink_len]; omega) (by rw [Nat.add_sub_cancel]; exact h1)
    rw [sink_len] at this
    exact this
end Go.Vabs.Ln

/-
  Stops of a colour line in order: as the code sorts a few.
-/
namespace Go.Vabs.Ln
set_option linter.unusedVariables false
universe u
variable {α : Type u}
/-- Two neighbours change places. -/
def swap (l : List α) (j : Nat) : List α := match l[j]?, l[j + 1]? with
  | some a, some b => (l.set j b).set (j + 1) a
  | _, _ => l
/-- An element goes down as long as it is below the one ahead of it. -/
def sink (less : α → α → Bool) : Nat → List α → List α
  | 0, l => l
  | j + 1, l => match l[j + 1]?, l[j]? with
    | some b, some a => if less b a then sink less j (swap l j) else l
    | _, _ => l
/-- From element i on, k of them. -/
def sinks (less : α → α → Bool) : Nat → Nat → List α → List α
  | 0, _, l => l
  | k + 1, i, l => sinks less k (i + 1) (sink less i l)
theorem swap_len {l : List α} {j : Nat} : (swap l j).length = l.length := by
  unfold swap
  split <;> simp
theorem sink_len {less : α → α → Bool} : ∀ (j : Nat) (l : List α), (sink less j l).length = l.length
  | 0, l => rfl
  | j + 1, l => by
    unfold sink
    split
    · split
      · rw [sink_len, swap_len]
      · rfl
    · rfl
theorem sinks_len {less : α → α → Bool} : ∀ (k i : Nat) (l : List α), (sinks less k i l).length = l.length
  | 0, i, l => rfl
  | k + 1, i, l => by
    show (sinks less k (i + 1) (sink less i l)).length = _
    rw [sinks_len, sink_len]
theorem swap_at {l : List α} {j : Nat} {a b : α} (ha : l[j]? = some a) (hb : l[j + 1]? = some b) (k : Nat) : (swap l j)[k]? = if k = j then some b else if k = j + 1 then some a else l[k]? := by
  unfold swap
  rw [ha, hb]
  dsimp only
  have h1 := (List.getElem?_eq_some_iff.1 ha).1
  have h2 := (List.getElem?_eq_some_iff.1 hb).1
  rw [List.getElem?_set, List.getElem?_set, List.length_set]
  by_cases c1 : k = j
  · subst c1
    rw [if_neg (by omega), if_pos rfl, if_pos (by omega), if_pos rfl]
  · by_cases c2 : k = j + 1
    · subst c2
      rw [if_pos rfl, if_pos (by omega), if_neg c1, if_pos rfl]
    · rw [if_neg (by omega), if_neg (by omega), if_neg c1, if_neg c2]
theorem swap_mem {l : List α} {j : Nat} {x : α} (h : x ∈ swap l j) : x ∈ l := by
  unfold swap at h
  split at h
  · rename_i a b ha hb
    rcases List.mem_or_eq_of_mem_set h with h | h
    · rcases List.mem_or_eq_of_mem_set h with h | h
      · exact h
      · rw [h]; exact List.mem_of_getElem? hb
    · rw [h]; exact List.mem_of_getElem? ha
  · exact h
theorem sink_mem {less : α → α → Bool} {x : α} : ∀ (j : Nat) (l : List α), x ∈ sink less j l → x ∈ l
  | 0, l, h => h
  | j + 1, l, h => by
    unfold sink at h
    split at h
    · split at h
      · exact swap_mem (sink_mem j _ h)
      · exact h
    · exact h
theorem sinks_mem {less : α → α → Bool} {x : α} : ∀ (k i : Nat) (l : List α), x ∈ sinks less k i l → x ∈ l
  | 0, i, l, h => h
  | k + 1, i, l, h => sink_mem _ _ (sinks_mem k (i + 1) _ h)
/-- The first one is not above the others, up to element i. -/
def Least (key : α → Int) (l : List α) (i : Nat) : Prop := ∀ (k : Nat) (a x : α), k ≤ i → l[0]? = some a → l[k]? = some x → key a ≤ key x
/-- The same, element j left out (and what stands there is not above what stands behind it). -/
theorem sink_least {key : α → Int} {less : α → α → Bool} (hl : ∀ a b, less a b = true ↔ key a < key b) : ∀ (j i : Nat) (l : List α), j ≤ i → i < l.length →
    (∀ (k : Nat) (a x : α), k ≤ i → k ≠ j → j ≠ 0 → l[0]? = some a → l[k]? = some x → key a ≤ key x) → (∀ (k : Nat) (b x : α), j < k → k ≤ i → l[j]? = some b → l[k]? = some x → key b ≤ key x) → Least key (sink less j l) i
  | 0, i, l, hj, hi, h1, h2 => by
    intro k a x hk ha hx
    by_cases e : k = 0
    · subst e
      have ha : l[0]? = some a := ha
      have hx : l[0]? = some x := hx
      rw [ha] at hx; cases hx
      exact Int.le_refl _
    · exact h2 k a x (by omega) hk ha hx
  | j + 1, i, l, hj, hi, h1, h2 => by
    have hb : l[j + 1]? = some l[j + 1] := List.getElem?_eq_getElem (by omega)
    have ha : l[j]? = some l[j] := List.getElem?_eq_getElem (by omega)
    unfold sink
    rw [hb, ha]
    dsimp only
    split
    · rename_i hlt
      have hlt := (hl _ _).1 hlt
      refine sink_least hl j i (swap l j) (by omega) (by rw [swap_len]; exact hi) ?_ ?_
      · intro k a x hk hne hj0 h0 hx
        rw [swap_at ha hb] at h0 hx
        rw [if_neg (by omega), if_neg (by omega)] at h0
        rw [if_neg hne] at hx
        by_cases c : k = j + 1
        · rw [if_pos c] at hx
          cases hx
          exact h1 j a _ (by omega) (by omega) (by omega) h0 ha
        · rw [if_neg c] at hx
          exact h1 k a x hk c (by omega) h0 hx
      · intro k b x hk1 hk2 hb' hx
        rw [swap_at ha hb] at hb' hx
        rw [if_pos rfl] at hb'
        cases hb'
        rw [if_neg (by omega)] at hx
        by_cases c : k = j + 1
        · rw [if_pos c] at hx
          cases hx
          omega
        · rw [if_neg c] at hx
          exact h2 k _ x (by omega) hk2 hb hx
    · rename_i hge
      have hge : ¬ key l[j + 1] < key l[j] := fun h => hge ((hl _ _).2 h)
      intro k a x hk h0 hx
      by_cases c : k = j + 1
      · subst c
        rw [hb] at hx
        cases hx
        have := h1 j a _ (by omega) (by omega) (by omega) h0 ha
        omega
      · exact h1 k a x hk c (by omega) h0 hx
theorem sinks_least {key : α → Int} {less : α → α → Bool} (hl : ∀ a b, less a b = true ↔ key a < key b) : ∀ (k i : Nat) (l : List α), 0 < i → i + k = l.length → Least key l (i - 1) → Least key (sinks less k i l) (l.length - 1)
  | 0, i, l, h0, hk, h => by
    have : i = l.length := by omega
    subst this
    exact h
  | k + 1, i, l, h0, hk, h => by
    have h1 : Least key (sink less i l) i := by
      refine sink_least hl i i l (Nat.le_refl _) (by omega) (fun q a x hq hne _ ha hx => h q a x (by omega) ha hx) (fun q b x h1 h2 => by omega)
    have := sinks_least hl k (i + 1) (sink less i l) (by omega) (by rw [sink_len]; omega) (by rw [Nat.add_sub_cancel]; exact h1)
    rw [sink_len] at this
    exact this
end Go.Vabs.Ln

namespace Go.Vabs.Ln
set_option linter.unusedVariables false
universe u
variable {α : Type u}
def SortedTo (key : α → Int) (l : List α) (i : Nat) : Prop := ∀ (p q : Nat) (a b : α), p ≤ q → q ≤ i → l[p]? = some a → l[q]? = some b → key a ≤ key b
theorem sink_sorted {key : α → Int} {less : α → α → Bool} (hl : ∀ a b, less a b = true ↔ key a < key b) : ∀ (j i : Nat) (l : List α), j ≤ i → i < l.length →
    (∀ (p q : Nat) (a b : α), p ≤ q → q ≤ i → p ≠ j → q ≠ j → l[p]? = some a → l[q]? = some b → key a ≤ key b) → (∀ (q : Nat) (a b : α), j < q → q ≤ i → l[j]? = some a → l[q]? = some b → key a ≤ key b) → SortedTo key (sink less j l) i
  | 0, i, l, hj, hi, h1, h2 => by
    intro p q a b hpq hq ha hb
    have ha : l[p]? = some a := ha
    have hb : l[q]? = some b := hb
    by_cases e : p = 0
    · subst e
      by_cases e2 : q = 0
      · subst e2
        rw [ha] at hb; cases hb
        exact Int.le_refl _
      · exact h2 q a b (by omega) hq ha hb
    · exact h1 p q a b hpq hq e (by omega) ha hb
  | j + 1, i, l, hj, hi, h1, h2 => by
    have hb : l[j + 1]? = some l[j + 1] := List.getElem?_eq_getElem (by omega)
    have ha : l[j]? = some l[j] := List.getElem?_eq_getElem (by omega)
    unfold sink
    rw [hb, ha]
    dsimp only
    split
    · rename_i hlt
      have hlt := (hl _ _).1 hlt
      refine sink_sorted hl j i (swap l j) (by omega) (by rw [swap_len]; exact hi) ?_ ?_
      · intro p q a b hpq hq hp0 hq0 hpa hqb
        rw [swap_at ha hb, if_neg hp0] at hpa
        rw [swap_at ha hb, if_neg hq0] at hqb
        by_cases c1 : p = j + 1
        · rw [if_pos c1] at hpa
          cases hpa
          by_cases c2 : q = j + 1
          · rw [if_pos c2] at hqb
            cases hqb
            exact Int.le_refl _
          · rw [if_neg c2] at hqb
            exact h1 j q _ b (by omega) hq (by omega) c2 ha hqb
        · rw [if_neg c1] at hpa
          by_cases c2 : q = j + 1
          · rw [if_pos c2] at hqb
            cases hqb
            exact h1 p j a _ (by omega) (by omega) c1 (by omega) hpa ha
          · rw [if_neg c2] at hqb
            exact h1 p q a b hpq hq c1 c2 hpa hqb
      · intro q a b hk1 hk2 ha' hb'
        rw [swap_at ha hb, if_pos rfl] at ha'
        cases ha'
        rw [swap_at ha hb, if_neg (by omega)] at hb'
        by_cases c : q = j + 1
        · rw [if_pos c] at hb'
          cases hb'
          omega
        · rw [if_neg c] at hb'
          exact h2 q _ b (by omega) hk2 hb hb'
    · rename_i hge
      have hge : ¬ key l[j + 1] < key l[j] := fun h => hge ((hl _ _).2 h)
      intro p q a b hpq hq hpa hqb
      by_cases c1 : p = j + 1
      · subst c1
        by_cases c2 : q = j + 1
        · subst c2
          rw [hpa] at hqb; cases hqb
          exact Int.le_refl _
        · exact h2 q a b (by omega) hq hpa hqb
      · by_cases c2 : q = j + 1
        · subst c2
          rw [hb] at hqb
          cases hqb
          have := h1 p j a _ (by omega) (by omega) c1 (by omega) hpa ha
          omega
        · exact h1 p q a b hpq hq c1 c2 hpa hqb
theorem sinks_sorted {key : α → Int} {less : α → α → Bool} (hl : ∀ a b, less a b = true ↔ key a < key b) : ∀ (k i : Nat) (l : List α), 0 < i → i + k = l.length → SortedTo key l (i - 1) → SortedTo key (sinks less k i l) (l.length - 1)
  | 0, i, l, h0, hk, h => by
    have : i = l.length := by omega
    subst this
    exact h
  | k + 1, i, l, h0, hk, h => by
    have h1 : SortedTo key (sink less i l) i := by
      refine sink_sorted hl i i l (Nat.le_refl _) (by omega) (fun p q a b hpq hq hp hq' ha hb => h p q a b hpq (by omega) ha hb) (fun q a b h1 h2 => by omega)
    have := sinks_sorted hl k (i + 1) (sink less i l) (by omega) (by rw [sink_len]; omega) (by rw [Nat.add_sub_cancel]; exact h1)
    rw [sink_len] at this
    exact this
end Go.Vabs.Ln

namespace Go.Vabs.Ln
set_option linter.unusedVariables false
universe u
variable {α : Type u}
/-- Where an element is put, looked for from the end. -/
def kOf (less : α → α → Bool) (x : α) (l : List α) : Nat → Nat
  | 0 => 0
  | k + 1 => match l[k]? with
    | some a => if less x a then kOf less x l k else k + 1
    | none => k + 1
def ins (less : α → α → Bool) (x : α) (l : List α) : List α := l.take (kOf less x l l.length) ++ x :: l.drop (kOf less x l l.length)
def insAll (less : α → α → Bool) (l : List α) : List α := l.foldl (fun acc x => ins less x acc) []
theorem kOf_succ {less : α → α → Bool} {x : α} {l : List α} {k : Nat} : kOf less x l (k + 1) = match l[k]? with | some a => if less x a then kOf less x l k else k + 1 | none => k + 1 := by rw [kOf]
theorem kOf_le {less : α → α → Bool} {x : α} {l : List α} : ∀ k, kOf less x l k ≤ k
  | 0 => Nat.le_refl _
  | k + 1 => by
    have := kOf_le (less := less) (x := x) (l := l) k
    unfold kOf
    split
    · split <;> omega
    · omega
theorem kOf_pre {less : α → α → Bool} {x : α} {l m : List α} : ∀ k, k ≤ l.length → kOf less x (l ++ m) k = kOf less x l k
  | 0, _ => rfl
  | k + 1, h => by
    have ih := kOf_pre (less := less) (x := x) (l := l) (m := m) k (by omega)
    unfold kOf
    rw [List.getElem?_append_left (by omega), ih]
theorem ins_len {less : α → α → Bool} {x : α} {l : List α} : (ins less x l).length = l.length + 1 := by
  have := kOf_le (less := less) (x := x) (l := l) l.length
  unfold ins
  rw [List.length_append, List.length_cons, List.length_take, List.length_drop]
  omega
theorem sink_ins {less : α → α → Bool} {x : α} : ∀ (j : Nat) (A B : List α), A.length = j → sink less j (A ++ x :: B) = A.take (kOf less x A j) ++ x :: (A.drop (kOf less x A j) ++ B)
  | 0, A, B, h => by
    have : A = [] := List.length_eq_zero_iff.1 h
    subst this
    rfl
  | j + 1, A, B, h => by
    obtain ⟨A', a, rfl⟩ : ∃ A' a, A = A' ++ [a] := by
      rcases List.eq_nil_or_concat A with rfl | ⟨A', a, rfl⟩
      · cases h
      · exact ⟨A', a, by rw [List.concat_eq_append]⟩
    have hA : A'.length = j := by simpa using h
    have hb : ((A' ++ [a]) ++ x :: B)[j + 1]? = some x := by
      rw [List.getElem?_append_right (by rw [h]; omega), h, Nat.sub_self]
      rfl
    have ha : ((A' ++ [a]) ++ x :: B)[j]? = some a := by
      rw [List.append_assoc, List.getElem?_append_right (by omega), hA, Nat.sub_self]
      rfl
    have hk : kOf less x (A' ++ [a]) (j + 1) = if less x a then kOf less x A' j else j + 1 := by
      rw [kOf_succ, List.getElem?_append_right (by omega), hA, Nat.sub_self, kOf_pre j (by omega)]
      rfl
    unfold sink
    rw [hb, ha, hk]
    dsimp only
    by_cases c : less x a = true
    · rw [if_pos c, if_pos c]
      have hsw : swap ((A' ++ [a]) ++ x :: B) j = A' ++ x :: (a :: B) := by
        unfold swap
        rw [hb, ha]
        dsimp only
        rw [List.append_assoc, List.set_append_right _ _ (by omega), hA, Nat.sub_self]
        show (A' ++ x :: x :: B).set (j + 1) a = _
        rw [List.set_append_right _ _ (by omega), hA, show j + 1 - j = 1 from by omega]
        rfl
      have hle := kOf_le (less := less) (x := x) (l := A') j
      rw [hsw, sink_ins j A' (a :: B) hA, List.take_append_of_le_length (by omega), List.drop_append_of_le_length (by omega), List.append_assoc]
      rfl
    · rw [if_neg c, if_neg c, ← h, List.take_length, List.drop_length]
      rfl
theorem sinks_ins {less : α → α → Bool} : ∀ (k : Nat) (P R : List α), R.length = k → sinks less k P.length (P ++ R) = R.foldl (fun acc x => ins less x acc) P
  | 0, P, R, h => by
    have : R = [] := List.length_eq_zero_iff.1 h
    subst this
    rw [List.append_nil]
    rfl
  | k + 1, P, [], h => by cases h
  | k + 1, P, x :: R, h => by
    show sinks less k (P.length + 1) (sink less P.length (P ++ x :: R)) = R.foldl _ (ins less x P)
    have e : sink less P.length (P ++ x :: R) = ins less x P ++ R := by
      rw [sink_ins P.length P R rfl]
      unfold ins
      rw [List.append_assoc]
      rfl
    rw [e, ← ins_len (less := less) (x := x)]
    exact sinks_ins k (ins less x P) R (by simpa using h)
theorem sinks_insAll {less : α → α → Bool} (l : List α) : sinks less (l.length - 1) 1 l = insAll less l := by
  cases l with
  | nil => rfl
  | cons x R =>
    have := sinks_ins (less := less) R.length [x] R rfl
    exact this
theorem insAll_snoc {less : α → α → Bool} {l : List α} {x : α} : insAll less (l ++ [x]) = ins less x (insAll less l) := by
  unfold insAll
  rw [List.foldl_append]
  rfl
theorem insAll_len {less : α → α → Bool} : ∀ {l : List α}, (insAll less l).length = l.length := by
  intro l
  rw [← sinks_insAll, sinks_len]
end Go.Vabs.Ln

/-
  A font whose tables are laid one behind the other: what is read of it (no program in sight).
-/
import Derived.Test.YtghejdmnmfbacaaVabsSd
import Derived.Test.YtghejdmnmfbacaaVabsSh
namespace Go.Vabs.Sm
open Go.Vabs.Pk Go.Vabs.Sb Go.Vabs.Sc Go.Vabs.Sd
set_option linter.unusedVariables false
abbrev Itm := List Nat × List Nat
/-- A table's record. -/
def recL (tag : List Nat) (at' size : Nat) : List Nat := tag ++ ([0, 0, 0, 0] ++ (bigB at' 4 ++ bigB size 4))
def recsL : Nat → List Itm → List Nat
  | _, [] => []
  | a, x :: l => recL x.1 a x.2.length ++ recsL (a + x.2.length) l
def flatT (l : List Itm) : List Nat := (l.map (·.2)).flatten
def headL (n : Nat) : List Nat := [0, 1, 0, 0, 0, n, 0, 0, 0, 0, 0, 0]
def layL (l : List Itm) : List Nat := headL l.length ++ (recsL (12 + 16 * l.length) l ++ flatT l)
def Tagged (l : List Itm) : Prop := ∀ x ∈ l, x.1.length = 4
theorem recL_len {tag : List Nat} {a z : Nat} (h : tag.length = 4) : (recL tag a z).length = 16 := by simp [recL, bigB_len, h]
theorem recsL_len : ∀ {l : List Itm} {a : Nat}, Tagged l → (recsL a l).length = 16 * l.length
  | [], _, _ => rfl
  | x :: l, a, h => by
    show (recL x.1 a x.2.length ++ recsL (a + x.2.length) l).length = _
    rw [List.length_append, recL_len (h x (List.mem_cons_self ..)), recsL_len fun y hy => h y (List.mem_cons_of_mem _ hy), List.length_cons]
    omega
theorem recsL_snoc : ∀ {l : List Itm} {a : Nat} {x : Itm}, recsL a (l ++ [x]) = recsL a l ++ recL x.1 (a + (flatT l).length) x.2.length
  | [], a, x => by simp [recsL, flatT]
  | y :: l, a, x => by
    show recL y.1 a y.2.length ++ recsL (a + y.2.length) (l ++ [x]) = (recL y.1 a y.2.length ++ recsL (a + y.2.length) l) ++ _
    rw [recsL_snoc, List.append_assoc]
    congr 3
    simp [flatT]
    omega
theorem flatT_snoc {l : List Itm} {x : Itm} : flatT (l ++ [x]) = flatT l ++ x.2 := by simp [flatT]
theorem headL_len {n : Nat} : (headL n).length = 12 := rfl
theorem layL_len {l : List Itm} (h : Tagged l) : (layL l).length = 12 + 16 * l.length + (flatT l).length := by
  unfold layL
  rw [List.length_append, List.length_append, headL_len, recsL_len h]
  omega
theorem flat_le {l : List Itm} {k : Nat} {x : Itm} (h : l[k]? = some x) : (flatT (l.take k)).length + x.2.length ≤ (flatT l).length := by
  have hk := (List.getElem?_eq_some_iff.1 h).1
  have e : l = l.take k ++ x :: l.drop (k + 1) := by
    have h2 : l.drop k = x :: l.drop (k + 1) := by
      rw [List.drop_eq_getElem_cons hk]
      congr 1
      exact (List.getElem?_eq_some_iff.1 h).2
    rw [← h2, List.take_append_drop]
  have e2 : (flatT l).length = (flatT (l.take k ++ x :: l.drop (k + 1))).length := by rw [← e]
  rw [e2]
  simp [flatT]
theorem nodup_at' {l : List (List Nat)} (h : l.Nodup) {j j' : Nat} {k : List Nat} (h1 : l[j]? = some k) (h2 : l[j']? = some k) : j = j' := by
  obtain ⟨a1, b1⟩ := List.getElem?_eq_some_iff.1 h1
  obtain ⟨a2, b2⟩ := List.getElem?_eq_some_iff.1 h2
  rcases Nat.lt_trichotomy j j' with hl | hl | hl
  · exact absurd (b1.trans b2.symm) (List.pairwise_iff_getElem.1 h j j' a1 a2 hl)
  · exact hl
  · exact absurd (b2.trans b1.symm) (List.pairwise_iff_getElem.1 h j' j a2 a1 hl)
theorem recsL_lt : ∀ {l : List Itm} {a : Nat}, (∀ x ∈ l, ∀ b ∈ x.1, b < 256) → ∀ b ∈ recsL a l, b < 256
  | [], _, _, b, h => by cases h
  | x :: l, a, ht, b, h => by
    rcases List.mem_append.1 (show b ∈ recL x.1 a x.2.length ++ recsL (a + x.2.length) l from h) with h | h
    · unfold recL at h
      rcases List.mem_append.1 h with h | h
      · exact ht x (List.mem_cons_self ..) b h
      · rcases List.mem_append.1 h with h | h
        · simp at h; omega
        · rcases List.mem_append.1 h with h | h <;> exact bigB_lt _ _ b h
    · exact recsL_lt (fun y hy => ht y (List.mem_cons_of_mem _ hy)) b h
theorem lay_lt {l : List Itm} (hn : l.length ≤ 64) (ht : ∀ x ∈ l, ∀ b ∈ x.1, b < 256) (hb : ∀ x ∈ l, ∀ b ∈ x.2, b < 256) : ∀ b ∈ layL l, b < 256 := by
  intro b h
  unfold layL at h
  rcases List.mem_append.1 h with h | h
  · simp [headL] at h
    rcases h with h | h | h | h <;> omega
  · rcases List.mem_append.1 h with h | h
    · exact recsL_lt ht b h
    · unfold flatT at h
      obtain ⟨t, h1, h2⟩ := List.mem_flatten.1 h
      obtain ⟨x, hx, rfl⟩ := List.mem_map.1 h1
      exact hb x hx b h2
end Go.Vabs.Sm

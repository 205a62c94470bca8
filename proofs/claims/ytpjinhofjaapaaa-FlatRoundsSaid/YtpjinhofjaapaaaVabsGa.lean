/-
  Rows of cells, each as long as the next: in lists, in memory.
-/
import Derived.Test.YtpjinhofjaapaaaVabsZh
namespace Go.Vabs
set_option linter.unusedVariables false
set_option linter.unusedSimpArgs false
universe u
section
variable {α : Type u}
def encG (w : α → List V) : List α → List V
  | [] => []
  | a :: l => w a ++ encG w l
variable {w : α → List V} {k : Nat}
theorem encG_len (hk : ∀ a, (w a).length = k) : ∀ l : List α, (encG w l).length = l.length * k
  | [] => by simp [encG]
  | a :: l => by
    show (w a ++ encG w l).length = (l.length + 1) * k
    rw [List.length_append, hk, encG_len hk l, Nat.add_mul, Nat.one_mul, Nat.add_comm]
theorem encG_app : ∀ (l m : List α), encG w (l ++ m) = encG w l ++ encG w m
  | [], m => rfl
  | a :: l, m => by
    show w a ++ encG w (l ++ m) = (w a ++ encG w l) ++ encG w m
    rw [encG_app l m, List.append_assoc]
theorem encG_one (a : α) : encG w [a] = w a := List.append_nil _
theorem encG_drop (hk : ∀ a, (w a).length = k) : ∀ (l : List α) (j : Nat), (encG w l).drop (j * k) = encG w (l.drop j)
  | [], j => by simp [encG]
  | a :: l, 0 => by simp
  | a :: l, j + 1 => by
    show (w a ++ encG w l).drop ((j + 1) * k) = encG w (l.drop j)
    rw [Nat.add_mul, Nat.one_mul, Nat.add_comm, List.drop_append, List.drop_eq_nil_of_le (by rw [hk]; omega), List.nil_append, hk, Nat.add_sub_cancel_left]
    exact encG_drop hk l j
theorem encG_take (hk : ∀ a, (w a).length = k) : ∀ (l : List α) (j : Nat), (encG w l).take (j * k) = encG w (l.take j)
  | [], j => by simp [encG]
  | a :: l, 0 => by simp [encG]
  | a :: l, j + 1 => by
    show (w a ++ encG w l).take ((j + 1) * k) = w a ++ encG w (l.take j)
    rw [Nat.add_mul, Nat.one_mul, Nat.add_comm, List.take_append, List.take_of_length_le (by rw [hk]; omega), hk, Nat.add_sub_cancel_left, encG_take hk l j]
theorem encG_cut (hk : ∀ a, (w a).length = k) {l : List α} {j : Nat} {a : α} (h : l[j]? = some a) : cut (j * k) k (encG w l) = some (w a) := by
  have hj := (List.getElem?_eq_some_iff.1 h).1
  have hl : j * k + k ≤ (encG w l).length := by
    rw [encG_len hk, ← Nat.succ_mul]
    exact Nat.mul_le_mul_right _ hj
  rw [cut_of hl, encG_drop hk]
  have e : l.drop j = a :: l.drop (j + 1) := by
    rw [List.drop_eq_getElem_cons hj]
    congr 1
    exact (List.getElem?_eq_some_iff.1 h).2
  rw [e]
  show some ((w a ++ encG w (l.drop (j + 1))).take k) = _
  rw [List.take_append_of_le_length (by rw [hk]; exact Nat.le_refl _), List.take_of_length_le (by rw [hk]; exact Nat.le_refl _)]
theorem encG_nth (hk : ∀ a, (w a).length = k) {l : List α} {j c : Nat} {a : α} (h : l[j]? = some a) (hc : c < k) : nth (j * k + c) (encG w l) = (w a)[c]? := by
  have hj := (List.getElem?_eq_some_iff.1 h).1
  have e : l.drop j = a :: l.drop (j + 1) := by
    rw [List.drop_eq_getElem_cons hj]
    congr 1
    exact (List.getElem?_eq_some_iff.1 h).2
  have h2 : (encG w l)[j * k + c]? = ((encG w l).drop (j * k))[c]? := (List.getElem?_drop ..).symm
  rw [nth_eq, h2, encG_drop hk, e]
  show (w a ++ encG w (l.drop (j + 1)))[c]? = _
  rw [List.getElem?_append_left (by rw [hk]; exact hc)]
section
variable {os : List (Option AObj)} {i : Nat} {own : Bool} {l : List α} {j : Nat} {a : α}
theorem load_row (hk : ∀ a, (w a).length = k) (h : (os[i]?).join = some (.cells own (encG w l))) (hs : l[j]? = some a) : loadV (few os) true k (.ptr (some (i, j * k))) = some (.agg (w a)) := by
  rw [load_fewC, cellsAt_eq, h]
  show (cut (j * k) k (encG w l)).map V.agg = _
  rw [encG_cut hk hs]
  rfl
theorem load_cell (hk : ∀ a, (w a).length = k) {c : Nat} (hc : c < k) (h : (os[i]?).join = some (.cells own (encG w l))) (hs : l[j]? = some a) : loadV (few os) false 1 (.ptr (some (i, j * k + c))) = (w a)[c]? := by
  rw [load_fewC, cellsAt_eq, h]
  show nth (j * k + c) (encG w l) = _
  exact encG_nth hk hs hc
end
end
end Go.Vabs

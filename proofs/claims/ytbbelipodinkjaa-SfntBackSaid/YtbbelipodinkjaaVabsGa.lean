/-
  Rows of cells, each as long as the next: in lists, in memory.
-/
import Derived.Test.YtbbelipodinkjaaVabsZh
namespace Go.Vabs
set_option linter.unusedVariables false
set_option linter.unusedSimpArgs false
universe u
section
variable {α : Type u}
def encG (w : α → List V) : List α → List V
  | [] => []
  | a :: l => w a ++ encG w l
def decG (k : Nat) (d : List V → Option α) : Nat → List V → Option (List α)
  | 0, _ => some []
  | n + 1, cs => match d (cs.take k), decG k d n (cs.drop k) with
    | some a, some l => some (a :: l)
    | _, _ => none
variable {w : α → List V} {k : Nat}
theorem encG_len (hk : ∀ a, (w a).length = k) : ∀ l : List α, (encG w l).length = l.length * k
  | [] => by simp [encG]
  | a :: l => by
    show (w a ++ encG w l).length = (l.length + 1) * k
    rw [List.length_append, hk, encG_len hk l, Nat.add_mul, Nat.one_mul, Nat.add_comm]
theorem encG_app : ∀ (l m : List α), encG w (l ++ m) = encG w l ++ encG w m
  | [], m => rfl
  | a :: l, m => by
    show w a ++ encG w (l ++ m) = (w a ++ encG w l) ++ encG w m
    rw [encG_app l m, List.append_assoc]
theorem encG_one (a : α) : encG w [a] = w a := List.append_nil _
theorem encG_drop (hk : ∀ a, (w a).length = k) : ∀ (l : List α) (j : Nat), (encG w l).drop (j * k) = encG w (l.drop j)
  | [], j => by simp [encG]
  | a :: l, 0 => by simp
  | a :: l, j + 1 => by
    show (w a ++ encG w l).drop ((j + 1) * k) = encG w (l.drop j)
    rw [Nat.add_mul, Nat.one_mul, Nat.add_comm, List.drop_append, List.drop_eq_nil_of_le (by rw [hk]; omega), List.nil_append, hk, Nat.add_sub_cancel_left]
    exact encG_drop hk l j
theorem encG_take (hk : ∀ a, (w a).length = k) : ∀ (l : List α) (j : Nat), (encG w l).take (j * k) = encG w (l.take j)
  | [], j => by simp [encG]
  | a :: l, 0 => by simp [encG]
  | a :: l, j + 1 => by
    show (w a ++ encG w l).take ((j + 1) * k) = w a ++ encG w (l.take j)
    rw [Nat.add_mul, Nat.one_mul, Nat.add_comm, List.take_append, List.take_of_length_le (by rw [hk]; omega), hk, Nat.add_sub_cancel_left, encG_take hk l j]
theorem encG_cut (hk : ∀ a, (w a).length = k) {l : List α} {j : Nat} {a : α} (h : l[j]? = some a) : cut (j * k) k (encG w l) = some (w a) := by
  have hj := (List.getElem?_eq_some_iff.1 h).1
  have hl : j * k + k ≤ (encG w l).length := by
    rw [encG_len hk, ← Nat.succ_mul]
    exact Nat.mul_le_mul_right _ hj
  rw [cut_of hl, encG_drop hk]
  have e : l.drop j = a :: l.drop (j + 1) := by
    rw [List.drop_eq_getElem_cons hj]
    congr 1
    exact (List.getElem?_eq_some_iff.1 h).2
  rw [e]
  show some ((w a ++ encG w (l.drop (j + 1))).take k) = _
  rw [List.take_append_of_le_length (by rw [hk]; exact Nat.le_refl _), List.take_of_length_le (by rw [hk]; exact Nat.le_refl _)]
theorem encG_nth (hk : ∀ a, (w a).length = k) {l : List α} {j c : Nat} {a : α} (h : l[j]? = some a) (hc : c < k) : nth (j * k + c) (encG w l) = (w a)[c]? := by
  have hj := (List.getElem?_eq_some_iff.1 h).1
  have e : l.drop j = a :: l.drop (j + 1) := by
    rw [List.drop_eq_getElem_cons hj]
    congr 1
    exact (List.getElem?_eq_some_iff.1 h).2
  have h2 : (encG w l)[j * k + c]? = ((encG w l).drop (j * k))[c]? := (List.getElem?_drop ..).symm
  rw [nth_eq, h2, encG_drop hk, e]
  show (w a ++ encG w (l.drop (j + 1)))[c]? = _
  rw [List.getElem?_append_left (by rw [hk]; exact hc)]
theorem decG_enc (hk : ∀ a, (w a).length = k) {d : List V → Option α} (hd : ∀ a, d (w a) = some a) : ∀ l : List α, decG k d l.length (encG w l) = some l
  | [] => rfl
  | a :: l => by
    show (match d ((w a ++ encG w l).take k), decG k d l.length ((w a ++ encG w l).drop k) with | some a, some l => some (a :: l) | _, _ => none) = _
    rw [List.take_append_of_le_length (by rw [hk]; exact Nat.le_refl _), List.take_of_length_le (by rw [hk]; exact Nat.le_refl _), List.drop_append_of_le_length (by rw [hk]; exact Nat.le_refl _), List.drop_eq_nil_of_le (by rw [hk]; exact Nat.le_refl _), List.nil_append, hd, decG_enc hk hd l]
theorem decG_some {d : List V → Option α} (hd : ∀ cs a, d cs = some a → cs = w a) : ∀ (n : Nat) (cs : List V) (l : List α), decG k d n cs = some l → cs.length = n * k → cs = encG w l ∧ l.length = n
  | 0, cs, l, h, hl => by
    cases h
    have : cs = [] := List.length_eq_zero_iff.1 (by omega)
    exact ⟨this, rfl⟩
  | n + 1, cs, l, h, hl => by
    unfold decG at h
    split at h
    · rename_i a m h1 h2
      cases h
      have ih := decG_some hd n (cs.drop k) m h2 (by rw [List.length_drop, hl, Nat.add_mul, Nat.one_mul, Nat.add_sub_cancel])
      refine ⟨?_, by rw [List.length_cons, ih.2]⟩
      show cs = w a ++ encG w m
      rw [← hd _ _ h1, ← ih.1, List.take_append_drop]
    · cases h
theorem encG_all {p : V → Bool} (hp : ∀ a, (w a).all p = true) : ∀ l : List α, (encG w l).all p = true
  | [] => rfl
  | a :: l => by
    show (w a ++ encG w l).all p = true
    rw [List.all_append, hp, encG_all hp l]
    rfl
section
variable {os : List (Option AObj)} {i : Nat} {own : Bool} {l : List α} {j : Nat} {a : α}
theorem load_row (hk : ∀ a, (w a).length = k) (h : (os[i]?).join = some (.cells own (encG w l))) (hs : l[j]? = some a) : loadV (few os) true k (.ptr (some (i, j * k))) = some (.agg (w a)) := by
  rw [load_fewC, cellsAt_eq, h]
  show (cut (j * k) k (encG w l)).map V.agg = _
  rw [encG_cut hk hs]
  rfl
theorem load_cell (hk : ∀ a, (w a).length = k) {c : Nat} (hc : c < k) (h : (os[i]?).join = some (.cells own (encG w l))) (hs : l[j]? = some a) : loadV (few os) false 1 (.ptr (some (i, j * k + c))) = (w a)[c]? := by
  rw [load_fewC, cellsAt_eq, h]
  show nth (j * k + c) (encG w l) = _
  exact encG_nth hk hs hc
theorem flatAt_rows (hk : ∀ a, (w a).length = k) (hf : ∀ a, (w a).all V.flat = true) {c : Nat} {f : Bool} (h : (os[i]?).join = some (.cells own (encG w l))) (hn : l.length ≤ c) : flatAt (few os) k (.slice (some (i, 0)) k l.length c f) = some (encG w l) :=
  flatAt_few h hn (by rw [encG_len hk]; omega) (by rw [List.drop_zero, List.take_of_length_le (by rw [encG_len hk]; omega)]) (encG_all hf l)
end
end
/-- Rows joined to rows: what is there then. -/
theorem joinedG {os : List (Option AObj)} {j e bytes n m : Nat} {b : Bool} {cs new : List V} (he : 0 < e) (hj : os[j]? = some (some (.cells true cs))) (hc : cs.length = n * e) (hm : new.length = m * e) (hb : b = true → n = 0) (hs : (2 * (n + m) + 1024) * bytes ≤ 281474976710656) :
    ∃ j' b' os', appendV (few os) e bytes (.slice (some (j, 0)) e n n b) (some m) (some new) = some (.slice (some (j', 0)) e (n + m) (n + m) b', few os') ∧ os'[j']? = some (some (.cells true (cs ++ new))) ∧ (b' = true → n + m = 0) ∧ (∀ i, i < os.length → i ≠ j → os'[i]? = os[i]?) ∧ os.length ≤ os'.length ∧ j ≤ j' := by
  have hjl : j < os.length := (List.getElem?_eq_some_iff.1 hj).1
  have hjj : (os[j]?).join = some (.cells true cs) := by rw [hj]; rfl
  cases m with
  | zero =>
    have hn : new = [] := List.length_eq_zero_iff.1 (by omega)
    subst hn
    exact ⟨j, b, os, rfl, by rw [List.append_nil]; exact hj, hb, fun i _ _ => rfl, Nat.le_refl _, Nat.le_refl _⟩
  | succ m =>
    cases b with
    | true =>
      have hn := hb rfl
      subst hn
      have hcs : cs = [] := List.length_eq_zero_iff.1 (by omega)
      subst hcs
      refine ⟨os.length, false, os ++ [some (.cells true new)], ?_, ?_, (fun h => by cases h), fun i hi _ => List.getElem?_append_left hi, by simp, by omega⟩
      · rw [Nat.zero_add]
        exact append_newE hjj (by omega) hm (by rw [Nat.zero_add] at hs; exact hs) he
      · rw [List.getElem?_append_right (Nat.le_refl _), Nat.sub_self]
        rfl
    | false =>
      refine ⟨os.length, false, os.set j none ++ [some (.cells true (cs ++ new))], ?_, ?_, (fun h => by cases h), fun i hi hne => ?_, by simp, by omega⟩
      · rw [grow_some, ownAt_eq, hjj]
        show growC os e bytes j n m new (some cs) = _
        rw [growC_some, if_pos ⟨hs, hm, hc.symm⟩]
      · rw [List.getElem?_append_right (by rw [List.length_set]; exact Nat.le_refl _), List.length_set, Nat.sub_self]
        rfl
      · rw [List.getElem?_append_left (by rw [List.length_set]; exact hi), List.getElem?_set, if_neg (fun h => hne h.symm)]
end Go.Vabs

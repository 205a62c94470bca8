/-
  A font whose tables are laid one behind the other: what is read of it (no program in sight).
-/
import Derived.Test.YtghejdmnmfbacaaVabsSd
import Derived.Test.YtghejdmnmfbacaaVabsSh
namespace Go.Vabs.Sm
open Go.Vabs.Pk Go.Vabs.Sb Go.Vabs.Sc Go.Vabs.Sd
set_option linter.unusedVariables false
abbrev Itm := List Nat × List Nat
/-- A table's record. -/
def recL (tag : List Nat) (at' size : Nat) : List Nat := tag ++ ([0, 0, 0, 0] ++ (bigB at' 4 ++ bigB size 4))
def recsL : Nat → List Itm → List Nat
  | _, [] => []
  | a, x :: l => recL x.1 a x.2.length ++ recsL (a + x.2.length) l
def flatT (l : List Itm) : List Nat := (l.map (·.2)).flatten
def headL (n : Nat) : List Nat := [0, 1, 0, 0, 0, n, 0, 0, 0, 0, 0, 0]
def layL (l : List Itm) : List Nat := headL l.length ++ (recsL (12 + 16 * l.length) l ++ flatT l)
def Tagged (l : List Itm) : Prop := ∀ x ∈ l, x.1.length = 4
theorem recL_len {tag : List Nat} {a z : Nat} (h : tag.length = 4) : (recL tag a z).length = 16 := by simp [recL, bigB_len, h]
theorem recsL_len : ∀ {l : List Itm} {a : Nat}, Tagged l → (recsL a l).length = 16 * l.length
  | [], _, _ => rfl
  | x :: l, a, h => by
    show (recL x.1 a x.2.length ++ recsL (a + x.2.length) l).length = _
    rw [List.length_append, recL_len (h x (List.mem_cons_self ..)), recsL_len fun y hy => h y (List.mem_cons_of_mem _ hy), List.length_cons]
    omega
theorem recsL_snoc : ∀ {l : List Itm} {a : Nat} {x : Itm}, recsL a (l ++ [x]) = recsL a l ++ recL x.1 (a + (flatT l).length) x.2.length
  | [], a, x => by simp [recsL, flatT]
  | y :: l, a, x => by
    show recL y.1 a y.2.length ++ recsL (a + y.2.length) (l ++ [x]) = (recL y.1 a y.2.length ++ recsL (a + y.2.length) l) ++ _
    rw [recsL_snoc, List.append_assoc]
    congr 3
    simp [flatT]
    omega
theorem flatT_snoc {l : List Itm} {x : Itm} : flatT (l ++ [x]) = flatT l ++ x.2 := by simp [flatT]
theorem headL_len {n : Nat} : (headL n).length = 12 := rfl
theorem layL_len {l : List Itm} (h : Tagged l) : (layL l).length = 12 + 16 * l.length + (flatT l).length := by
  unfold layL
  rw [List.length_append, List.length_append, headL_len, recsL_len h]
  omega
/-- The k-th record. -/
theorem recsL_at : ∀ {l : List Itm} {a k : Nat} {x : Itm}, Tagged l → l[k]? = some x → ∃ r, (recsL a l).drop (16 * k) = recL x.1 (a + (flatT (l.take k)).length) x.2.length ++ r
  | [], a, k, x, _, h => by simp at h
  | y :: l, a, 0, x, _, h => by
    have h : some y = some x := h
    cases h
    exact ⟨_, rfl⟩
  | y :: l, a, k + 1, x, ht, h => by
    have hy := recL_len (a := a) (z := y.2.length) (ht y (List.mem_cons_self ..))
    obtain ⟨r, hr⟩ := recsL_at (a := a + y.2.length) (k := k) (x := x) (fun z hz => ht z (List.mem_cons_of_mem _ hz)) h
    refine ⟨r, ?_⟩
    show (recL y.1 a y.2.length ++ recsL (a + y.2.length) l).drop (16 * (k + 1)) = _
    rw [show 16 * (k + 1) = 16 + 16 * k from by omega, ← List.drop_drop, drop_l hy, hr]
    congr 2
    simp [flatT]
    omega
theorem lay_at {l : List Itm} {k : Nat} {x : Itm} (ht : Tagged l) (h : l[k]? = some x) : ∃ r, (layL l).drop (12 + 16 * k) = recL x.1 (12 + 16 * l.length + (flatT (l.take k)).length) x.2.length ++ r := by
  obtain ⟨r, hr⟩ := recsL_at (a := 12 + 16 * l.length) ht h
  have hk := (List.getElem?_eq_some_iff.1 h).1
  unfold layL
  rw [← List.drop_drop, drop_l headL_len, List.drop_append_of_le_length (by rw [recsL_len ht]; omega), hr]
  exact ⟨_, List.append_assoc ..⟩
theorem flat_le {l : List Itm} {k : Nat} {x : Itm} (h : l[k]? = some x) : (flatT (l.take k)).length + x.2.length ≤ (flatT l).length := by
  have hk := (List.getElem?_eq_some_iff.1 h).1
  have e : l = l.take k ++ x :: l.drop (k + 1) := by
    have h2 : l.drop k = x :: l.drop (k + 1) := by
      rw [List.drop_eq_getElem_cons hk]
      congr 1
      exact (List.getElem?_eq_some_iff.1 h).2
    rw [← h2, List.take_append_drop]
  have e2 : (flatT l).length = (flatT (l.take k ++ x :: l.drop (k + 1))).length := by rw [← e]
  rw [e2]
  simp [flatT]
theorem flat_cut {l : List Itm} {k : Nat} {x : Itm} (h : l[k]? = some x) : ((flatT l).drop (flatT (l.take k)).length).take x.2.length = x.2 := by
  have hk := (List.getElem?_eq_some_iff.1 h).1
  have e : l = l.take k ++ x :: l.drop (k + 1) := by
    have h2 : l.drop k = x :: l.drop (k + 1) := by
      rw [List.drop_eq_getElem_cons hk]
      congr 1
      exact (List.getElem?_eq_some_iff.1 h).2
    rw [← h2, List.take_append_drop]
  have e2 : flatT l = flatT (l.take k) ++ (x.2 ++ flatT (l.drop (k + 1))) := by
    have : flatT l = flatT (l.take k ++ x :: l.drop (k + 1)) := by rw [← e]
    rw [this]
    simp [flatT]
  rw [e2, drop_l rfl, List.take_left]
theorem lay_tag {l : List Itm} {k : Nat} {x : Itm} (ht : Tagged l) (h : l[k]? = some x) : tagB (layL l) k = x.1 := by
  obtain ⟨r, hr⟩ := lay_at ht h
  have h4 := ht x (List.mem_of_getElem? h)
  unfold tagB
  rw [hr]
  unfold recL
  rw [List.append_assoc, List.take_append_of_le_length (by omega), List.take_of_length_le (by omega)]
theorem lay_num {l : List Itm} {k d : Nat} {x : Itm} {w : List Nat} (ht : Tagged l) (h : l[k]? = some x) (hd : d + 4 ≤ 16) (hw : ((recL x.1 (12 + 16 * l.length + (flatT (l.take k)).length) x.2.length).drop d).take 4 = w) :
    num (layL l) ((12 + 16 * k + d : Nat) : Int) 4 = some (be w) := by
  obtain ⟨r, hr⟩ := lay_at ht h
  have hk := (List.getElem?_eq_some_iff.1 h).1
  have h4 := ht x (List.mem_of_getElem? h)
  rw [num_drop (by rw [layL_len ht]; omega), ← List.drop_drop, hr, List.drop_append_of_le_length (by rw [recL_len h4]; omega), List.take_append_of_le_length (by rw [List.length_drop, recL_len h4]; omega), hw]
theorem lay_off {l : List Itm} {k : Nat} {x : Itm} (ht : Tagged l) (h : l[k]? = some x) (hs : 12 + 16 * l.length + (flatT l).length < 4294967296) : offB (layL l) k = 12 + 16 * l.length + (flatT (l.take k)).length := by
  have hle := flat_le h
  have h4 := ht x (List.mem_of_getElem? h)
  unfold offB
  rw [lay_num (d := 8) (w := bigB (12 + 16 * l.length + (flatT (l.take k)).length) 4) ht h (by omega) ?_, Option.getD_some, be_big4 (by omega)]
  unfold recL
  rw [← List.append_assoc, drop_l (by simp [h4]), List.take_append_of_le_length (by rw [bigB_len]; omega), List.take_of_length_le (by rw [bigB_len]; omega)]
theorem lay_size {l : List Itm} {k : Nat} {x : Itm} (ht : Tagged l) (h : l[k]? = some x) (hs : 12 + 16 * l.length + (flatT l).length < 4294967296) : lenB (layL l) k = x.2.length := by
  have hle := flat_le h
  have h4 := ht x (List.mem_of_getElem? h)
  unfold lenB
  rw [lay_num (d := 12) (w := bigB x.2.length 4) ht h (by omega) ?_, Option.getD_some, be_big4 (by omega)]
  unfold recL
  rw [← List.append_assoc, ← List.append_assoc, drop_l (by simp [h4, bigB_len]), List.take_of_length_le (by rw [bigB_len]; omega)]
theorem lay_cnt {l : List Itm} (hn : l.length ≤ 64) : cnt (layL l) = l.length := by
  unfold cnt
  rw [show (4 : Int) = ((4 : Nat) : Int) from rfl, num_drop (by unfold layL; rw [List.length_append, headL_len]; omega)]
  have : ((layL l).drop 4).take 2 = [0, l.length] := rfl
  rw [this, Option.getD_some]
  simp [be]
theorem lay_cut {l : List Itm} {k : Nat} {x : Itm} (ht : Tagged l) (h : l[k]? = some x) : cutB (layL l) ((12 + 16 * l.length + (flatT (l.take k)).length : Nat) : Int) (x.2.length : Int) = x.2 := by
  unfold cutB layL
  rw [Int.toNat_natCast, Int.toNat_natCast, ← List.append_assoc]
  have hl : (headL l.length ++ recsL (12 + 16 * l.length) l).length = 12 + 16 * l.length := by rw [List.length_append, headL_len, recsL_len ht]
  rw [← List.drop_drop, drop_l hl, flat_cut h]
theorem nodup_at' {l : List (List Nat)} (h : l.Nodup) {j j' : Nat} {k : List Nat} (h1 : l[j]? = some k) (h2 : l[j']? = some k) : j = j' := by
  obtain ⟨a1, b1⟩ := List.getElem?_eq_some_iff.1 h1
  obtain ⟨a2, b2⟩ := List.getElem?_eq_some_iff.1 h2
  rcases Nat.lt_trichotomy j j' with hl | hl | hl
  · exact absurd (b1.trans b2.symm) (List.pairwise_iff_getElem.1 h j j' a1 a2 hl)
  · exact hl
  · exact absurd (b2.trans b1.symm) (List.pairwise_iff_getElem.1 h j' j a2 a1 hl)
theorem tabs_lay {l : List Itm} (ht : Tagged l) (hnd : (l.map (·.1)).Nodup) (hs : 12 + 16 * l.length + (flatT l).length < 4294967296) : ∀ (m k : Nat), k + m = l.length → tabs (layL l) m (l.take k) = .inr l
  | 0, k, h => by
    show Sum.inr (l.take k) = _
    rw [List.take_of_length_le (by omega)]
  | m + 1, k, h => by
    obtain ⟨x, hx⟩ : ∃ x, l[k]? = some x := ⟨_, List.getElem?_eq_getElem (by omega)⟩
    have hle := flat_le hx
    have hkl : (l.take k).length = k := by rw [List.length_take]; omega
    have hnew : ¬ x.1 ∈ (l.take k).map (·.1) := by
      intro hm
      obtain ⟨y, hy, he⟩ := List.mem_map.1 hm
      obtain ⟨j, hj, hjy⟩ := List.mem_iff_getElem.1 hy
      have hj' : j < k := by omega
      have h1 : (l.map (·.1))[j]? = some x.1 := by
        rw [List.getElem?_map, ← List.getElem?_take_of_lt hj', List.getElem?_eq_getElem hj, hjy, Option.map_some, he]
      have h2 : (l.map (·.1))[k]? = some x.1 := by rw [List.getElem?_map, hx]; rfl
      have := nodup_at' hnd h1 h2
      omega
    have e : l.take k ++ [(x.1, x.2)] = l.take (k + 1) := by rw [List.take_add_one, hx]; rfl
    show (if tagB (layL l) (l.take k).length ∈ (l.take k).map (·.1) then _ else if thereB (layL l).length (offB (layL l) (l.take k).length) (lenB (layL l) (l.take k).length) = true then tabs (layL l) m (l.take k ++ [(tagB (layL l) (l.take k).length, cutB (layL l) (offB (layL l) (l.take k).length) (lenB (layL l) (l.take k).length))]) else _) = _
    rw [hkl, lay_tag ht hx, if_neg hnew, lay_off ht hx hs, lay_size ht hx hs, if_pos (thereB_true.2 (by rw [layL_len ht]; omega)), lay_cut ht hx, e]
    exact tabs_lay ht hnd hs m (k + 1) (by omega)
theorem font_lay {l : List Itm} (ht : Tagged l) (hnd : (l.map (·.1)).Nodup) (hn : l.length ≤ 64) (hs : 12 + 16 * l.length + (flatT l).length < 4294967296) : fontS (layL l) = .inr l := by
  unfold fontS
  rw [if_neg (by rw [layL_len ht]; omega), if_neg (not_not_intro ?_), lay_cnt hn, if_neg (by omega), if_neg (by rw [layL_len ht]; omega)]
  · exact tabs_lay ht hnd hs l.length 0 (by omega)
  · show [0, 1, 0, 0] ∈ versL
    simp [versL]
theorem recsL_lt : ∀ {l : List Itm} {a : Nat}, (∀ x ∈ l, ∀ b ∈ x.1, b < 256) → ∀ b ∈ recsL a l, b < 256
  | [], _, _, b, h => by cases h
  | x :: l, a, ht, b, h => by
    rcases List.mem_append.1 (show b ∈ recL x.1 a x.2.length ++ recsL (a + x.2.length) l from h) with h | h
    · unfold recL at h
      rcases List.mem_append.1 h with h | h
      · exact ht x (List.mem_cons_self ..) b h
      · rcases List.mem_append.1 h with h | h
        · simp at h; omega
        · rcases List.mem_append.1 h with h | h <;> exact bigB_lt _ _ b h
    · exact recsL_lt (fun y hy => ht y (List.mem_cons_of_mem _ hy)) b h
theorem lay_lt {l : List Itm} (hn : l.length ≤ 64) (ht : ∀ x ∈ l, ∀ b ∈ x.1, b < 256) (hb : ∀ x ∈ l, ∀ b ∈ x.2, b < 256) : ∀ b ∈ layL l, b < 256 := by
  intro b h
  unfold layL at h
  rcases List.mem_append.1 h with h | h
  · simp [headL] at h
    rcases h with h | h | h | h <;> omega
  · rcases List.mem_append.1 h with h | h
    · exact recsL_lt ht b h
    · unfold flatT at h
      obtain ⟨t, h1, h2⟩ := List.mem_flatten.1 h
      obtain ⟨x, hx, rfl⟩ := List.mem_map.1 h1
      exact hb x hx b h2
end Go.Vabs.Sm

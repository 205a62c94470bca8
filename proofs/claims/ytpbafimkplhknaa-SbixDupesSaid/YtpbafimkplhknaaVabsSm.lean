/-
  A font whose tables are laid one behind the other: what is read of it (no program in sight).
-/
import Derived.Test.YtpbafimkplhknaaVabsSd
import Derived.Test.YtpbafimkplhknaaVabsSh
import Derived.Test.YtpbafimkplhknaaVabsSe
namespace Go.Vabs.Sm
open Go.Vabs.Pk Go.Vabs.Sb Go.Vabs.Sc Go.Vabs.Sd
set_option linter.unusedVariables false
abbrev Itm := List Nat × List Nat
/-- A table's record. -/
def recL (tag : List Nat) (at' size : Nat) : List Nat := tag ++ ([0, 0, 0, 0] ++ (bigB at' 4 ++ bigB size 4))
def recsL : Nat → List Itm → List Nat
  | _, [] => []
  | a, x :: l => recL x.1 a x.2.length ++ recsL (a + x.2.length) l
def flatT (l : List Itm) : List Nat := (l.map (·.2)).flatten
def headL (n : Nat) : List Nat := [0, 1, 0, 0, 0, n, 0, 0, 0, 0, 0, 0]
def layL (l : List Itm) : List Nat := headL l.length ++ (recsL (12 + 16 * l.length) l ++ flatT l)
def Tagged (l : List Itm) : Prop := ∀ x ∈ l, x.1.length = 4
theorem recL_len {tag : List Nat} {a z : Nat} (h : tag.length = 4) : (recL tag a z).length = 16 := by simp [recL, bigB_len, h]
theorem recsL_len : ∀ {l : List Itm} {a : Nat}, Tagged l → (recsL a l).length = 16 * l.length
  | [], _, _ => rfl
  | x :: l, a, h => by
    show (recL x.1 a x.2.length ++ recsL (a + x.2.length) l).length = _
    rw [List.length_append, recL_len (h x (List.mem_cons_self ..)), recsL_len fun y hy => h y (List.mem_cons_of_mem _ hy), List.length_cons]
    omega
theorem recsL_snoc : ∀ {l : List Itm} {a : Nat} {x : Itm}, recsL a (l ++ [x]) = recsL a l ++ recL x.1 (a + (flatT l).length) x.2.length
  | [], a, x => by simp [recsL, flatT]
  | y :: l, a, x => by
    show recL y.1 a y.2.length ++ recsL (a + y.2.length) (l ++ [x]) = (recL y.1 a y.2.length ++ recsL (a + y.2.length) l) ++ _
    rw [recsL_snoc, List.append_assoc]
    congr 3
    simp [flatT]
    omega
theorem flatT_snoc {l : List Itm} {x : Itm} : flatT (l ++ [x]) = flatT l ++ x.2 := by simp [flatT]
theorem headL_len {n : Nat} : (headL n).length = 12 := rfl
theorem layL_len {l : List Itm} (h : Tagged l) : (layL l).length = 12 + 16 * l.length + (flatT l).length := by
  unfold layL
  rw [List.length_append, List.length_append, headL_len, recsL_len h]
  omega
/-- The k-th record. -/
theorem recsL_at : ∀ {l : List Itm} {a k : Nat} {x : Itm}, Tagged l → l[k]? = some x → ∃ r, (recsL a l).drop (16 * k) = recL x.1 (a + (flatT (l.take k)).length) x.2.length ++ r
  | [], a, k, x, _, h => by simp at h
  | y :: l, a, 0, x, _, h => by
    have h : some y = some x := h
    cases h
    exact ⟨_, rfl⟩
  | y :: l, a, k + 1, x, ht, h => by
    have hy := recL_len (a := a) (z := y.2.length) (ht y (List.mem_cons_self ..))
    obtain ⟨r, hr⟩ := recsL_at (a := a + y.2.length) (k := k) (x := x) (fun z hz => ht z (List.mem_cons_of_mem _ hz)) h
    refine ⟨r, ?_⟩
    show (recL y.1 a y.2.length ++ recsL (a + y.2.length) l).drop (16 * (k + 1)) = _
    rw [show 16 * (k + 1) = 16 + 16 * k from by omega, ← List.drop_drop, drop_l hy, hr]
    congr 2
    simp [flatT]
    omega
theorem lay_at {l : List Itm} {k : Nat} {x : Itm} (ht : Tagged l) (h : l[k]? = some x) : ∃ r, (layL l).drop (12 + 16 * k) = recL x.1 (12 + 16 * l.length + (flatT (l.take k)).length) x.2.length ++ r := by
  obtain ⟨r, hr⟩ := recsL_at (a := 12 + 16 * l.length) ht h
  have hk := (List.getElem?_eq_some_iff.1 h).1
  unfold layL
  rw [← List.drop_drop, drop_l headL_len, List.drop_append_of_le_length (by rw [recsL_len ht]; omega), hr]
  exact ⟨_, List.append_assoc ..⟩
theorem flat_le {l : List Itm} {k : Nat} {x : Itm} (h : l[k]? = some x) : (flatT (l.take k)).length + x.2.length ≤ (flatT l).length := by
  have hk := (List.getElem?_eq_some_iff.1 h).1
  have e : l = l.take k ++ x :: l.drop (k + 1) := by
    have h2 : l.drop k = x :: l.drop (k + 1) := by
      rw [List.drop_eq_getElem_cons hk]
      congr 1
      exact (List.getElem?_eq_some_iff.1 h).2
    rw [← h2, List.take_append_drop]
  have e2 : (flatT l).length = (flatT (l.take k ++ x :: l.drop (k + 1))).length := by rw [← e]
  rw [e2]
  simp [flatT]
theorem flat_cut {l : List Itm} {k : Nat} {x : Itm} (h : l[k]? = some x) : ((flatT l).drop (flatT (l.take k)).length).take x.2.length = x.2 := by
  have hk := (List.getElem?_eq_some_iff.1 h).1
  have e : l = l.take k ++ x :: l.drop (k + 1) := by
    have h2 : l.drop k = x :: l.drop (k + 1) := by
      rw [List.drop_eq_getElem_cons hk]
      congr 1
      exact (List.getElem?_eq_some_iff.1 h).2
    rw [← h2, List.take_append_drop]
  have e2 : flatT l = flatT (l.take k) ++ (x.2 ++ flatT (l.drop (k + 1))) := by
    have : flatT l = flatT (l.take k ++ x :: l.drop (k + 1)) := by rw [← e]
    rw [this]
    simp [flatT]
  rw [e2, drop_l rfl, List.take_left]
theorem lay_tag {l : List Itm} {k : Nat} {x : Itm} (ht : Tagged l) (h : l[k]? = some x) : tagB (layL l) k = x.1 := by
  obtain ⟨r, hr⟩ := lay_at ht h
  have h4 := ht x (List.mem_of_getElem? h)
  unfold tagB
  rw [hr]
  unfold recL
  rw [List.append_assoc, List.take_append_of_le_length (by omega), List.take_of_length_le (by omega)]
theorem lay_num {l : List Itm} {k d : Nat} {x : Itm} {w : List Nat} (ht : Tagged l) (h : l[k]? = some x) (hd : d + 4 ≤ 16) (hw : ((recL x.1 (12 + 16 * l.length + (flatT (l.take k)).length) x.2.length).drop d).take 4 = w) :
    num (layL l) ((12 + 16 * k + d : Nat) : Int) 4 = some (be w) := by
  obtain ⟨r, hr⟩ := lay_at ht h
  have hk := (List.getElem?_eq_some_iff.1 h).1
  have h4 := ht x (List.mem_of_getElem? h)
  rw [num_drop (by rw [layL_len ht]; omega), ← List.drop_drop, hr, List.drop_append_of_le_length (by rw [recL_len h4]; omega), List.take_append_of_le_length (by rw [List.length_drop, recL_len h4]; omega), hw]
theorem lay_off {l : List Itm} {k : Nat} {x : Itm} (ht : Tagged l) (h : l[k]? = some x) (hs : 12 + 16 * l.length + (flatT l).length < 4294967296) : offB (layL l) k = 12 + 16 * l.length + (flatT (l.take k)).length := by
  have hle := flat_le h
  have h4 := ht x (List.mem_of_getElem? h)
  unfold offB
  rw [lay_num (d := 8) (w := bigB (12 + 16 * l.length + (flatT (l.take k)).length) 4) ht h (by omega) ?_, Option.getD_some, be_big4 (by omega)]
  unfold recL
  rw [← List.append_assoc, drop_l (by simp [h4]), List.take_append_of_le_length (by rw [bigB_len]; omega), List.take_of_length_le (by rw [bigB_len]; omega)]
theorem lay_size {l : List Itm} {k : Nat} {x : Itm} (ht : Tagged l) (h : l[k]? = some x) (hs : 12 + 16 * l.length + (flatT l).length < 4294967296) : lenB (layL l) k = x.2.length := by
  have hle := flat_le h
  have h4 := ht x (List.mem_of_getElem? h)
  unfold lenB
  rw [lay_num (d := 12) (w := bigB x.2.length 4) ht h (by omega) ?_, Option.getD_some, be_big4 (by omega)]
  unfold recL
  rw [← List.append_assoc, ← List.append_assoc, drop_l (by simp [h4, bigB_len]), List.take_of_length_le (by rw [bigB_len]; omega)]
theorem lay_cnt {l : List Itm} (hn : l.length ≤ 64) : cnt (layL l) = l.length := by
  unfold cnt
  rw [show (4 : Int) = ((4 : Nat) : Int) from rfl, num_drop (by unfold layL; rw [List.length_append, headL_len]; omega)]
  have : ((layL l).drop 4).take 2 = [0, l.length] := rfl
  rw [this, Option.getD_some]
  simp [be]
theorem lay_cut {l : List Itm} {k : Nat} {x : Itm} (ht : Tagged l) (h : l[k]? = some x) : cutB (layL l) ((12 + 16 * l.length + (flatT (l.take k)).length : Nat) : Int) (x.2.length : Int) = x.2 := by
  unfold cutB layL
  rw [Int.toNat_natCast, Int.toNat_natCast, ← List.append_assoc]
  have hl : (headL l.length ++ recsL (12 + 16 * l.length) l).length = 12 + 16 * l.length := by rw [List.length_append, headL_len, recsL_len ht]
  rw [← List.drop_drop, drop_l hl, flat_cut h]
theorem nodup_at' {l : List (List Nat)} (h : l.Nodup) {j j' : Nat} {k : List Nat} (h1 : l[j]? = some k) (h2 : l[j']? = some k) : j = j' := by
  obtain ⟨a1, b1⟩ := List.getElem?_eq_some_iff.1 h1
  obtain ⟨a2, b2⟩ := List.getElem?_eq_some_iff.1 h2
  rcases Nat.lt_trichotomy j j' with hl | hl | hl
  · exact absurd (b1.trans b2.symm) (List.pairwise_iff_getElem.1 h j j' a1 a2 hl)
  · exact hl
  · exact absurd (b2.trans b1.symm) (List.pairwise_iff_getElem.1 h j' j a2 a1 hl)
theorem tabs_lay {l : List Itm} (ht : Tagged l) (hnd : (l.map (·.1)).Nodup) (hs : 12 + 16 * l.length + (flatT l).length < 4294967296) : ∀ (m k : Nat), k + m = l.length → tabs (layL l) m (l.take k) = .inr l
  | 0, k, h => by
    show Sum.inr (l.take k) = _
    rw [List.take_of_length_le (by omega)]
  | m + 1, k, h => by
    obtain ⟨x, hx⟩ : ∃ x, l[k]? = some x := ⟨_, List.getElem?_eq_getElem (by omega)⟩
    have hle := flat_le hx
    have hkl : (l.take k).length = k := by rw [List.length_take]; omega
    have hnew : ¬ x.1 ∈ (l.take k).map (·.1) := by
      intro hm
      obtain ⟨y, hy, he⟩ := List.mem_map.1 hm
      obtain ⟨j, hj, hjy⟩ := List.mem_iff_getElem.1 hy
      have hj' : j < k := by omega
      have h1 : (l.map (·.1))[j]? = some x.1 := by
        rw [List.getElem?_map, ← List.getElem?_take_of_lt hj', List.getElem?_eq_getElem hj, hjy, Option.map_some, he]
      have h2 : (l.map (·.1))[k]? = some x.1 := by rw [List.getElem?_map, hx]; rfl
      have := nodup_at' hnd h1 h2
      omega
    have e : l.take k ++ [(x.1, x.2)] = l.take (k + 1) := by rw [List.take_add_one, hx]; rfl
    show (if tagB (layL l) (l.take k).length ∈ (l.take k).map (·.1) then _ else if thereB (layL l).length (offB (layL l) (l.take k).length) (lenB (layL l) (l.take k).length) = true then tabs (layL l) m (l.take k ++ [(tagB (layL l) (l.take k).length, cutB (layL l) (offB (layL l) (l.take k).length) (lenB (layL l) (l.take k).length))]) else _) = _
    rw [hkl, lay_tag ht hx, if_neg hnew, lay_off ht hx hs, lay_size ht hx hs, if_pos (thereB_true.2 (by rw [layL_len ht]; omega)), lay_cut ht hx, e]
    exact tabs_lay ht hnd hs m (k + 1) (by omega)
theorem font_lay {l : List Itm} (ht : Tagged l) (hnd : (l.map (·.1)).Nodup) (hn : l.length ≤ 64) (hs : 12 + 16 * l.length + (flatT l).length < 4294967296) : fontS (layL l) = .inr l := by
  unfold fontS
  rw [if_neg (by rw [layL_len ht]; omega), if_neg (not_not_intro ?_), lay_cnt hn, if_neg (by omega), if_neg (by rw [layL_len ht]; omega)]
  · exact tabs_lay ht hnd hs l.length 0 (by omega)
  · show [0, 1, 0, 0] ∈ versL
    simp [versL]
theorem recsL_lt : ∀ {l : List Itm} {a : Nat}, (∀ x ∈ l, ∀ b ∈ x.1, b < 256) → ∀ b ∈ recsL a l, b < 256
  | [], _, _, b, h => by cases h
  | x :: l, a, ht, b, h => by
    rcases List.mem_append.1 (show b ∈ recL x.1 a x.2.length ++ recsL (a + x.2.length) l from h) with h | h
    · unfold recL at h
      rcases List.mem_append.1 h with h | h
      · exact ht x (List.mem_cons_self ..) b h
      · rcases List.mem_append.1 h with h | h
        · simp at h; omega
        · rcases List.mem_append.1 h with h | h <;> exact bigB_lt _ _ b h
    · exact recsL_lt (fun y hy => ht y (List.mem_cons_of_mem _ hy)) b h
theorem lay_lt {l : List Itm} (hn : l.length ≤ 64) (ht : ∀ x ∈ l, ∀ b ∈ x.1, b < 256) (hb : ∀ x ∈ l, ∀ b ∈ x.2, b < 256) : ∀ b ∈ layL l, b < 256 := by
  intro b h
  unfold layL at h
  rcases List.mem_append.1 h with h | h
  · simp [headL] at h
    rcases h with h | h | h | h <;> omega
  · rcases List.mem_append.1 h with h | h
    · exact recsL_lt ht b h
    · unfold flatT at h
      obtain ⟨t, h1, h2⟩ := List.mem_flatten.1 h
      obtain ⟨x, hx, rfl⟩ := List.mem_map.1 h1
      exact hb x hx b h2
end Go.Vabs.Sm

namespace Go.Vabs.Sn
set_option linter.unusedVariables false
set_option linter.unusedSimpArgs false
set_option maxRecDepth 10000
def Lay_c (n_Contains : Nat) (n_u32 : Nat) (n_Concat : Nat) : AFunc := AFunc.mk 72 (.seq (.reg [AOper.mk (some (.i (.o .h))) (.mv (.c (.slice none 0 0 0 true))) none, AOper.mk (some (.o (.i .h))) (.mv (.c (.int .i64 (.ofNat 0)))) none]) (.seq (.seq (.reg [AOper.mk (some (.o (.o (.i .h)))) (.len .slice (.t .h)) none, AOper.mk (some (.o (.i (.i .h)))) (.len .slice (.t (.o .h))) none, AOper.mk (some (.i (.i (.i .h)))) (.bin .neq (.val .int) (.t (.o (.o (.i .h)))) (.t (.o (.i (.i .h))))) none, AOper.mk (some (.o (.o (.o (.o .h))))) (.mv (.t (.i (.i (.i .h))))) none, AOper.mk (some (.o (.i (.o (.o .h))))) (.len .slice (.t .h)) (some (.o (.o (.o (.o .h))), false)), AOper.mk (some (.i (.i (.o (.o .h))))) (.bin .gtr (.val .int) (.t (.o (.i (.o (.o .h))))) (.c (.int .i64 (.ofNat 64)))) (some (.o (.o (.o (.o .h))), false)), AOper.mk (some (.o (.o (.i (.o .h))))) (.pick (.t (.o (.o (.o (.o .h))))) (.c (.bool true)) (.t (.i (.i (.o (.o .h)))))) none]) (.cond (.t (.o (.o (.i (.o .h))))) (.seq (.reg [AOper.mk (some (.i (.o .h))) (.mv (.c (.slice none 0 0 0 true))) none, AOper.mk (some (.o (.i .h))) (.mv (.c (.int .i64 (.ofNat 1)))) none]) .ret) .skip)) (.seq (.reg [AOper.mk (some (.o (.i (.i (.o .h))))) (.len .slice (.t .h)) none, AOper.mk (some (.i (.i (.i (.o .h))))) (.conv (.int .u8) (.t (.o (.i (.i (.o .h)))))) none, AOper.mk (some (.o (.o (.o (.i .h))))) (.bslice 1 12 [.int .u8 (.ofNat 0)] [(0, (1, .c (.int .u8 (.ofNat 0)))), (1, (1, .c (.int .u8 (.ofNat 1)))), (2, (1, .c (.int .u8 (.ofNat 0)))), (3, (1, .c (.int .u8 (.ofNat 0)))), (4, (1, .c (.int .u8 (.ofNat 0)))), (5, (1, .t (.i (.i (.i (.o .h)))))), (6, (1, .c (.int .u8 (.ofNat 0)))), (7, (1, .c (.int .u8 (.ofNat 0)))), (8, (1, .c (.int .u8 (.ofNat 0)))), (9, (1, .c (.int .u8 (.ofNat 0)))), (10, (1, .c (.int .u8 (.ofNat 0)))), (11, (1, .c (.int .u8 (.ofNat 0))))]) none, AOper.mk (some (.i (.i .h))) (.mv (.t (.o (.o (.o (.i .h)))))) none]) (.seq (.reg [AOper.mk (some (.o (.i (.o (.i .h))))) (.len .slice (.t .h)) none, AOper.mk (some (.i (.i (.o (.i .h))))) (.bin .mul (.val .int) (.t (.o (.i (.o (.i .h))))) (.c (.int .i64 (.ofNat 16)))) none, AOper.mk (some (.o (.o (.i (.i .h))))) (.bin .add (.val .int) (.c (.int .i64 (.ofNat 12))) (.t (.i (.i (.o (.i .h)))))) none, AOper.mk (some (.o (.o (.o .h)))) (.mv (.t (.o (.o (.i (.i .h)))))) none]) (.seq (.seq (.reg [AOper.mk (some (.i (.o (.i (.i .h))))) (.mv (.t .h)) none, AOper.mk (some (.o (.i (.i (.i .h))))) (.len .slice (.t (.i (.o (.i (.i .h)))))) none, AOper.mk (some (.i (.i (.i (.i .h))))) (.mv (.c (.int .i64 (.ofNat 0)))) none]) (.block 0 (.loop (.seq (.reg [AOper.mk (some (.o (.o (.o (.o (.o .h)))))) (.bin .lss (.val .int) (.t (.i (.i (.i (.i .h))))) (.t (.o (.i (.i (.i .h)))))) none]) (.seq (.cond (.t (.o (.o (.o (.o (.o .h)))))) .skip (.exit 0)) (.seq (.block 1 (.seq (.reg [AOper.mk (some (.o (.i (.o (.o (.o .h)))))) (.idxAddr (.slice 1) (.t (.i (.o (.i (.i .h))))) (.t (.i (.i (.i (.i .h)))))) none, AOper.mk (some (.i (.i (.o (.o (.o .h)))))) (.load false 1 (.t (.o (.i (.o (.o (.o .h))))))) none, AOper.mk (some (.i (.o (.o .h)))) (.mv (.t (.i (.i (.i (.i .h)))))) none, AOper.mk (some (.o (.i (.o .h)))) (.mv (.t (.i (.i (.o (.o (.o .h))))))) none]) (.seq (.seq (.reg [AOper.mk (some (.i (.o (.i (.o (.o .h)))))) (.len .str (.t (.o (.i (.o .h))))) none, AOper.mk (some (.o (.i (.i (.o (.o .h)))))) (.bin .neq (.val .int) (.t (.i (.o (.i (.o (.o .h)))))) (.c (.int .i64 (.ofNat 4)))) none, AOper.mk (some (.i (.i (.i (.o (.o .h)))))) (.mv (.t (.o (.i (.i (.o (.o .h))))))) none, AOper.mk (some (.o (.i (.o (.i (.o .h)))))) (.slice (.slice 1) (.t .h) none (some (.t (.i (.o (.o .h))))) none) (some (.i (.i (.i (.o (.o .h)))), false)), AOper.mk (some (.o (.o (.i (.i (.o .h)))))) (.call n_Contains [.t (.o (.i (.o (.i (.o .h))))), .t (.o (.i (.o .h)))]) (some (.i (.i (.i (.o (.o .h)))), false)), AOper.mk (some (.i (.o (.i (.i (.o .h)))))) (.pick (.t (.i (.i (.i (.o (.o .h)))))) (.c (.bool true)) (.t (.o (.o (.i (.i (.o .h))))))) none]) (.cond (.t (.i (.o (.i (.i (.o .h)))))) (.seq (.reg [AOper.mk (some (.i (.o .h))) (.mv (.c (.slice none 0 0 0 true))) none, AOper.mk (some (.o (.i .h))) (.mv (.c (.int .i64 (.ofNat 1)))) none]) .ret) .skip)) (.seq (.dreg [(AOper.mk (some (.o (.i (.i (.i (.o .h)))))) (.mv (.t (.i (.i .h)))) none, []), (AOper.mk (some (.i (.i (.i (.i (.o .h)))))) (.mv (.t (.o (.i (.o .h))))) none, []), (AOper.mk (some (.o (.o (.o (.o (.i .h)))))) (.conv .toBytes (.t (.i (.i (.i (.i (.o .h))))))) none, [3, 5, 9, 11]), (AOper.mk (some (.i (.o (.o (.o (.i .h)))))) (.call n_u32 [.c (.int .i64 (.ofNat 0))]) none, [2, 9]), (AOper.mk (some (.o (.i (.o (.o (.i .h)))))) (.mv (.t (.o (.o (.o .h))))) none, []), (AOper.mk (some (.i (.i (.o (.o (.i .h)))))) (.call n_u32 [.t (.o (.i (.o (.o (.i .h)))))]) none, [2, 9]), (AOper.mk (some (.o (.o (.i (.o (.i .h)))))) (.mv (.t (.o .h))) none, []), (AOper.mk (some (.i (.o (.i (.o (.i .h)))))) (.mv (.t (.i (.o (.o .h))))) none, []), (AOper.mk (some (.o (.i (.i (.o (.i .h)))))) (.idxAddr (.slice 1) (.t (.o (.o (.i (.o (.i .h)))))) (.t (.i (.o (.i (.o (.i .h))))))) none, []), (AOper.mk (some (.i (.i (.i (.o (.i .h)))))) (.load false 1 (.t (.o (.i (.i (.o (.i .h))))))) none, [2, 3, 5]), (AOper.mk (some (.o (.o (.o (.i (.i .h)))))) (.len .slice (.t (.i (.i (.i (.o (.i .h))))))) none, []), (AOper.mk (some (.i (.o (.o (.i (.i .h)))))) (.call n_u32 [.t (.o (.o (.o (.i (.i .h)))))]) none, [2]), (AOper.mk (some (.o (.i (.o (.i (.i .h)))))) (.bslice 1 5 [.slice none 0 0 0 true] [(0, (1, .t (.o (.i (.i (.i (.o .h))))))), (1, (1, .t (.o (.o (.o (.o (.i .h))))))), (2, (1, .t (.i (.o (.o (.o (.i .h))))))), (3, (1, .t (.i (.i (.o (.o (.i .h))))))), (4, (1, .t (.i (.o (.o (.i (.i .h)))))))]) none, []), (AOper.mk (some (.i (.i (.o (.i (.i .h)))))) (.call n_Concat [.t (.o (.i (.o (.i (.i .h)))))]) none, []), (AOper.mk (some (.i (.i .h))) (.mv (.t (.i (.i (.o (.i (.i .h))))))) none, [])]) (.reg [AOper.mk (some (.i (.i (.i (.i (.i .h)))))) (.idxAddr (.slice 1) (.t (.o .h)) (.t (.i (.o (.o .h))))) none, AOper.mk (some (.o (.o (.o (.o (.o (.o .h))))))) (.load false 1 (.t (.i (.i (.i (.i (.i .h))))))) none, AOper.mk (some (.i (.o (.o (.o (.o (.o .h))))))) (.len .slice (.t (.o (.o (.o (.o (.o (.o .h)))))))) none, AOper.mk (some (.o (.i (.o (.o (.o (.o .h))))))) (.bin .add (.val .int) (.t (.o (.o (.o .h)))) (.t (.i (.o (.o (.o (.o (.o .h)))))))) none, AOper.mk (some (.o (.o (.o .h)))) (.mv (.t (.o (.i (.o (.o (.o (.o .h)))))))) none]))))) (.reg [AOper.mk (some (.i (.i (.o (.o (.o (.o .h))))))) (.bin .add (.val .int) (.t (.i (.i (.i (.i .h))))) (.c (.int .i64 (.ofNat 1)))) none, AOper.mk (some (.i (.i (.i (.i .h))))) (.mv (.t (.i (.i (.o (.o (.o (.o .h)))))))) none]))))))) (.seq (.reg [AOper.mk (some (.o (.i (.i (.o (.o (.o .h))))))) (.call n_Concat [.t (.o .h)]) none, AOper.mk (some (.i (.i (.i (.o (.o (.o .h))))))) (.bslice 1 2 [.slice none 0 0 0 true] [(0, (1, .t (.i (.i .h)))), (1, (1, .t (.o (.i (.i (.o (.o (.o .h))))))))]) none, AOper.mk (some (.o (.o (.o (.i (.o (.o .h))))))) (.call n_Concat [.t (.i (.i (.i (.o (.o (.o .h))))))]) none, AOper.mk (some (.i (.o .h))) (.mv (.t (.o (.o (.o (.i (.o (.o .h)))))))) none, AOper.mk (some (.o (.i .h))) (.mv (.c (.int .i64 (.ofNat 0)))) none]) .ret)))))) [.tmp (.i (.o .h)), .tmp (.o (.i .h))]
def Few_c : AFunc := AFunc.mk 13 (.seq (.reg [AOper.mk (some (.i (.o .h))) (.mv (.c (.slice none 0 0 0 true))) none]) (.seq (.reg [AOper.mk (some (.o (.i .h))) (.bslice 1 0 [.int .u8 (.ofNat 0)] []) none, AOper.mk (some (.i (.o (.o .h)))) (.len .slice (.t .h)) none, AOper.mk (some (.i (.i (.o .h)))) (.minmax false (.t (.i (.o (.o .h)))) [.t (.o .h)]) none, AOper.mk (some (.o (.o (.i .h)))) (.slice (.slice 1) (.t .h) none (some (.t (.i (.i (.o .h))))) none) none, AOper.mk (some (.i (.o (.i .h)))) (.append 1 1 (.t (.o (.i .h))) (.t (.o (.o (.i .h))))) none, AOper.mk (some (.i (.o .h))) (.mv (.t (.i (.o (.i .h))))) none]) .ret)) [.tmp (.i (.o .h))]
attribute [local simp] wp_skip wp_ret wp_exit wp_reg wp_seq wp_cond wp_block thenQ_normal thenQ_ret thenQ_exit blockQ_normal blockQ_ret blockQ_exit wpCond_true wpCond_false wpOps_nil wpVal_some wpGuard_true wpGuard_false wpOps_guard wpOps_cons
  put_at put_no ev_c ev_slot posEq_h posEq_o posEq_i posEq_ho posEq_hi posEq_oh posEq_ih posEq_oi posEq_io sel_true sel_false
  okv_some step_mv step_call step_pick pickV_bool step_bin bin_add bin_sub bin_mul bin_eql bin_neq bin_lss bin_leq bin_gtr bin_geq bin_eqb bin_neb bin_eqs bin_nes step_un un_not un_neg step_len len_slice len_str len_const step_extract extractV nth step_convInt conv_int step_convStr step_slice step_idxAddr natOf_nat step_load step_index step_field step_fieldAddr step_build step_minmax
  step_alloc step_bslice bsliceV_some newV_some step_store step_append boolIs_b boolIs_t finQ_ret finQ_normal ressE_nil ressE_cons resE_tmp consO_some initE_nil initE_cons pos_0 pos_1 pos_2 pos_3 pos_4 pos_5 pos_6 pos_7 pos_8 plain_bool plain_int plain_str plain_ptr plain_slice plain_map plain_agg plain_func plain_nilFunc V.undef oneOf_one oneOf_two ble_self
open Go.Vabs.Pk Go.Vabs.Ph Go.Vabs.Sa Go.Vabs.Sb Go.Vabs.Sc Go.Vabs.Sd Go.Vabs.Se Go.Vabs.Sg Go.Vabs.Sh Go.Vabs.Sm Go.Vabs.L2
attribute [local simp] step_nilchk nilchk_ptr cells_int cells_bool cells_str cells_slice cells_ptr cells_agg fieldAddrV natOf_zero fill repN splice over newV
  wp_dreg wpDs_nil wpDs_cons wantedE_none wantedE_some wpDGuard_true wpDGuard_lim wpDGuard_false wpDLim_true wpDVal_free wpDVal_lim back_limited next_limited limF_dir foot_load foot_convStr okAll_nil okAll_cons pastsOf nthP ahead few_next load_limited convStr_limited blt_dec okPair_dd okPair_dc okPair_cd okPair_cc anyIn_nil anyIn_same anyIn_cons meets_nil meets_nil'
/- A STRING'S BYTES -/
noncomputable def toB (st : St) : V → Option (V × St)
  | .str s => newV (fun j => .slice (some (j, 0)) 1 s.length s.length false) (st.alloc (newBytes s))
  | _ => none
theorem step_toBytes {call : CallT} {s : Env} {st : St} {x : Src} : stepE call (.conv .toBytes x) s st = toB st (s.ev x) := by
  show (match ex_conv .toBytes x s.ev st with | some (.val v, st') => _ | some (.enter g args, st') => _ | none => _) = _
  unfold ex_conv
  cases s.ev x with
  | str b =>
    show (match (match st.alloc (.cells true (b.map fun b => .int .u8 (.ofNat b))) with | some (j, st') => some (Res.val (.slice (some (j, 0)) 1 b.length b.length false), st') | none => none) with | some (.val v, st') => _ | some (.enter g args, st') => _ | none => _) = newV _ (st.alloc (newBytes b))
    have : newBytes b = .cells true (b.map fun b => .int .u8 (.ofNat b)) := rfl
    rw [this]
    cases st.alloc (.cells true (b.map fun b => .int .u8 (.ofNat b))) <;> rfl
  | _ => rfl
theorem foot_toBytes {s : Env} {x : Src} : foot (.conv .toBytes x) s.ev = .dir (idOf (s.ev x)) [] := rfl
/- CALLS IN A LIMITED MEMORY -/
theorem hidden_nil {i : Nat} : hidden [] i = false := rfl
theorem hidden_cons {lo hi i : Nat} {ft : Foot} {ps : List Past} : hidden (⟨lo, hi, ft⟩ :: ps) i = ((decide (lo ≤ i) && decide (i < hi)) || hidden ps i) := by rw [hidden, ble_dec, blt_dec]
/- A NUMBER'S FOUR BYTES -/
def U32LF (call : CallT) (g : Nat) : Prop := ∀ fr ps os (n : Nat), hidden ps os.length = false → call g [.int .i64 (n : Int)] (limF fr .call ps (few os)) = some (.slice (some (os.length, 0)) 1 4 4 false, back (limF fr .call ps (few os)) (few (os ++ [some (newBytes (bigB n 4))])))
theorem U32LF.other {call : CallT} {n g : Nat} {l : List V → St → Option (V × St)} (h : U32LF call n) (hne : n ≠ g) : U32LF (withL call g l) n := fun fr ps os a h1 => by rw [withL_other hne]; exact h fr ps os a h1
theorem U32LF.withF {call : CallT} {n g lf : Nat} {fn : AFunc} (h : U32LF call n) (hne : n ≠ g) : U32LF (Vabs.withF call g lf fn) n := fun fr ps os a h1 => by rw [withF_other hne]; exact h fr ps os a h1
/- A FEW BYTES -/
theorem slice_nil0 {e : Nat} {f : Bool} : sliceOp (.slice 1) (.slice none e 0 0 f) none (some (.int .i64 ((0 : Nat) : Int))) none = some (.slice none 1 0 0 f) := by
  show sel (Nat.beq 1 e || true) _ none = _
  rw [Bool.or_true]
  cases f <;> rfl
theorem Few_run {call : CallT} {lf n : Nat} {os : List (Option AObj)} {v : V} {bs : List Nat} (h : bytesAt (few os) v = some bs) (hl : bs.length ≤ 140737488354816) (hn : n < 9223372036854775808) : enterF call lf [v, .int .i64 (n : Int)] (few os) Few_c = some (cloneR os (bs.take n)) := by
  obtain ⟨m, hm⟩ : ∃ m, m = min bs.length n := ⟨_, rfl⟩
  have hmin : mmAll false (.int .i64 (bs.length : Int)) [.int .i64 (n : Int)] = some (.int .i64 (m : Int)) := by
    rcases Nat.lt_or_ge bs.length n with h8 | h8
    · rw [hm, Nat.min_eq_left (by omega)]
      simp (disch := omega) [mmAll, mm2, ltI_eq, dltn_f, sel_true, sel_false]
    · rw [hm, Nat.min_eq_right h8]
      by_cases e : n < bs.length
      · simp (disch := omega) [mmAll, mm2, ltI_eq, dltn_t, sel_true, sel_false]
      · have : bs.length = n := by omega
        simp (disch := omega) [this, mmAll, mm2, ltI_eq, dltn_f, sel_true, sel_false]
  have htk : bs.take n = bs.take m := by
    rcases Nat.lt_or_ge bs.length n with h8 | h8
    · rw [hm, Nat.min_eq_left (by omega), List.take_of_length_le (by omega), List.take_length]
    · rw [hm, Nat.min_eq_right h8]
  have hbl := bytesAt_lt h
  obtain ⟨X, hX⟩ : ∃ X, X = os ++ [some (AObj.cells true [])] := ⟨_, rfl⟩
  have hXb : bytesAt (few X) v = some bs := bytesAt_grow h fun i hi => by rw [hX]; exact join_app hi
  have al : (few os).alloc (.cells true []) = some (os.length, few X) := by rw [hX]; exact few_alloc os _
  have hlen : lenV (few X) .slice v = some (.int .i64 (bs.length : Int)) := len_bytes (st' := few X) hXb
  have htl : (bs.take m).length = m := by rw [List.length_take]; omega
  obtain ⟨w, hsl, hfw⟩ : ∃ w, sliceOp (.slice 1) v none (some (.int .i64 (m : Int))) none = some w ∧ bytesAt (few X) w = some (bs.take m) := by
    by_cases hne : bs = []
    · subst hne
      have hm0 : m = 0 := by rw [hm]; simp
      subst hm0
      obtain ⟨h1, h2⟩ := first_bytes hXb
      have h3 := hXb
      unfold bytesAt at hXb
      split at hXb
      · rename_i e f
        exact ⟨_, slice_nil0, rfl⟩
      · rename_i i o n c f
        cases h1
        by_cases hc : c = 0
        · subst hc
          cases f
          · refine ⟨_, slice_hiI (by omega) (by omega), ?_⟩
            rw [shiftA_some]
            exact h3
          · exact ⟨_, rfl, h3⟩
        · refine ⟨_, slice_hiF (by omega) (by omega) (by omega), ?_⟩
          rw [shiftA_some]
          exact h3
      · cases hXb
    · obtain ⟨i, o, c, f, own, cs, rfl, hc, hg, hle, hcs⟩ := bytesAt_place hXb hne
      have hpos : 0 < bs.length := by cases bs with | nil => exact absurd rfl hne | cons _ _ => simp
      refine ⟨_, slice_hiF (by omega) (by omega) (by omega), ?_⟩
      rw [Int.toNat_natCast, shiftA_some, Nat.add_zero]
      refine bytesAt_few (own := own) (cs := cs) (by rw [← few_get]; exact hg) (by omega) (by omega) ?_ (fun b hb => hbl b (List.mem_of_mem_take hb))
      rw [← bytesV_take, ← hcs, List.take_take, Nat.min_eq_left (by omega)]
  obtain ⟨f1, f2⟩ := first_bytes hfw
  have happ := append_clone (os := os) (new := bs.take m) (by omega)
  rw [← hX] at happ
  rw [htl] at f1 f2 happ
  rw [htk]
  have hpl := cloneR_plain (os := os) (new := bs.take m)
  obtain ⟨cv, cs, hcr⟩ : ∃ cv cs, cloneR os (bs.take m) = (cv, cs) := ⟨_, _, rfl⟩
  rw [hcr] at happ hpl ⊢
  refine enter_eq ?_
  simp (disch := omega) [al, hlen, hmin, hsl, f1, firstNo, f2, happ, hpl]
def FewF (call : CallT) (g : Nat) : Prop := ∀ os v bs (n : Nat), bytesAt (few os) v = some bs → bs.length ≤ 140737488354816 → n < 9223372036854775808 → call g [v, .int .i64 (n : Int)] (few os) = some (cloneR os (bs.take n))
theorem FewF.code {base : CallT} {g lf : Nat} : FewF (Vabs.withF base g lf Few_c) g := fun os v bs n h1 h2 h3 => by rw [withF_same]; exact Few_run h1 h2 h3
theorem FewF.withF {call : CallT} {n g lf : Nat} {fn : AFunc} (h : FewF call n) (hne : n ≠ g) : FewF (Vabs.withF call g lf fn) n := fun os v bs m a b c => by rw [withF_other hne]; exact h os v bs m a b c
theorem FewF.other {call : CallT} {n g : Nat} {l : List V → St → Option (V × St)} (h : FewF call n) (hne : n ≠ g) : FewF (withL call g l) n := fun os v bs m a b c => by rw [withL_other hne]; exact h os v bs m a b c
/- THE WALK OF LAY -/
theorem AObj.goodLe {n m : Nat} (hnm : n ≤ m) {o : AObj} (h : o.good n = true) : o.good m = true := by
  cases o with
  | cells own cs => exact goods_le hnm h
  | map own es c =>
    show es.all (entGood m) = true
    have h : es.all (entGood n) = true := h
    rw [List.all_eq_true] at h ⊢
    intro e he
    have := h e he
    simp only [entGood, Bool.and_eq_true] at this ⊢
    exact ⟨V.good_le hnm this.1, V.good_le hnm this.2⟩
theorem sight_keep {os os' : List (Option AObj)} (he : ∀ i, i < os.length → (os'[i]?).join = (os[i]?).join) (hl : os.length ≤ os'.length) : ∀ i o, (few os).look i = some o → (few os').look i = some o := by
  intro i o ho
  obtain ⟨h1, o', h2, h3, rfl⟩ := look_some ho
  have h1 : i < os.length := h1
  refine look_of (by rw [few_next]; omega) ?_ (AObj.goodLe (by rw [few_next, few_next]; exact hl) h3)
  rw [few_get, he i h1, ← few_get]
  exact h2
/-- A slice of its own whole object, or the nil slice. -/
def slT (f : Bool) (q n : Nat) : V := if n = 0 then .slice none 0 0 0 true else .slice (some (q, 0)) 1 n n f
/-- Bytes by bytes in memory. -/
structure RowsB (os : List (Option AObj)) (r : Nat) (ts : List (List Nat)) : Prop where
  ex : ts ≠ [] → ∃ own vs, (os[r]?).join = some (.cells own vs) ∧ vs.length = ts.length ∧ ∀ (j : Nat) (v : V) (b : List Nat), vs[j]? = some v → ts[j]? = some b → v.good os.length = true ∧ lookB (few os).look v = some b
theorem RowsB.keep {os os' : List (Option AObj)} {r : Nat} {ts : List (List Nat)} (h : RowsB os r ts) (he : ∀ i, i < os.length → (os'[i]?).join = (os[i]?).join) (hl : os.length ≤ os'.length) : RowsB os' r ts :=
  ⟨fun hne => by
    obtain ⟨own, vs, h1, h2, h3⟩ := h.ex hne
    exact ⟨own, vs, by rw [he r (join_lt h1)]; exact h1, h2, fun j v b hv hb => ⟨V.good_le hl (h3 j v b hv hb).1, lookB_mono (sight_keep he hl) (h3 j v b hv hb).2⟩⟩⟩
theorem lookBs_of {l : Sight} : ∀ {vs : List V} {bss : List (List Nat)}, vs.length = bss.length → (∀ (j : Nat) (v : V) (b : List Nat), vs[j]? = some v → bss[j]? = some b → lookB l v = some b) → lookBs l vs = some bss
  | [], [], _, _ => rfl
  | [], _ :: _, h, _ => by simp at h
  | _ :: _, [], h, _ => by simp at h
  | v :: vs, b :: bss, h, hj => by
    show (match lookB l v, lookBs l vs with | some b, some bs => some (b :: bs) | _, _ => none) = _
    rw [hj 0 v b rfl rfl, lookBs_of (by simpa using h) fun j v b hv hb => hj (j + 1) v b (by simpa using hv) (by simpa using hb)]
theorem RowsB.lookSL {os : List (Option AObj)} {f : Bool} {r : Nat} {ts : List (List Nat)} (h : RowsB os r ts) : lookSL (few os).look (slT f r ts.length) = some ts ∧ (slT f r ts.length).good os.length = true := by
  unfold slT
  split
  · rename_i h0
    have : ts = [] := List.length_eq_zero_iff.1 h0
    subst this
    exact ⟨rfl, rfl⟩
  · rename_i h0
    obtain ⟨own, vs, h1, h2, h3⟩ := h.ex (fun e => h0 (by rw [e]; rfl))
    have hr := join_lt h1
    refine ⟨?_, by simp [V.good]; exact hr⟩
    show (if ts.length ≤ ts.length then match (few os).look r with | some (.cells _ cs) => (match cut 0 ts.length cs with | some vs => if vs.length = ts.length then lookBs (few os).look vs else none | none => none) | _ => none else none) = some ts
    have hg : goods os.length vs = true := goods_mem.2 fun v hv => by
      obtain ⟨j, hj, rfl⟩ := List.mem_iff_getElem.1 hv
      exact (h3 j _ ts[j] (List.getElem?_eq_getElem hj) (List.getElem?_eq_getElem (by omega))).1
    rw [if_pos (Nat.le_refl _), look_of (o := .cells own vs) (by rw [few_next]; exact hr) (by rw [few_get]; exact h1) (by rw [few_next]; exact hg)]
    show (match cut 0 ts.length vs with | some vs => if vs.length = ts.length then lookBs (few os).look vs else none | none => none) = some ts
    rw [cut_of (by omega), List.drop_zero, List.take_of_length_le (by omega)]
    dsimp only
    rw [if_pos h2]
    exact lookBs_of h2 fun j v b hv hb => (h3 j v b hv hb).2
theorem RowsB.at_ {os : List (Option AObj)} {r : Nat} {ts : List (List Nat)} (h : RowsB os r ts) {k : Nat} {b : List Nat} (hb : ts[k]? = some b) : ∃ w, loadV (few os) false 1 (.ptr (some (r, k))) = some w ∧ w.good os.length = true ∧ lookB (few os).look w = some b ∧ r < os.length := by
  have hk := (List.getElem?_eq_some_iff.1 hb).1
  obtain ⟨own, vs, h1, h2, h3⟩ := h.ex (fun e => by rw [e] at hk; simp at hk)
  refine ⟨vs[k], ?_, (h3 k _ b (List.getElem?_eq_getElem (by omega)) hb).1, (h3 k _ b (List.getElem?_eq_getElem (by omega)) hb).2, join_lt h1⟩
  rw [load_few h1, List.getElem?_eq_getElem]
theorem rows_own {os : List (Option AObj)} {q : Nat} {vs : List V} {ts : List (List Nat)} {own : Bool} (h : (os[q]?).join = some (.cells own vs)) (h2 : vs.length = ts.length) (h3 : ∀ (j : Nat) (v : V) (b : List Nat), vs[j]? = some v → ts[j]? = some b → v.good os.length = true ∧ lookB (few os).look v = some b) : RowsB os q ts := ⟨fun _ => ⟨own, vs, h, h2, h3⟩⟩
theorem lookB_own {os : List (Option AObj)} {p : Nat} {bs : List Nat} {f : Bool} (h : (os[p]?).join = some (newBytes bs)) (hb : ∀ b ∈ bs, b < 256) : (V.slice (some (p, 0)) 1 bs.length bs.length f).good os.length = true ∧ lookB (few os).look (.slice (some (p, 0)) 1 bs.length bs.length f) = some bs := by
  have hp := join_lt h
  refine ⟨by simp [V.good]; exact hp, lookB_of (own := true) (cs := bytesV bs) (by rw [few_next]; exact hp) (by rw [few_get]; exact h) (flats_good (List.all_eq_true.2 bytesV_flat)) (Nat.le_refl _) (by rw [bytesV_len]; omega) ?_ hb⟩
  rw [List.drop_zero, List.take_of_length_le (by rw [bytesV_len]; exact Nat.le_refl _)]
/-- What is laid, if it may be laid. -/
def layS (tags ts : List (List Nat)) : Option (List Nat) := if tags.length = ts.length ∧ tags.length ≤ 64 ∧ (∀ t ∈ tags, t.length = 4) ∧ tags.Nodup then some (layL (tags.zip ts)) else none
def LayPost (os : List (Option AObj)) (tags ts : List (List Nat)) (u : V) (os' : List (Option AObj)) : Prop :=
  (∀ i, i < os.length → (os'[i]?).join = (os[i]?).join) ∧ os.length ≤ os'.length ∧
  match layS tags ts with
  | some l => ∃ p, u = .tuple [.slice (some (p, 0)) 1 l.length l.length false, .int .i64 0] ∧ os.length ≤ p ∧ (os'[p]?).join = some (newBytes l)
  | none => u = .tuple [.slice none 0 0 0 true, .int .i64 1]
theorem toB_str {st : St} {s : List Nat} : toB st (.str s) = newV (fun j => .slice (some (j, 0)) 1 s.length s.length false) (st.alloc (newBytes s)) := rfl
theorem keep_snoc {a : List (Option AObj)} {x : Option AObj} : ∀ i, i < a.length → ((a ++ [x])[i]?).join = (a[i]?).join := fun i hi => join_app hi
theorem layS_no {tags ts : List (List Nat)} (h : ¬ (tags.length = ts.length ∧ tags.length ≤ 64 ∧ (∀ t ∈ tags, t.length = 4) ∧ tags.Nodup)) : layS tags ts = none := if_neg h
theorem zip_take {α β : Type} {a : List α} {b : List β} {k : Nat} : (a.zip b).take k = (a.take k).zip (b.take k) := by simp [List.zip, List.take_zipWith]
theorem zip_map2 {a b : List (List Nat)} (h : a.length = b.length) : (a.zip b).map (·.2) = b := by rw [List.map_snd_zip (by omega)]
theorem nodup_take {tags : List (List Nat)} {k : Nat} {t : List Nat} (ht : tags[k]? = some t) (hm : t ∈ tags.take k) : ¬ tags.Nodup := by
  intro hn
  obtain ⟨j, hj, he⟩ := List.mem_iff_getElem.1 hm
  have hj' : j < k := by rw [List.length_take] at hj; omega
  have h1 : tags[j]? = some t := by rw [← List.getElem?_take_of_lt hj', List.getElem?_eq_getElem hj, he]
  have := nodup_at' hn h1 ht
  omega
set_option maxHeartbeats 1000000 in
theorem Lay_run {call : CallT} {lf lf' nC nU nX : Nat} (hlf : 65 ≤ lf) (hlf' : 65 ≤ lf') (hC : ContF lf' call nC) (hU : U32LF call nU) (hX : ConcatF call nX) {os : List (Option AObj)} {q r : Nat} {f1 f2 : Bool} {tags ts : List (List Nat)}
    (hq : tags ≠ [] → ∃ own, (os[q]?).join = some (.cells own (strsV tags))) (hr : RowsB os r ts) (hb1 : ∀ t ∈ tags, ∀ b ∈ t, b < 256) (hb2 : ∀ t ∈ ts, ∀ b ∈ t, b < 256) (hs1 : tags.length ≤ 1048576) (hs2 : ts.length ≤ 1048576) (hs : ts.flatten.length ≤ 4294900000) :
    ∃ u os', enterF call lf [slT f1 q tags.length, slT f2 r ts.length] (few os) (Lay_c nC nU nX) = some (u, few os') ∧ LayPost os tags ts u os' := by
  have main := enter_wp (call := call) (lf := lf) (n := 72) (args := [slT f1 q tags.length, slT f2 r ts.length]) (st := few os) (K := fun u st => ∃ os', st = few os' ∧ LayPost os tags ts u os') (c := (Lay_c nC nU nX).code) (rs := (Lay_c nC nU nX).results) ?_
  · obtain ⟨u, st', h1, os', rfl, h2⟩ := main
    exact ⟨u, os', h1, h2⟩
  · unfold Lay_c
    dsimp only
    obtain ⟨n, hn⟩ : ∃ n, n = tags.length := ⟨_, rfl⟩
    obtain ⟨m, hm⟩ : ∃ m, m = ts.length := ⟨_, rfl⟩
    rw [← hn, ← hm]
    have len1 : lenV (few os) .slice (slT f1 q n) = some (.int .i64 (n : Int)) := by unfold slT; split <;> (first | (rename_i h0; rw [h0]; rfl) | rfl)
    have len2 : lenV (few os) .slice (slT f2 r m) = some (.int .i64 (m : Int)) := by unfold slT; split <;> (first | (rename_i h0; rw [h0]; rfl) | rfl)
    by_cases hnm : n = m
    · by_cases h64 : n ≤ 64
      · subst hnm
        obtain ⟨L, hL⟩ : ∃ L, L = tags.zip ts := ⟨_, rfl⟩
        have hLn : L.length = n := by rw [hL, List.length_zip]; omega
        obtain ⟨A, hA⟩ : ∃ A, A = os ++ [some (newBytes (headL n))] := ⟨_, rfl⟩
        have alA : (few os).alloc (.cells true [.int .u8 0, .int .u8 1, .int .u8 0, .int .u8 0, .int .u8 0, .int .u8 (n : Int), .int .u8 0, .int .u8 0, .int .u8 0, .int .u8 0, .int .u8 0, .int .u8 0]) = some (os.length, few A) := by rw [hA]; exact few_alloc os _
        have w8 : wrapV .u8 (n : Int) = (n : Int) := wrap_u8 (by omega)
        have lenA : lenV (few A) .slice (slT f1 q n) = some (.int .i64 (n : Int)) := by unfold slT; split <;> (first | (rename_i h0; rw [h0]; rfl) | rfl)
        simp (disch := omega) [len1, len2, deqn_t, dlt_f, dltn_f, dle_f, dlen_f, wrap_i, w8, alA, lenA]
        refine wp_loop (fun k s st => ∃ i l' p fl, i + k = n ∧ st = few (os ++ l') ∧ (((os ++ l')[p]?).join = some (newBytes (headL n ++ recsL (12 + 16 * n) (L.take i))) ∧ (∀ t ∈ tags.take i, t.length = 4) ∧ (tags.take i).Nodup) ∧
          s .h = slT f1 q n ∧ s (.o .h) = slT f2 r n ∧ s (.i (.o (.i (.i .h)))) = slT f1 q n ∧ s (.o (.i (.i (.i .h)))) = .int .i64 (n : Int) ∧ s (.i (.i (.i (.i .h)))) = .int .i64 (i : Int) ∧ s (.i (.i .h)) = .slice (some (p, 0)) 1 (12 + 16 * i) (12 + 16 * i) fl ∧ s (.o (.o (.o .h))) = .int .i64 ((12 + 16 * n + (flatT (L.take i)).length : Nat) : Int)) n ?_ (by omega) ?_
        · refine ⟨0, [some (newBytes (headL n))], os.length, true, by omega, by rw [hA], ⟨?_, ?_, ?_⟩, ?_, ?_, ?_, ?_, ?_, ?_, ?_⟩
          · simp [recsL]
          · intro t ht; simp at ht
          · simp
          all_goals simp [flatT]
          omega
        · rintro k s st ⟨i, l', p, fl, hk, rfl, ⟨hfile, hlen4, hnd⟩, s1, s2, s3, s4, s5, s6, s7⟩
          obtain ⟨X0, hX0⟩ : ∃ X0, X0 = os ++ l' := ⟨_, rfl⟩
          rw [← hX0] at hfile ⊢
          have hX0l : os.length ≤ X0.length := by rw [hX0, List.length_append]; omega
          have hX0k : ∀ i, i < os.length → (X0[i]?).join = (os[i]?).join := fun i hi => by rw [hX0]; exact join_app hi
          obtain ⟨B, hB⟩ : ∃ B, B = headL n ++ recsL (12 + 16 * n) (L.take i) := ⟨_, rfl⟩
          rw [← hB] at hfile
          have hzt : L.take i = (tags.take i).zip (ts.take i) := by rw [hL, zip_take]
          have htag : Tagged (L.take i) := fun x hx => hlen4 x.1 (by rw [hzt] at hx; exact (List.of_mem_zip hx).1)
          have hBl : B.length = 12 + 16 * i := by rw [hB, List.length_append, headL_len, recsL_len htag, List.length_take]; omega
          have hBb : ∀ b ∈ B, b < 256 := by
            intro b hb
            rw [hB] at hb
            rcases List.mem_append.1 hb with hb | hb
            · simp [headL] at hb; omega
            · refine recsL_lt (fun x hx => ?_) b hb
              rw [hzt] at hx
              exact hb1 x.1 (List.mem_of_mem_take (List.of_mem_zip hx).1)
          obtain ⟨x0, hx0⟩ : ∃ x0, X0.length = x0 := ⟨_, rfl⟩
          cases k with
          | zero =>
            have hin : i = n := by omega
            subst hin
            rw [List.take_of_length_le (by omega)] at hnd hB htag
            have hlen4 : ∀ t ∈ tags, t.length = 4 := fun t ht => hlen4 t (by rw [List.take_of_length_le (by omega)]; exact ht)
            have hR0 := hr.keep hX0k hX0l
            obtain ⟨fl', hfl'⟩ : ∃ fl', fl' = ts.flatten := ⟨_, rfl⟩
            have hflb : ∀ b ∈ fl', b < 256 := by
              intro b hb
              rw [hfl'] at hb
              obtain ⟨t, h1, h2⟩ := List.mem_flatten.1 hb
              exact hb2 t h1 b h2
            obtain ⟨C, hC'⟩ : ∃ C, C = B ++ fl' := ⟨_, rfl⟩
            have hCe : C = layL L := by
              have : fl' = flatT L := by unfold flatT; rw [hL, zip_map2 (by omega), hfl']
              rw [hC', hB, this, List.append_assoc]
              unfold layL
              rw [hLn]
            have hlay : layS tags ts = some C := by
              unfold layS
              rw [if_pos ⟨by omega, by omega, hlen4, hnd⟩, ← hL, hCe]
            obtain ⟨m, hm'⟩ : ∃ m, m = fl'.length := ⟨_, rfl⟩
            have hml : m ≤ 4294900000 := by rw [hm', hfl']; exact hs
            have hCl : C.length = 12 + 16 * i + m := by rw [hC', List.length_append, hBl, hm']
            have hpx := join_lt hfile
            obtain ⟨l1, l2⟩ := hR0.lookSL (f := f2)
            have cx1 := hX X0 _ _ l2 l1 (by omega) (by omega)
            rw [← hfl', ← hm] at cx1
            unfold concatA at cx1
            by_cases h0 : fl' = []
            · rw [if_pos h0] at cx1
              have cx1 : call nX [slT f2 r i] (few X0) = some (.slice none 0 0 0 true, few X0) := by rw [cx1]; simp
              have hm0 : m = 0 := by rw [hm', h0]; rfl
              obtain ⟨vs, hvs⟩ : ∃ vs, vs = [V.slice (some (p, 0)) 1 (12 + 16 * i) (12 + 16 * i) fl, .slice none 0 0 0 true] := ⟨_, rfl⟩
              obtain ⟨X1, hX1⟩ : ∃ X1, X1 = X0 ++ [some (AObj.cells true vs)] := ⟨_, rfl⟩
              have e1 : X1.length = x0 + 1 := by rw [hX1]; simp [hx0]
              have k1 : ∀ i, i < X0.length → (X1[i]?).join = (X0[i]?).join := by rw [hX1]; exact keep_snoc
              have a1 : (X1[x0]?).join = some (AObj.cells true vs) := by rw [hX1, ← hx0]; simp
              have al1 : (few X0).alloc (.cells true [V.slice (some (p, 0)) 1 (12 + 16 * i) (12 + 16 * i) fl, .slice none 0 0 0 true]) = some (x0, few X1) := by rw [hX1, hvs, ← hx0]; exact few_alloc X0 _
              have row1 : RowsB X1 x0 [B, fl'] := by
                refine rows_own a1 (by rw [hvs]; rfl) fun j v c hv hc => ?_
                rw [hvs] at hv
                match j, hv, hc with
                | 0, hv, hc =>
                  cases hv; cases hc
                  have := lookB_own (f := fl) (show (X1[p]?).join = some (newBytes B) by rw [k1 p hpx]; exact hfile) hBb
                  rw [hBl] at this
                  exact this
                | 1, hv, hc =>
                  cases hv; cases hc
                  rw [h0]
                  exact ⟨rfl, rfl⟩
                | j + 2, hv, hc => simp at hv
              have cx : call nX [.slice (some (x0, 0)) 1 2 2 true] (few X1) = some (.slice (some (x0 + 1, 0)) 1 C.length C.length false, few (X1 ++ [some (newBytes C)])) := by
                obtain ⟨l1, l2⟩ := row1.lookSL (f := true)
                have hfc : [B, fl'].flatten = C := by rw [hC']; simp
                have := hX X1 _ _ l2 l1 (by simp) (by rw [hfc]; omega)
                rw [hfc] at this
                unfold concatA at this
                rw [if_neg (fun e => by have h := congrArg List.length e; rw [hCl, List.length_nil] at h; omega), e1] at this
                exact this
              simp (disch := omega) [s1, s2, s3, s4, s5, s6, s7, dlt_t, dlt_f, dle_t, dle_f, dltn_t, dltn_f, dlen_t, dlen_f, deq_t, deq_f, deqn_t, deqn_f, cx1, al1, cx]
              refine ⟨_, rfl, fun j hj => ?_, ?_, ?_⟩
              · rw [join_app (by omega), k1 j (by omega)]; exact hX0k j hj
              · rw [List.length_append]; omega
              · rw [hlay]
                exact ⟨x0 + 1, rfl, by omega, by rw [← e1]; simp⟩
            · rw [if_neg h0, hx0, ← hm'] at cx1
              obtain ⟨X1, hX1⟩ : ∃ X1, X1 = X0 ++ [some (newBytes fl')] := ⟨_, rfl⟩
              have cx1 : call nX [slT f2 r i] (few X0) = some (.slice (some (x0, 0)) 1 m m false, few X1) := by rw [cx1, hX1]; rfl
              have e1 : X1.length = x0 + 1 := by rw [hX1]; simp [hx0]
              have k1 : ∀ i, i < X0.length → (X1[i]?).join = (X0[i]?).join := by rw [hX1]; exact keep_snoc
              have a1 : (X1[x0]?).join = some (newBytes fl') := by rw [hX1, ← hx0]; simp
              obtain ⟨vs, hvs⟩ : ∃ vs, vs = [V.slice (some (p, 0)) 1 (12 + 16 * i) (12 + 16 * i) fl, .slice (some (x0, 0)) 1 m m false] := ⟨_, rfl⟩
              obtain ⟨X2, hX2⟩ : ∃ X2, X2 = X1 ++ [some (AObj.cells true vs)] := ⟨_, rfl⟩
              have e2 : X2.length = x0 + 2 := by rw [hX2]; simp [e1]
              have k2 : ∀ i, i < X1.length → (X2[i]?).join = (X1[i]?).join := by rw [hX2]; exact keep_snoc
              have a2 : (X2[x0 + 1]?).join = some (AObj.cells true vs) := by rw [hX2, ← e1]; simp
              have al2 : (few X1).alloc (.cells true [V.slice (some (p, 0)) 1 (12 + 16 * i) (12 + 16 * i) fl, .slice (some (x0, 0)) 1 m m false]) = some (x0 + 1, few X2) := by rw [hX2, hvs, ← e1]; exact few_alloc X1 _
              have row2 : RowsB X2 (x0 + 1) [B, fl'] := by
                refine rows_own a2 (by rw [hvs]; rfl) fun j v c hv hc => ?_
                rw [hvs] at hv
                match j, hv, hc with
                | 0, hv, hc =>
                  cases hv; cases hc
                  have := lookB_own (f := fl) (show (X2[p]?).join = some (newBytes B) by rw [k2 p (by omega), k1 p hpx]; exact hfile) hBb
                  rw [hBl] at this
                  exact this
                | 1, hv, hc =>
                  cases hv; cases hc
                  have := lookB_own (f := false) (show (X2[x0]?).join = some (newBytes fl') by rw [k2 x0 (by omega)]; exact a1) hflb
                  rw [← hm'] at this
                  exact this
                | j + 2, hv, hc => simp at hv
              have cx : call nX [.slice (some (x0 + 1, 0)) 1 2 2 true] (few X2) = some (.slice (some (x0 + 2, 0)) 1 C.length C.length false, few (X2 ++ [some (newBytes C)])) := by
                obtain ⟨l1, l2⟩ := row2.lookSL (f := true)
                have hfc : [B, fl'].flatten = C := by rw [hC']; simp
                have := hX X2 _ _ l2 l1 (by simp) (by rw [hfc]; omega)
                rw [hfc] at this
                unfold concatA at this
                rw [if_neg (fun e => by have h := congrArg List.length e; rw [hCl, List.length_nil] at h; omega), e2] at this
                exact this
              simp (disch := omega) [s1, s2, s3, s4, s5, s6, s7, dlt_t, dlt_f, dle_t, dle_f, dltn_t, dltn_f, dlen_t, dlen_f, deq_t, deq_f, deqn_t, deqn_f, cx1, al2, cx]
              refine ⟨_, rfl, fun j hj => ?_, ?_, ?_⟩
              · rw [join_app (by omega), k2 j (by omega), k1 j (by omega)]; exact hX0k j hj
              · rw [List.length_append]; omega
              · rw [hlay]
                exact ⟨x0 + 2, rfl, by omega, by rw [← e2]; simp⟩
          | succ k =>
            have hin : i < n := by omega
            obtain ⟨t, ht⟩ : ∃ t, tags[i]? = some t := ⟨_, List.getElem?_eq_getElem (by omega)⟩
            obtain ⟨b, hb⟩ : ∃ b, ts[i]? = some b := ⟨_, List.getElem?_eq_getElem (by omega)⟩
            have hLi : L[i]? = some (t, b) := by rw [hL, List.getElem?_zip_eq_some]; exact ⟨ht, hb⟩
            have hT1 : slT f1 q n = .slice (some (q, 0)) 1 n n f1 := if_neg (by omega)
            have hT2 : slT f2 r n = .slice (some (r, 0)) 1 n n f2 := if_neg (by omega)
            obtain ⟨own, hq1⟩ := hq (fun e => by rw [e] at ht; simp at ht)
            have hqX : (X0[q]?).join = some (.cells own (strsV tags)) := by rw [hX0k q (join_lt hq1)]; exact hq1
            have ldt : loadV (few X0) false 1 (.ptr (some (q, i))) = some (.str t) := by rw [load_few hqX, strsV_at, ht]; rfl
            have hR0 := hr.keep hX0k hX0l
            obtain ⟨w, ldw, hwg, hwl, hrx⟩ := hR0.at_ hb
            have hsl : sliceOp (.slice 1) (.slice (some (q, 0)) 1 n n f1) none (some (.int .i64 (i : Int))) none = some (.slice (some (q, 0)) 1 i n f1) := by
              rw [slice_hiF (by omega) (by omega) (by omega), shiftA_some, Int.toNat_natCast]
            have htk : (tags.take i).length = i := by rw [List.length_take]; omega
            have hco := hC (few X0) (some (q, 0)) 1 i n f1 (tags.take i) t ⟨by omega, htk.symm, own, strsV tags, by rw [few_get]; exact hqX, by rw [strsV_len]; omega, by rw [List.drop_zero]; simp [strsV, List.map_take]⟩ (by omega) (by omega)
            obtain ⟨tl, htl⟩ : ∃ tl, tl = t.length := ⟨_, rfl⟩
            by_cases h4 : tl = 4
            · by_cases hmem : t ∈ tags.take i
              · rw [decide_eq_true hmem] at hco
                simp (disch := omega) [s1, s2, s3, s4, s5, s6, s7, hT1, hT2, dlt_t, dlt_f, dle_t, dle_f, dltn_t, dltn_f, dlen_t, dlen_f, deq_t, deq_f, deqn_t, deqn_f, natOf_int, idxAddr_slice, ldt, ← htl, hsl, hco]
                refine ⟨X0, rfl, hX0k, hX0l, ?_⟩
                rw [layS_no (fun h => nodup_take ht hmem h.2.2.2)]
              · rw [decide_eq_false hmem] at hco
                have ht4 : t.length = 4 := by omega
                have hfl : (flatT (L.take i)).length + b.length ≤ (flatT L).length := flat_le hLi
                have hflat : (flatT L).length = ts.flatten.length := by unfold flatT; rw [hL, zip_map2 (by omega)]
                obtain ⟨a, ha⟩ : ∃ a, a = 12 + 16 * n + (flatT (L.take i)).length := ⟨_, rfl⟩
                rw [← ha] at s7
                obtain ⟨z, hz⟩ : ∃ z, z = b.length := ⟨_, rfl⟩
                have hzl : ∀ st', lenV st' .slice w = some (.int .i64 (z : Int)) := fun st' => by rw [hz]; exact len_bytes (st' := st') (lookB_at hwl)
                -- the memory, object by object
                obtain ⟨X1, hX1⟩ : ∃ X1, X1 = X0 ++ [some (newBytes t)] := ⟨_, rfl⟩
                have e1 : X1.length = x0 + 1 := by rw [hX1]; simp [hx0]
                have k1 : ∀ i, i < X0.length → (X1[i]?).join = (X0[i]?).join := by rw [hX1]; exact keep_snoc
                have a1 : (X1[x0]?).join = some (newBytes t) := by rw [hX1, ← hx0]; simp
                have tb : ∀ ps, toB (limited (.dir [] []) ps (few X0)) (.str t) = some (.slice (some (x0, 0)) 1 4 4 false, back (limited (.dir [] []) ps (few X0)) (few X1)) := by
                  intro ps
                  rw [toB_str, alloc_dir, newV_some, ← hX1, hx0, ht4]
                obtain ⟨X2, hX2⟩ : ∃ X2, X2 = X1 ++ [some (newBytes (bigB 0 4))] := ⟨_, rfl⟩
                have e2 : X2.length = x0 + 2 := by rw [hX2]; simp [e1]
                have k2 : ∀ i, i < X1.length → (X2[i]?).join = (X1[i]?).join := by rw [hX2]; exact keep_snoc
                have a2 : (X2[x0 + 1]?).join = some (newBytes (bigB 0 4)) := by rw [hX2, ← e1]; simp
                have u2 : ∀ fr, call nU [.int .i64 0] (limF fr .call [⟨x0, x0 + 1, .dir [] []⟩] (few X1)) = some (.slice (some (x0 + 1, 0)) 1 4 4 false, back (limF fr .call [⟨x0, x0 + 1, .dir [] []⟩] (few X1)) (few X2)) := by
                  intro fr
                  have := hU fr [⟨x0, x0 + 1, .dir [] []⟩] X1 0 (by rw [hidden_cons, hidden_nil, e1]; simp)
                  rw [← hX2, e1] at this
                  exact this
                obtain ⟨X3, hX3⟩ : ∃ X3, X3 = X2 ++ [some (newBytes (bigB a 4))] := ⟨_, rfl⟩
                have e3 : X3.length = x0 + 3 := by rw [hX3]; simp [e2]
                have k3 : ∀ i, i < X2.length → (X3[i]?).join = (X2[i]?).join := by rw [hX3]; exact keep_snoc
                have a3 : (X3[x0 + 2]?).join = some (newBytes (bigB a 4)) := by rw [hX3, ← e2]; simp
                have u3 : ∀ fr, call nU [.int .i64 (a : Int)] (limF fr .call [⟨x0, x0 + 1, .dir [] []⟩] (few X2)) = some (.slice (some (x0 + 2, 0)) 1 4 4 false, back (limF fr .call [⟨x0, x0 + 1, .dir [] []⟩] (few X2)) (few X3)) := by
                  intro fr
                  have := hU fr [⟨x0, x0 + 1, .dir [] []⟩] X2 a (by rw [hidden_cons, hidden_nil, e2]; simp)
                  rw [← hX3, e2] at this
                  exact this
                obtain ⟨X4, hX4⟩ : ∃ X4, X4 = X3 ++ [some (newBytes (bigB z 4))] := ⟨_, rfl⟩
                have e4 : X4.length = x0 + 4 := by rw [hX4]; simp [e3]
                have k4 : ∀ i, i < X3.length → (X4[i]?).join = (X3[i]?).join := by rw [hX4]; exact keep_snoc
                have a4 : (X4[x0 + 3]?).join = some (newBytes (bigB z 4)) := by rw [hX4, ← e3]; simp
                have u4 : ∀ fr, call nU [.int .i64 (z : Int)] (limF fr .call [⟨x0, x0 + 1, .dir [] []⟩] (few X3)) = some (.slice (some (x0 + 3, 0)) 1 4 4 false, back (limF fr .call [⟨x0, x0 + 1, .dir [] []⟩] (few X3)) (few X4)) := by
                  intro fr
                  have := hU fr [⟨x0, x0 + 1, .dir [] []⟩] X3 z (by rw [hidden_cons, hidden_nil, e3]; simp)
                  rw [← hX4, e3] at this
                  exact this
                obtain ⟨vs, hvs⟩ : ∃ vs, vs = [V.slice (some (p, 0)) 1 (12 + 16 * i) (12 + 16 * i) fl, V.slice (some (x0, 0)) 1 4 4 false, V.slice (some (x0 + 1, 0)) 1 4 4 false, V.slice (some (x0 + 2, 0)) 1 4 4 false, V.slice (some (x0 + 3, 0)) 1 4 4 false] := ⟨_, rfl⟩
                obtain ⟨X5, hX5⟩ : ∃ X5, X5 = X4 ++ [some (AObj.cells true vs)] := ⟨_, rfl⟩
                have e5 : X5.length = x0 + 5 := by rw [hX5]; simp [e4]
                have k5 : ∀ i, i < X4.length → (X5[i]?).join = (X4[i]?).join := by rw [hX5]; exact keep_snoc
                have a5 : (X5[x0 + 4]?).join = some (AObj.cells true vs) := by rw [hX5, ← e4]; simp
                have al5 : (few X4).alloc (.cells true [V.slice (some (p, 0)) 1 (12 + 16 * i) (12 + 16 * i) fl, V.slice (some (x0, 0)) 1 4 4 false, V.slice (some (x0 + 1, 0)) 1 4 4 false, V.slice (some (x0 + 2, 0)) 1 4 4 false, V.slice (some (x0 + 3, 0)) 1 4 4 false]) = some (x0 + 4, few X5) := by rw [hX5, hvs, ← e4]; exact few_alloc X4 _
                have k05 : ∀ i, i < X0.length → (X5[i]?).join = (X0[i]?).join := fun j hj => by rw [k5 j (by omega), k4 j (by omega), k3 j (by omega), k2 j (by omega), k1 j hj]
                have hpx := join_lt hfile
                have row5 : RowsB X5 (x0 + 4) [B, t, bigB 0 4, bigB a 4, bigB z 4] := by
                  refine rows_own a5 (by rw [hvs]; rfl) fun j v c hv hc => ?_
                  rw [hvs] at hv
                  match j, hv, hc with
                  | 0, hv, hc =>
                    cases hv; cases hc
                    have := lookB_own (f := fl) (show (X5[p]?).join = some (newBytes B) by rw [k05 p hpx]; exact hfile) hBb
                    rw [hBl] at this
                    exact this
                  | 1, hv, hc =>
                    cases hv; cases hc
                    have := lookB_own (f := false) (show (X5[x0]?).join = some (newBytes t) by rw [k5 _ (by omega), k4 _ (by omega), k3 _ (by omega), k2 _ (by omega)]; exact a1) (hb1 t (List.mem_of_getElem? ht))
                    rw [ht4] at this
                    exact this
                  | 2, hv, hc =>
                    cases hv; cases hc
                    exact lookB_own (f := false) (show (X5[x0 + 1]?).join = some (newBytes (bigB 0 4)) by rw [k5 _ (by omega), k4 _ (by omega), k3 _ (by omega)]; exact a2) (bigB_lt 0 4)
                  | 3, hv, hc =>
                    cases hv; cases hc
                    exact lookB_own (f := false) (show (X5[x0 + 2]?).join = some (newBytes (bigB a 4)) by rw [k5 _ (by omega), k4 _ (by omega)]; exact a3) (bigB_lt a 4)
                  | 4, hv, hc =>
                    cases hv; cases hc
                    exact lookB_own (f := false) (show (X5[x0 + 3]?).join = some (newBytes (bigB z 4)) by rw [k5 _ (by omega)]; exact a4) (bigB_lt z 4)
                  | j + 5, hv, hc => simp at hv
                obtain ⟨C, hC'⟩ : ∃ C, C = B ++ recL t a z := ⟨_, rfl⟩
                have hfc : [B, t, bigB 0 4, bigB a 4, bigB z 4].flatten = C := by rw [hC']; simp [recL, bigB]
                have hCl : C.length = 12 + 16 * (i + 1) := by rw [hC', List.length_append, recL_len ht4, hBl]; omega
                have hCe : C = headL n ++ recsL (12 + 16 * n) (L.take (i + 1)) := by
                  have hLs : L.take (i + 1) = L.take i ++ [(t, b)] := by rw [List.take_add_one, hLi]; rfl
                  rw [hC', hB, hLs, recsL_snoc, List.append_assoc, ha, hz]
                obtain ⟨X6, hX6⟩ : ∃ X6, X6 = X5 ++ [some (newBytes C)] := ⟨_, rfl⟩
                have e6 : X6.length = x0 + 6 := by rw [hX6]; simp [e5]
                have k6 : ∀ i, i < X5.length → (X6[i]?).join = (X5[i]?).join := by rw [hX6]; exact keep_snoc
                have a6 : (X6[x0 + 5]?).join = some (newBytes C) := by rw [hX6, ← e5]; simp
                have cx : call nX [.slice (some (x0 + 4, 0)) 1 5 5 true] (few X5) = some (.slice (some (x0 + 5, 0)) 1 (12 + 16 * i + 16) (12 + 16 * i + 16) false, few X6) := by
                  obtain ⟨l1, l2⟩ := row5.lookSL (f := true)
                  have := hX X5 _ _ l2 l1 (by simp) (by rw [hfc, hCl]; omega)
                  rw [hfc] at this
                  unfold concatA at this
                  rw [if_neg (fun e => by rw [e] at hCl; simp at hCl)] at this
                  rw [hX6, ← e5, show 12 + 16 * i + 16 = C.length from by rw [hCl]; omega]
                  exact this
                have hR6 : RowsB X6 r ts := hR0.keep (fun j hj => by rw [k6 j (by omega), k05 j hj]) (by omega)
                have ldw3 : loadV (few X3) false 1 (.ptr (some (r, i))) = some w := by
                  obtain ⟨own2, vs2, h1, h2, h3⟩ := hR0.ex (fun e => by rw [e] at hb; simp at hb)
                  rw [load_few h1] at ldw
                  rw [load_few (show (X3[r]?).join = some (.cells own2 vs2) by rw [k3 r (by omega), k2 r (by omega), k1 r (by omega)]; exact h1)]
                  exact ldw
                have ldw6 : loadV (few X6) false 1 (.ptr (some (r, i))) = some w := by
                  obtain ⟨own2, vs2, h1, h2, h3⟩ := hR0.ex (fun e => by rw [e] at hb; simp at hb)
                  rw [load_few h1] at ldw
                  rw [load_few (show (X6[r]?).join = some (.cells own2 vs2) by rw [k6 r (by omega), k05 r (by omega)]; exact h1)]
                  exact ldw
                have hrx' : r < x0 := by omega
                simp (disch := omega) [s1, s2, s3, s4, s5, s6, s7, hT1, hT2, dlt_t, dlt_f, dle_t, dle_f, dltn_t, dltn_f, dlen_t, dlen_f, deq_t, deq_f, deqn_t, deqn_f, natOf_int, idxAddr_slice, ldt, ← htl, hsl, hco, step_toBytes, foot_toBytes, toB_str, idOf, tb, hx0, e1, e2, e3, e4, e5, e6, foot_call, foot_load, next_back, back_back, back_few, back_limF, next_limF, u2, u3, u4, load_d, ldw3, ldw6, hzl, al5, cx, wrap_i, ble_dec, nbeq_dec, meets_cons, mem_cons, mem_nil]
                obtain ⟨l6, hl6⟩ : ∃ l6, X6 = os ++ l6 := ⟨_, by rw [hX6, hX5, hX4, hX3, hX2, hX1, hX0]; simp only [List.append_assoc]; rfl⟩
                refine ⟨k, by omega, i + 1, by omega, l6, by rw [hl6], x0 + 5, ⟨by rw [← hl6, a6, hCe], fun t' ht' => ?_, ?_⟩, by omega, ⟨rfl, by omega⟩, ?_⟩
                · rw [List.take_add_one, ht] at ht'
                  rcases List.mem_append.1 ht' with h | h
                  · exact hlen4 t' h
                  · simp at h; rw [h]; exact ht4
                · rw [List.take_add_one, ht]
                  refine List.nodup_append.2 ⟨hnd, by simp, fun x hx y hy => ?_⟩
                  simp at hy
                  rw [hy]
                  exact fun e => hmem (e ▸ hx)
                · have hLs : L.take (i + 1) = L.take i ++ [(t, b)] := by rw [List.take_add_one, hLi]; rfl
                  rw [hLs, flatT_snoc, List.length_append]
                  show (a : Int) + (z : Int) = 12 + 16 * (n : Int) + (((flatT (L.take i)).length + b.length : Nat) : Int)
                  omega
            · simp (disch := omega) [s1, s2, s3, s4, s5, s6, s7, hT1, hT2, dlt_t, dlt_f, dle_t, dle_f, dltn_t, dltn_f, dlen_t, dlen_f, deq_t, deq_f, deqn_t, deqn_f, natOf_int, idxAddr_slice, ldt, ← htl]
              refine ⟨X0, rfl, hX0k, hX0l, ?_⟩
              rw [layS_no (fun h => h4 (by rw [htl]; exact h.2.2.1 t (List.mem_of_getElem? ht)))]
      · simp (disch := omega) [len1, len2, dlt_t, dlt_f, dle_t, dle_f, dltn_t, dltn_f, dlen_t, dlen_f, deq_t, deq_f, deqn_t, deqn_f, wrap_i]
        refine ⟨os, rfl, fun i hi => rfl, Nat.le_refl _, ?_⟩
        rw [layS_no (fun h => by omega)]
    · simp (disch := omega) [len1, len2, dlt_t, dlt_f, dle_t, dle_f, dltn_t, dltn_f, dlen_t, dlen_f, deq_t, deq_f, deqn_t, deqn_f]
      refine ⟨os, rfl, fun i hi => rfl, Nat.le_refl _, ?_⟩
      rw [layS_no (fun h => by omega)]
def LayF (call : CallT) (g : Nat) : Prop := ∀ os q r f1 f2 tags ts, (tags ≠ [] → ∃ own, (os[q]?).join = some (.cells own (strsV tags))) → RowsB os r ts → (∀ t ∈ tags, ∀ b ∈ t, b < 256) → (∀ t ∈ ts, ∀ b ∈ t, b < 256) → tags.length ≤ 1048576 → ts.length ≤ 4096 → ts.flatten.length ≤ 4294900000 →
  ∃ u os', call g [slT f1 q tags.length, slT f2 r ts.length] (few os) = some (u, few os') ∧ LayPost os tags ts u os'
theorem LayF.code {base : CallT} {g lf lf' nC nU nX : Nat} (hlf : 65 ≤ lf) (hlf' : 65 ≤ lf') (hC : ContF lf' base nC) (hU : U32LF base nU) (hX : ConcatF base nX) : LayF (Vabs.withF base g lf (Lay_c nC nU nX)) g := fun os q r f1 f2 tags ts h1 h2 h3 h4 h5 h6 h7 => by
  rw [withF_same]; exact Lay_run hlf hlf' hC hU hX h1 h2 h3 h4 h5 (by omega) h7
theorem LayF.withF {call : CallT} {n g lf : Nat} {fn : AFunc} (h : LayF call n) (hne : n ≠ g) : LayF (Vabs.withF call g lf fn) n := fun os q r f1 f2 tags ts h1 h2 h3 h4 h5 h6 h7 => by rw [withF_other hne]; exact h os q r f1 f2 tags ts h1 h2 h3 h4 h5 h6 h7
theorem LayF.other {call : CallT} {n g : Nat} {l : List V → St → Option (V × St)} (h : LayF call n) (hne : n ≠ g) : LayF (withL call g l) n := fun os q r f1 f2 tags ts h1 h2 h3 h4 h5 h6 h7 => by rw [withL_other hne]; exact h os q r f1 f2 tags ts h1 h2 h3 h4 h5 h6 h7

end Go.Vabs.Sn

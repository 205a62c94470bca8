/-
  A font whose tables stand anywhere: what is read of it (no program in sight).
-/
import Derived.Test.YtbbelipodinkjaaVabsSc
namespace Go.Vabs.Sd
open Go.Vabs.Pk Go.Vabs.Sb Go.Vabs.Sc
set_option linter.unusedVariables false
theorem drop_l {l r : List Nat} {k : Nat} (h : l.length = k) : (l ++ r).drop k = r := by subst h; exact List.drop_left
/-- A record: its table's name, a sum, where it stands, how long it is. -/
def recB (head i at' size : Nat) : List Nat := [84, 65, 66, 48 + i, 1, 2, 3, 4] ++ (bigB (head + at') 4 ++ bigB size 4)
def recsB (head : Nat) (f : Nat → Nat × Nat) : Nat → List Nat
  | 0 => []
  | i + 1 => recsB head f i ++ recB head i (f i).1 (f i).2
def headB (n : Nat) : List Nat := [0, 1, 0, 0] ++ (bigB n 2 ++ [0, 0, 0, 0, 0, 0])
def fileB (n : Nat) (f : Nat → Nat × Nat) (bd : List Nat) : List Nat := headB n ++ (recsB (12 + 16 * n) f n ++ bd)
def wantB (f : Nat → Nat × Nat) (bd : List Nat) (i : Nat) : List Nat := (bd.drop (f i).1).take (f i).2
def tagI (i : Nat) : List Nat := [84, 65, 66, 48 + i]
theorem recB_len {head i a z : Nat} : (recB head i a z).length = 16 := by simp [recB, bigB_len]
theorem recsB_len {head : Nat} {f : Nat → Nat × Nat} : ∀ n, (recsB head f n).length = 16 * n
  | 0 => rfl
  | n + 1 => by
    show (recsB head f n ++ _).length = _
    rw [List.length_append, recsB_len n, recB_len]; omega
theorem headB_len {n : Nat} : (headB n).length = 12 := by simp [headB, bigB_len]
theorem recsB_at {head : Nat} {f : Nat → Nat × Nat} : ∀ (n k : Nat), k < n → ∃ r, (recsB head f n).drop (16 * k) = recB head k (f k).1 (f k).2 ++ r
  | 0, k, h => by omega
  | n + 1, k, h => by
    show ∃ r, (recsB head f n ++ recB head n (f n).1 (f n).2).drop (16 * k) = _
    rcases Nat.lt_or_ge k n with hk | hk
    · obtain ⟨r, hr⟩ := recsB_at (head := head) (f := f) n k hk
      rw [List.drop_append_of_le_length (by rw [recsB_len]; omega), hr]
      exact ⟨_, List.append_assoc ..⟩
    · have : k = n := by omega
      subst this
      rw [← recsB_len (head := head) (f := f) k, List.drop_left]
      exact ⟨[], (List.append_nil _).symm⟩
theorem file_at {n : Nat} {f : Nat → Nat × Nat} {bd : List Nat} {k : Nat} (hk : k < n) : ∃ r, (fileB n f bd).drop (12 + 16 * k) = recB (12 + 16 * n) k (f k).1 (f k).2 ++ r := by
  obtain ⟨r, hr⟩ := recsB_at (head := 12 + 16 * n) (f := f) n k hk
  unfold fileB
  rw [← List.drop_drop, drop_l headB_len, List.drop_append_of_le_length (by rw [recsB_len]; omega), hr]
  exact ⟨_, List.append_assoc ..⟩
theorem file_len {n : Nat} {f : Nat → Nat × Nat} {bd : List Nat} : (fileB n f bd).length = 12 + 16 * n + bd.length := by
  unfold fileB
  rw [List.length_append, List.length_append, headB_len, recsB_len]; omega
theorem num_drop {bs : List Nat} {m z : Nat} (h : m + z ≤ bs.length) : num bs (m : Int) z = some (be ((bs.drop m).take z)) := by
  unfold num
  rw [if_pos (thereB_true.2 (by omega)), Int.toNat_natCast]
theorem file_cnt {n : Nat} {f : Nat → Nat × Nat} {bd : List Nat} (hn : n < 65536) : cnt (fileB n f bd) = n := by
  unfold cnt
  rw [show (4 : Int) = ((4 : Nat) : Int) from rfl, num_drop (by rw [file_len]; omega)]
  have : ((fileB n f bd).drop 4).take 2 = bigB n 2 := by
    show ((bigB n 2 ++ [0, 0, 0, 0, 0, 0]) ++ (recsB (12 + 16 * n) f n ++ bd)).take 2 = _
    rw [List.append_assoc, List.take_append_of_le_length (by rw [bigB_len]; omega), List.take_of_length_le (by rw [bigB_len]; omega)]
  rw [this, Option.getD_some, be_bigB]
  exact Nat.mod_eq_of_lt (by omega)
theorem file_tag {n : Nat} {f : Nat → Nat × Nat} {bd : List Nat} {k : Nat} (hk : k < n) : tagB (fileB n f bd) k = tagI k := by
  obtain ⟨r, hr⟩ := file_at (f := f) (bd := bd) hk
  unfold tagB
  rw [hr]
  rfl
theorem be_big4 {v : Nat} (h : v < 4294967296) : be (bigB v 4) = v := by rw [be_bigB]; exact Nat.mod_eq_of_lt (by omega)
theorem file_num {n : Nat} {f : Nat → Nat × Nat} {bd : List Nat} {k d : Nat} {w : List Nat} (hk : k < n) (hd : d + 4 ≤ 16) (hw : ((recB (12 + 16 * n) k (f k).1 (f k).2).drop d).take 4 = w) :
    num (fileB n f bd) ((12 + 16 * k + d : Nat) : Int) 4 = some (be w) := by
  obtain ⟨r, hr⟩ := file_at (f := f) (bd := bd) hk
  rw [num_drop (by rw [file_len]; omega), ← List.drop_drop, hr, List.drop_append_of_le_length (by rw [recB_len]; omega), List.take_append_of_le_length (by rw [List.length_drop, recB_len]; omega), hw]
theorem file_off {n : Nat} {f : Nat → Nat × Nat} {bd : List Nat} {k : Nat} (hk : k < n) (h : 12 + 16 * n + (f k).1 < 4294967296) : offB (fileB n f bd) k = 12 + 16 * n + (f k).1 := by
  unfold offB
  rw [file_num (d := 8) (w := bigB (12 + 16 * n + (f k).1) 4) hk (by omega) ?_, Option.getD_some, be_big4 h]
  show ((bigB (12 + 16 * n + (f k).1) 4 ++ bigB (f k).2 4)).take 4 = _
  rw [List.take_append_of_le_length (by rw [bigB_len]; omega), List.take_of_length_le (by rw [bigB_len]; omega)]
theorem file_size {n : Nat} {f : Nat → Nat × Nat} {bd : List Nat} {k : Nat} (hk : k < n) (h : (f k).2 < 4294967296) : lenB (fileB n f bd) k = (f k).2 := by
  unfold lenB
  rw [file_num (d := 12) (w := bigB (f k).2 4) hk (by omega) ?_, Option.getD_some, be_big4 h]
  show ((bigB (12 + 16 * n + (f k).1) 4 ++ bigB (f k).2 4).drop 4).take 4 = _
  have h4 := bigB_len (12 + 16 * n + (f k).1) 4
  rw [List.drop_append_of_le_length (by omega), List.drop_of_length_le (by omega), List.nil_append, List.take_of_length_le (by rw [bigB_len]; omega)]
theorem file_cut {n : Nat} {f : Nat → Nat × Nat} {bd : List Nat} {a z : Nat} : cutB (fileB n f bd) ((12 + 16 * n + a : Nat) : Int) (z : Int) = (bd.drop a).take z := by
  unfold cutB fileB
  rw [Int.toNat_natCast, Int.toNat_natCast, ← List.append_assoc]
  have hl : (headB n ++ recsB (12 + 16 * n) f n).length = 12 + 16 * n := by rw [List.length_append, headB_len, recsB_len]
  rw [← List.drop_drop, drop_l hl]
/-- The tables, as they were laid. -/
def outL (f : Nat → Nat × Nat) (bd : List Nat) (n : Nat) : List (List Nat × List Nat) := (List.range n).map fun i => (tagI i, wantB f bd i)
theorem outL_succ {f : Nat → Nat × Nat} {bd : List Nat} {n : Nat} : outL f bd (n + 1) = outL f bd n ++ [(tagI n, wantB f bd n)] := by
  unfold outL
  rw [List.range_succ, List.map_append]
  rfl
theorem outL_len {f : Nat → Nat × Nat} {bd : List Nat} {n : Nat} : (outL f bd n).length = n := by simp [outL]
theorem outL_tags {f : Nat → Nat × Nat} {bd : List Nat} {n : Nat} : (outL f bd n).map (·.1) = (List.range n).map tagI := by simp [outL]
theorem tag_new {n : Nat} : ¬ tagI n ∈ (List.range n).map tagI := by
  intro h
  obtain ⟨i, hi, he⟩ := List.mem_map.1 h
  have hi := List.mem_range.1 hi
  have : 48 + i = 48 + n := by
    have h4 := congrArg (fun l : List Nat => l[3]?) he
    simpa [tagI] using h4
  omega
theorem tabs_file {n : Nat} {f : Nat → Nat × Nat} {bd : List Nat} (hb : bd.length < 4294900000) (hn : n ≤ 64) (hf : ∀ i, i < n → (f i).1 + (f i).2 ≤ bd.length) : ∀ (m k : Nat), k + m = n → tabs (fileB n f bd) m (outL f bd k) = .inr (outL f bd n)
  | 0, k, h => by have : k = n := by omega
                  subst this; rfl
  | m + 1, k, h => by
    have hk : k < n := by omega
    have h1 := hf k hk
    show (if tagB (fileB n f bd) (outL f bd k).length ∈ (outL f bd k).map (·.1) then _ else if thereB (fileB n f bd).length (offB (fileB n f bd) (outL f bd k).length) (lenB (fileB n f bd) (outL f bd k).length) = true then tabs (fileB n f bd) m (outL f bd k ++ [(tagB (fileB n f bd) (outL f bd k).length, cutB (fileB n f bd) (offB (fileB n f bd) (outL f bd k).length) (lenB (fileB n f bd) (outL f bd k).length))]) else _) = _
    rw [outL_len, outL_tags, file_tag hk, if_neg tag_new, file_off hk (by omega), file_size hk (by omega), if_pos (thereB_true.2 (by rw [file_len]; omega)), file_cut]
    have e : outL f bd k ++ [(tagI k, (bd.drop (f k).1).take (f k).2)] = outL f bd (k + 1) := outL_succ.symm
    rw [e]
    exact tabs_file hb hn hf m (k + 1) (by omega)
theorem font_file {n : Nat} {f : Nat → Nat × Nat} {bd : List Nat} (hb : bd.length < 4294900000) (hn : n ≤ 64) (hf : ∀ i, i < n → (f i).1 + (f i).2 ≤ bd.length) : fontS (fileB n f bd) = .inr (outL f bd n) := by
  unfold fontS
  rw [if_neg (by rw [file_len]; omega), if_neg (not_not_intro ?_), file_cnt (by omega), if_neg (by omega), if_neg (by rw [file_len]; omega)]
  · exact tabs_file hb hn hf n 0 (by omega)
  · show [0, 1, 0, 0] ∈ versL
    simp [versL]
theorem file_lt {n : Nat} {f : Nat → Nat × Nat} {bd : List Nat} (hn : n ≤ 64) (hb : ∀ b ∈ bd, b < 256) : ∀ b ∈ fileB n f bd, b < 256 := by
  have hr : ∀ m, m ≤ n → ∀ b ∈ recsB (12 + 16 * n) f m, b < 256 := by
    intro m
    induction m with
    | zero => intro _ b h; cases h
    | succ m ih =>
      intro hm b h
      rcases List.mem_append.1 h with h | h
      · exact ih (by omega) b h
      · unfold recB at h
        rcases List.mem_append.1 h with h | h
        · simp at h; omega
        · rcases List.mem_append.1 h with h | h <;> exact bigB_lt _ _ b h
  intro b h
  unfold fileB headB at h
  rcases List.mem_append.1 h with h | h
  · rcases List.mem_append.1 h with h | h
    · simp at h; omega
    · rcases List.mem_append.1 h with h | h
      · exact bigB_lt _ _ b h
      · simp at h; omega
  · rcases List.mem_append.1 h with h | h
    · exact hr n (Nat.le_refl _) b h
    · exact hb b h
end Go.Vabs.Sd

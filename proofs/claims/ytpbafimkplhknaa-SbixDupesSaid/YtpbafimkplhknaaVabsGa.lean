/-
  Rows of cells, each as long as the next: in lists, in memory.
-/
import Derived.Test.YtpbafimkplhknaaVabsZh
namespace Go.Vabs
set_option linter.unusedVariables false
set_option linter.unusedSimpArgs false
universe u
section
variable {α : Type u}
def encG (w : α → List V) : List α → List V
  | [] => []
  | a :: l => w a ++ encG w l
variable {w : α → List V} {k : Nat}
theorem encG_len (hk : ∀ a, (w a).length = k) : ∀ l : List α, (encG w l).length = l.length * k
  | [] => by simp [encG]
  | a :: l => by
    show (w a ++ encG w l).length = (l.length + 1) * k
    rw [List.length_append, hk, encG_len hk l, Nat.add_mul, Nat.one_mul, Nat.add_comm]
theorem encG_app : ∀ (l m : List α), encG w (l ++ m) = encG w l ++ encG w m
  | [], m => rfl
  | a :: l, m => by
    show w a ++ encG w (l ++ m) = (w a ++ encG w l) ++ encG w m
    rw [encG_app l m, List.append_assoc]
theorem encG_drop (hk : ∀ a, (w a).length = k) : ∀ (l : List α) (j : Nat), (encG w l).drop (j * k) = encG w (l.drop j)
  | [], j => by simp [encG]
  | a :: l, 0 => by simp
  | a :: l, j + 1 => by
    show (w a ++ encG w l).drop ((j + 1) * k) = encG w (l.drop j)
    rw [Nat.add_mul, Nat.one_mul, Nat.add_comm, List.drop_append, List.drop_eq_nil_of_le (by rw [hk]; omega), List.nil_append, hk, Nat.add_sub_cancel_left]
    exact encG_drop hk l j
theorem encG_take (hk : ∀ a, (w a).length = k) : ∀ (l : List α) (j : Nat), (encG w l).take (j * k) = encG w (l.take j)
  | [], j => by simp [encG]
  | a :: l, 0 => by simp [encG]
  | a :: l, j + 1 => by
    show (w a ++ encG w l).take ((j + 1) * k) = w a ++ encG w (l.take j)
    rw [Nat.add_mul, Nat.one_mul, Nat.add_comm, List.take_append, List.take_of_length_le (by rw [hk]; omega), hk, Nat.add_sub_cancel_left, encG_take hk l j]
theorem encG_cut (hk : ∀ a, (w a).length = k) {l : List α} {j : Nat} {a : α} (h : l[j]? = some a) : cut (j * k) k (encG w l) = some (w a) := by
  have hj := (List.getElem?_eq_some_iff.1 h).1
  have hl : j * k + k ≤ (encG w l).length := by
    rw [encG_len hk, ← Nat.succ_mul]
    exact Nat.mul_le_mul_right _ hj
  rw [cut_of hl, encG_drop hk]
  have e : l.drop j = a :: l.drop (j + 1) := by
    rw [List.drop_eq_getElem_cons hj]
    congr 1
    exact (List.getElem?_eq_some_iff.1 h).2
  rw [e]
  show some ((w a ++ encG w (l.drop (j + 1))).take k) = _
  rw [List.take_append_of_le_length (by rw [hk]; exact Nat.le_refl _), List.take_of_length_le (by rw [hk]; exact Nat.le_refl _)]
theorem encG_nth (hk : ∀ a, (w a).length = k) {l : List α} {j c : Nat} {a : α} (h : l[j]? = some a) (hc : c < k) : nth (j * k + c) (encG w l) = (w a)[c]? := by
  have hj := (List.getElem?_eq_some_iff.1 h).1
  have e : l.drop j = a :: l.drop (j + 1) := by
    rw [List.drop_eq_getElem_cons hj]
    congr 1
    exact (List.getElem?_eq_some_iff.1 h).2
  have h2 : (encG w l)[j * k + c]? = ((encG w l).drop (j * k))[c]? := (List.getElem?_drop ..).symm
  rw [nth_eq, h2, encG_drop hk, e]
  show (w a ++ encG w (l.drop (j + 1)))[c]? = _
  rw [List.getElem?_append_left (by rw [hk]; exact hc)]
section
variable {os : List (Option AObj)} {i : Nat} {own : Bool} {l : List α} {j : Nat} {a : α}
theorem load_row (hk : ∀ a, (w a).length = k) (h : (os[i]?).join = some (.cells own (encG w l))) (hs : l[j]? = some a) : loadV (few os) true k (.ptr (some (i, j * k))) = some (.agg (w a)) := by
  rw [load_fewC, cellsAt_eq, h]
  show (cut (j * k) k (encG w l)).map V.agg = _
  rw [encG_cut hk hs]
  rfl
theorem load_cell (hk : ∀ a, (w a).length = k) {c : Nat} (hc : c < k) (h : (os[i]?).join = some (.cells own (encG w l))) (hs : l[j]? = some a) : loadV (few os) false 1 (.ptr (some (i, j * k + c))) = (w a)[c]? := by
  rw [load_fewC, cellsAt_eq, h]
  show nth (j * k + c) (encG w l) = _
  exact encG_nth hk hs hc
end
end
end Go.Vabs

namespace Go.Vabs
set_option linter.unusedVariables false
set_option linter.unusedSimpArgs false
universe u
theorem joinLt {os : List (Option AObj)} {i : Nat} {o : AObj} (h : (os[i]?).join = some o) : i < os.length := by
  rcases Nat.lt_or_ge i os.length with h1 | h1
  · exact h1
  · rw [List.getElem?_eq_none h1] at h; cases h
theorem joinApp {os l : List (Option AObj)} {i : Nat} (h : i < os.length) : ((os ++ l)[i]?).join = (os[i]?).join := by rw [List.getElem?_append_left h]
theorem joinEnd {os : List (Option AObj)} {o : Option AObj} : ((os ++ [o])[os.length]?).join = o := by simp
section
variable {α : Type u} {w : α → List V} {k : Nat}
/-- Rows of one's own so far: none, or all of an object from place N on. -/
def OutG (w : α → List V) (k : Nat) (os : List (Option AObj)) (N : Nat) (v : V) (l : List α) : Prop := (l = [] ∧ v = .slice none 0 0 0 true) ∨ ∃ q, (N ≤ q ∧ l ≠ []) ∧ v = .slice (some (q, 0)) k l.length l.length false ∧ (os[q]?).join = some (.cells true (encG w l))
variable {os : List (Option AObj)} {N : Nat} {v : V} {l : List α}
theorem OutG.plain (h : OutG w k os N v l) : v.plain = true := by
  rcases h with ⟨_, rfl⟩ | ⟨q, _, rfl, _⟩ <;> rfl
theorem OutG.base (h : OutG w k os N v l) : v.base = true := by
  rcases h with ⟨_, rfl⟩ | ⟨q, _, rfl, _⟩ <;> rfl
theorem OutG.cells (h : OutG w k os N v l) : v.cells = some [v] := by
  rcases h with ⟨_, rfl⟩ | ⟨q, _, rfl, _⟩ <;> rfl
theorem OutG.lenV (h : OutG w k os N v l) (st : St) : lenV st .slice v = some (.int .i64 (l.length : Int)) := by
  rcases h with ⟨rfl, rfl⟩ | ⟨q, _, rfl, _⟩ <;> rfl
/-- Nothing that is written elsewhere matters. -/
theorem OutG.keep {os' : List (Option AObj)} (h : OutG w k os N v l) (he : ∀ i, i < os.length → N ≤ i → (os'[i]?).join = (os[i]?).join) : OutG w k os' N v l := by
  rcases h with h | ⟨q, h1, h2, h3⟩
  · exact .inl h
  · exact .inr ⟨q, h1, h2, by rw [he q (joinLt h3) h1.1]; exact h3⟩
theorem OutG.lower {M : Nat} (h : OutG w k os N v l) (hM : M ≤ N) : OutG w k os M v l := by
  rcases h with h | ⟨q, h1, h2, h3⟩
  · exact .inl h
  · exact .inr ⟨q, ⟨by omega, h1.2⟩, h2, h3⟩
theorem OutG.made (h : OutG w k os N v l) (hne : l ≠ []) : ∃ q, N ≤ q ∧ v = .slice (some (q, 0)) k l.length l.length false ∧ (os[q]?).join = some (.cells true (encG w l)) := by
  rcases h with ⟨h, _⟩ | ⟨q, h1, h2, h3⟩
  · exact absurd h hne
  · exact ⟨q, h1.1, h2, h3⟩
/-- All of it, as cells. -/
theorem OutG.first (hk : ∀ a, (w a).length = k) (h : OutG w k os N v l) : firstN (few os) k l.length v = some (encG w l) := by
  rcases h with ⟨rfl, rfl⟩ | ⟨q, h1, rfl, h3⟩
  · rfl
  · show sel (Nat.beq k k && Nat.ble l.length l.length) ((few os).loadN _ _ (l.length * k)) none = _
    rw [loadN_few h3 (by rw [encG_len hk]; omega), List.drop_zero, List.take_of_length_le (by rw [encG_len hk]; omega), Nat.beq_refl, ble_t (Nat.le_refl _)]
    rfl
/-- A row of it. -/
theorem OutG.row (hk : ∀ a, (w a).length = k) (h : OutG w k os N v l) {j : Nat} {a : α} (hj : l[j]? = some a) : ∃ q, N ≤ q ∧ q < os.length ∧ v = .slice (some (q, 0)) k l.length l.length false ∧ idxAddrV (.slice k) v (some j) = some (.ptr (some (q, j * k))) ∧
    loadV (few os) true k (.ptr (some (q, j * k))) = some (.agg (w a)) ∧ ∀ c, c < k → loadV (few os) false 1 (.ptr (some (q, j * k + c))) = (w a)[c]? := by
  have hlt := (List.getElem?_eq_some_iff.1 hj).1
  obtain ⟨q, h1, rfl, h3⟩ := h.made (by intro e; rw [e] at hlt; simp at hlt)
  refine ⟨q, h1, joinLt h3, rfl, ?_, load_row hk h3 hj, fun c hc => load_cell hk hc h3 hj⟩
  rw [idxAddr_slice hlt, Nat.zero_add]
/-- Rows joined to those. -/
theorem OutG.grow (hk : ∀ a, (w a).length = k) (h : OutG w k os N v l) {nb : List α} {bytes : Nat} (hN : N ≤ os.length) (hs : (2 * (l.length + nb.length) + 1024) * bytes ≤ 281474976710656) :
    ∃ v' os', appendV (few os) k bytes v (some nb.length) (some (encG w nb)) = some (v', few os') ∧ OutG w k os' N v' (l ++ nb) ∧ (∀ i, i < os.length → (∀ q o e n c f, v = .slice (some (q, o)) e n c f → i ≠ q) → (os'[i]?).join = (os[i]?).join) ∧ os.length ≤ os'.length := by
  rcases h with ⟨rfl, rfl⟩ | ⟨q, h1, rfl, h3⟩
  · cases nb with
    | nil => exact ⟨_, os, rfl, .inl ⟨rfl, rfl⟩, fun _ _ _ => rfl, Nat.le_refl _⟩
    | cons b nb =>
      refine ⟨_, os ++ [some (.cells true (encG w (b :: nb)))], ?_, .inr ⟨os.length, ⟨hN, by simp⟩, rfl, ?_⟩, fun i hi _ => joinApp hi, by simp⟩
      · show appendV (few os) k bytes (.slice none 0 0 0 true) (some (nb.length + 1)) (some (encG w (b :: nb))) = _
        rw [grow_none, if_pos ⟨by simpa using hs, by rw [encG_len hk]; rfl⟩]
        rfl
      · simp
  · cases nb with
    | nil =>
      refine ⟨_, os, rfl, .inr ⟨q, ⟨h1.1, by simpa using h1.2⟩, by simp, by rw [List.append_nil]; exact h3⟩, fun _ _ _ => rfl, Nat.le_refl _⟩
    | cons b nb =>
      have hlt := joinLt h3
      refine ⟨.slice (some (os.length, 0)) k (l.length + (nb.length + 1)) (l.length + (nb.length + 1)) false, os.set q none ++ [some (.cells true (encG w l ++ encG w (b :: nb)))], ?_, .inr ⟨os.length, ⟨hN, by simp⟩, by simp, ?_⟩, fun i hi hne => ?_, by simp⟩
      · show appendV (few os) k bytes (.slice (some (q, 0)) k l.length l.length false) (some (nb.length + 1)) _ = _
        rw [grow_some, ownAt_eq, h3]
        show growC os k bytes q l.length nb.length _ (some (encG w l)) = _
        rw [growC_some, if_pos ⟨by simpa [List.length_cons] using hs, by rw [encG_len hk]; rfl, by rw [encG_len hk]⟩]
      · rw [List.getElem?_append_right (by rw [List.length_set]; exact Nat.le_refl _), List.length_set, Nat.sub_self, encG_app]
        rfl
      · rw [List.getElem?_append_left (by rw [List.length_set]; exact hi), List.getElem?_set, if_neg (fun h => hne q 0 k l.length l.length false rfl h.symm)]
/- Whole objects -/
theorem splice_all : ∀ {zs cs : List V}, zs.length = cs.length → splice 0 cs zs = some cs := by
  intro zs cs h
  rw [splice_of (by omega)]
  simp [h]
theorem storeAll {os : List (Option AObj)} {i k : Nat} {zs cs : List V} (h : (os[i]?).join = some (.cells true zs)) (hz : zs.length = k) (hc : cs.length = k) : storeV (few os) k (.ptr (some (i, 0))) (some cs) = some (V.undef, few (os.set i (some (.cells true cs)))) := by
  rw [store_fewC, ownAt_eq, h]
  show storeC os k i 0 cs (some zs) = _
  rw [storeC_some, if_pos hc, splice_all (by omega)]
theorem set_end {os : List (Option AObj)} {o o' : Option AObj} : (os ++ [o]).set os.length o' = os ++ [o'] := by simp
theorem storeNew {os : List (Option AObj)} {k : Nat} {zs cs : List V} (hz : zs.length = k) (hc : cs.length = k) : storeV (few (os ++ [some (.cells true zs)])) k (.ptr (some (os.length, 0))) (some cs) = some (V.undef, few (os ++ [some (.cells true cs)])) := by
  rw [storeAll (zs := zs) joinEnd hz hc, set_end]
theorem loadAll {os : List (Option AObj)} {i k : Nat} {own : Bool} {cs : List V} (h : (os[i]?).join = some (.cells own cs)) (hc : cs.length = k) : loadV (few os) true k (.ptr (some (i, 0))) = some (.agg cs) := by
  rw [load_fewC, cellsAt_eq, h]
  show (cut 0 k cs).map V.agg = _
  rw [cut_of (by omega), List.drop_zero, List.take_of_length_le (by omega)]
  rfl
end
/-- Rows that a slice shows, whatever is new in memory. -/
structure RowAt {α : Type u} (w : α → List V) (k : Nat) (os : List (Option AObj)) (v : V) (l : List α) : Prop where
  len : lenOf v = some l.length
  lenV : ∀ st, lenV st .slice v = some (.int .i64 (l.length : Int))
  first : ∀ os' : List (Option AObj), (∀ i, i < os.length → (os'[i]?).join = (os[i]?).join) → firstN (few os') k l.length v = some (encG w l)
section
variable {α : Type u} {w : α → List V} {k : Nat} {os : List (Option AObj)} {v : V} {l : List α}
theorem RowAt.grow {os' : List (Option AObj)} (h : RowAt w k os v l) (he : ∀ i, i < os.length → (os'[i]?).join = (os[i]?).join) (hl : os.length ≤ os'.length) : RowAt w k os' v l :=
  ⟨h.len, h.lenV, fun os'' h2 => h.first os'' fun i hi => by rw [h2 i (by omega), he i hi]⟩
theorem RowAt.of (hk : ∀ a, (w a).length = k) {i j m c : Nat} {own f : Bool} (h : (os[i]?).join = some (.cells own (encG w l))) (hm : j + m ≤ l.length) : RowAt w k os (.slice (some (i, j * k)) k m c f) ((l.drop j).take m) := by
  have hl : ((l.drop j).take m).length = m := by rw [List.length_take, List.length_drop]; omega
  refine ⟨by rw [hl]; rfl, fun st => by rw [hl]; rfl, fun os' h2 => ?_⟩
  rw [hl]
  have h' := h
  rw [← h2 i (joinLt h)] at h'
  show sel (Nat.beq k k && Nat.ble m m) ((few os').loadN i (j * k) (m * k)) none = _
  have hb : j * k + m * k ≤ (encG w l).length := by rw [encG_len hk, ← Nat.add_mul]; exact Nat.mul_le_mul_right _ hm
  rw [loadN_few h' hb, Nat.beq_refl, ble_t (Nat.le_refl _), encG_drop hk, encG_take hk]
  rfl
/-- Rows that a slice shows, one by one, in whichever memory that has their object. -/
structure RowIn (w : α → List V) (k : Nat) (os : List (Option AObj)) (v : V) (l : List α) : Prop where
  lenV : ∀ st, lenV st .slice v = some (.int .i64 (l.length : Int))
  cells : v.cells = some [v]
  row : ∀ (j : Nat) (a : α), l[j]? = some a → ∃ q o, idxAddrV (.slice k) v (some j) = some (.ptr (some (q, o))) ∧ q < os.length ∧ ∀ os' : List (Option AObj), (os'[q]?).join = (os[q]?).join → loadV (few os') true k (.ptr (some (q, o))) = some (.agg (w a)) ∧ ∀ c, c < k → loadV (few os') false 1 (.ptr (some (q, o + c))) = (w a)[c]?
theorem RowIn.grow {os' : List (Option AObj)} (h : RowIn w k os v l) (he : ∀ i, i < os.length → (os'[i]?).join = (os[i]?).join) (hl : os.length ≤ os'.length) : RowIn w k os' v l :=
  ⟨h.lenV, h.cells, fun j a hj => by
    obtain ⟨q, o, h1, h2, h3⟩ := h.row j a hj
    exact ⟨q, o, h1, by omega, fun os'' h4 => h3 os'' (by rw [h4, he q h2])⟩⟩
end
end Go.Vabs

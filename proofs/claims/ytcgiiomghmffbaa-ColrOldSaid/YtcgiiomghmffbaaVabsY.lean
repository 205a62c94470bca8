/- Lemmas for this claim, text Y. No condition. -/
import Derived.Test.YtcgiiomghmffbaaVabsX
import Derived.Test.YtcgiiomghmffbaaVabsS
namespace Go.Vabs
set_option linter.unusedSimpArgs false
set_option linter.unusedVariables false
theorem bit_testBit (m j : Nat) : bit m j = m.testBit j := by
  unfold bit
  show Nat.beq ((m >>> j) &&& 1) 1 = m.testBit j
  rw [Nat.and_one_is_mod, Nat.testBit_eq_decide_div_mod_eq, Nat.shiftRight_eq_div_pow]
  cases h : decide (m / 2 ^ j % 2 = 1) with
  | true => rw [decide_eq_true_iff] at h; rw [h]; rfl
  | false =>
    rw [decide_eq_false_iff_not] at h
    cases hb : Nat.beq (m / 2 ^ j % 2) 1 with
    | true => rw [Nat.beq_eq] at hb; exact absurd hb h
    | false => rfl
theorem bit_lor (m n j : Nat) : bit (Nat.lor m n) j = (bit m j || bit n j) := by
  rw [bit_testBit, bit_testBit, bit_testBit]; exact Nat.testBit_or ..
theorem bit_zero (j : Nat) : bit 0 j = false := by rw [bit_testBit]; exact Nat.zero_testBit j
theorem bit_one (d j : Nat) : bit (Nat.shiftLeft 1 d) j = true → j = d := by
  rw [bit_testBit]
  show ((1 <<< d : Nat).testBit j = true) → _
  rw [Nat.testBit_shiftLeft]
  intro h
  simp only [Bool.and_eq_true, decide_eq_true_eq] at h
  obtain ⟨h1, h2⟩ := h
  by_cases hd : j - d = 0
  · omega
  · have : (1 : Nat).testBit (j - d) = false := by
      rw [Nat.testBit_eq_decide_div_mod_eq]
      have h3 : (1 : Nat) < 2 ^ (j - d) := Nat.one_lt_two_pow hd
      rw [Nat.div_eq_of_lt h3]; rfl
    rw [this] at h2; cases h2
theorem predBits_spec (acc : List Nat) (j : Nat) : ∀ (l : List Nat) (m : Nat), bit (predBits acc l m) j = true → bit m j = true ∨ ∃ d ∈ l, j = d ∨ bit ((acc[d]?).getD 0) j = true
  | [], m, h => .inl h
  | d :: l, m, h => by
    rcases predBits_spec acc j l _ h with h | ⟨e, he, h⟩
    · rw [bit_lor, bit_lor, Bool.or_eq_true, Bool.or_eq_true] at h
      rcases h with (h | h) | h
      · exact .inl h
      · exact .inr ⟨d, List.mem_cons_self .., .inl (bit_one _ _ h)⟩
      · exact .inr ⟨d, List.mem_cons_self .., .inr h⟩
    · exact .inr ⟨e, List.mem_cons_of_mem _ he, h⟩
def PredOK (ops : List Oper) (acc : List Nat) : Prop := ∀ k j : Nat, bit ((acc[k]?).getD 0) j = true → ∃ o : Oper, ops[k]? = some o ∧ ∃ e ∈ o.after, edgeOn e = true ∧ (j = e.on ∨ bit ((acc[e.on]?).getD 0) j = true)
theorem bit_append {acc r : List Nat} {k j : Nat} (h : bit ((acc[k]?).getD 0) j = true) : bit (((acc ++ r)[k]?).getD 0) j = true := by
  cases hk : acc[k]? with
  | none => rw [hk] at h; rw [show (none : Option Nat).getD 0 = 0 from rfl, bit_zero] at h; cases h
  | some m =>
    rw [List.getElem?_append_left (List.getElem?_eq_some_iff.1 hk).1]
    exact h
theorem predsGo_ok (full : List Oper) : ∀ (os done : List Oper) (acc : List Nat), full = done ++ os → acc.length = done.length → PredOK full acc → PredOK full (predsGo os acc)
  | [], done, acc, _, _, h => h
  | o :: os, done, acc, hf, hl, h => by
    refine predsGo_ok full os (done ++ [o]) _ (by rw [hf]; simp) (by simp [hl]) ?_
    intro k j hb
    by_cases hk : k < acc.length
    · rw [List.getElem?_append_left hk] at hb
      obtain ⟨o', h1, e, h2, h3, h4⟩ := h k j hb
      exact ⟨o', h1, e, h2, h3, h4.imp id bit_append⟩
    · by_cases hk2 : k = acc.length
      · subst hk2
        rw [List.getElem?_append_right (Nat.le_refl _), Nat.sub_self] at hb
        rcases predBits_spec _ _ _ _ hb with h0 | ⟨d, hd, h1⟩
        · rw [bit_zero] at h0; cases h0
        · rw [List.mem_map] at hd
          obtain ⟨e, he, rfl⟩ := hd
          rw [List.mem_filter] at he
          refine ⟨o, by rw [hf, hl, List.getElem?_append_right (Nat.le_refl _), Nat.sub_self]; rfl, e, Array.mem_toList_iff.1 he.1, he.2, h1.imp id bit_append⟩
      · rw [List.getElem?_eq_none (by simp; omega)] at hb
        rw [show (none : Option Nat).getD 0 = 0 from rfl, bit_zero] at hb; cases hb
theorem preds_ok (ops : List Oper) : PredOK ops (preds ops) := predsGo_ok ops ops [] [] rfl rfl fun k j h => by
  rw [show ((([] : List Nat)[k]?).getD 0) = 0 from rfl, bit_zero] at h; cases h
theorem pred_in {ops : List Oper} {pr : List Nat} {S : Nat → Bool} (hp : PredOK ops pr) (hback : ∀ (k : Nat) (o : Oper), ops[k]? = some o → ∀ e ∈ o.after, edgeOn e = true → e.on < k)
    (hS : ∀ (k : Nat) (o : Oper), S k = true → ops[k]? = some o → ∀ e ∈ o.after, edgeOn e = true → S e.on = true) : ∀ k, (∀ o, ops[k]? = some o → ∀ e ∈ o.after, edgeOn e = true → S e.on = true) → ∀ j, bit ((pr[k]?).getD 0) j = true → S j = true ∧ j < k := by
  intro k
  induction k using Nat.strongRecOn with
  | ind k ih =>
    intro hk j hj
    obtain ⟨o, h1, e, h2, h3, h4⟩ := hp k j hj
    have hlt := hback k o h1 e h2 h3
    have hin := hk o h1 e h2 h3
    rcases h4 with rfl | h4
    · exact ⟨hin, hlt⟩
    · obtain ⟨a, b⟩ := ih e.on hlt (fun o' ho' e' he' hb' => hS e.on o' hin ho' e' he' hb') j h4
      exact ⟨a, Nat.lt_trans b hlt⟩
section
variable {X Y : Type} {n : Nat} {t : Nat → X → Y} {W : Nat → X → Prop}
def Shown (n : Nat) (t : Nat → X → Y) (W : Nat → X → Prop) (S : Nat → Bool) (σ : X → Y) : Prop := ∀ x, ∃ m, m ≤ n ∧ σ x = t m x ∧ ∀ j, j < n → W j x → (S j = true ↔ j < m)
theorem quiet (hw : ∀ k, k < n → ∀ x, ¬ W k x → t (k + 1) x = t k x) {x : X} : ∀ d m, m + d ≤ n → (∀ j, m ≤ j → j < m + d → ¬ W j x) → t (m + d) x = t m x
  | 0, m, _, _ => rfl
  | d + 1, m, h, hn => by
    rw [show m + (d + 1) = (m + d) + 1 from rfl, hw (m + d) (by omega) x (hn _ (by omega) (by omega))]
    exact quiet hw d m (by omega) fun j h1 h2 => hn j h1 (by omega)
theorem quiet' (hw : ∀ k, k < n → ∀ x, ¬ W k x → t (k + 1) x = t k x) {x : X} {m m' : Nat} (h : m ≤ m') (hn : m' ≤ n) (hq : ∀ j, m ≤ j → j < m' → ¬ W j x) : t m' x = t m x := by
  obtain ⟨d, rfl⟩ := Nat.le.dest h
  exact quiet hw d m hn hq
theorem Shown.start {S : Nat → Bool} {σ : X → Y} (h : ∀ k, k < n → S k = false) (h0 : ∀ x, σ x = t 0 x) : Shown n t W S σ := fun x => ⟨0, Nat.zero_le _, h0 x, fun j hj _ => by
  rw [h j hj]; constructor
  · intro h; cases h
  · intro h; omega⟩
theorem Shown.sees (hw : ∀ k, k < n → ∀ x, ¬ W k x → t (k + 1) x = t k x) {S : Nat → Bool} {σ : X → Y} (h : Shown n t W S σ) {k : Nat} (hk : k < n) (hS : S k = false) {x : X} (hc : ∀ j, j < n → j ≠ k → W j x → (S j = true ↔ j < k)) : σ x = t k x := by
  obtain ⟨m, hm, e, hj⟩ := h x
  rw [e]
  by_cases hle : m ≤ k
  · refine (quiet' hw hle (Nat.le_of_lt hk) fun j h1 h2 hwj => ?_).symm
    have := (hj j (by omega) hwj).1 ((hc j (by omega) (by omega) hwj).2 h2)
    omega
  · refine quiet' hw (by omega) hm fun j h1 h2 hwj => ?_
    by_cases hjk : j = k
    · subst hjk
      have := (hj j (by omega) hwj).2 h2
      rw [hS] at this; cases this
    · have := (hc j (by omega) hjk hwj).1 ((hj j (by omega) hwj).2 h2)
      omega
theorem Shown.step (hw : ∀ k, k < n → ∀ x, ¬ W k x → t (k + 1) x = t k x) {S S' : Nat → Bool} {σ σ' : X → Y} (h : Shown n t W S σ) {k : Nat} (hk : k < n) (hS : S k = false) (hS' : ∀ j, S' j = true ↔ (S j = true ∨ j = k))
    (hc : ∀ x, W k x → ∀ j, j < n → j ≠ k → W j x → (S j = true ↔ j < k)) (h1 : ∀ x, W k x → σ' x = t (k + 1) x) (h2 : ∀ x, ¬ W k x → σ' x = σ x) : Shown n t W S' σ' := by
  intro x
  by_cases hx : W k x
  · refine ⟨k + 1, hk, h1 x hx, fun j hj hwj => ?_⟩
    rw [hS']
    by_cases hjk : j = k
    · subst hjk; exact ⟨fun _ => Nat.lt_succ_self _, fun _ => .inr rfl⟩
    · have := hc x hx j hj hjk hwj
      constructor
      · rintro (h | h)
        · have := this.1 h; omega
        · exact absurd h hjk
      · intro h; exact .inl (this.2 (by omega))
  · obtain ⟨m, hm, e, hj⟩ := h x
    refine ⟨m, hm, (h2 x hx).trans e, fun j hjn hwj => ?_⟩
    rw [hS']
    have hjk : j ≠ k := fun e => hx (e ▸ hwj)
    constructor
    · rintro (h | h)
      · exact (hj j hjn hwj).1 h
      · exact absurd h hjk
    · intro h; exact .inl ((hj j hjn hwj).2 h)
theorem Shown.done (hw : ∀ k, k < n → ∀ x, ¬ W k x → t (k + 1) x = t k x) {S : Nat → Bool} {σ : X → Y} (h : Shown n t W S σ) (hS : ∀ k, k < n → S k = true) (x : X) : σ x = t n x := by
  obtain ⟨m, hm, e, hj⟩ := h x
  rw [e]
  exact (quiet' hw hm (Nat.le_refl _) fun j h1 h2 hwj => by have := (hj j h2 hwj).1 (hS j h2); omega).symm
end
def Neat (s : St) : Prop := ∀ i, s.next ≤ i → s.get i = none
theorem Went.neat {s s' : St} (h : Went s s') (hn : Neat s) : Neat s' := fun i hi => h.none (by omega) (hn i (Nat.le_trans h.next hi))
theorem still_val {o : AOp} (hs : o.still = true) {ρ : Src → V} {s : St} {r : Res} {s' : St} (h : execOp o ρ s = some (r, s')) : ∃ v, r = .val v := by
  cases o with
  | mv x =>
    have h : ex_mv x ρ s = some (r, s') := h
    unfold ex_mv at h
    cases h
    exact ⟨_, rfl⟩
  | pick c x y =>
    have h : ex_pick c x y ρ s = some (r, s') := h
    unfold ex_pick at h
    repeat' split at h
    all_goals first | (cases h; exact ⟨_, rfl⟩) | (cases h; done)
  | build zs ps =>
    have h : ex_build zs ps ρ s = some (r, s') := h
    unfold ex_build at h
    repeat' split at h
    all_goals first | (cases h; exact ⟨_, rfl⟩) | (cases h; done)
  | nilchk x =>
    have h : ex_nilchk x ρ s = some (r, s') := h
    unfold ex_nilchk at h
    repeat' split at h
    all_goals first | (cases h; exact ⟨_, rfl⟩) | (cases h; done)
  | bin op k x y =>
    have h : ex_bin op k x y ρ s = some (r, s') := h
    unfold ex_bin at h
    repeat' split at h
    all_goals first | (cases h; exact ⟨_, rfl⟩) | (cases h; done)
  | un op x =>
    have h : ex_un op x ρ s = some (r, s') := h
    unfold ex_un at h
    repeat' split at h
    all_goals first | (cases h; exact ⟨_, rfl⟩) | (cases h; done)
  | conv c x =>
    have h : ex_conv c x ρ s = some (r, s') := h
    cases c with
    | int k =>
      unfold ex_conv at h
      split at h <;> first | (cases h; exact ⟨_, rfl⟩) | (cases h; done) | (rename_i hh _; cases hh)
    | str =>
      unfold ex_conv at h
      split at h <;> first | (rename_i hh _; cases hh; done) | (cases h; exact ⟨_, rfl⟩) | (cases h; done)
    | toBytes => cases hs
    | toStr => cases hs
    | same => cases hs
  | mkfn f a b =>
    have h : ex_mkfn f a b ρ s = some (r, s') := h
    unfold ex_mkfn at h
    obtain ⟨_, h⟩ := sel_some h
    cases h
    exact ⟨_, rfl⟩
  | slice k x a b c =>
    have h : ex_slice k x a b c ρ s = some (r, s') := h
    unfold ex_slice at h
    repeat' split at h
    all_goals first | (cases h; exact ⟨_, rfl⟩) | (cases h; done)
  | fieldAddr off x =>
    have h : ex_fieldAddr off x ρ s = some (r, s') := h
    unfold ex_fieldAddr at h
    repeat' split at h
    all_goals first | (cases h; exact ⟨_, rfl⟩) | (cases h; done)
  | field a n off x =>
    have h : ex_field a n off x ρ s = some (r, s') := h
    unfold ex_field at h
    repeat' split at h
    all_goals first | (cases h; exact ⟨_, rfl⟩) | (cases h; done)
  | idxAddr k x i =>
    have h : ex_idxAddr k x i ρ s = some (r, s') := h
    unfold ex_idxAddr at h
    repeat' split at h
    all_goals first | (cases h; exact ⟨_, rfl⟩) | (cases h; done) | (obtain ⟨_, h⟩ := sel_some h; first | (cases h; exact ⟨_, rfl⟩) | (cases h; done) | (split at h <;> first | (cases h; exact ⟨_, rfl⟩) | (cases h; done)))
  | index k x i =>
    have h : ex_index k x i ρ s = some (r, s') := h
    unfold ex_index at h
    repeat' split at h
    all_goals first | (cases h; exact ⟨_, rfl⟩) | (cases h; done) | (obtain ⟨_, h⟩ := sel_some h; first | (cases h; exact ⟨_, rfl⟩) | (cases h; done) | (split at h <;> first | (cases h; exact ⟨_, rfl⟩) | (cases h; done)))
  | extract x n =>
    have h : ex_extract x n ρ s = some (r, s') := h
    unfold ex_extract at h
    repeat' split at h
    all_goals first | (cases h; exact ⟨_, rfl⟩) | (cases h; done)
  | len k x =>
    have h : ex_len k x ρ s = some (r, s') := h
    unfold ex_len at h
    repeat' split at h
    all_goals first | (cases h; exact ⟨_, rfl⟩) | (cases h; done)
  | capOf x =>
    have h : ex_capOf x ρ s = some (r, s') := h
    unfold ex_capOf at h
    repeat' split at h
    all_goals first | (cases h; exact ⟨_, rfl⟩) | (cases h; done)
  | minmax m x xs =>
    have h : ex_minmax m x xs ρ s = some (r, s') := h
    unfold ex_minmax at h
    repeat' split at h
    all_goals first | (cases h; exact ⟨_, rfl⟩) | (cases h; done)
  | _ => cases hs
end Go.Vabs

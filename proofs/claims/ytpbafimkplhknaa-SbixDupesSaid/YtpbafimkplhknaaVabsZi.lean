/-
  Laws of whatever the arguments lead to: what is seen of a memory; the same memory, not to be written; answers with objects that lead to others.
-/
import Derived.Test.YtpbafimkplhknaaVabsZh
namespace Go.Vabs
set_option linter.unusedSimpArgs false
set_option linter.unusedVariables false

/- WHAT IS SEEN -/
mutual
/-- Leads to objects ahead of n alone. -/
def V.good (n : Nat) : V → Bool
  | .ptr (some (i, _)) => Nat.blt i n
  | .slice (some (i, _)) _ _ _ _ => Nat.blt i n
  | .map (some i) => Nat.blt i n
  | .func _ a b => goods n a && goods n b
  | .agg cs => goods n cs
  | .tuple cs => goods n cs
  | .yield _ => false
  | _ => true
def goods (n : Nat) : List V → Bool
  | [] => true
  | v :: l => v.good n && goods n l
end
theorem goods_mem {n : Nat} : ∀ {l : List V}, goods n l = true ↔ ∀ v ∈ l, v.good n = true
  | [] => by simp [goods]
  | v :: l => by simp [goods, goods_mem (l := l)]
mutual
theorem V.good_le {n m : Nat} (hnm : n ≤ m) : ∀ {v : V}, v.good n = true → v.good m = true
  | .ptr (some (i, _)), h => by simp only [V.good, Nat.blt_eq] at h ⊢; omega
  | .slice (some (i, _)) _ _ _ _, h => by simp only [V.good, Nat.blt_eq] at h ⊢; omega
  | .map (some i), h => by simp only [V.good, Nat.blt_eq] at h ⊢; omega
  | .func _ a b, h => by simp only [V.good, Bool.and_eq_true] at h ⊢; exact ⟨goods_le hnm h.1, goods_le hnm h.2⟩
  | .agg cs, h => by simp only [V.good] at h ⊢; exact goods_le hnm h
  | .tuple cs, h => by simp only [V.good] at h ⊢; exact goods_le hnm h
  | .bool _, _ => rfl
  | .int _ _, _ => rfl
  | .str _, _ => rfl
  | .ptr none, _ => rfl
  | .slice none _ _ _ _, _ => rfl
  | .map none, _ => rfl
  | .nilFunc, _ => rfl
  | .bad, _ => rfl
theorem goods_le {n m : Nat} (hnm : n ≤ m) : ∀ {l : List V}, goods n l = true → goods m l = true
  | [], _ => rfl
  | v :: l, h => by simp only [goods, Bool.and_eq_true] at h ⊢; exact ⟨V.good_le hnm h.1, goods_le hnm h.2⟩
end
theorem flat_good {n : Nat} {v : V} (h : v.flat = true) : v.good n = true := by
  cases v with
  | yield i => cases h
  | ptr a => cases a with | none => rfl | some p => cases h
  | slice a e n c f => cases a with | none => rfl | some p => cases h
  | map a => cases a with | none => rfl | some p => cases h
  | _ => first | rfl | cases h
theorem flats_good {n : Nat} {l : List V} (h : l.all V.flat = true) : goods n l = true :=
  goods_mem.2 fun v hv => flat_good (List.all_eq_true.1 h v hv)

noncomputable section
def entGood (n : Nat) (e : V × V × Nat) : Bool := e.1.good n && e.2.1.good n
def AObj.good (n : Nat) : AObj → Bool
  | .cells _ cs => goods n cs
  | .map _ es _ => es.all (entGood n)
def AObj.freeze : AObj → AObj
  | .cells _ cs => .cells false cs
  | .map _ es c => .map false es c
abbrev Sight := Nat → Option AObj
def seeO (n : Nat) : Option AObj → Option AObj
  | some o => if o.good n = true then some o.freeze else none
  | none => none
/-- What is seen of a memory: objects that lead nowhere else. -/
def St.look (st : St) : Sight := fun i => if i < st.next then seeO st.next (st.get i) else none
def frozen (st : St) : List (Option AObj) := (List.range st.next).map st.look
end

theorem freeze_good {n : Nat} {o : AObj} : o.freeze.good n = o.good n := by cases o <;> rfl
theorem freeze_freeze {o : AObj} : o.freeze.freeze = o.freeze := by cases o <;> rfl
theorem frozen_len {st : St} : (frozen st).length = st.next := by simp [frozen]
theorem frozen_at {st : St} {i : Nat} : ((frozen st)[i]?).join = st.look i := by
  unfold frozen
  rw [List.getElem?_map]
  by_cases h : i < st.next
  · rw [List.getElem?_range h]; rfl
  · rw [List.getElem?_eq_none (by simpa using h)]
    show none = st.look i
    unfold St.look
    rw [if_neg h]
theorem look_some {st : St} {i : Nat} {o : AObj} (h : st.look i = some o) : i < st.next ∧ ∃ o', st.get i = some o' ∧ o'.good st.next = true ∧ o = o'.freeze := by
  unfold St.look at h
  split at h
  · rename_i hi
    cases hg : st.get i with
    | none => rw [hg] at h; cases h
    | some o' =>
      rw [hg] at h
      have h : (if o'.good st.next = true then some o'.freeze else none) = some o := h
      split at h
      · rename_i hgd; cases h; exact ⟨hi, o', rfl, hgd, rfl⟩
      · cases h
  · cases h
theorem look_of {st : St} {i : Nat} {o : AObj} (hi : i < st.next) (h : st.get i = some o) (hg : o.good st.next = true) : st.look i = some o.freeze := by
  unfold St.look
  rw [if_pos hi, h]
  exact if_pos hg
/-- The frozen memory shows just what is seen. -/
theorem frozen_look {st : St} : (few (frozen st)).look = st.look := by
  funext i
  unfold St.look
  rw [few_next, frozen_len]
  by_cases hi : i < st.next
  · rw [if_pos hi, if_pos hi, few_get, frozen_at]
    show seeO st.next (st.look i) = _
    unfold St.look
    rw [if_pos hi]
    cases hg : st.get i with
    | none => rfl
    | some o =>
      show seeO st.next (if o.good st.next = true then some o.freeze else none) = (if o.good st.next = true then some o.freeze else none)
      by_cases h : o.good st.next = true
      · rw [if_pos h]
        show (if o.freeze.good st.next = true then some o.freeze.freeze else none) = _
        rw [freeze_good, if_pos h, freeze_freeze]
      · rw [if_neg h]; rfl
  · rw [if_neg hi, if_neg hi]

theorem look_ext {s s' g : St} (he : Ext s s' g) {i : Nat} {o : AObj} (h : s.look i = some o) : g.look i = some o := by
  obtain ⟨h1, o', h2, h3, rfl⟩ := look_some h
  exact look_of (by rw [he.next]; exact h1) (he.get i _ h2) (by rw [he.next]; exact h3)

/- THE SAME MEMORY, NOT TO BE WRITTEN -/
def wayId (n : Nat) : Way := fun k => if k < n then some (k, 0) else none
theorem via_id {n : Nat} {ι : Map} {k : Nat} (h : k < n) : via (wayId n) ι k = ι k := by
  have hw : wayId n k = some (k, 0) := if_pos h
  unfold via
  rw [hw]
  show (ι k).map (·.at 0) = ι k
  cases ι k with
  | none => rfl
  | some e => rfl

theorem good_R0 {n : Nat} {ι : Map} {v : V} {x : Value} (hg : v.good n = true) (h : R0 ι v x) : R0 (via (wayId n) ι) v x := by
  cases v with
  | yield i => cases hg
  | ptr a => cases a with
    | none => exact h
    | some p => obtain ⟨e, he, hv⟩ := h; exact ⟨e, by rw [via_id (by simpa [V.good] using hg)]; exact he, hv⟩
  | slice a e n' c f => cases a with
    | none => exact h
    | some p => obtain ⟨en, y, c', he, rest⟩ := h; exact ⟨en, y, c', by rw [via_id (by simpa [V.good] using hg)]; exact he, rest⟩
  | map a => cases a with
    | none => exact h
    | some i => obtain ⟨e, he, hv⟩ := h; exact ⟨e, by rw [via_id (by simpa [V.good] using hg)]; exact he, hv⟩
  | _ => exact h
theorem good_R0s {n : Nat} {ι : Map} : ∀ {vs : List V} {xs : List Value}, goods n vs = true → All2 (R0 ι) vs xs → All2 (R0 (via (wayId n) ι)) vs xs
  | [], [], _, _ => trivial
  | v :: vs, x :: xs, hg, ⟨h, hs⟩ => by simp only [goods, Bool.and_eq_true] at hg; exact ⟨good_R0 hg.1 h, good_R0s hg.2 hs⟩
theorem good_R1 {n : Nat} {ι : Map} {v : V} {x : Value} (hg : v.good n = true) (h : R1 ι v x) : R1 (via (wayId n) ι) v x := by
  cases v with
  | func f a b =>
    obtain ⟨a', b', hv, h1, h2⟩ := h
    simp only [V.good, Bool.and_eq_true] at hg
    exact ⟨a', b', hv, good_R0s hg.1 h1, good_R0s hg.2 h2⟩
  | _ => (dsimp only [R1] at h ⊢; exact good_R0 hg h)
theorem good_R1s {n : Nat} {ι : Map} : ∀ {vs : List V} {xs : List Value}, goods n vs = true → All2 (R1 ι) vs xs → All2 (R1 (via (wayId n) ι)) vs xs
  | [], [], _, _ => trivial
  | v :: vs, x :: xs, hg, ⟨h, hs⟩ => by simp only [goods, Bool.and_eq_true] at hg; exact ⟨good_R1 hg.1 h, good_R1s hg.2 hs⟩
theorem good_R2 {n : Nat} {ι : Map} {v : V} {x : Value} (hg : v.good n = true) (h : R2 ι v x) : R2 (via (wayId n) ι) v x := by
  cases v with
  | agg cs => obtain ⟨cs', hv, h1⟩ := h; exact ⟨cs', hv, good_R1s (by simpa [V.good] using hg) h1⟩
  | _ => (dsimp only [R2] at h ⊢; exact good_R1 hg h)
theorem good_R2s {n : Nat} {ι : Map} : ∀ {vs : List V} {xs : List Value}, goods n vs = true → All2 (R2 ι) vs xs → All2 (R2 (via (wayId n) ι)) vs xs
  | [], [], _, _ => trivial
  | v :: vs, x :: xs, hg, ⟨h, hs⟩ => by simp only [goods, Bool.and_eq_true] at hg; exact ⟨good_R2 hg.1 h, good_R2s hg.2 hs⟩
theorem good_R {n : Nat} {ι : Map} {v : V} {x : Value} (hg : v.good n = true) (h : R ι v x) : R (via (wayId n) ι) v x := by
  cases v with
  | tuple cs => obtain ⟨cs', hv, h1⟩ := h; exact ⟨cs', hv, good_R2s (by simpa [V.good] using hg) h1⟩
  | bad => trivial
  | _ => (dsimp only [R] at h ⊢; exact good_R2 hg h)

theorem good_args {n : Nat} : ∀ {args : List V}, goods n args = true → All2 (fun a0 a => ∀ ι x, R ι a x → R (via (wayId n) ι) a0 x) args args
  | [], _ => trivial
  | v :: l, h => by simp only [goods, Bool.and_eq_true] at h; exact ⟨fun ι x hx => good_R h.1 hx, good_args h.2⟩
theorem good_ents {n : Nat} : ∀ {es : List (V × V × Nat)}, es.all (entGood n) = true → All2 (fun (y0 y : V × V × Nat) => (∀ ι x, R0 ι y.1 x → R0 (via (wayId n) ι) y0.1 x) ∧ (∀ ι x, R2 ι y.2.1 x → R2 (via (wayId n) ι) y0.2.1 x) ∧ y0.2.2 = y.2.2) es es
  | [], _ => trivial
  | e :: l, h => by
    simp only [List.all_cons, Bool.and_eq_true, entGood] at h
    exact ⟨⟨fun ι x hx => good_R0 h.1.1 hx, fun ι x hx => good_R2 h.1.2 hx, rfl⟩, good_ents (by simpa [entGood] using h.2)⟩

theorem seen_frozen {st : St} {args : List V} (h : goods st.next args = true) : Seen (wayId st.next) args st args (few (frozen st)) := by
  refine ⟨good_args h, fun k o hk => ?_, fun k hk => ?_, few_neat _⟩
  · rw [few_heap, frozen_at] at hk
    obtain ⟨h1, o', h2, h3, rfl⟩ := look_some hk
    refine ⟨k, 0, by unfold wayId; rw [if_pos h1], ?_⟩
    rw [h2]
    cases o' with
    | cells own cs =>
      show ∀ p v, cs[p]? = some v → ∃ u, cs[0 + p]? = some u ∧ ∀ ι x, R1 ι u x → R1 (via (wayId st.next) ι) v x
      exact fun p v hv => ⟨v, by rw [Nat.zero_add]; exact hv, fun ι x hx => good_R1 (goods_mem.1 h3 v (List.mem_of_getElem? hv)) hx⟩
    | map own es c => exact ⟨rfl, rfl, good_ents h3⟩
  · rw [few_next, frozen_len] at hk
    unfold wayId
    rw [if_neg (by omega)]

/- ANSWERS THAT LEAD TO OTHERS -/
/-- m: which object stands for which. -/
def Ren0 (m : Nat → Nat → Prop) : V → V → Prop
  | .ptr (some (i, o)), .ptr (some (j, o')) => m i j ∧ o = o'
  | .slice (some (i, o)) e n c f, .slice (some (j, o')) e' n' c' f' => m i j ∧ o = o' ∧ e = e' ∧ n = n' ∧ n ≤ c' ∧ c' ≤ c ∧ (f' = true → f = true ∧ c' = c)
  | .map (some i), .map (some j) => m i j
  | u, v => u = v ∧ v.flat = true
def Ren1 (m : Nat → Nat → Prop) : V → V → Prop
  | .agg l, .agg l' => All2 (Ren0 m) l l'
  | u, v => Ren0 m u v
def Ren (m : Nat → Nat → Prop) : V → V → Prop
  | .tuple l, .tuple l' => All2 (Ren1 m) l l'
  | u, v => Ren1 m u v

section
variable {m : Nat → Nat → Prop} {ι1 ι2 : Map} (hm : ∀ i j e, m i j → ι1 i = some e → ι2 j = some e)
include hm
theorem Ren0.R0 {u v : V} {x : Value} (h : Ren0 m u v) (hr : R0 ι1 u x) : Vabs.R0 ι2 v x := by
  have other : ∀ {u v : V}, u = v ∧ v.flat = true → Vabs.R0 ι1 u x → Vabs.R0 ι2 v x := by
    rintro u v ⟨rfl, hf⟩ hr
    cases u with
    | yield i => cases hf
    | ptr a => cases a with | none => exact hr | some p => cases hf
    | slice a e n c f => cases a with | none => exact hr | some p => cases hf
    | map a => cases a with | none => exact hr | some p => cases hf
    | _ => exact hr
  unfold Ren0 at h
  split at h
  · obtain ⟨h, rfl⟩ := h
    obtain ⟨e, he, hv⟩ := hr
    exact ⟨e, hm _ _ _ h he, hv⟩
  · obtain ⟨h, rfl, rfl, rfl, h1, h2, h3⟩ := h
    obtain ⟨en, y, c', he, k1, k2, k3, k4, k5⟩ := hr
    exact ⟨en, y, c', hm _ _ _ h he, k1, h1, by omega, fun hf => by rw [(h3 hf).2]; exact k4 (h3 hf).1, k5⟩
  · obtain ⟨e, he, hv⟩ := hr
    exact ⟨e, hm _ _ _ h he, hv⟩
  · exact other h hr
theorem Ren0.R1 {u v : V} {x : Value} (h : Ren0 m u v) (hr : R1 ι1 u x) : Vabs.R1 ι2 v x := by
  cases u with
  | func f a b => 
    have h : V.func f a b = v ∧ v.flat = true := by unfold Ren0 at h; split at h <;> first | exact h | (rename_i hh; cases hh) | (rename_i hh _; cases hh)
    obtain ⟨rfl, hf⟩ := h
    exact flat_R1 hf hr
  | _ => dsimp only [Vabs.R1] at hr; exact (Ren0.R0 hm h hr).up1
theorem Ren0.R2 {u v : V} {x : Value} (h : Ren0 m u v) (hr : R2 ι1 u x) : Vabs.R2 ι2 v x := by
  cases u with
  | agg cs =>
    have h : V.agg cs = v ∧ v.flat = true := by unfold Ren0 at h; split at h <;> first | exact h | (rename_i hh; cases hh) | (rename_i hh _; cases hh)
    obtain ⟨rfl, hf⟩ := h
    exact flat_R2 hf hr
  | _ => dsimp only [Vabs.R2] at hr; exact (Ren0.R1 hm h hr).up2
theorem Ren0.R1s : ∀ {us vs : List V} {xs : List Value}, All2 (Ren0 m) us vs → All2 (Vabs.R1 ι1) us xs → All2 (Vabs.R1 ι2) vs xs
  | [], [], [], _, _ => trivial
  | _ :: _, _ :: _, _ :: _, ⟨h, hs⟩, ⟨k, ks⟩ => ⟨Ren0.R1 hm h k, Ren0.R1s hs ks⟩
  | [], _ :: _, _, h, _ => h.elim
  | _ :: _, [], _, h, _ => h.elim
  | [], [], _ :: _, _, h => h.elim
  | _ :: _, _ :: _, [], _, h => h.elim
theorem Ren1.R2 {u v : V} {x : Value} (h : Ren1 m u v) (hr : R2 ι1 u x) : Vabs.R2 ι2 v x := by
  unfold Ren1 at h
  split at h
  · obtain ⟨cs', hv, h1⟩ := hr
    exact ⟨cs', hv, Ren0.R1s hm h h1⟩
  · exact Ren0.R2 hm h hr
theorem Ren1.R2s : ∀ {us vs : List V} {xs : List Value}, All2 (Ren1 m) us vs → All2 (Vabs.R2 ι1) us xs → All2 (Vabs.R2 ι2) vs xs
  | [], [], [], _, _ => trivial
  | _ :: _, _ :: _, _ :: _, ⟨h, hs⟩, ⟨k, ks⟩ => ⟨Ren1.R2 hm h k, Ren1.R2s hs ks⟩
  | [], _ :: _, _, h, _ => h.elim
  | _ :: _, [], _, h, _ => h.elim
  | [], [], _ :: _, _, h => h.elim
  | _ :: _, _ :: _, [], _, h => h.elim
theorem Ren.R {u v : V} {x : Value} (hb : u ≠ .bad) (h : Ren m u v) (hr : R ι1 u x) : Vabs.R ι2 v x := by
  unfold Ren at h
  split at h
  · obtain ⟨cs', hv, h1⟩ := hr
    exact ⟨cs', hv, Ren1.R2s hm h h1⟩
  · rename_i h1
    cases u with
    | bad => exact absurd rfl hb
    | tuple cs =>
      exfalso
      unfold Ren1 at h
      split at h
      · rename_i hh; cases hh
      · unfold Ren0 at h
        split at h
        · rename_i he _; cases he
        · rename_i he _; cases he
        · rename_i he _; cases he
        · exact h1 _ _ rfl h.1.symm
    | _ => dsimp only [Vabs.R] at hr; exact (Ren1.R2 hm h hr).up
end

/-- An object that was left, and what stands for it. -/
def RenO (m : Nat → Nat → Prop) : AObj → AObj → Prop
  | .cells true cs, .cells true cs' => cs'.length ≤ cs.length ∧ ∀ (k : Nat) (v : V), cs'[k]? = some v → ∃ u, cs[k]? = some u ∧ Ren0 m u v
  | .map true es c, .map true es' c' => c = c' ∧ All2 (fun (y y' : V × V × Nat) => Ren0 m y.1 y'.1 ∧ Ren1 m y.2.1 y'.2.1 ∧ y.2.2 = y'.2.2) es es'
  | _, _ => False

theorem RenO.OR {m : Nat → Nat → Prop} {ι1 ι2 : Map} (hm : ∀ i j e, m i j → ι1 i = some e → ι2 j = some e) {o0 o : AObj} (h : RenO m o0 o) {B B' : Nat} (hB : B ≤ B') {w : World} {e : Entry} (ho : OR ι1 B' w e o0) : OR ι2 B w e o := by
  unfold RenO at h
  split at h
  · obtain ⟨h1, h2⟩ := h
    obtain ⟨k1, arr, ty, fz, k2, k3, k4, k5, k6⟩ := ho
    refine ⟨Nat.le_trans hB k1, arr, ty, fz, k2, k3, by omega, k5, fun k v hv => ?_⟩
    obtain ⟨u, hu, hr⟩ := h2 k v hv
    obtain ⟨v', hv', hR⟩ := k6 k u hu
    exact ⟨v', hv', Ren0.R1 hm hr hR⟩
  · obtain ⟨rfl, h2⟩ := h
    obtain ⟨k1, arr, k2, k3⟩ := ho
    have conv : ∀ {es es' : List (V × V × Nat)} {l : List MapEntry}, All2 (fun (y y' : V × V × Nat) => Ren0 m y.1 y'.1 ∧ Ren1 m y.2.1 y'.2.1 ∧ y.2.2 = y'.2.2) es es' → All2 (fun (x : V × V × Nat) (y : MapEntry) => R0 ι1 x.1 y.key ∧ R2 ι1 x.2.1 y.val ∧ x.2.2 = y.born) es l →
        All2 (fun (x : V × V × Nat) (y : MapEntry) => R0 ι2 x.1 y.key ∧ R2 ι2 x.2.1 y.val ∧ x.2.2 = y.born) es' l := by
      intro es
      induction es with
      | nil =>
        intro es' l h h'
        cases es' with
        | nil =>
          cases l with
          | nil => trivial
          | cons _ _ => exact h'.elim
        | cons _ _ => exact h.elim
      | cons a es ih =>
        intro es' l h h'
        cases es' with
        | nil => exact h.elim
        | cons b es' => cases l with
          | nil => exact h'.elim
          | cons y l => exact ⟨⟨Ren0.R0 hm h.1.1 h'.1.1, Ren1.R2 hm h.1.2.1 h'.1.2.1, by rw [← h.1.2.2]; exact h'.1.2.2⟩, ih h.2 h'.2⟩
    exact ⟨Nat.le_trans hB k1, arr, k2, conv h2 k3⟩
  · exact h.elim

/-- An elder object stands for itself; of the new ones σ's j-th for the j-th of the answer. -/
def ren (n : Nat) (σ : List Nat) (i j : Nat) : Prop := (i < n ∧ j = i) ∨ ∃ p, σ[p]? = some i ∧ j = n + p

theorem ren_outs {n : Nat} {σ : List Nat} {ι1 ι2 : Map} (h : Outs (wayId n) n σ ι1 ι2) : ∀ i j e, ren n σ i j → ι1 i = some e → ι2 j = some e := by
  intro i j e hr he
  rcases hr with ⟨hi, rfl⟩ | ⟨p, hp, rfl⟩
  · obtain ⟨e', h1, h2⟩ := h.1 j j 0 e (by unfold wayId; rw [if_pos hi]) he
    rw [h1, h2]
    rfl
  · rw [h.2 p i hp]; exact he

theorem Left.ren {n : Nat} {s0 s1 : St} {v0 v : V} {os : List AObj} {σ : List Nat} (hv : v0 ≠ .bad) (hr : Ren (ren n σ) v0 v) (hlen : σ.length = os.length)
    (hobj : ∀ (j k : Nat) (o : AObj), σ[j]? = some k → os[j]? = some o → s0.next ≤ k ∧ ∃ o0, s1.heap.get k = some o0 ∧ RenO (Vabs.ren n σ) o0 o)
    (hinj : ∀ j j' k : Nat, σ[j]? = some k → σ[j']? = some k → j = j') : Left (wayId n) n s0 s1 v0 os σ v := by
  refine ⟨fun ι1 ι2 x ho hx => Ren.R (ren_outs ho) hv hr hx, hlen, fun j k o h1 h2 => ?_, hinj⟩
  obtain ⟨k1, o0, k2, k3⟩ := hobj j k o h1 h2
  refine ⟨k1, o0, k2, ?_, fun ι1 ι2 B B' w e hB ho hx => RenO.OR (ren_outs ho) k3 hB hx⟩
  unfold RenO at k3
  split at k3
  · rfl
  · rfl
  · exact k3.elim

/- LAWS OF WHAT IS SEEN -/
/-- Sees more, answers the same. -/
def Mono (spec : Sight → List V → Option Ans) : Prop := ∀ l l' args a, (∀ i o, l i = some o → l' i = some o) → spec l args = some a → spec l' args = some a
end Go.Vabs

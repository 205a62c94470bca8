/- Lemmas for this claim, text Q. No condition. -/
import Derived.Test.YtcgiiomghmffbaaVabsC
import Derived.Test.YtcgiiomghmffbaaVabsN
namespace Go.Vabs
set_option linter.unusedSimpArgs false
set_option linter.unusedVariables false
structure Went (s s' : St) : Prop where
  next : s.next ≤ s'.next
  vis : s'.vis = s.vis
  wr : s'.wr = s.wr
  heap : ∀ i, s'.heap.get i ≠ s.heap.get i → (s.next ≤ i ∧ i < s'.next) ∨ (s.vis i = true ∧ s.wr i = true ∧ (s.heap.get i).isSome = true)
  seen : ∀ i, s.next ≤ i → i < s'.next → s.vis i = true ∧ s.wr i = true
structure Ext (s s' g : St) : Prop where
  next : g.next = s.next
  get : ∀ i x, s.get i = some x → g.get i = some x
  wr : ∀ i, s.vis i = true → s.wr i = true → g.wr i = true
  seen : ∀ i, s.next ≤ i → i < s'.next → g.vis i = true ∧ g.wr i = true
structure Over (s s' g g' : St) : Prop where
  next : g'.next = s'.next
  vis : g'.vis = g.vis
  wr : g'.wr = g.wr
  here : ∀ i, (s.next ≤ i ∧ i < s'.next) ∨ (s.get i).isSome = true → g'.heap.get i = s'.heap.get i
  there : ∀ i, ¬ ((s.next ≤ i ∧ i < s'.next) ∨ (s.get i).isSome = true) → g'.heap.get i = g.heap.get i
def Framed {α : Type} (m : St → Option (α × St)) : Prop := ∀ s r s', m s = some (r, s') → Went s s' ∧ ∀ g, Ext s s' g → ∃ g', m g = some (r, g') ∧ Over s s' g g'
theorem Went.refl (s : St) : Went s s := ⟨Nat.le_refl _, rfl, rfl, fun i h => absurd rfl h, fun i h1 h2 => by omega⟩
theorem Over.refl (s g : St) (h : Ext s s g) : Over s s g g := ⟨h.next, rfl, rfl, fun i hi => by
  rcases hi with hi | hi
  · omega
  · rw [Option.isSome_iff_exists] at hi
    obtain ⟨x, hx⟩ := hi
    rw [St.get_heap hx, St.get_heap (h.get i x hx)], fun i _ => rfl⟩
theorem get_vis {s : St} {i : Nat} {x : AObj} (h : s.get i = some x) : s.vis i = true := by
  rw [St.get_eq] at h
  by_cases hv : s.vis i = true
  · exact hv
  · rw [if_neg hv] at h; cases h
theorem get_of {s : St} {i : Nat} (hv : s.vis i = true) : s.get i = s.heap.get i := by rw [St.get_eq, if_pos hv]
theorem get_none {s : St} {i : Nat} (hv : ¬ s.vis i = true) : s.get i = none := by rw [St.get_eq, if_neg hv]
theorem Went.trans {s s1 s2 : St} (h : Went s s1) (k : Went s1 s2) : Went s s2 := by
  refine ⟨Nat.le_trans h.next k.next, k.vis.trans h.vis, k.wr.trans h.wr, ?_, ?_⟩
  · intro i hi
    by_cases h1 : s1.heap.get i = s.heap.get i
    · have : s2.heap.get i ≠ s1.heap.get i := fun e => hi (e.trans h1)
      rcases k.heap i this with ⟨a, b⟩ | ⟨a, b, c⟩
      · exact .inl ⟨Nat.le_trans h.next a, b⟩
      · exact .inr ⟨by rw [← h.vis]; exact a, by rw [← h.wr]; exact b, by rw [← h1]; exact c⟩
    · rcases h.heap i h1 with ⟨a, b⟩ | c
      · exact .inl ⟨a, Nat.lt_of_lt_of_le b k.next⟩
      · exact .inr c
  · intro i h1 h2
    by_cases h3 : i < s1.next
    · exact h.seen i h1 h3
    · have := k.seen i (by omega) h2
      rw [h.vis, h.wr] at this
      exact this
theorem Went.none {s s1 : St} (h : Went s s1) {i : Nat} (hw : ¬ (s.next ≤ i ∧ i < s1.next)) (hn : s.get i = none) : s1.get i = none := by
  by_cases hv : s.vis i = true
  · rw [get_of hv] at hn
    rw [get_of (by rw [h.vis]; exact hv)]
    by_cases he : s1.heap.get i = s.heap.get i
    · rw [he, hn]
    · rcases h.heap i he with a | ⟨_, _, c⟩
      · exact absurd a hw
      · rw [hn] at c; cases c
  · exact get_none (by rw [h.vis]; exact hv)
theorem Ext.left {s s1 s2 g : St} (he : Ext s s2 g) (k : Went s1 s2) : Ext s s1 g := ⟨he.next, he.get, he.wr, fun i h1 h2 => he.seen i h1 (Nat.lt_of_lt_of_le h2 k.next)⟩
theorem Ext.step {s s1 s2 g g1 : St} (h : Went s s1) (k : Went s1 s2) (he : Ext s s2 g) (ho : Over s s1 g g1) : Ext s1 s2 g1 := by
  refine ⟨ho.next, ?_, ?_, ?_⟩
  · intro i x hx
    have hc : (s.next ≤ i ∧ i < s1.next) ∨ (s.get i).isSome = true := by
      by_cases hw : s.next ≤ i ∧ i < s1.next
      · exact .inl hw
      · right
        cases hg : s.get i with
        | none => rw [h.none hw hg] at hx; cases hx
        | some y => rfl
    have hv : g.vis i = true := by
      rcases hc with ⟨a, b⟩ | c
      · exact (he.seen i a (Nat.lt_of_lt_of_le b k.next)).1
      · rw [Option.isSome_iff_exists] at c
        obtain ⟨y, hy⟩ := c
        exact get_vis (he.get i y hy)
    rw [get_of (by rw [ho.vis]; exact hv), ho.here i hc]
    exact St.get_heap hx
  · intro i h1 h2
    rw [h.vis] at h1; rw [h.wr] at h2
    rw [ho.wr]; exact he.wr i h1 h2
  · intro i h1 h2
    rw [ho.vis, ho.wr]
    exact he.seen i (Nat.le_trans h.next h1) h2
theorem Over.trans {s s1 s2 g g1 g2 : St} (h : Went s s1) (k : Went s1 s2) (o1 : Over s s1 g g1) (o2 : Over s1 s2 g1 g2) : Over s s2 g g2 := by
  have quiet : ∀ i, ¬ (s1.next ≤ i ∧ i < s2.next) → s.vis i = true → s1.get i = none → s2.heap.get i = s1.heap.get i := by
    intro i hw hv hn
    by_cases he : s2.heap.get i = s1.heap.get i
    · exact he
    · rcases k.heap i he with a | ⟨a, _, c⟩
      · exact absurd a hw
      · rw [get_of a] at hn; rw [hn] at c; cases c
  refine ⟨o2.next, o2.vis.trans o1.vis, o2.wr.trans o1.wr, ?_, ?_⟩
  · intro i hi
    by_cases h2 : (s1.next ≤ i ∧ i < s2.next) ∨ (s1.get i).isSome = true
    · exact o2.here i h2
    · rw [o2.there i h2]
      have hw : ¬ (s1.next ≤ i ∧ i < s2.next) := fun e => h2 (.inl e)
      have hn : s1.get i = none := by
        cases hg : s1.get i with
        | none => rfl
        | some y => exact absurd (.inr (by rw [hg]; rfl)) h2
      have hc : (s.next ≤ i ∧ i < s1.next) ∨ (s.get i).isSome = true := by
        rcases hi with ⟨a, b⟩ | c
        · left
          have := h.next
          have := k.next
          omega
        · exact .inr c
      have hv : s.vis i = true := by
        rcases hc with ⟨a, b⟩ | c
        · exact (h.seen i a b).1
        · rw [Option.isSome_iff_exists] at c
          obtain ⟨y, hy⟩ := c
          exact get_vis hy
      rw [o1.here i hc, quiet i hw hv hn]
  · intro i hi
    have hw1 : ¬ ((s.next ≤ i ∧ i < s1.next) ∨ (s.get i).isSome = true) := by
      rintro (⟨a, b⟩ | c)
      · exact hi (.inl ⟨a, Nat.lt_of_lt_of_le b k.next⟩)
      · exact hi (.inr c)
    have hn : s1.get i = none := h.none (fun e => hw1 (.inl e)) (by
      cases hg : s.get i with
      | none => rfl
      | some y => exact absurd (.inr (by rw [hg]; rfl)) hw1)
    rw [o2.there i, o1.there i hw1]
    rintro (⟨a, b⟩ | c)
    · exact hi (.inl ⟨Nat.le_trans h.next a, b⟩)
    · rw [hn] at c; cases c
theorem alloc_framed (o : AObj) : Framed (fun s => s.alloc o) := by
  intro s j s' h
  obtain ⟨h1, h2, rfl, rfl⟩ := St.alloc_some h
  refine ⟨⟨Nat.le_succ _, rfl, rfl, ?_, ?_⟩, ?_⟩
  · intro i hi
    left
    rw [T.get_set] at hi
    by_cases e : i = s.next
    · subst e; exact ⟨Nat.le_refl _, Nat.lt_succ_self _⟩
    · rw [if_neg e] at hi; exact absurd rfl hi
  · intro i a b
    have : i = s.next := by simp only at b; omega
    subst this; exact ⟨h1, h2⟩
  · intro g he
    obtain ⟨g1, g2⟩ := he.seen s.next (Nat.le_refl _) (Nat.lt_succ_self _)
    refine ⟨{ next := g.next + 1, heap := g.heap.set g.next (some o), vis := g.vis, wr := g.wr }, ?_, ?_⟩
    · cases g with | mk gn gh gv gw =>
      have hn : gn = s.next := he.next
      subst hn
      show sel (gv s.next && gw s.next) _ none = _
      have g1 : gv s.next = true := g1
      have g2 : gw s.next = true := g2
      rw [g1, g2]
      rfl
    · have hn := he.next
      refine ⟨by simp only [hn], rfl, rfl, ?_, ?_⟩
      · intro i hi
        show T.get (g.heap.set g.next (some o)) i = T.get (s.heap.set s.next (some o)) i
        rw [T.get_set, T.get_set, hn]
        by_cases e : i = s.next
        · rw [if_pos e, if_pos e]
        · rw [if_neg e, if_neg e]
          rcases hi with ⟨a, b⟩ | c
          · simp only at b; omega
          · rw [Option.isSome_iff_exists] at c
            obtain ⟨y, hy⟩ := c
            rw [St.get_heap hy, St.get_heap (he.get i y hy)]
      · intro i hi
        show T.get (g.heap.set g.next (some o)) i = g.heap.get i
        rw [T.get_set, hn, if_neg]
        intro e
        subst e
        exact hi (.inl ⟨Nat.le_refl _, Nat.lt_succ_self _⟩)
theorem set_framed (i : Nat) (o : Option AObj) : ∀ s s', s.set i o = some s' → Went s s' ∧ ∀ g, Ext s s' g → ∃ g', g.set i o = some g' ∧ Over s s' g g' := by
  intro s s' h
  obtain ⟨h1, h2, ⟨x, hx⟩, rfl⟩ := St.set_some h
  refine ⟨⟨Nat.le_refl _, rfl, rfl, ?_, fun k a b => by simp only at b; omega⟩, ?_⟩
  · intro k hk
    rw [T.get_set] at hk
    by_cases e : k = i
    · subst e; exact .inr ⟨h1, h2, by rw [hx]; rfl⟩
    · rw [if_neg e] at hk; exact absurd rfl hk
  · intro g he
    have hgx := he.get i x (by rw [get_of h1]; exact hx)
    have hgv := get_vis hgx
    have hgw := he.wr i h1 h2
    refine ⟨{ next := g.next, heap := g.heap.set i o, vis := g.vis, wr := g.wr }, ?_, ?_⟩
    · have hgh := St.get_heap hgx
      cases g with | mk gn gh gv gw =>
      show sel (gv i && gw i) (Option.rec none (fun _ => some _) (gh.get i)) none = _
      have a1 : gv i = true := hgv
      have a2 : gw i = true := hgw
      have a3 : gh.get i = some x := hgh
      rw [a1, a2, a3]
      rfl
    · refine ⟨he.next, rfl, rfl, ?_, ?_⟩
      · intro k hk
        show T.get (g.heap.set i o) k = T.get (s.heap.set i o) k
        rw [T.get_set, T.get_set]
        by_cases e : k = i
        · rw [if_pos e, if_pos e]
        · rw [if_neg e, if_neg e]
          rcases hk with ⟨a, b⟩ | c
          · simp only at b; omega
          · rw [Option.isSome_iff_exists] at c
            obtain ⟨y, hy⟩ := c
            rw [St.get_heap hy, St.get_heap (he.get k y hy)]
      · intro k hk
        show T.get (g.heap.set i o) k = g.heap.get k
        rw [T.get_set, if_neg]
        intro e
        subst e
        exact hk (.inr (by rw [get_of h1, hx]; rfl))
theorem storeN_framed (i q : Nat) (vs : List V) : ∀ s s', s.storeN i q vs = some s' → Went s s' ∧ ∀ g, Ext s s' g → ∃ g', g.storeN i q vs = some g' ∧ Over s s' g g' := by
  intro s s' h
  unfold St.storeN at h
  split at h
  · rename_i cs hg
    split at h
    · rename_i r hr
      obtain ⟨h1, h2⟩ := set_framed _ _ _ _ h
      refine ⟨h1, fun g he => ?_⟩
      obtain ⟨g', k1, k2⟩ := h2 g he
      refine ⟨g', ?_, k2⟩
      simp only [St.storeN, he.get _ _ hg, hr, k1]
    · cases h
  · cases h
theorem loadN_framed {i q n : Nat} {l : List V} {s s' g : St} (h : s.loadN i q n = some l) (he : Ext s s' g) : g.loadN i q n = some l := by
  unfold St.loadN at h ⊢
  split at h
  · rename_i own cs hg
    simp only [he.get _ _ hg, h]
  · cases h
theorem load1_framed {i q : Nat} {v : V} {s s' g : St} (h : s.load1 i q = some v) (he : Ext s s' g) : g.load1 i q = some v := by
  unfold St.load1 at h ⊢
  split at h
  · rename_i own cs hg
    simp only [he.get _ _ hg, h]
  · cases h
theorem firstN_framed {e n : Nat} {x : V} {l : List V} {s s' g : St} (h : firstN s e n x = some l) (he : Ext s s' g) : firstN g e n x = some l := by
  unfold firstN at h ⊢
  split at h
  · exact h
  · rename_i i o e' len c f
    obtain ⟨hb, h⟩ := sel_some h
    rw [hb]
    exact loadN_framed h he
  · exact h
  · cases h
def Still {α : Type} (m : St → Option (α × St)) : Prop := ∀ s r s', m s = some (r, s') → s' = s ∧ ∀ g, m g = some (r, g)
theorem still_framed {m : St → Option (Res × St)} (h : Still m) : Framed m := by
  intro s r s' hm
  obtain ⟨rfl, hg⟩ := h s r s' hm
  exact ⟨Went.refl _, fun g he => ⟨g, hg g, Over.refl _ _ he⟩⟩
end Go.Vabs

/- Lemmas for this claim, text D. No condition. -/
import Derived.Test.YtcgiiomghmffbaaVabsC
import Derived.WalkKit
namespace Go.Vabs
theorem OR.keep {ι ι' : Map} {B : Nat} {w w' : World} {e : Entry} {o : AObj} (hs : Sub ι ι') (hb : w'.heap[e.blk]? = w.heap[e.blk]?) (h : OR ι B w e o) : OR ι' B w' e o := by
  cases o with
  | cells own cs =>
    cases own with
    | true =>
      obtain ⟨h1, arr, ty, fz, h2, h3, h4, h5, h6⟩ := h
      exact ⟨h1, arr, ty, fz, hb.trans h2, h3, h4, h5, fun k v hv => by obtain ⟨v', x, y⟩ := h6 k v hv; exact ⟨v', x, R1.mono hs y⟩⟩
    | false =>
      obtain ⟨h1, h6⟩ := h
      exact ⟨h1, fun k v hv => by
        obtain ⟨v', x, y⟩ := h6 k v hv
        exact ⟨v', (World.cell?_of_block (w := w) (a := ⟨e.blk, e.off + k, none⟩) hb).trans x, R1.mono hs y⟩⟩
  | map own es clock =>
    cases own with
    | true =>
      obtain ⟨h1, es', h2, h3⟩ := h
      exact ⟨h1, es', hb.trans h2, h3.mono fun _ _ hxy => ⟨R0.mono hs hxy.1, R2.mono hs hxy.2.1, hxy.2.2⟩⟩
    | false =>
      obtain ⟨h1, es', h2, h3⟩ := h
      exact ⟨h1, es', hb.trans h2, h3.mono fun _ _ hxy => ⟨R0.mono hs hxy.1, R2.mono hs hxy.2.1, hxy.2.2⟩⟩
def upd (ι : Map) (j : Nat) (e : Entry) : Map := fun i => if i = j then some e else ι i
theorem upd_same (ι : Map) (j : Nat) (e : Entry) : upd ι j e j = some e := by simp [upd]
theorem upd_other {ι : Map} {j i : Nat} {e : Entry} (h : i ≠ j) : upd ι j e i = ι i := by simp [upd, h]
theorem sub_upd {ι : Map} {j : Nat} {e : Entry} (h : ι j = none) : Sub ι (upd ι j e) := fun i x hx => by
  by_cases hij : i = j
  · subst hij; rw [h] at hx; cases hx
  · rw [upd_other hij]; exact hx
theorem OR.blk {ι : Map} {B : Nat} {w : World} {e : Entry} {o : AObj} (h : OR ι B w e o) : (o.own = true → B ≤ e.blk) ∧ (o.own = false → e.blk < B) := by
  cases o with
  | cells own cs => cases own with
    | true => exact ⟨fun _ => h.1, (fun x => by cases x)⟩
    | false => exact ⟨(fun x => by cases x), fun _ => h.1⟩
  | map own es c => cases own with
    | true => exact ⟨fun _ => h.1, (fun x => by cases x)⟩
    | false => exact ⟨(fun x => by cases x), fun _ => h.1⟩
theorem Rel.add {ι : Map} {B : Nat} {h : T AObj} {w w' : World} {j : Nat} {e : Entry} {o : AObj} (hr : Rel ι B h w) (hι : ι j = none)
    (hB : B ≤ e.blk) (hfree : ∀ i o' e', h.get i = some o' → o'.own = true → ι i = some e' → e'.blk ≠ e.blk)
    (hw : ∀ k, k ≠ e.blk → k < w.heap.size → w'.heap[k]? = w.heap[k]?) (hsz : w.heap.size ≤ w'.heap.size) (he : e.blk < w'.heap.size)
    (hor : OR (upd ι j e) B w' e o) : Rel (upd ι j e) B (h.set j (some o)) w' := by
  have hsub := sub_upd (e := e) hι
  refine ⟨Nat.le_trans hr.base hsz, ?_, ?_⟩
  · intro i o' hi
    rw [T.get_set] at hi
    by_cases hij : i = j
    · subst hij; rw [if_pos rfl] at hi; cases hi
      exact ⟨e, upd_same _ _ _, he, hor⟩
    · rw [if_neg hij] at hi
      obtain ⟨e', h1, h2, h3⟩ := hr.obj i o' hi
      refine ⟨e', (upd_other hij).trans h1, Nat.lt_of_lt_of_le h2 hsz, h3.keep hsub (hw _ ?_ h2)⟩
      cases hown : o'.own with
      | true => exact hfree i o' e' hi hown h1
      | false => have := h3.blk.2 hown; omega
  · intro i k o1 o2 e1 e2 hi hk ho1 ho2 he1 he2 hblk
    rw [T.get_set] at hi hk
    by_cases hij : i = j
    · by_cases hkj : k = j
      · rw [hij, hkj]
      · exfalso
        rw [if_neg hkj] at hk
        rw [hij, upd_same] at he1
        rw [upd_other hkj] at he2
        cases he1
        exact hfree k o2 e2 hk ho2 he2 hblk.symm
    · rw [if_neg hij] at hi
      rw [upd_other hij] at he1
      by_cases hkj : k = j
      · exfalso
        rw [hkj, upd_same] at he2
        cases he2
        exact hfree i o1 e1 hi ho1 he1 hblk
      · rw [if_neg hkj] at hk
        rw [upd_other hkj] at he2
        exact hr.sep i k o1 o2 e1 e2 hi hk ho1 ho2 he1 he2 hblk
theorem Rel.kill {ι : Map} {B : Nat} {h : T AObj} {w : World} {j : Nat} (hr : Rel ι B h w) : Rel ι B (h.set j none) w := by
  refine ⟨hr.base, ?_, ?_⟩
  · intro i o hi
    rw [T.get_set] at hi
    split at hi
    · cases hi
    · exact hr.obj i o hi
  · intro i k o1 o2 e1 e2 hi hk
    rw [T.get_set] at hi hk
    split at hi
    · cases hi
    · split at hk
      · cases hk
      · exact hr.sep i k o1 o2 e1 e2 hi hk
theorem Rel.update {ι : Map} {B : Nat} {h : T AObj} {w w' : World} {j : Nat} {e : Entry} {o o' : AObj} (hr : Rel ι B h w) (hj : h.get j = some o) (ho : o.own = true) (he : ι j = some e)
    (hw : ∀ k, k ≠ e.blk → w'.heap[k]? = w.heap[k]?) (hsz : w'.heap.size = w.heap.size)
    (hor : OR ι B w' e o') : Rel ι B (h.set j (some o')) w' := by
  refine ⟨by rw [hsz]; exact hr.base, ?_, ?_⟩
  · intro i o1 hi
    rw [T.get_set] at hi
    by_cases hij : i = j
    · subst hij; rw [if_pos rfl] at hi; cases hi
      obtain ⟨e', h1, h2, _⟩ := hr.obj i o hj
      rw [he] at h1; cases h1
      exact ⟨e, he, by rw [hsz]; exact h2, hor⟩
    · rw [if_neg hij] at hi
      obtain ⟨e', h1, h2, h3⟩ := hr.obj i o1 hi
      refine ⟨e', h1, by rw [hsz]; exact h2, h3.keep (Sub.refl _) (hw _ fun hb => ?_)⟩
      cases hown : o1.own with
      | true => exact hij (hr.sep i j o1 o e' e hi hj hown ho h1 he hb)
      | false =>
        have := h3.blk.2 hown
        obtain ⟨e2, x1, x2, x3⟩ := hr.obj j o hj
        rw [he] at x1; cases x1
        have := x3.blk.1 ho
        omega
  · intro i k o1 o2 e1 e2 hi hk ho1 ho2 he1 he2 hblk
    rw [T.get_set] at hi hk
    by_cases hij : i = j
    · by_cases hkj : k = j
      · rw [hij, hkj]
      · rw [if_neg hkj] at hk
        subst hij
        rw [he] at he1; cases he1
        exact hr.sep i k o o2 e e2 hj hk ho ho2 he he2 hblk
    · rw [if_neg hij] at hi
      by_cases hkj : k = j
      · subst hkj
        rw [he] at he2; cases he2
        exact hr.sep i k o1 o e1 e hi hj ho1 ho he1 he hblk
      · rw [if_neg hkj] at hk
        exact hr.sep i k o1 o2 e1 e2 hi hk ho1 ho2 he1 he2 hblk
theorem Rel.congr {ι : Map} {B : Nat} {h h' : T AObj} {w : World} (hr : Rel ι B h w) (e : ∀ i, T.get h' i = T.get h i) : Rel ι B h' w :=
  ⟨hr.base, fun i o hi => hr.obj i o (by rw [← e i]; exact hi), fun i k o1 o2 e1 e2 hi hk => hr.sep i k o1 o2 e1 e2 (by rw [← e i]; exact hi) (by rw [← e k]; exact hk)⟩
theorem Rel.drew {ι : Map} {B : Nat} {h : T AObj} {w : World} (hr : Rel ι B h w) : Rel ι B h w.drew :=
  ⟨hr.base, fun i o hi => by
    obtain ⟨e, h1, h2, h3⟩ := hr.obj i o hi
    exact ⟨e, h1, h2, h3.keep (Sub.refl _) rfl⟩, hr.sep⟩
structure Sim (P : Program) (B : Nat) (ι : Map) (n n' : Nat) (w : World) (h' : T AObj) (r : Res) (s : Sem Next) (ι' : Map) (w' : World) : Prop where
  sub : Sub ι ι'
  other : ∀ i, (i < n ∨ n' ≤ i) → ι' i = ι i
  rel : Rel ι' B h' w'
  below : Below B w w'
  res : match r with
    | .val v => ∃ x, (s.run P w = .ok (.value x) w' ∨ (s.run P w = .ok .skip w' ∧ x = undef)) ∧ R ι' v x
    | .enter g args => ∃ args', s.run P w = .ok (.enter g args') w' ∧ All2 (R ι') args args'.toList
theorem Sim.still {P : Program} {B : Nat} {ι : Map} {st : St} {w : World} {v : V} {s : Sem Next} {x : Value} (hr : Rel ι B st.heap w)
    (hrun : s.run P w = .ok (.value x) w) (hv : R ι v x) : ∃ ι' w', Sim P B ι st.next st.next w st.heap (.val v) s ι' w' :=
  ⟨ι, w, Sub.refl _, fun _ _ => rfl, hr, Below.refl _ _, x, .inl hrun, hv⟩
end Go.Vabs

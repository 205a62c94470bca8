/-
  Laws of functions that read one slice of flat cells, wherever it stands among their arguments.
-/
import Derived.Test.YtpbafimkplhknaaVabsZg
namespace Go.Vabs
set_option linter.unusedVariables false
set_option linter.unusedSimpArgs false

noncomputable section
/-- What a slice of elements of e flat cells holds. -/
def flatAt (st : St) (e : Nat) : V → Option (List V)
  | .slice none _ n c _ => if n = 0 ∧ c = 0 then some [] else none
  | .slice (some (i, o)) e' n c _ => if e' = e ∧ n ≤ c then match st.get i with | some (.cells _ cs) => (match cut o (n * e) cs with | some l => if l.all V.flat = true then some l else none | none => none) | _ => none else none
  | _ => none
def slE (e : Nat) (nil : Bool) (n : Nat) : V := .slice (if nil then none else some (0, 0)) e n n false
def memE (nil : Bool) (cs : List V) : St := few [objOf nil cs]
end
theorem flatAt_ext {v : V} {e : Nat} {s s' g : St} {cs : List V} (h : flatAt s e v = some cs) (he : Ext s s' g) : flatAt g e v = some cs := by
  unfold flatAt at h ⊢
  split at h
  · exact h
  · split at h
    · rename_i hc
      split at h
      · rename_i own xs hg
        rw [he.get _ _ hg]
        rw [if_pos hc]
        exact h
      · cases h
    · cases h
  · cases h
/-- Where the slice stands. -/
structure Shape where
  pick : List V → Option (V × List V)
  put : List V → V → List V
  ok : ∀ args s rest, pick args = some (s, rest) → ∀ (τ : Way) s0, (∀ ι x, R0 ι s x → R0 (via τ ι) s0 x) → All2 (fun a0 a => ∀ ι x, R ι a x → R (via τ ι) a0 x) (put rest s0) args
theorem seen_one {sh : Shape} {e n : Nat} {args rest : List V} {s : V} {st : St} {cs : List V} (hp : sh.pick args = some (s, rest)) (h : flatAt st e s = some cs) (hn : lenOf s = some n) :
    ∃ τ, (isNil s = true → n = 0 ∧ cs = []) ∧ cs.length = n * e ∧ cs.all V.flat = true ∧ Seen τ args st (sh.put rest (slE e (isNil s) n)) (memE (isNil s) cs) := by
  unfold flatAt at h
  split at h
  · rename_i e' m c f
    split at h
    · rename_i hc
      cases h
      cases hn
      refine ⟨fun _ => none, fun _ => ⟨hc.1, rfl⟩, by rw [hc.1]; simp, rfl, .ofCells (sh.ok _ _ _ hp _ _ (fun ι x hx => ?_)) ?_ (fun _ _ => rfl) (few_neat _)⟩
      · obtain ⟨h1, h2, rfl⟩ := hx
        exact ⟨h1, h1, rfl⟩
      · intro k o hk
        have hk : (memE true []).heap.get k = some o := hk
        rw [show memE true [] = few [none] from rfl, few_heap] at hk
        cases k <;> simp at hk
    · cases h
  · rename_i i o e' m c f
    split at h
    · rename_i hc
      obtain ⟨rfl, hc⟩ := hc
      split at h
      · rename_i own xs hg
        split at h
        · rename_i l hl
          split at h
          · rename_i hf
            cases h
            cases hn
            obtain ⟨l1, l2⟩ := cut_eq hl
            refine ⟨fun k => if k = 0 then some (i, o) else none, (fun h => by cases h), l1, hf, .ofCells (sh.ok _ _ _ hp _ _ (fun ι x hx => ?_)) ?_ ?_ (few_neat _)⟩
            · obtain ⟨en, y, c', e1, e2, e3, e4, e5, e6⟩ := hx
              refine ⟨en.at o, y, c', by simp only [via, if_pos, e1, Option.map_some], e2, Nat.le_refl _, by omega, (fun h => by cases h), ?_⟩
              rcases e6 with e6 | ⟨e6, e7⟩
              · exact .inl e6
              · exact .inr ⟨by rw [e6]; rfl, by show 0 + c' * e' ≤ en.tot - o; omega⟩
            · intro k ob hk
              have hk : (few [some (AObj.cells false cs)]).heap.get k = some ob := hk
              rw [few_heap] at hk
              cases k with
              | succ k => simp at hk
              | zero =>
                simp at hk
                subst hk
                refine ⟨i, o, own, xs, cs, rfl, rfl, hg, fun p v hv => ?_⟩
                have hp : p < n * e' := by
                  have := (List.getElem?_eq_some_iff.1 hv).1
                  omega
                exact ⟨v, by rw [← l2 p hp]; exact hv, fun ι x hx => flat_R1 (List.all_eq_true.1 hf v (List.mem_of_getElem? hv)) hx⟩
            · intro k hk
              have hk : 1 ≤ k := hk
              exact if_neg (by omega)
          · cases h
        · cases h
      · cases h
    · cases h
  · cases h
noncomputable def oneRd (sh : Shape) (e : Nat) (spec : List V → Bool → Nat → List V → Option Ans) : List V → St → Option Ans := fun args st =>
  match sh.pick args with
  | some (s, rest) => match flatAt st e s, lenOf s with
    | some cs, some n => spec rest (isNil s) n cs
    | _, _ => none
  | none => none
theorem oneRd_reads (sh : Shape) (e : Nat) (spec : List V → Bool → Nat → List V → Option Ans) : Reads (oneRd sh e spec) := by
  intro args s s' g a h he
  unfold oneRd at h ⊢
  split at h
  · rename_i v rest hp
    split at h
    · rename_i cs n hcs hn
      rw [flatAt_ext hcs he, hn]
      exact h
    · cases h
  · cases h
theorem Sound.one {P : Program} {call : CallT} (hmix : P.follows .mixedOrders = true) (h : Sound P call) {g : Nat} {fn : AFunc} (lf : Nat) (hc : compF P g = some fn) (sh : Shape) (e : Nat) {spec : List V → Bool → Nat → List V → Option Ans}
    (hrun : ∀ rest nil n cs os f, (nil = true → n = 0 ∧ cs = []) → cs.length = n * e → cs.all V.flat = true → spec rest nil n cs = some (os, f) →
      ∃ v0 s1 σ, enterF call lf (sh.put rest (slE e nil n)) (memE nil cs) fn = some (v0, s1) ∧ ∀ τ m, Left τ m (memE nil cs) s1 v0 os σ (f m)) : Sound P (Vabs.withL call g (lawOf (oneRd sh e spec))) := by
  refine h.withL (h.withF hmix lf hc) (oneRd_reads _ _ _) ?_
  intro args st os f hr
  unfold oneRd at hr
  split at hr
  · rename_i s rest hp
    split at hr
    · rename_i cs n hcs hn
      obtain ⟨τ, a1, a2, a3, a4⟩ := seen_one hp hcs hn
      obtain ⟨v0, s1, σ, b1, b2⟩ := hrun rest _ n cs os f a1 a2 a3 hr
      exact ⟨τ, _, _, s1, v0, σ, by rw [withF_same]; exact b1, a4, b2 τ st.next⟩
    · cases hr
  · cases hr
/- SHAPES -/
theorem All2.snoc {α β : Type} {p : α → β → Prop} : ∀ {l : List α} {m : List β} {a : α} {b : β}, All2 p l m → p a b → All2 p (l ++ [a]) (m ++ [b])
  | [], [], _, _, _, h => ⟨h, trivial⟩
  | _ :: _, _ :: _, _, _, ⟨x, y⟩, h => ⟨x, All2.snoc y h⟩
  | [], _ :: _, _, _, h, _ => h.elim
  | _ :: _, [], _, _, h, _ => h.elim
noncomputable section
end

noncomputable section
end
/-- Joined to an empty slice of one's own. -/
theorem append_newE {os : List (Option AObj)} {j n e bytes : Nat} {new : List V} (hj : (os[j]?).join = some (.cells true [])) (hn : 0 < n) (hl : new.length = n * e) (hs : (2 * n + 1024) * bytes ≤ 281474976710656) (he : 0 < e) :
    appendV (few os) e bytes (.slice (some (j, 0)) e 0 0 true) (some n) (some new) = some (.slice (some (os.length, 0)) e n n false, few (os ++ [some (.cells true new)])) := by
  obtain ⟨m, rfl⟩ : ∃ m, n = m + 1 := ⟨n - 1, by omega⟩
  show valOf (appendOp (few os) e bytes (.slice (some (j, 0)) e 0 0 true) (m + 1) new) = _
  unfold appendOp
  dsimp only
  rw [Nat.zero_add, ble_t hs, hl, Nat.beq_refl, few_get, hj]
  dsimp only [Bool.and_self, sel_true, Nat.beq_refl]
  rw [show Nat.ble (m + 1) 0 = false from rfl, Nat.beq_refl]
  dsimp only [sel_false, sel_true]
  rw [show cut 0 (0 * e) ([] : List V) = some [] from by rw [Nat.zero_mul]; rfl]
  dsimp only
  rw [few_alloc]
  rfl
end Go.Vabs

/-
  Laws of functions that read one slice of flat cells, wherever it stands among their arguments.
-/
import Derived.Test.YtpbafimkplhknaaVabsZg
namespace Go.Vabs
set_option linter.unusedVariables false
set_option linter.unusedSimpArgs false

noncomputable section
/-- What a slice of elements of e flat cells holds. -/
def flatAt (st : St) (e : Nat) : V → Option (List V)
  | .slice none _ n c _ => if n = 0 ∧ c = 0 then some [] else none
  | .slice (some (i, o)) e' n c _ => if e' = e ∧ n ≤ c then match st.get i with | some (.cells _ cs) => (match cut o (n * e) cs with | some l => if l.all V.flat = true then some l else none | none => none) | _ => none else none
  | _ => none
def slE (e : Nat) (nil : Bool) (n : Nat) : V := .slice (if nil then none else some (0, 0)) e n n false
def memE (nil : Bool) (cs : List V) : St := few [objOf nil cs]
end
theorem flatAt_ext {v : V} {e : Nat} {s s' g : St} {cs : List V} (h : flatAt s e v = some cs) (he : Ext s s' g) : flatAt g e v = some cs := by
  unfold flatAt at h ⊢
  split at h
  · exact h
  · split at h
    · rename_i hc
      split at h
      · rename_i own xs hg
        rw [he.get _ _ hg]
        rw [if_pos hc]
        exact h
      · cases h
    · cases h
  · cases h
theorem flatAt_few {os : List (Option AObj)} {i o e n c : Nat} {f own : Bool} {cs new : List V} (h : (os[i]?).join = some (.cells own cs)) (hn : n ≤ c) (hm : o + n * e ≤ cs.length) (hcs : (cs.drop o).take (n * e) = new) (hf : new.all V.flat = true) :
    flatAt (few os) e (.slice (some (i, o)) e n c f) = some new := by
  show (if e = e ∧ n ≤ c then match (few os).get i with | some (.cells _ cs) => (match cut o (n * e) cs with | some l => if l.all V.flat = true then some l else none | none => none) | _ => none else none) = _
  rw [if_pos ⟨rfl, hn⟩, few_get, h]
  dsimp only
  rw [cut_of hm]
  dsimp only
  rw [hcs, if_pos hf]
theorem flatAt_mem {e n : Nat} {nil : Bool} {cs : List V} (hnil : nil = true → n = 0 ∧ cs = []) (hl : cs.length = n * e) (hf : cs.all V.flat = true) : flatAt (memE nil cs) e (slE e nil n) = some cs := by
  cases nil with
  | true => obtain ⟨rfl, rfl⟩ := hnil rfl; rfl
  | false => exact flatAt_few (os := [some (.cells false cs)]) rfl (Nat.le_refl _) (by omega) (by rw [List.drop_zero, ← hl, List.take_length]) hf

/-- Where the slice stands. -/
structure Shape where
  pick : List V → Option (V × List V)
  put : List V → V → List V
  ok : ∀ args s rest, pick args = some (s, rest) → ∀ (τ : Way) s0, (∀ ι x, R0 ι s x → R0 (via τ ι) s0 x) → All2 (fun a0 a => ∀ ι x, R ι a x → R (via τ ι) a0 x) (put rest s0) args
theorem seen_one {sh : Shape} {e n : Nat} {args rest : List V} {s : V} {st : St} {cs : List V} (hp : sh.pick args = some (s, rest)) (h : flatAt st e s = some cs) (hn : lenOf s = some n) :
    ∃ τ, (isNil s = true → n = 0 ∧ cs = []) ∧ cs.length = n * e ∧ cs.all V.flat = true ∧ Seen τ args st (sh.put rest (slE e (isNil s) n)) (memE (isNil s) cs) := by
  unfold flatAt at h
  split at h
  · rename_i e' m c f
    split at h
    · rename_i hc
      cases h
      cases hn
      refine ⟨fun _ => none, fun _ => ⟨hc.1, rfl⟩, by rw [hc.1]; simp, rfl, .ofCells (sh.ok _ _ _ hp _ _ (fun ι x hx => ?_)) ?_ (fun _ _ => rfl) (few_neat _)⟩
      · obtain ⟨h1, h2, rfl⟩ := hx
        exact ⟨h1, h1, rfl⟩
      · intro k o hk
        have hk : (memE true []).heap.get k = some o := hk
        rw [show memE true [] = few [none] from rfl, few_heap] at hk
        cases k <;> simp at hk
    · cases h
  · rename_i i o e' m c f
    split at h
    · rename_i hc
      obtain ⟨rfl, hc⟩ := hc
      split at h
      · rename_i own xs hg
        split at h
        · rename_i l hl
          split at h
          · rename_i hf
            cases h
            cases hn
            obtain ⟨l1, l2⟩ := cut_eq hl
            refine ⟨fun k => if k = 0 then some (i, o) else none, (fun h => by cases h), l1, hf, .ofCells (sh.ok _ _ _ hp _ _ (fun ι x hx => ?_)) ?_ ?_ (few_neat _)⟩
            · obtain ⟨en, y, c', e1, e2, e3, e4, e5, e6⟩ := hx
              refine ⟨en.at o, y, c', by simp only [via, if_pos, e1, Option.map_some], e2, Nat.le_refl _, by omega, (fun h => by cases h), ?_⟩
              rcases e6 with e6 | ⟨e6, e7⟩
              · exact .inl e6
              · exact .inr ⟨by rw [e6]; rfl, by show 0 + c' * e' ≤ en.tot - o; omega⟩
            · intro k ob hk
              have hk : (few [some (AObj.cells false cs)]).heap.get k = some ob := hk
              rw [few_heap] at hk
              cases k with
              | succ k => simp at hk
              | zero =>
                simp at hk
                subst hk
                refine ⟨i, o, own, xs, cs, rfl, rfl, hg, fun p v hv => ?_⟩
                have hp : p < n * e' := by
                  have := (List.getElem?_eq_some_iff.1 hv).1
                  omega
                exact ⟨v, by rw [← l2 p hp]; exact hv, fun ι x hx => flat_R1 (List.all_eq_true.1 hf v (List.mem_of_getElem? hv)) hx⟩
            · intro k hk
              have hk : 1 ≤ k := hk
              exact if_neg (by omega)
          · cases h
        · cases h
      · cases h
    · cases h
  · cases h
noncomputable def oneRd (sh : Shape) (e : Nat) (spec : List V → Bool → Nat → List V → Option Ans) : List V → St → Option Ans := fun args st =>
  match sh.pick args with
  | some (s, rest) => match flatAt st e s, lenOf s with
    | some cs, some n => spec rest (isNil s) n cs
    | _, _ => none
  | none => none
theorem oneRd_reads (sh : Shape) (e : Nat) (spec : List V → Bool → Nat → List V → Option Ans) : Reads (oneRd sh e spec) := by
  intro args s s' g a h he
  unfold oneRd at h ⊢
  split at h
  · rename_i v rest hp
    split at h
    · rename_i cs n hcs hn
      rw [flatAt_ext hcs he, hn]
      exact h
    · cases h
  · cases h
theorem Sound.one {P : Program} {call : CallT} (hmix : P.follows .mixedOrders = true) (h : Sound P call) {g : Nat} {fn : AFunc} (lf : Nat) (hc : compF P g = some fn) (sh : Shape) (e : Nat) {spec : List V → Bool → Nat → List V → Option Ans}
    (hrun : ∀ rest nil n cs os f, (nil = true → n = 0 ∧ cs = []) → cs.length = n * e → cs.all V.flat = true → spec rest nil n cs = some (os, f) →
      ∃ v0 s1 σ, enterF call lf (sh.put rest (slE e nil n)) (memE nil cs) fn = some (v0, s1) ∧ ∀ τ m, Left τ m (memE nil cs) s1 v0 os σ (f m)) : Sound P (Vabs.withL call g (lawOf (oneRd sh e spec))) := by
  refine h.withL (h.withF hmix lf hc) (oneRd_reads _ _ _) ?_
  intro args st os f hr
  unfold oneRd at hr
  split at hr
  · rename_i s rest hp
    split at hr
    · rename_i cs n hcs hn
      obtain ⟨τ, a1, a2, a3, a4⟩ := seen_one hp hcs hn
      obtain ⟨v0, s1, σ, b1, b2⟩ := hrun rest _ n cs os f a1 a2 a3 hr
      exact ⟨τ, _, _, s1, v0, σ, by rw [withF_same]; exact b1, a4, b2 τ st.next⟩
    · cases hr
  · cases hr
theorem one_call {call : CallT} {g : Nat} {sh : Shape} {e n : Nat} {spec : List V → Bool → Nat → List V → Option Ans} {args rest : List V} {s : V} {st : St} {cs : List V} (hp : sh.pick args = some (s, rest)) (h : flatAt st e s = some cs) (hn : lenOf s = some n) :
    withL call g (lawOf (oneRd sh e spec)) g args st = lawOut (spec rest (isNil s) n cs) st := by
  rw [withL_same]
  show lawOut (oneRd sh e spec args st) st = _
  unfold oneRd
  rw [hp]
  dsimp only
  rw [h, hn]

/- SHAPES -/
theorem flat_self {τ : Way} : ∀ {l : List V}, l.all V.flat = true → All2 (fun a0 a => ∀ ι x, R ι a x → R (via τ ι) a0 x) l l
  | [], _ => trivial
  | a :: l, h => by
    simp only [List.all_cons, Bool.and_eq_true] at h
    exact ⟨fun ι x hx => flat_R h.1 hx, flat_self h.2⟩
def isSl : V → Bool
  | .slice _ _ _ _ _ => true
  | _ => false
theorem R_sl {ι : Map} {s : V} {x : Value} (h : isSl s = true) : R ι s x ↔ R0 ι s x := by
  cases s <;> first | exact Iff.rfl | cases h
/-- A slice from R0. -/
theorem sl_up {τ : Way} {s s0 : V} (hs : isSl s = true) (h : ∀ ι x, R0 ι s x → R0 (via τ ι) s0 x) : ∀ ι x, R ι s x → R (via τ ι) s0 x := fun ι x hx => (h ι x ((R_sl hs).1 hx)).up
theorem All2.snoc {α β : Type} {p : α → β → Prop} : ∀ {l : List α} {m : List β} {a : α} {b : β}, All2 p l m → p a b → All2 p (l ++ [a]) (m ++ [b])
  | [], [], _, _, _, h => ⟨h, trivial⟩
  | _ :: _, _ :: _, _, _, ⟨x, y⟩, h => ⟨x, All2.snoc y h⟩
  | [], _ :: _, _, _, h, _ => h.elim
  | _ :: _, [], _, _, h, _ => h.elim
noncomputable section
/-- One flat argument, then the slice. -/
def shape1 : Shape where
  pick := fun args => match args with
    | [a, s] => if a.flat = true ∧ isSl s = true then some (s, [a]) else none
    | _ => none
  put := fun rest s0 => rest ++ [s0]
  ok := by
    intro args s rest hp τ s0 h
    split at hp
    · split at hp
      · rename_i hc
        cases hp
        exact ⟨fun ι x hx => flat_R hc.1 hx, sl_up hc.2 h, trivial⟩
      · cases hp
    · cases hp
/-- The slice within an aggregate, behind a flat cell; then a flat argument. -/
def shapeA : Shape where
  pick := fun args => match args with
    | [.agg [a, s], t] => if a.flat = true ∧ isSl s = true ∧ t.flat = true then some (s, [a, t]) else none
    | _ => none
  put := fun rest s0 => match rest with
    | [a, t] => [.agg [a, s0], t]
    | _ => []
  ok := by
    intro args s rest hp τ s0 h
    split at hp
    · rename_i a s' t
      split at hp
      · rename_i hc
        cases hp
        refine ⟨fun ι x hx => ?_, fun ι x hx => flat_R hc.2.2 hx, trivial⟩
        obtain ⟨cs', rfl, h1⟩ := hx
        match hcs : cs'.toList, h1 with
        | x :: y :: [], ⟨h2, h3, _⟩ =>
          refine ⟨cs', rfl, ?_⟩
          rw [hcs]
          refine ⟨flat_R1 hc.1 h2, ?_, trivial⟩
          have hs : R0 ι s y := by
            cases s <;> first | exact h3 | (cases hc.2.1)
          exact (h ι y hs).up1
      · cases hp
    · cases hp
end

noncomputable section
/-- The slice first; then flat arguments. -/
def shapeH : Shape where
  pick := fun args => match args with
    | s :: rest => if isSl s = true ∧ rest.all V.flat = true then some (s, rest) else none
    | _ => none
  put := fun rest s0 => s0 :: rest
  ok := by
    intro args s rest hp τ s0 h
    split at hp
    · split at hp
      · rename_i hc
        cases hp
        exact ⟨sl_up hc.1 h, flat_self hc.2⟩
      · cases hp
    · cases hp
end
/-- Joined to an empty slice of one's own. -/
theorem append_newE {os : List (Option AObj)} {j n e bytes : Nat} {new : List V} (hj : (os[j]?).join = some (.cells true [])) (hn : 0 < n) (hl : new.length = n * e) (hs : (2 * n + 1024) * bytes ≤ 281474976710656) (he : 0 < e) :
    appendV (few os) e bytes (.slice (some (j, 0)) e 0 0 true) (some n) (some new) = some (.slice (some (os.length, 0)) e n n false, few (os ++ [some (.cells true new)])) := by
  obtain ⟨m, rfl⟩ : ∃ m, n = m + 1 := ⟨n - 1, by omega⟩
  show valOf (appendOp (few os) e bytes (.slice (some (j, 0)) e 0 0 true) (m + 1) new) = _
  unfold appendOp
  dsimp only
  rw [Nat.zero_add, ble_t hs, hl, Nat.beq_refl, few_get, hj]
  dsimp only [Bool.and_self, sel_true, Nat.beq_refl]
  rw [show Nat.ble (m + 1) 0 = false from rfl, Nat.beq_refl]
  dsimp only [sel_false, sel_true]
  rw [show cut 0 (0 * e) ([] : List V) = some [] from by rw [Nat.zero_mul]; rfl]
  dsimp only
  rw [few_alloc]
  rfl
theorem append_noneE {os : List (Option AObj)} {j e bytes : Nat} {new : List V} : appendV (few os) e bytes (.slice (some (j, 0)) e 0 0 true) (some 0) (some new) = some (.slice (some (j, 0)) e 0 0 true, few os) := rfl

/-- A law of one slice of whole numbers ahead of flat arguments. -/
theorem Sound.law_ints {P : Program} {call : CallT} (h : Sound P call) {g : Nat} {W : World} {k : IntKind} {a : Option Addr} {len cap : Nat} {zs : List Int} (hrow : IsRow k W a len cap zs) {rest : List V} {rest' : List Value}
    (hr : rest.all V.flat = true) (hargs : All2 (R fun _ => none) rest rest')
    (hrun : ∀ nil ns, (nil = true → ns = []) → (∀ n ∈ ns, (Lit.int k n).wf = true) → ns.length = len → ∃ s1, call g (slAt nil 0 len :: rest) (few [objOf nil (intsV k ns)]) = some (.bool true, s1)) :
    Calls P g (Value.slice a len cap :: rest').toArray W fun e W' => e = .returned (.bool true) ∧ Go.RowKit.Below W.heap.size W W' := by
  obtain ⟨nil, ns, e, l1, n1, w1, b1, r1⟩ := row_obj hrow
  obtain ⟨s1, hs⟩ := hrun nil ns n1 w1 l1
  let ι : Map := fun i => if i = 0 then (if nil then none else some e) else none
  refine h.law hs (few_neat _) (ι := ι) ⟨Nat.le_refl _, ?_, ?_⟩ (fun i hi => ?_) ⟨r1 ι 0 (fun hn => by show (if (0 : Nat) = 0 then _ else _) = _; rw [if_pos rfl, hn]; rfl), flat_args hr hargs⟩
  · intro i o hi
    rw [few_heap] at hi
    match i, hi with
    | 0, hi =>
      cases nil with
      | true => cases hi
      | false =>
        cases hi
        refine ⟨e, rfl, (b1 rfl).1, (b1 rfl).1, fun j v hv => ?_⟩
        rw [intsV_at, Option.map_eq_some_iff] at hv
        obtain ⟨n, hn, rfl⟩ := hv
        exact ⟨_, (b1 rfl).2 j n hn, rfl⟩
    | i + 1, hi => simp at hi
  · intro i j o o' e1 e2 hi hj ho
    exfalso
    rw [few_heap] at hi
    match i, hi with
    | 0, hi => cases nil <;> cases hi; cases ho
    | i + 1, hi => simp at hi
  · have hi : 1 ≤ i := hi
    show (if i = 0 then _ else none) = none
    rw [if_neg (by omega)]

/-- A new object of flat cells; an aggregate of a flat cell and the slice of all of it. -/
theorem Left.aggSl {τ : Way} {n : Nat} {s0 s1 : St} {j e m c : Nat} {f : Bool} {a : V} {cs : List V} (ha : a.flat = true) (hf : ∀ v ∈ cs, v.flat = true) (hm : m ≤ c) (hj : s0.next ≤ j) (hg : s1.heap.get j = some (.cells true cs)) :
    Left τ n s0 s1 (.agg [a, .slice (some (j, 0)) e m c f]) [.cells true cs] [j] (.agg [a, .slice (some (n, 0)) e m m false]) := by
  have base := Left.cells (τ := τ) (n := n) (s0 := s0) (s1 := s1) (e := e) (f := f) hf hm hj hg
  refine ⟨?_, base.len, base.objs, base.inj⟩
  rintro ι1 ι2 x ho ⟨cs', rfl, h1⟩
  refine ⟨cs', rfl, ?_⟩
  match cs'.toList, h1 with
  | x :: y :: [], ⟨h2, h3, _⟩ =>
    have h3 : R0 ι1 (.slice (some (j, 0)) e m c f) y := h3
    have := base.val ι1 ι2 y ho h3.up
    exact ⟨flat_R1 ha h2, ((R_sl rfl).1 this).up1, trivial⟩

end Go.Vabs

/-
  Calls that a law answers: what a function says of its arguments is shown once, in a small memory of its own, and stands for its call in any memory.
-/
import Derived.Test.YtpbafimkplhknaaVabsW
namespace Go.Vabs
set_option linter.unusedVariables false
set_option linter.unusedSimpArgs false

/-- Calls that answer as the model's do, whatever the first own block. -/
structure Sound (P : Program) (call : CallT) : Prop where
  ok : ∀ B, CallOK P B call
  fr : CallFramed call

theorem Sound.nothing {P : Program} : Sound P (fun _ _ _ => none) := ⟨(fun B g args st v st' h => by cases h), fun g args => none_framed⟩
theorem Sound.table {P : Program} (hmix : P.follows .mixedOrders = true) (n lf d : Nat) : Sound P (callF (table P n) lf d) := ⟨fun B => call_ok hmix (table_ok n) lf d, callF_framed _ _ _⟩

noncomputable section
/-- One function more, by its code. -/
def withF (call : CallT) (g lf : Nat) (fn : AFunc) : CallT := fun g' args st => if g' = g then enterF call lf args st fn else call g' args st
/-- One function more, by a law. -/
def withL (call : CallT) (g : Nat) (l : List V → St → Option (V × St)) : CallT := fun g' args st => if g' = g then l args st else call g' args st
end

theorem withF_same {call : CallT} {g lf : Nat} {fn : AFunc} {args : List V} {st : St} : withF call g lf fn g args st = enterF call lf args st fn := if_pos rfl
theorem withF_other {call : CallT} {g lf g' : Nat} {fn : AFunc} {args : List V} {st : St} (h : g' ≠ g) : withF call g lf fn g' args st = call g' args st := if_neg h
theorem withL_same {call : CallT} {g : Nat} {l : List V → St → Option (V × St)} {args : List V} {st : St} : withL call g l g args st = l args st := if_pos rfl
theorem withL_other {call : CallT} {g g' : Nat} {l : List V → St → Option (V × St)} {args : List V} {st : St} (h : g' ≠ g) : withL call g l g' args st = call g' args st := if_neg h

theorem Sound.withF {P : Program} {call : CallT} (hmix : P.follows .mixedOrders = true) (h : Sound P call) {g : Nat} (lf : Nat) {fn : AFunc} (hc : compF P g = some fn) : Sound P (withF call g lf fn) := by
  refine ⟨fun B g' args st v st' hx => ?_, fun g' args => ?_⟩
  · unfold Vabs.withF at hx
    split at hx
    · rename_i e
      subst e
      exact enter_ok hmix (h.ok B) h.fr hc hx
    · exact h.ok B g' args st v st' hx
  · by_cases e : g' = g
    · subst e
      have : (fun s => Vabs.withF call g' lf fn g' args s) = fun s => enterF call lf args s fn := funext fun s => withF_same
      show Framed (fun s => Vabs.withF call g' lf fn g' args s)
      rw [this]
      exact enter_framed h.fr lf args fn
    · have : (fun s => Vabs.withF call g lf fn g' args s) = fun s => call g' args s := funext fun s => withF_other e
      show Framed (fun s => Vabs.withF call g lf fn g' args s)
      rw [this]
      exact h.fr g' args

/- THE SMALL MEMORY -/
/-- Where a small memory's objects lie in the great one: the object, the first cell. -/
abbrev Way := Nat → Option (Nat × Nat)
def Entry.at (e : Entry) (q : Nat) : Entry := ⟨e.blk, e.off + q, e.tot - q⟩
def via (τ : Way) (ι : Map) : Map := fun k => match τ k with | some (i, q) => (ι i).map (·.at q) | none => none

theorem All2.map2 {α β γ : Type} {p : α → β → Prop} {q : β → γ → Prop} {r : α → γ → Prop} (h : ∀ a b c, p a b → q b c → r a c) : ∀ {l : List α} {m : List β} {n : List γ}, All2 p l m → All2 q m n → All2 r l n
  | [], [], [], _, _ => trivial
  | _ :: _, _ :: _, _ :: _, ⟨x, y⟩, ⟨x', y'⟩ => ⟨h _ _ _ x x', All2.map2 h y y'⟩
  | [], [], _ :: _, _, h => h.elim
  | [], _ :: _, _, h, _ => h.elim
  | _ :: _, [], _, h, _ => h.elim
  | _ :: _, _ :: _, [], _, h => h.elim

/-- A small memory's object shows of a great one's, from cell q on. -/
def SeenO (τ : Way) (q : Nat) : Option AObj → AObj → Prop
  | some (.cells _ cs), .cells false cs0 => ∀ p v, cs0[p]? = some v → ∃ u, cs[q + p]? = some u ∧ ∀ ι x, R1 ι u x → R1 (via τ ι) v x
  | some (.map _ es clock), .map false es0 clock0 => q = 0 ∧ clock0 = clock ∧ All2 (fun (y0 y : V × V × Nat) => (∀ ι x, R0 ι y.1 x → R0 (via τ ι) y0.1 x) ∧ (∀ ι x, R2 ι y.2.1 x → R2 (via τ ι) y0.2.1 x) ∧ y0.2.2 = y.2.2) es0 es
  | _, _ => False

/-- The small memory shows of the great one what the arguments lead to. -/
structure Seen (τ : Way) (args : List V) (st : St) (args0 : List V) (s0 : St) : Prop where
  args : All2 (fun a0 a => ∀ ι x, R ι a x → R (via τ ι) a0 x) args0 args
  heap : ∀ k o, s0.heap.get k = some o → ∃ i q, τ k = some (i, q) ∧ SeenO τ q (st.get i) o
  off : ∀ k, s0.next ≤ k → τ k = none
  neat : Neat s0

theorem Seen.ofCells {τ : Way} {args args0 : List V} {st s0 : St} (ha : All2 (fun a0 a => ∀ ι x, R ι a x → R (via τ ι) a0 x) args0 args)
    (hh : ∀ k o, s0.heap.get k = some o → ∃ i q own cs cs0, o = .cells false cs0 ∧ τ k = some (i, q) ∧ st.get i = some (.cells own cs) ∧
      ∀ p v, cs0[p]? = some v → ∃ u, cs[q + p]? = some u ∧ ∀ ι x, R1 ι u x → R1 (via τ ι) v x)
    (ho : ∀ k, s0.next ≤ k → τ k = none) (hn : Neat s0) : Seen τ args st args0 s0 :=
  ⟨ha, fun k o hk => by obtain ⟨i, q, own, cs, cs0, rfl, h1, h2, h3⟩ := hh k o hk; exact ⟨i, q, h1, by rw [h2]; exact h3⟩, ho, hn⟩

theorem Seen.rel {τ : Way} {args args0 : List V} {st s0 : St} (h : Seen τ args st args0 s0) {ι : Map} {B : Nat} {w : World} (hr : Rel ι B st.heap w) : Rel (via τ ι) w.heap.size s0.heap w := by
  refine ⟨Nat.le_refl _, ?_, ?_⟩
  · intro k o hk
    obtain ⟨i, q, hτ, hso⟩ := h.heap k o hk
    cases hi : st.get i with
    | none => rw [hi] at hso; exact hso.elim
    | some ob =>
    rw [hi] at hso
    obtain ⟨e, he, hlt, hor⟩ := hr.obj i _ (St.get_heap hi)
    refine ⟨e.at q, by simp only [via, hτ, he, Option.map_some], hlt, ?_⟩
    cases ob with
    | map own es clock =>
      cases o with
      | cells own' cs0 => cases own' <;> exact hso.elim
      | map own' es0 clock0 =>
        cases own' with
        | true => exact hso.elim
        | false =>
          obtain ⟨rfl, rfl, hes⟩ := hso
          refine ⟨hlt, ?_⟩
          obtain ⟨arr, h2, h3⟩ : ∃ es', w.heap[e.blk]? = some (.map es' clock0) ∧ All2 (fun (x : V × V × Nat) (y : MapEntry) => R0 ι x.1 y.key ∧ R2 ι x.2.1 y.val ∧ x.2.2 = y.born) es es'.toList := by
            cases own with
            | true => exact hor.2
            | false => exact hor.2
          exact ⟨arr, h2, hes.map2 (fun a b c p q => ⟨p.1 ι _ q.1, p.2.1 ι _ q.2.1, p.2.2.trans q.2.2⟩) h3⟩
    | cells own cs =>
    cases o with
    | map own' es0 clock0 => exact hso.elim
    | cells own' cs0 =>
    cases own' with
    | true => exact hso.elim
    | false =>
    refine ⟨hlt, fun p v hv => ?_⟩
    obtain ⟨u, hu, hR⟩ := hso p v hv
    cases own with
    | true =>
      obtain ⟨_, arr, ty, fz, h2, _, _, _, h6⟩ := hor
      obtain ⟨v', h7, h8⟩ := h6 (q + p) u hu
      refine ⟨v', ?_, hR ι v' h8⟩
      show World.cell? w ⟨e.blk, e.off + q + p, none⟩ = some v'
      unfold World.cell?
      rw [h2]
      rw [Nat.add_assoc]
      exact h7
    | false =>
      obtain ⟨_, h6⟩ := hor
      obtain ⟨v', h7, h8⟩ := h6 (q + p) u hu
      refine ⟨v', ?_, hR ι v' h8⟩
      show World.cell? w ⟨e.blk, e.off + q + p, none⟩ = some v'
      rw [Nat.add_assoc]
      exact h7
  · intro i j o o' e e' hi hj ho
    obtain ⟨i', q, _, hso⟩ := h.heap i o hi
    cases hg : st.get i' with
    | none => rw [hg] at hso; exact hso.elim
    | some ob =>
      rw [hg] at hso
      cases o with
      | cells own cs =>
        cases own with
        | false => cases ho
        | true => cases ob <;> exact hso.elim
      | map own es c =>
        cases own with
        | false => cases ho
        | true => cases ob <;> exact hso.elim

/- NEW OBJECTS -/
noncomputable def allocL : List AObj → St → Option St
  | [], s => some s
  | o :: l, s => match s.alloc o with | some (_, s') => allocL l s' | none => none

theorem allocL_some : ∀ {os : List AObj} {s s' : St}, allocL os s = some s' → s'.next = s.next + os.length ∧ (∀ i, s'.heap.get i = if s.next ≤ i ∧ i < s.next + os.length then os[i - s.next]? else s.heap.get i) ∧ ∀ i, s.next ≤ i → i < s'.next → s.vis i = true
  | [], s, s', h => by
    cases h
    exact ⟨rfl, fun i => by rw [if_neg (by simp only [List.length_nil]; omega)], fun i h1 h2 => by omega⟩
  | o :: os, s, s', h => by
    simp only [allocL] at h
    split at h
    · rename_i j s1 h1
      obtain ⟨v1, v2, rfl, rfl⟩ := St.alloc_some h1
      obtain ⟨k1, k2, k3⟩ := allocL_some h
      refine ⟨by rw [k1]; simp only [List.length_cons]; omega, fun i => ?_, fun i h1 h2 => ?_⟩
      · rw [k2, T.get_set]
        simp only [List.length_cons]
        by_cases c1 : s.next + 1 ≤ i ∧ i < s.next + 1 + os.length
        · rw [if_pos c1, if_pos (by omega), show i - s.next = (i - (s.next + 1)) + 1 from by omega]
          rfl
        · rw [if_neg c1]
          by_cases c2 : i = s.next
          · subst c2
            rw [if_pos rfl, if_pos (by omega), Nat.sub_self]
            rfl
          · rw [if_neg c2, if_neg (by omega)]
      · by_cases c : i = s.next
        · subst c; exact v1
        · exact k3 i (by simp only; omega) h2
    · cases h

theorem allocL_framed : ∀ (os : List AObj), Framed (fun s => match allocL os s with | some s' => some ((), s') | none => none)
  | [] => ret_framed ()
  | o :: os => by
    refine bind_framed (m := fun s => s.alloc o) (k := fun _ _ _ s => match allocL os s with | some s' => some ((), s') | none => none) (alloc_framed o) (fun _ _ _ => allocL_framed os) ?_
    intro s
    simp only [allocL]
    cases s.alloc o with
    | none => rfl
    | some p => rfl

noncomputable section
/-- What a law answers: new objects, and the value, told by the first of their numbers. -/
abbrev Ans := List AObj × (Nat → V)
def lawOut : Option Ans → St → Option (V × St)
  | none, _ => none
  | some (os, f), st => match allocL os st with | some st' => some (f st.next, st') | none => none
/-- A law: what is read of the arguments. -/
def lawOf (rd : List V → St → Option Ans) : List V → St → Option (V × St) := fun args st => lawOut (rd args st) st
/-- Sees no more than what is there. -/
def Reads (rd : List V → St → Option Ans) : Prop := ∀ args s s' g a, rd args s = some a → Ext s s' g → rd args g = some a
end

theorem lawOf_framed {rd : List V → St → Option Ans} (h : Reads rd) (args : List V) : Framed (lawOf rd args) := by
  intro s r s' hx
  have hx : lawOut (rd args s) s = some (r, s') := hx
  cases hr : rd args s with
  | none => rw [hr] at hx; cases hx
  | some a =>
    obtain ⟨os, f⟩ := a
    rw [hr] at hx
    have hx : (match allocL os s with | some st' => some (f s.next, st') | none => none) = some (r, s') := hx
    split at hx
    · rename_i s1 h1
      cases hx
      obtain ⟨w, k⟩ := allocL_framed os s () s' (by dsimp only; rw [h1])
      refine ⟨w, fun g hg => ?_⟩
      obtain ⟨g', k1, k2⟩ := k g hg
      refine ⟨g', ?_, k2⟩
      show lawOut (rd args g) g = _
      rw [h args s s' g _ hr hg]
      show (match allocL os g with | some st' => some (f g.next, st') | none => none) = _
      dsimp only at k1
      split at k1
      · rename_i g1 e1
        cases k1
        rw [hg.next]
      · cases k1
    · cases hx

/-- What the maps have to do with each other behind the small call. -/
def Outs (τ : Way) (n : Nat) (σ : List Nat) (ι1 ι2 : Map) : Prop :=
  (∀ k i q e1, τ k = some (i, q) → ι1 k = some e1 → ∃ e, ι2 i = some e ∧ e1 = e.at q) ∧ ∀ j k, σ[j]? = some k → ι2 (n + j) = ι1 k

/-- The answer is what the small call left. (σ: where the new objects lie in the small memory.) -/
structure Left (τ : Way) (n : Nat) (s0 s1 : St) (v0 : V) (os : List AObj) (σ : List Nat) (v : V) : Prop where
  val : ∀ ι1 ι2 x, Outs τ n σ ι1 ι2 → R ι1 v0 x → R ι2 v x
  len : σ.length = os.length
  objs : ∀ (j k : Nat) (o : AObj), σ[j]? = some k → os[j]? = some o → s0.next ≤ k ∧ ∃ o0, s1.heap.get k = some o0 ∧ o0.own = true ∧
    ∀ ι1 ι2 B B' w e, B ≤ B' → Outs τ n σ ι1 ι2 → OR ι1 B' w e o0 → OR ι2 B w e o
  inj : ∀ j j' k : Nat, σ[j]? = some k → σ[j']? = some k → j = j'

theorem small_ok {P : Program} {call0 : CallT} (h0 : Sound P call0) {g : Nat} {τ : Way} {args args0 : List V} {st st' s0 s1 : St} {v0 : V} {os : List AObj} {σ : List Nat} {f : Nat → V}
    (hrun : call0 g args0 s0 = some (v0, s1)) (hseen : Seen τ args st args0 s0) (hleft : Left τ st.next s0 s1 v0 os σ (f st.next)) (hal : allocL os st = some st')
    {B : Nat} {ι : Map} {w : World} {args' : Array Value} (hn : Neat st) (hrel : Rel ι B st.heap w) (hfr : ∀ i, st.next ≤ i → i < st'.next → ι i = none) (hargs : All2 (R ι) args args'.toList) :
    Calls P g args' w (CallPost ι B st st' (f st.next) w) := by
  obtain ⟨_, hc⟩ := h0.ok w.heap.size g args0 s0 v0 s1 hrun
  obtain ⟨a1, a2, a3⟩ := allocL_some hal
  refine (hc (via τ ι) w args' hseen.neat (hseen.rel hrel) (fun i h1 _ => by simp only [via, hseen.off i h1]) (hseen.args.map2 (fun a b c p q => p ι c q) hargs)).mono ?_
  rintro e w' ⟨x, ι1, rfl, hsub, hoth, hrel1, hbel, hR⟩
  let ι2 : Map := fun i => if st.next ≤ i ∧ i < st.next + os.length then (match σ[i - st.next]? with | some k => ι1 k | none => none) else ι i
  have hι2 : ∀ i, ¬ (st.next ≤ i ∧ i < st.next + os.length) → ι2 i = ι i := fun i h => if_neg h
  have hnew : ∀ j k, σ[j]? = some k → ι2 (st.next + j) = ι1 k := by
    intro j k hj
    have hlt : j < os.length := by rw [← hleft.len]; exact (List.getElem?_eq_some_iff.1 hj).1
    show (if st.next ≤ st.next + j ∧ st.next + j < st.next + os.length then (match σ[st.next + j - st.next]? with | some k => ι1 k | none => none) else ι (st.next + j)) = ι1 k
    rw [if_pos ⟨by omega, by omega⟩, Nat.add_sub_cancel_left, hj]
  have hsub2 : Sub ι ι2 := by
    intro i e he
    by_cases hi : st.next ≤ i ∧ i < st.next + os.length
    · rw [hfr i hi.1 (by rw [a1]; exact hi.2)] at he; cases he
    · rw [hι2 i hi]; exact he
  have houts : Outs τ st.next σ ι1 ι2 := by
    refine ⟨?_, hnew⟩
    intro k i q e1 hτ h1
    have hk : k < s0.next := by
      apply Nat.lt_of_not_le
      intro hle
      rw [hseen.off k hle] at hτ; cases hτ
    rw [hoth k (.inl hk)] at h1
    simp only [via, hτ, Option.map_eq_some_iff] at h1
    obtain ⟨e, he, rfl⟩ := h1
    exact ⟨e, hsub2 i e he, rfl⟩
  have hB : B ≤ w.heap.size := hrel.base
  have hout : ∀ i o, st.heap.get i = some o → ¬ (st.next ≤ i ∧ i < st.next + os.length) := by
    intro i o ho hi
    have := hn i hi.1
    rw [St.get_eq, if_pos (a3 i hi.1 (by rw [a1]; exact hi.2)), ho] at this
    cases this
  refine ⟨x, ι2, rfl, hsub2, ?_, ?_, hbel.mono hB, hleft.val ι1 ι2 x houts hR⟩
  · intro i hi
    exact hι2 i (by rw [a1] at hi; omega)
  · have old : ∀ i o, ¬ (st.next ≤ i ∧ i < st.next + os.length) → st'.heap.get i = some o → st.heap.get i = some o := by
      intro i o hi ho
      rw [a2, if_neg hi] at ho; exact ho
    have new : ∀ i o, (st.next ≤ i ∧ i < st.next + os.length) → st'.heap.get i = some o → ∃ k o0 e, σ[i - st.next]? = some k ∧ s1.heap.get k = some o0 ∧ o0.own = true ∧ ι1 k = some e ∧ ι2 i = some e ∧ e.blk < w'.heap.size ∧ w.heap.size ≤ e.blk ∧ OR ι2 B w' e o := by
      intro i o hi ho
      rw [a2, if_pos hi] at ho
      have hlt : i - st.next < σ.length := by rw [hleft.len]; omega
      have hk : σ[i - st.next]? = some (σ[i - st.next]) := List.getElem?_eq_getElem hlt
      obtain ⟨_, o0, x1, x2, x3⟩ := hleft.objs _ _ o hk ho
      obtain ⟨e, y1, y2, y3⟩ := hrel1.obj _ o0 x1
      refine ⟨_, o0, e, hk, x1, x2, y1, ?_, y2, y3.blk.1 x2, x3 ι1 ι2 B w.heap.size w' e hB houts y3⟩
      have := hnew _ _ hk
      rw [show st.next + (i - st.next) = i from by omega] at this
      rw [this, y1]
    refine ⟨Nat.le_trans hB hbel.size, ?_, ?_⟩
    · intro i o ho
      by_cases hi : st.next ≤ i ∧ i < st.next + os.length
      · obtain ⟨_, _, e, _, _, _, _, h1, h2, _, h3⟩ := new i o hi ho
        exact ⟨e, h1, h2, h3⟩
      · obtain ⟨e, h1, h2, h3⟩ := hrel.obj i o (old i o hi ho)
        exact ⟨e, hsub2 i e h1, Nat.lt_of_lt_of_le h2 hbel.size, h3.keep hsub2 (hbel.block e.blk h2)⟩
    · intro i j o o' e e' hi hj ho ho' he he' hb
      by_cases ci : st.next ≤ i ∧ i < st.next + os.length
      · obtain ⟨k, o0, e0, x1, x2, x3, x4, x5, x6, x7, _⟩ := new i o ci hi
        rw [x5] at he; cases he
        by_cases cj : st.next ≤ j ∧ j < st.next + os.length
        · obtain ⟨k', o0', e0', z1, z2, z3, z4, z5, z6, z7, _⟩ := new j o' cj hj
          rw [z5] at he'; cases he'
          have := hrel1.sep k k' o0 o0' e e' x2 z2 x3 z3 x4 z4 hb
          subst this
          have := hleft.inj _ _ _ x1 z1
          omega
        · exfalso
          obtain ⟨e2, h1, h2, _⟩ := hrel.obj j o' (old j o' cj hj)
          rw [hsub2 j e2 h1] at he'; cases he'
          omega
      · obtain ⟨e2, h1, h2, _⟩ := hrel.obj i o (old i o ci hi)
        rw [hsub2 i e2 h1] at he; cases he
        by_cases cj : st.next ≤ j ∧ j < st.next + os.length
        · exfalso
          obtain ⟨k', o0', e0', z1, z2, z3, z4, z5, z6, z7, _⟩ := new j o' cj hj
          rw [z5] at he'; cases he'
          omega
        · obtain ⟨e3, k1, k2, _⟩ := hrel.obj j o' (old j o' cj hj)
          rw [hsub2 j e3 k1] at he'; cases he'
          exact hrel.sep i j o o' e e' (old i o ci hi) (old j o' cj hj) ho ho' h1 k1 hb

/-- A law holds of function g: each answer of it is a small call's. -/
def Holds (call0 : CallT) (g : Nat) (rd : List V → St → Option Ans) : Prop := ∀ args st os f, rd args st = some (os, f) →
  ∃ τ args0 s0 s1 v0 σ, call0 g args0 s0 = some (v0, s1) ∧ Seen τ args st args0 s0 ∧ Left τ st.next s0 s1 v0 os σ (f st.next)

/-- The same of neat memories alone. -/
def HoldsN (call0 : CallT) (g : Nat) (rd : List V → St → Option Ans) : Prop := ∀ args st os f, Neat st → rd args st = some (os, f) →
  ∃ τ args0 s0 s1 v0 σ, call0 g args0 s0 = some (v0, s1) ∧ Seen τ args st args0 s0 ∧ Left τ st.next s0 s1 v0 os σ (f st.next)

theorem Sound.withN {P : Program} {call call0 : CallT} (h : Sound P call) (h0 : Sound P call0) {g : Nat} {rd : List V → St → Option Ans} (hr : Reads rd) (hcl : ∀ args st a, rd args st = some a → Callable P g) (hl : HoldsN call0 g rd) : Sound P (withL call g (lawOf rd)) := by
  refine ⟨fun B g' args st v st' hx => ?_, fun g' args => ?_⟩
  · unfold Vabs.withL at hx
    split at hx
    · rename_i e
      subst e
      have hx : lawOut (rd args st) st = some (v, st') := hx
      cases hrd : rd args st with
      | none => rw [hrd] at hx; cases hx
      | some a =>
        obtain ⟨os, f⟩ := a
        rw [hrd] at hx
        have hx : (match allocL os st with | some st' => some (f st.next, st') | none => none) = some (v, st') := hx
        split at hx
        · rename_i s1 hal
          cases hx
          refine ⟨?_, fun ι w args' hn hrel hfr hargs => ?_⟩
          · exact hcl args st _ hrd
          · obtain ⟨τ, args0, s0, s1, v0, σ, hrun, hseen, hleft⟩ := hl args st os f hn hrd
            exact small_ok h0 hrun hseen hleft hal hn hrel hfr hargs
        · cases hx
    · exact h.ok B g' args st v st' hx
  · by_cases e : g' = g
    · subst e
      have : (fun s => Vabs.withL call g' (lawOf rd) g' args s) = fun s => lawOf rd args s := funext fun s => withL_same
      show Framed (fun s => Vabs.withL call g' (lawOf rd) g' args s)
      rw [this]
      exact lawOf_framed hr args
    · have : (fun s => Vabs.withL call g (lawOf rd) g' args s) = fun s => call g' args s := funext fun s => withL_other e
      show Framed (fun s => Vabs.withL call g (lawOf rd) g' args s)
      rw [this]
      exact h.fr g' args

theorem Sound.withL {P : Program} {call call0 : CallT} (h : Sound P call) (h0 : Sound P call0) {g : Nat} {rd : List V → St → Option Ans} (hr : Reads rd) (hl : Holds call0 g rd) : Sound P (withL call g (lawOf rd)) :=
  h.withN h0 hr (fun args st a ha => by
    obtain ⟨os, f⟩ := a
    obtain ⟨_, args0, s0, s1, v0, σ, hrun, _⟩ := hl args st os f ha
    exact (h0.ok 0 g args0 s0 v0 s1 hrun).1) (fun args st os f _ ha => hl args st os f ha)

/- THE COMMON KINDS -/
/-- A value that leads nowhere. -/
def V.flat : V → Bool
  | .bool _ => true
  | .int _ _ => true
  | .str _ => true
  | .ptr none => true
  | .slice none _ _ _ _ => true
  | .map none => true
  | .nilFunc => true
  | _ => false
theorem flat_R1 {v : V} (h : v.flat = true) {ι ι' : Map} {x : Value} (hr : R1 ι v x) : R1 ι' v x := by
  cases v with
  | ptr a => cases a with | none => exact hr | some p => cases h
  | slice a e n c f => cases a with | none => exact hr | some p => cases h
  | map a => cases a with | none => exact hr | some p => cases h
  | func => cases h
  | agg => cases h
  | tuple => cases h
  | bad => cases h
  | yield => cases h
  | _ => exact hr
theorem flat_R {v : V} (h : v.flat = true) {ι ι' : Map} {x : Value} (hr : R ι v x) : R ι' v x := by
  cases v with
  | ptr a => cases a with | none => exact hr | some p => cases h
  | slice a e n c f => cases a with | none => exact hr | some p => cases h
  | map a => cases a with | none => exact hr | some p => cases h
  | func => cases h
  | agg => cases h
  | tuple => cases h
  | bad => cases h
  | yield => cases h
  | _ => exact hr
theorem flat_R2 {v : V} (h : v.flat = true) {ι ι' : Map} {x : Value} (hr : R2 ι v x) : R2 ι' v x := (flat_R (ι' := ι') h hr.up).of_plain (by cases v <;> first | rfl | cases h)
theorem flats_R2 {ι ι' : Map} : ∀ {vs : List V} {xs : List Value}, (∀ v ∈ vs, v.flat = true) → All2 (R2 ι) vs xs → All2 (R2 ι') vs xs
  | [], [], _, _ => trivial
  | v :: vs, x :: xs, h, ⟨a, b⟩ => ⟨flat_R2 (h v (List.mem_cons_self ..)) a, flats_R2 (fun u hu => h u (List.mem_cons_of_mem _ hu)) b⟩
  | [], _ :: _, _, h => h.elim
  | _ :: _, [], _, h => h.elim
/-- Flat, or a tuple of such. -/
def V.flats : V → Bool
  | .tuple vs => vs.all V.flat
  | v => v.flat
theorem flats_R {v : V} (h : v.flats = true) {ι ι' : Map} {x : Value} (hr : R ι v x) : R ι' v x := by
  cases v with
  | tuple vs =>
    obtain ⟨vs', rfl, h1⟩ := hr
    have h : vs.all V.flat = true := h
    exact ⟨vs', rfl, flats_R2 (fun v hv => List.all_eq_true.1 h v hv) h1⟩
  | _ => (dsimp only [V.flats] at h; exact flat_R h hr)

/-- No new object; the value leads nowhere. -/
theorem Left.flat {τ : Way} {n : Nat} {s0 s1 : St} {v : V} (h : v.flats = true) : Left τ n s0 s1 v [] [] v :=
  ⟨fun ι1 ι2 x _ hr => flats_R h hr, rfl, (fun j k o h => by cases h), (fun j j' k h => by cases h)⟩

/-- An object of flat cells is that whatever the map. -/
theorem or_flat {ι ι' : Map} {B B' : Nat} {w : World} {e : Entry} {cs : List V} (hB : B ≤ B') (hf : ∀ v ∈ cs, v.flat = true) (h : OR ι B' w e (.cells true cs)) : OR ι' B w e (.cells true cs) := by
  obtain ⟨h1, arr, ty, fz, h2, h3, h4, h5, h6⟩ := h
  refine ⟨Nat.le_trans hB h1, arr, ty, fz, h2, h3, h4, h5, fun k v hv => ?_⟩
  obtain ⟨v', x, y⟩ := h6 k v hv
  exact ⟨v', x, flat_R1 (hf v (List.mem_of_getElem? hv)) y⟩

/-- No arguments. -/
theorem Seen.nothing {st : St} : Seen (fun _ => none) [] st [] st0 := ⟨trivial, (fun k o h => by cases h), fun _ _ => rfl, fun i _ => rfl⟩

/-- A closed call's law. -/
noncomputable def closedRd (v : V) : List V → St → Option Ans := fun args _ => match args with | [] => some ([], fun _ => v) | _ => none
theorem closed_reads (v : V) : Reads (closedRd v) := fun args s s' g a h _ => h
theorem closed_holds {call0 : CallT} {g : Nat} {v : V} {s1 : St} (h : call0 g [] st0 = some (v, s1)) (hv : v.flats = true) : Holds call0 g (closedRd v) := by
  intro args st os f hr
  unfold closedRd at hr
  split at hr
  · cases hr
    exact ⟨_, [], st0, s1, v, [], h, Seen.nothing, Left.flat hv⟩
  · cases hr

end Go.Vabs

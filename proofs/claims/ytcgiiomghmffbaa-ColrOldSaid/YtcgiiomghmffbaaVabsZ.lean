/- Lemmas for this claim, text Z. No condition. -/
import Derived.Test.YtcgiiomghmffbaaVabsW
namespace Go.Vabs
set_option linter.unusedVariables false
set_option linter.unusedSimpArgs false
structure Sound (P : Program) (call : CallT) : Prop where
  ok : ∀ B, CallOK P B call
  fr : CallFramed call
theorem Sound.nothing {P : Program} : Sound P (fun _ _ _ => none) := ⟨(fun B g args st v st' h => by cases h), fun g args => none_framed⟩
theorem Sound.table {P : Program} (hmix : P.follows .mixedOrders = true) (n lf d : Nat) : Sound P (callF (table P n) lf d) := ⟨fun B => call_ok hmix (table_ok n) lf d, callF_framed _ _ _⟩
noncomputable section
def withF (call : CallT) (g lf : Nat) (fn : AFunc) : CallT := fun g' args st => if g' = g then enterF call lf args st fn else call g' args st
def withL (call : CallT) (g : Nat) (l : List V → St → Option (V × St)) : CallT := fun g' args st => if g' = g then l args st else call g' args st
end
theorem withF_same {call : CallT} {g lf : Nat} {fn : AFunc} {args : List V} {st : St} : withF call g lf fn g args st = enterF call lf args st fn := if_pos rfl
theorem withF_other {call : CallT} {g lf g' : Nat} {fn : AFunc} {args : List V} {st : St} (h : g' ≠ g) : withF call g lf fn g' args st = call g' args st := if_neg h
theorem withL_same {call : CallT} {g : Nat} {l : List V → St → Option (V × St)} {args : List V} {st : St} : withL call g l g args st = l args st := if_pos rfl
theorem withL_other {call : CallT} {g g' : Nat} {l : List V → St → Option (V × St)} {args : List V} {st : St} (h : g' ≠ g) : withL call g l g' args st = call g' args st := if_neg h
theorem Sound.withF {P : Program} {call : CallT} (hmix : P.follows .mixedOrders = true) (h : Sound P call) {g : Nat} (lf : Nat) {fn : AFunc} (hc : compF P g = some fn) : Sound P (withF call g lf fn) := by
  refine ⟨fun B g' args st v st' hx => ?_, fun g' args => ?_⟩
  · unfold Vabs.withF at hx
    split at hx
    · rename_i e
      subst e
      exact enter_ok hmix (h.ok B) h.fr hc hx
    · exact h.ok B g' args st v st' hx
  · by_cases e : g' = g
    · subst e
      have : (fun s => Vabs.withF call g' lf fn g' args s) = fun s => enterF call lf args s fn := funext fun s => withF_same
      show Framed (fun s => Vabs.withF call g' lf fn g' args s)
      rw [this]
      exact enter_framed h.fr lf args fn
    · have : (fun s => Vabs.withF call g lf fn g' args s) = fun s => call g' args s := funext fun s => withF_other e
      show Framed (fun s => Vabs.withF call g lf fn g' args s)
      rw [this]
      exact h.fr g' args
abbrev Way := Nat → Option (Nat × Nat)
def Entry.at (e : Entry) (q : Nat) : Entry := ⟨e.blk, e.off + q, e.tot - q⟩
def via (τ : Way) (ι : Map) : Map := fun k => match τ k with | some (i, q) => (ι i).map (·.at q) | none => none
theorem All2.map2 {α β γ : Type} {p : α → β → Prop} {q : β → γ → Prop} {r : α → γ → Prop} (h : ∀ a b c, p a b → q b c → r a c) : ∀ {l : List α} {m : List β} {n : List γ}, All2 p l m → All2 q m n → All2 r l n
  | [], [], [], _, _ => trivial
  | _ :: _, _ :: _, _ :: _, ⟨x, y⟩, ⟨x', y'⟩ => ⟨h _ _ _ x x', All2.map2 h y y'⟩
  | [], [], _ :: _, _, h => h.elim
  | [], _ :: _, _, h, _ => h.elim
  | _ :: _, [], _, h, _ => h.elim
  | _ :: _, _ :: _, [], _, h => h.elim
def SeenO (τ : Way) (q : Nat) : Option AObj → AObj → Prop
  | some (.cells _ cs), .cells false cs0 => ∀ p v, cs0[p]? = some v → ∃ u, cs[q + p]? = some u ∧ ∀ ι x, R1 ι u x → R1 (via τ ι) v x
  | some (.map _ es clock), .map false es0 clock0 => q = 0 ∧ clock0 = clock ∧ All2 (fun (y0 y : V × V × Nat) => (∀ ι x, R0 ι y.1 x → R0 (via τ ι) y0.1 x) ∧ (∀ ι x, R2 ι y.2.1 x → R2 (via τ ι) y0.2.1 x) ∧ y0.2.2 = y.2.2) es0 es
  | _, _ => False
structure Seen (τ : Way) (args : List V) (st : St) (args0 : List V) (s0 : St) : Prop where
  args : All2 (fun a0 a => ∀ ι x, R ι a x → R (via τ ι) a0 x) args0 args
  heap : ∀ k o, s0.heap.get k = some o → ∃ i q, τ k = some (i, q) ∧ SeenO τ q (st.get i) o
  off : ∀ k, s0.next ≤ k → τ k = none
  neat : Neat s0
theorem Seen.ofCells {τ : Way} {args args0 : List V} {st s0 : St} (ha : All2 (fun a0 a => ∀ ι x, R ι a x → R (via τ ι) a0 x) args0 args)
    (hh : ∀ k o, s0.heap.get k = some o → ∃ i q own cs cs0, o = .cells false cs0 ∧ τ k = some (i, q) ∧ st.get i = some (.cells own cs) ∧
      ∀ p v, cs0[p]? = some v → ∃ u, cs[q + p]? = some u ∧ ∀ ι x, R1 ι u x → R1 (via τ ι) v x)
    (ho : ∀ k, s0.next ≤ k → τ k = none) (hn : Neat s0) : Seen τ args st args0 s0 :=
  ⟨ha, fun k o hk => by obtain ⟨i, q, own, cs, cs0, rfl, h1, h2, h3⟩ := hh k o hk; exact ⟨i, q, h1, by rw [h2]; exact h3⟩, ho, hn⟩
theorem Seen.rel {τ : Way} {args args0 : List V} {st s0 : St} (h : Seen τ args st args0 s0) {ι : Map} {B : Nat} {w : World} (hr : Rel ι B st.heap w) : Rel (via τ ι) w.heap.size s0.heap w := by
  refine ⟨Nat.le_refl _, ?_, ?_⟩
  · intro k o hk
    obtain ⟨i, q, hτ, hso⟩ := h.heap k o hk
    cases hi : st.get i with
    | none => rw [hi] at hso; exact hso.elim
    | some ob =>
    rw [hi] at hso
    obtain ⟨e, he, hlt, hor⟩ := hr.obj i _ (St.get_heap hi)
    refine ⟨e.at q, by simp only [via, hτ, he, Option.map_some], hlt, ?_⟩
    cases ob with
    | map own es clock =>
      cases o with
      | cells own' cs0 => cases own' <;> exact hso.elim
      | map own' es0 clock0 =>
        cases own' with
        | true => exact hso.elim
        | false =>
          obtain ⟨rfl, rfl, hes⟩ := hso
          refine ⟨hlt, ?_⟩
          obtain ⟨arr, h2, h3⟩ : ∃ es', w.heap[e.blk]? = some (.map es' clock0) ∧ All2 (fun (x : V × V × Nat) (y : MapEntry) => R0 ι x.1 y.key ∧ R2 ι x.2.1 y.val ∧ x.2.2 = y.born) es es'.toList := by
            cases own with
            | true => exact hor.2
            | false => exact hor.2
          exact ⟨arr, h2, hes.map2 (fun a b c p q => ⟨p.1 ι _ q.1, p.2.1 ι _ q.2.1, p.2.2.trans q.2.2⟩) h3⟩
    | cells own cs =>
    cases o with
    | map own' es0 clock0 => exact hso.elim
    | cells own' cs0 =>
    cases own' with
    | true => exact hso.elim
    | false =>
    refine ⟨hlt, fun p v hv => ?_⟩
    obtain ⟨u, hu, hR⟩ := hso p v hv
    cases own with
    | true =>
      obtain ⟨_, arr, ty, fz, h2, _, _, _, h6⟩ := hor
      obtain ⟨v', h7, h8⟩ := h6 (q + p) u hu
      refine ⟨v', ?_, hR ι v' h8⟩
      show World.cell? w ⟨e.blk, e.off + q + p, none⟩ = some v'
      unfold World.cell?
      rw [h2]
      rw [Nat.add_assoc]
      exact h7
    | false =>
      obtain ⟨_, h6⟩ := hor
      obtain ⟨v', h7, h8⟩ := h6 (q + p) u hu
      refine ⟨v', ?_, hR ι v' h8⟩
      show World.cell? w ⟨e.blk, e.off + q + p, none⟩ = some v'
      rw [Nat.add_assoc]
      exact h7
  · intro i j o o' e e' hi hj ho
    obtain ⟨i', q, _, hso⟩ := h.heap i o hi
    cases hg : st.get i' with
    | none => rw [hg] at hso; exact hso.elim
    | some ob =>
      rw [hg] at hso
      cases o with
      | cells own cs =>
        cases own with
        | false => cases ho
        | true => cases ob <;> exact hso.elim
      | map own es c =>
        cases own with
        | false => cases ho
        | true => cases ob <;> exact hso.elim
noncomputable def allocL : List AObj → St → Option St
  | [], s => some s
  | o :: l, s => match s.alloc o with | some (_, s') => allocL l s' | none => none
theorem allocL_some : ∀ {os : List AObj} {s s' : St}, allocL os s = some s' → s'.next = s.next + os.length ∧ (∀ i, s'.heap.get i = if s.next ≤ i ∧ i < s.next + os.length then os[i - s.next]? else s.heap.get i) ∧ ∀ i, s.next ≤ i → i < s'.next → s.vis i = true
  | [], s, s', h => by
    cases h
    exact ⟨rfl, fun i => by rw [if_neg (by simp only [List.length_nil]; omega)], fun i h1 h2 => by omega⟩
  | o :: os, s, s', h => by
    simp only [allocL] at h
    split at h
    · rename_i j s1 h1
      obtain ⟨v1, v2, rfl, rfl⟩ := St.alloc_some h1
      obtain ⟨k1, k2, k3⟩ := allocL_some h
      refine ⟨by rw [k1]; simp only [List.length_cons]; omega, fun i => ?_, fun i h1 h2 => ?_⟩
      · rw [k2, T.get_set]
        simp only [List.length_cons]
        by_cases c1 : s.next + 1 ≤ i ∧ i < s.next + 1 + os.length
        · rw [if_pos c1, if_pos (by omega), show i - s.next = (i - (s.next + 1)) + 1 from by omega]
          rfl
        · rw [if_neg c1]
          by_cases c2 : i = s.next
          · subst c2
            rw [if_pos rfl, if_pos (by omega), Nat.sub_self]
            rfl
          · rw [if_neg c2, if_neg (by omega)]
      · by_cases c : i = s.next
        · subst c; exact v1
        · exact k3 i (by simp only; omega) h2
    · cases h
theorem allocL_framed : ∀ (os : List AObj), Framed (fun s => match allocL os s with | some s' => some ((), s') | none => none)
  | [] => ret_framed ()
  | o :: os => by
    refine bind_framed (m := fun s => s.alloc o) (k := fun _ _ _ s => match allocL os s with | some s' => some ((), s') | none => none) (alloc_framed o) (fun _ _ _ => allocL_framed os) ?_
    intro s
    simp only [allocL]
    cases s.alloc o with
    | none => rfl
    | some p => rfl
noncomputable section
abbrev Ans := List AObj × (Nat → V)
def lawOut : Option Ans → St → Option (V × St)
  | none, _ => none
  | some (os, f), st => match allocL os st with | some st' => some (f st.next, st') | none => none
def lawOf (rd : List V → St → Option Ans) : List V → St → Option (V × St) := fun args st => lawOut (rd args st) st
def Reads (rd : List V → St → Option Ans) : Prop := ∀ args s s' g a, rd args s = some a → Ext s s' g → rd args g = some a
end
theorem lawOf_framed {rd : List V → St → Option Ans} (h : Reads rd) (args : List V) : Framed (lawOf rd args) := by
  intro s r s' hx
  have hx : lawOut (rd args s) s = some (r, s') := hx
  cases hr : rd args s with
  | none => rw [hr] at hx; cases hx
  | some a =>
    obtain ⟨os, f⟩ := a
    rw [hr] at hx
    have hx : (match allocL os s with | some st' => some (f s.next, st') | none => none) = some (r, s') := hx
    split at hx
    · rename_i s1 h1
      cases hx
      obtain ⟨w, k⟩ := allocL_framed os s () s' (by dsimp only; rw [h1])
      refine ⟨w, fun g hg => ?_⟩
      obtain ⟨g', k1, k2⟩ := k g hg
      refine ⟨g', ?_, k2⟩
      show lawOut (rd args g) g = _
      rw [h args s s' g _ hr hg]
      show (match allocL os g with | some st' => some (f g.next, st') | none => none) = _
      dsimp only at k1
      split at k1
      · rename_i g1 e1
        cases k1
        rw [hg.next]
      · cases k1
    · cases hx
def Outs (τ : Way) (n : Nat) (σ : List Nat) (ι1 ι2 : Map) : Prop :=
  (∀ k i q e1, τ k = some (i, q) → ι1 k = some e1 → ∃ e, ι2 i = some e ∧ e1 = e.at q) ∧ ∀ j k, σ[j]? = some k → ι2 (n + j) = ι1 k
structure Left (τ : Way) (n : Nat) (s0 s1 : St) (v0 : V) (os : List AObj) (σ : List Nat) (v : V) : Prop where
  val : ∀ ι1 ι2 x, Outs τ n σ ι1 ι2 → R ι1 v0 x → R ι2 v x
  len : σ.length = os.length
  objs : ∀ (j k : Nat) (o : AObj), σ[j]? = some k → os[j]? = some o → s0.next ≤ k ∧ ∃ o0, s1.heap.get k = some o0 ∧ o0.own = true ∧
    ∀ ι1 ι2 B B' w e, B ≤ B' → Outs τ n σ ι1 ι2 → OR ι1 B' w e o0 → OR ι2 B w e o
  inj : ∀ j j' k : Nat, σ[j]? = some k → σ[j']? = some k → j = j'
theorem small_ok {P : Program} {call0 : CallT} (h0 : Sound P call0) {g : Nat} {τ : Way} {args args0 : List V} {st st' s0 s1 : St} {v0 : V} {os : List AObj} {σ : List Nat} {f : Nat → V}
    (hrun : call0 g args0 s0 = some (v0, s1)) (hseen : Seen τ args st args0 s0) (hleft : Left τ st.next s0 s1 v0 os σ (f st.next)) (hal : allocL os st = some st')
    {B : Nat} {ι : Map} {w : World} {args' : Array Value} (hn : Neat st) (hrel : Rel ι B st.heap w) (hfr : ∀ i, st.next ≤ i → i < st'.next → ι i = none) (hargs : All2 (R ι) args args'.toList) :
    Calls P g args' w (CallPost ι B st st' (f st.next) w) := by
  obtain ⟨_, hc⟩ := h0.ok w.heap.size g args0 s0 v0 s1 hrun
  obtain ⟨a1, a2, a3⟩ := allocL_some hal
  refine (hc (via τ ι) w args' hseen.neat (hseen.rel hrel) (fun i h1 _ => by simp only [via, hseen.off i h1]) (hseen.args.map2 (fun a b c p q => p ι c q) hargs)).mono ?_
  rintro e w' ⟨x, ι1, rfl, hsub, hoth, hrel1, hbel, hR⟩
  let ι2 : Map := fun i => if st.next ≤ i ∧ i < st.next + os.length then (match σ[i - st.next]? with | some k => ι1 k | none => none) else ι i
  have hι2 : ∀ i, ¬ (st.next ≤ i ∧ i < st.next + os.length) → ι2 i = ι i := fun i h => if_neg h
  have hnew : ∀ j k, σ[j]? = some k → ι2 (st.next + j) = ι1 k := by
    intro j k hj
    have hlt : j < os.length := by rw [← hleft.len]; exact (List.getElem?_eq_some_iff.1 hj).1
    show (if st.next ≤ st.next + j ∧ st.next + j < st.next + os.length then (match σ[st.next + j - st.next]? with | some k => ι1 k | none => none) else ι (st.next + j)) = ι1 k
    rw [if_pos ⟨by omega, by omega⟩, Nat.add_sub_cancel_left, hj]
  have hsub2 : Sub ι ι2 := by
    intro i e he
    by_cases hi : st.next ≤ i ∧ i < st.next + os.length
    · rw [hfr i hi.1 (by rw [a1]; exact hi.2)] at he; cases he
    · rw [hι2 i hi]; exact he
  have houts : Outs τ st.next σ ι1 ι2 := by
    refine ⟨?_, hnew⟩
    intro k i q e1 hτ h1
    have hk : k < s0.next := by
      apply Nat.lt_of_not_le
      intro hle
      rw [hseen.off k hle] at hτ; cases hτ
    rw [hoth k (.inl hk)] at h1
    simp only [via, hτ, Option.map_eq_some_iff] at h1
    obtain ⟨e, he, rfl⟩ := h1
    exact ⟨e, hsub2 i e he, rfl⟩
  have hB : B ≤ w.heap.size := hrel.base
  have hout : ∀ i o, st.heap.get i = some o → ¬ (st.next ≤ i ∧ i < st.next + os.length) := by
    intro i o ho hi
    have := hn i hi.1
    rw [St.get_eq, if_pos (a3 i hi.1 (by rw [a1]; exact hi.2)), ho] at this
    cases this
  refine ⟨x, ι2, rfl, hsub2, ?_, ?_, hbel.mono hB, hleft.val ι1 ι2 x houts hR⟩
  · intro i hi
    exact hι2 i (by rw [a1] at hi; omega)
  · have old : ∀ i o, ¬ (st.next ≤ i ∧ i < st.next + os.length) → st'.heap.get i = some o → st.heap.get i = some o := by
      intro i o hi ho
      rw [a2, if_neg hi] at ho; exact ho
    have new : ∀ i o, (st.next ≤ i ∧ i < st.next + os.length) → st'.heap.get i = some o → ∃ k o0 e, σ[i - st.next]? = some k ∧ s1.heap.get k = some o0 ∧ o0.own = true ∧ ι1 k = some e ∧ ι2 i = some e ∧ e.blk < w'.heap.size ∧ w.heap.size ≤ e.blk ∧ OR ι2 B w' e o := by
      intro i o hi ho
      rw [a2, if_pos hi] at ho
      have hlt : i - st.next < σ.length := by rw [hleft.len]; omega
      have hk : σ[i - st.next]? = some (σ[i - st.next]) := List.getElem?_eq_getElem hlt
      obtain ⟨_, o0, x1, x2, x3⟩ := hleft.objs _ _ o hk ho
      obtain ⟨e, y1, y2, y3⟩ := hrel1.obj _ o0 x1
      refine ⟨_, o0, e, hk, x1, x2, y1, ?_, y2, y3.blk.1 x2, x3 ι1 ι2 B w.heap.size w' e hB houts y3⟩
      have := hnew _ _ hk
      rw [show st.next + (i - st.next) = i from by omega] at this
      rw [this, y1]
    refine ⟨Nat.le_trans hB hbel.size, ?_, ?_⟩
    · intro i o ho
      by_cases hi : st.next ≤ i ∧ i < st.next + os.length
      · obtain ⟨_, _, e, _, _, _, _, h1, h2, _, h3⟩ := new i o hi ho
        exact ⟨e, h1, h2, h3⟩
      · obtain ⟨e, h1, h2, h3⟩ := hrel.obj i o (old i o hi ho)
        exact ⟨e, hsub2 i e h1, Nat.lt_of_lt_of_le h2 hbel.size, h3.keep hsub2 (hbel.block e.blk h2)⟩
    · intro i j o o' e e' hi hj ho ho' he he' hb
      by_cases ci : st.next ≤ i ∧ i < st.next + os.length
      · obtain ⟨k, o0, e0, x1, x2, x3, x4, x5, x6, x7, _⟩ := new i o ci hi
        rw [x5] at he; cases he
        by_cases cj : st.next ≤ j ∧ j < st.next + os.length
        · obtain ⟨k', o0', e0', z1, z2, z3, z4, z5, z6, z7, _⟩ := new j o' cj hj
          rw [z5] at he'; cases he'
          have := hrel1.sep k k' o0 o0' e e' x2 z2 x3 z3 x4 z4 hb
          subst this
          have := hleft.inj _ _ _ x1 z1
          omega
        · exfalso
          obtain ⟨e2, h1, h2, _⟩ := hrel.obj j o' (old j o' cj hj)
          rw [hsub2 j e2 h1] at he'; cases he'
          omega
      · obtain ⟨e2, h1, h2, _⟩ := hrel.obj i o (old i o ci hi)
        rw [hsub2 i e2 h1] at he; cases he
        by_cases cj : st.next ≤ j ∧ j < st.next + os.length
        · exfalso
          obtain ⟨k', o0', e0', z1, z2, z3, z4, z5, z6, z7, _⟩ := new j o' cj hj
          rw [z5] at he'; cases he'
          omega
        · obtain ⟨e3, k1, k2, _⟩ := hrel.obj j o' (old j o' cj hj)
          rw [hsub2 j e3 k1] at he'; cases he'
          exact hrel.sep i j o o' e e' (old i o ci hi) (old j o' cj hj) ho ho' h1 k1 hb
def Holds (call0 : CallT) (g : Nat) (rd : List V → St → Option Ans) : Prop := ∀ args st os f, rd args st = some (os, f) →
  ∃ τ args0 s0 s1 v0 σ, call0 g args0 s0 = some (v0, s1) ∧ Seen τ args st args0 s0 ∧ Left τ st.next s0 s1 v0 os σ (f st.next)
def HoldsN (call0 : CallT) (g : Nat) (rd : List V → St → Option Ans) : Prop := ∀ args st os f, Neat st → rd args st = some (os, f) →
  ∃ τ args0 s0 s1 v0 σ, call0 g args0 s0 = some (v0, s1) ∧ Seen τ args st args0 s0 ∧ Left τ st.next s0 s1 v0 os σ (f st.next)
theorem Sound.withN {P : Program} {call call0 : CallT} (h : Sound P call) (h0 : Sound P call0) {g : Nat} {rd : List V → St → Option Ans} (hr : Reads rd) (hcl : ∀ args st a, rd args st = some a → Callable P g) (hl : HoldsN call0 g rd) : Sound P (withL call g (lawOf rd)) := by
  refine ⟨fun B g' args st v st' hx => ?_, fun g' args => ?_⟩
  · unfold Vabs.withL at hx
    split at hx
    · rename_i e
      subst e
      have hx : lawOut (rd args st) st = some (v, st') := hx
      cases hrd : rd args st with
      | none => rw [hrd] at hx; cases hx
      | some a =>
        obtain ⟨os, f⟩ := a
        rw [hrd] at hx
        have hx : (match allocL os st with | some st' => some (f st.next, st') | none => none) = some (v, st') := hx
        split at hx
        · rename_i s1 hal
          cases hx
          refine ⟨?_, fun ι w args' hn hrel hfr hargs => ?_⟩
          · exact hcl args st _ hrd
          · obtain ⟨τ, args0, s0, s1, v0, σ, hrun, hseen, hleft⟩ := hl args st os f hn hrd
            exact small_ok h0 hrun hseen hleft hal hn hrel hfr hargs
        · cases hx
    · exact h.ok B g' args st v st' hx
  · by_cases e : g' = g
    · subst e
      have : (fun s => Vabs.withL call g' (lawOf rd) g' args s) = fun s => lawOf rd args s := funext fun s => withL_same
      show Framed (fun s => Vabs.withL call g' (lawOf rd) g' args s)
      rw [this]
      exact lawOf_framed hr args
    · have : (fun s => Vabs.withL call g (lawOf rd) g' args s) = fun s => call g' args s := funext fun s => withL_other e
      show Framed (fun s => Vabs.withL call g (lawOf rd) g' args s)
      rw [this]
      exact h.fr g' args
theorem Sound.withL {P : Program} {call call0 : CallT} (h : Sound P call) (h0 : Sound P call0) {g : Nat} {rd : List V → St → Option Ans} (hr : Reads rd) (hl : Holds call0 g rd) : Sound P (withL call g (lawOf rd)) :=
  h.withN h0 hr (fun args st a ha => by
    obtain ⟨os, f⟩ := a
    obtain ⟨_, args0, s0, s1, v0, σ, hrun, _⟩ := hl args st os f ha
    exact (h0.ok 0 g args0 s0 v0 s1 hrun).1) (fun args st os f _ ha => hl args st os f ha)
def V.flat : V → Bool
  | .bool _ => true
  | .int _ _ => true
  | .str _ => true
  | .ptr none => true
  | .slice none _ _ _ _ => true
  | .map none => true
  | .nilFunc => true
  | _ => false
theorem flat_R1 {v : V} (h : v.flat = true) {ι ι' : Map} {x : Value} (hr : R1 ι v x) : R1 ι' v x := by
  cases v with
  | ptr a => cases a with | none => exact hr | some p => cases h
  | slice a e n c f => cases a with | none => exact hr | some p => cases h
  | map a => cases a with | none => exact hr | some p => cases h
  | func => cases h
  | agg => cases h
  | tuple => cases h
  | bad => cases h
  | yield => cases h
  | _ => exact hr
theorem flat_R {v : V} (h : v.flat = true) {ι ι' : Map} {x : Value} (hr : R ι v x) : R ι' v x := by
  cases v with
  | ptr a => cases a with | none => exact hr | some p => cases h
  | slice a e n c f => cases a with | none => exact hr | some p => cases h
  | map a => cases a with | none => exact hr | some p => cases h
  | func => cases h
  | agg => cases h
  | tuple => cases h
  | bad => cases h
  | yield => cases h
  | _ => exact hr
theorem flat_R2 {v : V} (h : v.flat = true) {ι ι' : Map} {x : Value} (hr : R2 ι v x) : R2 ι' v x := (flat_R (ι' := ι') h hr.up).of_plain (by cases v <;> first | rfl | cases h)
theorem flats_R2 {ι ι' : Map} : ∀ {vs : List V} {xs : List Value}, (∀ v ∈ vs, v.flat = true) → All2 (R2 ι) vs xs → All2 (R2 ι') vs xs
  | [], [], _, _ => trivial
  | v :: vs, x :: xs, h, ⟨a, b⟩ => ⟨flat_R2 (h v (List.mem_cons_self ..)) a, flats_R2 (fun u hu => h u (List.mem_cons_of_mem _ hu)) b⟩
  | [], _ :: _, _, h => h.elim
  | _ :: _, [], _, h => h.elim
def V.flats : V → Bool
  | .tuple vs => vs.all V.flat
  | v => v.flat
theorem flats_R {v : V} (h : v.flats = true) {ι ι' : Map} {x : Value} (hr : R ι v x) : R ι' v x := by
  cases v with
  | tuple vs =>
    obtain ⟨vs', rfl, h1⟩ := hr
    have h : vs.all V.flat = true := h
    exact ⟨vs', rfl, flats_R2 (fun v hv => List.all_eq_true.1 h v hv) h1⟩
  | _ => (dsimp only [V.flats] at h; exact flat_R h hr)
theorem Left.flat {τ : Way} {n : Nat} {s0 s1 : St} {v : V} (h : v.flats = true) : Left τ n s0 s1 v [] [] v :=
  ⟨fun ι1 ι2 x _ hr => flats_R h hr, rfl, (fun j k o h => by cases h), (fun j j' k h => by cases h)⟩
theorem or_flat {ι ι' : Map} {B B' : Nat} {w : World} {e : Entry} {cs : List V} (hB : B ≤ B') (hf : ∀ v ∈ cs, v.flat = true) (h : OR ι B' w e (.cells true cs)) : OR ι' B w e (.cells true cs) := by
  obtain ⟨h1, arr, ty, fz, h2, h3, h4, h5, h6⟩ := h
  refine ⟨Nat.le_trans hB h1, arr, ty, fz, h2, h3, h4, h5, fun k v hv => ?_⟩
  obtain ⟨v', x, y⟩ := h6 k v hv
  exact ⟨v', x, flat_R1 (hf v (List.mem_of_getElem? hv)) y⟩
theorem Seen.nothing {st : St} : Seen (fun _ => none) [] st [] st0 := ⟨trivial, (fun k o h => by cases h), fun _ _ => rfl, fun i _ => rfl⟩
noncomputable def closedRd (v : V) : List V → St → Option Ans := fun args _ => match args with | [] => some ([], fun _ => v) | _ => none
theorem closed_reads (v : V) : Reads (closedRd v) := fun args s s' g a h _ => h
theorem closed_holds {call0 : CallT} {g : Nat} {v : V} {s1 : St} (h : call0 g [] st0 = some (v, s1)) (hv : v.flats = true) : Holds call0 g (closedRd v) := by
  intro args st os f hr
  unfold closedRd at hr
  split at hr
  · cases hr
    exact ⟨_, [], st0, s1, v, [], h, Seen.nothing, Left.flat hv⟩
  · cases hr
end Go.Vabs

namespace Go.Vabs
set_option linter.unusedVariables false
set_option linter.unusedSimpArgs false
abbrev Env := Pos → V
noncomputable section
def Env.put (s : Env) : Option Pos → V → Env
  | none, _ => s
  | some p, v => fun q => sel (posEq q p) v (s q)
def Env.ev (s : Env) : Src → V
  | .t p => s p
  | .c v => v
def envOf (f : Frame) : Env := fun p => f.ev (.t p)
end
theorem envOf_ev {f : Frame} : f.ev = (envOf f).ev := funext fun x => by cases x <;> rfl
theorem envOf_put {f : Frame} {d : Option Pos} {v : V} : envOf (f.put d v) = (envOf f).put d v := by
  cases d with
  | none => rfl
  | some p =>
    funext q
    show Frame.ev (T.lay p v f) (.t q) = sel (posEq q p) v (f.ev (.t q))
    rw [ev_t, ev_t]
    by_cases h : q = p
    · subst h
      rw [T.look_lay_same, posEq_iff.2 rfl]
      rfl
    · rw [T.look_lay_other _ _ _ _ h]
      have : posEq q p = false := by
        cases e : posEq q p with
        | false => rfl
        | true => exact absurd (posEq_iff.1 e) h
      rw [this]
      rfl
noncomputable section
def wantedE (s : Env) : Option (Pos × Bool) → Option Bool
  | none => some true
  | some g => boolIs g.2 (s g.1)
end
theorem wanted_env {f : Frame} {g : Option (Pos × Bool)} : wanted f g = wantedE (envOf f) g := by
  cases g with
  | none => rfl
  | some g =>
    show (Option.rec none (boolIs g.2) (f.look g.1) : Option Bool) = boolIs g.2 (f.ev (.t g.1))
    rw [ev_t]
    cases f.look g.1 <;> rfl
noncomputable section
def stepE (call : CallT) (o : AOp) (s : Env) (st : St) : Option (V × St) :=
  match execOp o s.ev st with
  | some (.val v, st') => some (v, st')
  | some (.enter g args, st') => call g args st'
  | none => none
def runE (call : CallT) : List AOper → Env → St → Option (Env × St)
  | [], s, st => some (s, st)
  | o :: os, s, st => match wantedE s o.guard with
    | some true => match stepE call o.op s st with
      | some (v, st') => runE call os (s.put o.dst v) st'
      | none => none
    | some false => runE call os (s.put o.dst V.undef) st
    | none => none
def runDE (call : CallT) : List (AOper × List Nat) → Nat → List Past → Env → St → Option (Env × St)
  | [], _, _, s, st => some (s, st)
  | o :: os, n, past, s, st => match wantedE s o.1.guard with
    | some true => match o.2 with
      | [] => match stepE call o.1.op s st with
        | some (v, st') => runDE call os (n + 1) (⟨st.next, st'.next, .call⟩ :: past) (s.put o.1.dst v) st'
        | none => none
      | _ :: _ => match okAll (pastsOf past n o.2) (foot o.1.op s.ev) with
        | true => match stepE call o.1.op s (limF (ahead n o.2) (foot o.1.op s.ev) (pastsOf past n o.2) st) with
          | some (v, st') => runDE call os (n + 1) (⟨st.next, st'.next, foot o.1.op s.ev⟩ :: past) (s.put o.1.dst v) (back st st')
          | none => none
        | false => none
    | some false => runDE call os (n + 1) (⟨st.next, st.next, .dir [] []⟩ :: past) (s.put o.1.dst V.undef) st
    | none => none
def loopE (b : Env → St → Option (AExit × Env × St)) : Nat → Env → St → Option (AExit × Env × St)
  | 0, _, _ => none
  | n + 1, s, st => match b s st with
    | some (.normal, s', st') => loopE b n s' st'
    | r => r
def layAllE : List Pos → List V → Env → Option Env
  | [], [], s => some s
  | p :: ps, v :: vs, s => layAllE ps vs (s.put (some p) v)
  | _, _, _ => none
def roundEndE : Option (AExit × Env × St) → Option ((V × Option AExit) × St)
  | some (.normal, _, s) => some ((.bool true, none), s)
  | some (.ret, _, s) => some ((.bool false, some .ret), s)
  | some (.exit id, _, s) => some ((.bool false, some (.exit id)), s)
  | none => none
def roundE (ps : List Pos) (a b : Env → St → Option (AExit × Env × St)) (s : Env) (i : Nat) : Hand := fun j args st =>
  if j = i then
    match layAllE ps args s with
    | some s0 => match a s0 st with
      | some (.normal, s1, st1) => roundEndE (b s1 st1)
      | _ => none
    | none => none
  else none
def rangeOutE (s : Env) : OutY → Option (AExit × Env × St)
  | some ((.normal, _, none), st) => some (.normal, s, st)
  | some ((.ret, _, none), st) => some (.normal, s, st)
  | some ((.normal, _, some x), st) => some (x, s, st)
  | some ((.ret, _, some x), st) => some (x, s, st)
  | _ => none
def rangeE (ps : List Pos) (a b : Env → St → Option (AExit × Env × St)) (it : Nat) (itc : ACode) (call : CallT) (lf : Nat) (s : Env) (st : St) : V → Option (AExit × Env × St)
  | .func gf [] captured => if gf = it then
    match st.skip with
    | some (i, st1) => rangeOutE s (evY (roundE ps a b s i) call lf itc (initFrame (.yield i :: captured) 0 .nil) none st1)
    | none => none
    else none
  | _ => none
def evE (call : CallT) (lf : Nat) : ACode → Env → St → Option (AExit × Env × St)
  | .skip, s, st => some (.normal, s, st)
  | .reg ops, s, st => match runE call ops s st with | some (s', st') => some (.normal, s', st') | none => none
  | .dreg ops, s, st => match runDE call ops 0 [] s st with | some (s', st') => some (.normal, s', st') | none => none
  | .seq a b, s, st => match evE call lf a s st with
    | some (.normal, s', st') => evE call lf b s' st'
    | r => r
  | .cond c a b, s, st => match s.ev c with
    | .bool true => evE call lf a s st
    | .bool false => evE call lf b s st
    | _ => none
  | .block id a, s, st => match evE call lf a s st with
    | some (.exit j, s', st') => if j = id then some (.normal, s', st') else some (.exit j, s', st')
    | r => r
  | .loop a, s, st => loopE (evE call lf a) lf s st
  | .exit id, s, st => some (.exit id, s, st)
  | .ret, s, st => some (.ret, s, st)
  | .range g ps asg body it itc, s, st => rangeE ps (evE call lf asg) (evE call lf body) it itc call lf s st (s.ev g)
end
theorem stepE_eq {call : CallT} {o : AOp} {f : Frame} {st : St} : stepOp call o f st = stepE call o (envOf f) st := by
  unfold stepOp stepE
  rw [envOf_ev]
  cases execOp o (envOf f).ev st with
  | none => rfl
  | some p =>
    obtain ⟨r, s⟩ := p
    cases r <;> rfl
theorem runE_ok {call : CallT} : ∀ {os : List AOper} {f : Frame} {st : St} {s' : Env} {st' : St}, runE call os (envOf f) st = some (s', st') → ∃ f', runOps os call f st = some (f', st') ∧ envOf f' = s'
  | [], f, st, s', st', h => by cases h; exact ⟨f, rfl, rfl⟩
  | o :: os, f, st, s', st', h => by
    unfold runE at h
    show ∃ f', either (wanted f o.guard) (Option.rec none (Prod.rec fun v st' => runOps os call (f.put o.dst v) st') (stepOp call o.op f st)) (runOps os call (f.put o.dst V.undef) st) = some (f', st') ∧ envOf f' = s'
    rw [wanted_env, stepE_eq]
    split at h
    · rename_i hw
      rw [hw]
      split at h
      · rename_i v st1 hs
        rw [hs]
        rw [← envOf_put] at h
        exact runE_ok h
      · cases h
    · rename_i hw
      rw [hw]
      rw [← envOf_put] at h
      exact runE_ok h
    · cases h
theorem runDE_ok {call : CallT} : ∀ {os : List (AOper × List Nat)} {n : Nat} {past : List Past} {f : Frame} {st : St} {s' : Env} {st' : St}, runDE call os n past (envOf f) st = some (s', st') → ∃ f', runD os call n past f st = some (f', st') ∧ envOf f' = s'
  | [], n, past, f, st, s', st', h => by cases h; exact ⟨f, rfl, rfl⟩
  | (o, inc) :: os, n, past, f, st, s', st', h => by
    unfold runDE at h
    show ∃ f', runDCons o inc (runD os) call n past f st = some (f', st') ∧ envOf f' = s'
    unfold runDCons
    rw [wanted_env]
    split at h
    · rename_i hw
      rw [show wantedE (envOf f) o.guard = some true from hw]
      show ∃ f', (match inc with | [] => runDFree o (runD os) call n past f st | _ :: _ => runDLim o (runD os) call n past f st (pastsOf past n inc) (foot o.op f.ev) (ahead n inc)) = some (f', st') ∧ envOf f' = s'
      cases inc with
      | nil =>
        dsimp only at h ⊢
        unfold runDFree
        rw [stepE_eq]
        split at h
        · rename_i v st1 hs
          rw [hs]
          rw [← envOf_put] at h
          exact runDE_ok h
        · cases h
      | cons a l =>
        dsimp only at h ⊢
        unfold runDLim
        rw [stepE_eq, envOf_ev]
        split at h
        · rename_i hok
          rw [hok]
          split at h
          · rename_i v st1 hs
            show ∃ f', (Option.rec none (Prod.rec fun v st' => runD os call (n + 1) (⟨st.next, st'.next, foot o.op (envOf f).ev⟩ :: past) (f.put o.dst v) (back st st')) (stepE call o.op (envOf f) (limF (ahead n (a :: l)) (foot o.op (envOf f).ev) (pastsOf past n (a :: l)) st)) : Option (Frame × St)) = some (f', st') ∧ envOf f' = s'
            rw [hs]
            rw [← envOf_put] at h
            exact runDE_ok h
          · cases h
        · cases h
    · rename_i hw
      rw [show wantedE (envOf f) o.guard = some false from hw]
      rw [← envOf_put] at h
      exact runDE_ok h
    · cases h
theorem stepY_mono {hd hd' : Hand} {call : CallT} (hh : ∀ j a s r, hd j a s = some r → hd' j a s = some r) {o : AOp} {f : Frame} {p : Option AExit} {st : St} {q : (V × Option AExit) × St} (hq : stepY hd call o f p st = some q) : stepY hd' call o f p st = some q := by
  cases o with
  | callv g args =>
    have hq : yieldY hd (args.map f.ev) st (plainY p (stepOp call (.callv g args) f st)) p (f.ev g) = some q := hq
    show yieldY hd' (args.map f.ev) st (plainY p (stepOp call (.callv g args) f st)) p (f.ev g) = some q
    cases p with
    | some x => exact hq
    | none =>
      cases he : f.ev g <;> rw [he] at hq <;> first | exact hq | exact hh _ _ _ _ hq
  | _ => exact hq
theorem runY_mono {hd hd' : Hand} {call : CallT} (hh : ∀ j a s r, hd j a s = some r → hd' j a s = some r) : ∀ {os : List AOper} {f : Frame} {p : Option AExit} {st : St} {r : (Frame × Option AExit) × St}, runY hd call os f p st = some r → runY hd' call os f p st = some r
  | [], f, p, st, r, h => h
  | o :: os, f, p, st, r, h => by
    unfold runY at h ⊢
    cases hw : wanted f o.guard with
    | none => rw [hw] at h; exact h
    | some w =>
      rw [hw] at h
      cases w with
      | false => exact runY_mono hh (os := os) h
      | true =>
        have h : (match stepY hd call o.op f p st with | some ((v, p'), st') => runY hd call os (f.put o.dst v) p' st' | none => none) = some r := h
        show (match stepY hd' call o.op f p st with | some ((v, p'), st') => runY hd' call os (f.put o.dst v) p' st' | none => none) = some r
        have hs : ∀ q, stepY hd call o.op f p st = some q → stepY hd' call o.op f p st = some q := fun q hq => stepY_mono hh hq
        cases hq : stepY hd call o.op f p st with
        | none => rw [hq] at h; cases h
        | some q =>
          rw [hq] at h
          rw [hs q hq]
          obtain ⟨⟨v, p'⟩, st'⟩ := q
          exact runY_mono hh (os := os) h
theorem evY_mono {hd hd' : Hand} {call : CallT} {lf : Nat} (hh : ∀ j a s r, hd j a s = some r → hd' j a s = some r) : ∀ {c : ACode} {f : Frame} {p : Option AExit} {st : St} {r : (AExit × Frame × Option AExit) × St}, evY hd call lf c f p st = some r → evY hd' call lf c f p st = some r := by
  intro c
  induction c with
  | skip => intro f p st r h; exact h
  | reg ops =>
    intro f p st r h
    have h : normalY (runY hd call ops f p st) = some r := h
    show normalY (runY hd' call ops f p st) = some r
    cases hq : runY hd call ops f p st with
    | none => rw [hq] at h; cases h
    | some q => rw [hq] at h; rw [runY_mono hh hq]; exact h
  | dreg ops => intro f p st r h; exact h
  | seq a b iha ihb =>
    intro f p st r h
    have h : thenY (evY hd call lf a f p st) (evY hd call lf b) = some r := h
    show thenY (evY hd' call lf a f p st) (evY hd' call lf b) = some r
    cases hq : evY hd call lf a f p st with
    | none => rw [hq] at h; cases h
    | some q =>
      rw [hq] at h
      rw [iha hq]
      obtain ⟨⟨x, f1, p1⟩, st1⟩ := q
      cases x with
      | normal => exact ihb h
      | ret => exact h
      | exit id => exact h
  | cond c a b iha ihb =>
    intro f p st r h
    have h : condY (evY hd call lf a f p st) (evY hd call lf b f p st) (f.ev c) = some r := h
    show condY (evY hd' call lf a f p st) (evY hd' call lf b f p st) (f.ev c) = some r
    cases he : f.ev c with
    | bool t => rw [he] at h; cases t <;> first | exact iha h | exact ihb h
    | _ => rw [he] at h; cases h
  | block id a iha =>
    intro f p st r h
    have h : blockY id (evY hd call lf a f p st) = some r := h
    show blockY id (evY hd' call lf a f p st) = some r
    cases hq : evY hd call lf a f p st with
    | none => rw [hq] at h; cases h
    | some q => rw [hq] at h; rw [iha hq]; exact h
  | loop a iha =>
    intro f p st r h
    have h : loopY (evY hd call lf a) lf f p st = some r := h
    show loopY (evY hd' call lf a) lf f p st = some r
    have key : ∀ n f p st, loopY (evY hd call lf a) n f p st = some r → loopY (evY hd' call lf a) n f p st = some r := by
      intro n
      induction n with
      | zero => intro f p st h; cases h
      | succ n ih =>
        intro f p st h
        have h : thenY (evY hd call lf a f p st) (loopY (evY hd call lf a) n) = some r := h
        show thenY (evY hd' call lf a f p st) (loopY (evY hd' call lf a) n) = some r
        cases hq : evY hd call lf a f p st with
        | none => rw [hq] at h; cases h
        | some q =>
          rw [hq] at h
          rw [iha hq]
          obtain ⟨⟨x, f1, p1⟩, st1⟩ := q
          cases x with
          | normal => exact ih _ _ _ h
          | ret => exact h
          | exit id => exact h
    exact key lf f p st h
  | exit id => intro f p st r h; exact h
  | ret => intro f p st r h; exact h
  | range => intro f p st r h; cases h
theorem layAllE_ok : ∀ {ps : List Pos} {vs : List V} {f : Frame} {s : Env}, layAllE ps vs (envOf f) = some s → ∃ f', layAll ps vs f = some f' ∧ envOf f' = s
  | [], [], f, s, h => by cases h; exact ⟨f, rfl, rfl⟩
  | p :: ps, v :: vs, f, s, h => by
    have h : layAllE ps vs ((envOf f).put (some p) v) = some s := h
    rw [← envOf_put] at h
    obtain ⟨f', h1, h2⟩ := layAllE_ok h
    exact ⟨f', h1, h2⟩
  | [], _ :: _, f, s, h => by cases h
  | _ :: _, [], f, s, h => by cases h
theorem range_ok {call : CallT} {lf : Nat} {ps : List Pos} {asg body itc : ACode} {it : Nat}
    (ha : ∀ {f : Frame} {st : St} {x : AExit} {s' : Env} {st' : St}, evE call lf asg (envOf f) st = some (x, s', st') → ∃ f', ev asg call lf f st = some (x, f', st') ∧ envOf f' = s')
    (hb : ∀ {f : Frame} {st : St} {x : AExit} {s' : Env} {st' : St}, evE call lf body (envOf f) st = some (x, s', st') → ∃ f', ev body call lf f st = some (x, f', st') ∧ envOf f' = s')
    {f : Frame} {st : St} {v : V} {x : AExit} {s' : Env} {st' : St} (h : rangeE ps (evE call lf asg) (evE call lf body) it itc call lf (envOf f) st v = some (x, s', st')) :
    ∃ f', rangeV ps (ev asg) (ev body) it itc call lf f st v = some (x, f', st') ∧ envOf f' = s' := by
  unfold rangeE at h
  split at h
  · rename_i gf captured
    split at h
    · rename_i hg
      subst hg
      show ∃ f', sel (Nat.beq gf gf) (match st.skip with | some (i, st1) => rangeOut f (evY (round ps (ev asg call lf) (ev body call lf) f i) call lf itc (initFrame (.yield i :: captured) 0 .nil) none st1) | none => none) none = some (x, f', st') ∧ envOf f' = s'
      rw [Nat.beq_refl]
      show ∃ f', (match st.skip with | some (i, st1) => rangeOut f (evY (round ps (ev asg call lf) (ev body call lf) f i) call lf itc (initFrame (.yield i :: captured) 0 .nil) none st1) | none => none) = some (x, f', st') ∧ envOf f' = s'
      cases hsk : st.skip with
      | none => rw [hsk] at h; cases h
      | some q =>
        obtain ⟨i, st1⟩ := q
        rw [hsk] at h
        have h : rangeOutE (envOf f) (evY (roundE ps (evE call lf asg) (evE call lf body) (envOf f) i) call lf itc (initFrame (.yield i :: captured) 0 .nil) none st1) = some (x, s', st') := h
        show ∃ f', rangeOut f (evY (round ps (ev asg call lf) (ev body call lf) f i) call lf itc (initFrame (.yield i :: captured) 0 .nil) none st1) = some (x, f', st') ∧ envOf f' = s'
        have hh : ∀ j a s r, roundE ps (evE call lf asg) (evE call lf body) (envOf f) i j a s = some r → round ps (ev asg call lf) (ev body call lf) f i j a s = some r := by
          intro j a s r hr
          unfold roundE at hr
          split at hr
          · rename_i hj
            subst hj
            show sel (Nat.beq j j) _ _ = some r
            rw [Nat.beq_refl]
            show (match layAll ps a f with | some fr => (match ev asg call lf fr s with | some (.normal, f1, s1) => roundEnd (ev body call lf f1 s1) | _ => none) | none => none) = some r
            split at hr
            · rename_i s0 hl
              obtain ⟨f0, l1, rfl⟩ := layAllE_ok hl
              rw [l1]
              dsimp only
              split at hr
              · rename_i s1 st2 h1
                obtain ⟨f1, m1, rfl⟩ := ha h1
                rw [m1]
                dsimp only
                cases hq : evE call lf body (envOf f1) st2 with
                | none => rw [hq] at hr; cases hr
                | some q =>
                  obtain ⟨y, s2, st3⟩ := q
                  obtain ⟨f2, m2, rfl⟩ := hb hq
                  rw [hq] at hr
                  rw [m2]
                  cases y <;> exact hr
              · cases hr
            · cases hr
          · cases hr
        cases hq : evY (roundE ps (evE call lf asg) (evE call lf body) (envOf f) i) call lf itc (initFrame (.yield i :: captured) 0 .nil) none st1 with
        | none => rw [hq] at h; cases h
        | some q =>
          rw [hq] at h
          rw [evY_mono hh hq]
          obtain ⟨⟨y, f1, p1⟩, st2⟩ := q
          cases y with
          | exit id => cases p1 <;> cases h
          | normal => cases p1 <;> (cases h; exact ⟨f, rfl, rfl⟩)
          | ret => cases p1 <;> (cases h; exact ⟨f, rfl, rfl⟩)
    · cases h
  · cases h
theorem evE_ok {call : CallT} {lf : Nat} : ∀ {c : ACode} {f : Frame} {st : St} {x : AExit} {s' : Env} {st' : St}, evE call lf c (envOf f) st = some (x, s', st') → ∃ f', ev c call lf f st = some (x, f', st') ∧ envOf f' = s' := by
  intro c
  induction c with
  | skip => intro f st x s' st' h; cases h; exact ⟨f, rfl, rfl⟩
  | reg ops =>
    intro f st x s' st' h
    unfold evE at h
    split at h
    · rename_i s1 st1 h1
      cases h
      obtain ⟨f', k1, k2⟩ := runE_ok h1
      exact ⟨f', by show normalOut (runOps ops call f st) = _; rw [k1]; rfl, k2⟩
    · cases h
  | dreg ops =>
    intro f st x s' st' h
    unfold evE at h
    split at h
    · rename_i s1 st1 h1
      cases h
      obtain ⟨f', k1, k2⟩ := runDE_ok h1
      exact ⟨f', by show normalOut (runD ops call 0 [] f st) = _; rw [k1]; rfl, k2⟩
    · cases h
  | seq a b iha ihb =>
    intro f st x s' st' h
    unfold evE at h
    show ∃ f', andThen (ev a call lf f st) (ev b call lf) = some (x, f', st') ∧ envOf f' = s'
    split at h
    · rename_i s1 st1 h1
      obtain ⟨f1, k1, rfl⟩ := iha h1
      rw [k1]
      exact ihb h
    · rename_i hne
      obtain ⟨f1, k1, k2⟩ := iha h
      refine ⟨f1, ?_, k2⟩
      rw [k1]
      cases x with
      | normal => exact absurd h (hne _ _)
      | ret => rfl
      | exit id => rfl
  | cond c a b iha ihb =>
    intro f st x s' st' h
    unfold evE at h
    show ∃ f', evCondB (ev a) (ev b) call lf f st (f.ev c) = some (x, f', st') ∧ envOf f' = s'
    rw [envOf_ev]
    split at h
    · rename_i hc; rw [hc]; exact iha h
    · rename_i hc; rw [hc]; exact ihb h
    · cases h
  | block id a iha =>
    intro f st x s' st' h
    unfold evE at h
    show ∃ f', (Option.rec none (Prod.rec (blockExit id)) (ev a call lf f st) : Out) = some (x, f', st') ∧ envOf f' = s'
    split at h
    · rename_i j s1 st1 h1
      obtain ⟨f1, k1, rfl⟩ := iha h1
      rw [k1]
      show ∃ f', sel (Nat.beq j id) (some (AExit.normal, f1, st1)) (some (AExit.exit j, f1, st1)) = some (x, f', st') ∧ envOf f' = s'
      split at h
      · rename_i e
        subst e
        cases h
        exact ⟨f1, by rw [Nat.beq_refl]; rfl, rfl⟩
      · rename_i e
        cases h
        exact ⟨f1, by rw [show Nat.beq j id = false from by cases hb : Nat.beq j id with | false => rfl | true => exact absurd (Nat.eq_of_beq_eq_true hb) e]; rfl, rfl⟩
    · rename_i hne
      obtain ⟨f1, k1, k2⟩ := iha h
      refine ⟨f1, ?_, k2⟩
      rw [k1]
      cases x with
      | normal => rfl
      | ret => rfl
      | exit j => exact absurd h (hne _ _ _)
  | loop a iha =>
    intro f st x s' st' h
    have h : loopE (evE call lf a) lf (envOf f) st = some (x, s', st') := by unfold evE at h; exact h
    show ∃ f', loopN (ev a call lf) lf f st = some (x, f', st') ∧ envOf f' = s'
    have key : ∀ (n : Nat) (f : Frame) (st : St), loopE (evE call lf a) n (envOf f) st = some (x, s', st') → ∃ f', loopN (ev a call lf) n f st = some (x, f', st') ∧ envOf f' = s' := by
      intro n
      induction n with
      | zero => intro f st h; cases h
      | succ n ih =>
        intro f st h
        unfold loopE at h
        show ∃ f', andThen (ev a call lf f st) (loopN (ev a call lf) n) = some (x, f', st') ∧ envOf f' = s'
        split at h
        · rename_i s1 st1 h1
          obtain ⟨f1, k1, rfl⟩ := iha h1
          rw [k1]
          exact ih f1 st1 h
        · rename_i hne
          obtain ⟨f1, k1, k2⟩ := iha h
          refine ⟨f1, ?_, k2⟩
          rw [k1]
          cases x with
          | normal => exact absurd h (hne _ _)
          | ret => rfl
          | exit id => rfl
    exact key lf f st h
  | exit id => intro f st x s' st' h; cases h; exact ⟨f, rfl, rfl⟩
  | ret => intro f st x s' st' h; cases h; exact ⟨f, rfl, rfl⟩
  | range g ps asg body it itc iha ihb _ =>
    intro f st x s' st' h
    have h : rangeE ps (evE call lf asg) (evE call lf body) it itc call lf (envOf f) st ((envOf f).ev g) = some (x, s', st') := by unfold evE at h; exact h
    rw [← envOf_ev] at h
    exact range_ok iha ihb h
abbrev Goal := AExit → Env → St → Prop
def wp (call : CallT) (lf : Nat) (c : ACode) (s : Env) (st : St) (Q : Goal) : Prop := ∃ x s' st', evE call lf c s st = some (x, s', st') ∧ Q x s' st'
def wpOps (call : CallT) (os : List AOper) (s : Env) (st : St) (Q : Goal) : Prop := ∃ s' st', runE call os s st = some (s', st') ∧ Q .normal s' st'
def wpDs (call : CallT) (os : List (AOper × List Nat)) (n : Nat) (past : List Past) (s : Env) (st : St) (Q : Goal) : Prop := ∃ s' st', runDE call os n past s st = some (s', st') ∧ Q .normal s' st'
def thenQ (call : CallT) (lf : Nat) (b : ACode) (Q : Goal) : Goal
  | .normal, s, st => wp call lf b s st Q
  | x, s, st => Q x s st
def blockQ (id : Nat) (Q : Goal) : Goal
  | .exit j, s, st => if j = id then Q .normal s st else Q (.exit j) s st
  | x, s, st => Q x s st
def wpCond (call : CallT) (lf : Nat) (a b : ACode) (s : Env) (st : St) (Q : Goal) : V → Prop
  | .bool true => wp call lf a s st Q
  | .bool false => wp call lf b s st Q
  | _ => False
def wpVal (call : CallT) (d : Option Pos) (os : List AOper) (s : Env) (Q : Goal) : Option (V × St) → Prop
  | some (v, st') => wpOps call os (s.put d v) st' Q
  | none => False
def wpGuard (call : CallT) (d : Option Pos) (op : AOp) (os : List AOper) (s : Env) (st : St) (Q : Goal) : Option Bool → Prop
  | some true => wpVal call d os s Q (stepE call op s st)
  | some false => wpOps call os (s.put d V.undef) st Q
  | none => False
section
variable {call : CallT} {lf : Nat} {s : Env} {st : St} {Q : Goal}
theorem wp_skip : wp call lf .skip s st Q ↔ Q .normal s st := ⟨fun ⟨x, s', st', h, k⟩ => by cases h; exact k, fun h => ⟨_, _, _, rfl, h⟩⟩
theorem wp_ret : wp call lf .ret s st Q ↔ Q .ret s st := ⟨fun ⟨x, s', st', h, k⟩ => by cases h; exact k, fun h => ⟨_, _, _, rfl, h⟩⟩
theorem wp_exit {id : Nat} : wp call lf (.exit id) s st Q ↔ Q (.exit id) s st := ⟨fun ⟨x, s', st', h, k⟩ => by cases h; exact k, fun h => ⟨_, _, _, rfl, h⟩⟩
theorem wp_reg {ops : List AOper} : wp call lf (.reg ops) s st Q ↔ wpOps call ops s st Q := by
  constructor
  · rintro ⟨x, s', st', h, k⟩
    unfold evE at h
    split at h
    · rename_i h1; cases h; exact ⟨_, _, h1, k⟩
    · cases h
  · rintro ⟨s', st', h, k⟩
    exact ⟨.normal, s', st', by unfold evE; rw [h], k⟩
theorem wp_dreg {ops : List (AOper × List Nat)} : wp call lf (.dreg ops) s st Q ↔ wpDs call ops 0 [] s st Q := by
  constructor
  · rintro ⟨x, s', st', h, k⟩
    unfold evE at h
    split at h
    · rename_i h1; cases h; exact ⟨_, _, h1, k⟩
    · cases h
  · rintro ⟨s', st', h, k⟩
    exact ⟨.normal, s', st', by unfold evE; rw [h], k⟩
theorem wp_seq {a b : ACode} : wp call lf (.seq a b) s st Q ↔ wp call lf a s st (thenQ call lf b Q) := by
  constructor
  · rintro ⟨x, s', st', h, k⟩
    unfold evE at h
    split at h
    · rename_i s1 st1 h1
      exact ⟨.normal, s1, st1, h1, x, s', st', h, k⟩
    · rename_i hne
      refine ⟨x, s', st', h, ?_⟩
      cases x with
      | normal => exact absurd h (hne _ _)
      | ret => exact k
      | exit id => exact k
  · rintro ⟨x, s1, st1, h, k⟩
    cases x with
    | normal =>
      obtain ⟨y, s2, st2, h2, k2⟩ := k
      exact ⟨y, s2, st2, by unfold evE; rw [h]; exact h2, k2⟩
    | ret => exact ⟨.ret, s1, st1, by unfold evE; rw [h], k⟩
    | exit id => exact ⟨.exit id, s1, st1, by unfold evE; rw [h], k⟩
theorem wp_cond {c : Src} {a b : ACode} : wp call lf (.cond c a b) s st Q ↔ wpCond call lf a b s st Q (s.ev c) := by
  unfold wp
  simp only [evE]
  generalize s.ev c = v
  cases v with
  | bool t => cases t <;> exact Iff.rfl
  | _ => exact ⟨(fun ⟨_, _, _, h, _⟩ => by cases h), fun h => h.elim⟩
theorem wp_block {id : Nat} {a : ACode} : wp call lf (.block id a) s st Q ↔ wp call lf a s st (blockQ id Q) := by
  constructor
  · rintro ⟨x, s', st', h, k⟩
    unfold evE at h
    split at h
    · rename_i j s1 st1 h1
      refine ⟨.exit j, s1, st1, h1, ?_⟩
      show if j = id then Q .normal s1 st1 else Q (.exit j) s1 st1
      split at h
      · rename_i e; cases h; rw [if_pos e]; exact k
      · rename_i e; cases h; rw [if_neg e]; exact k
    · rename_i hne
      refine ⟨x, s', st', h, ?_⟩
      cases x with
      | normal => exact k
      | ret => exact k
      | exit j => exact absurd h (hne _ _ _)
  · rintro ⟨x, s1, st1, h, k⟩
    cases x with
    | normal => exact ⟨.normal, s1, st1, by unfold evE; rw [h], k⟩
    | ret => exact ⟨.ret, s1, st1, by unfold evE; rw [h], k⟩
    | exit j =>
      have k : if j = id then Q .normal s1 st1 else Q (.exit j) s1 st1 := k
      by_cases e : j = id
      · rw [if_pos e] at k
        exact ⟨.normal, s1, st1, by unfold evE; rw [h]; exact if_pos e, k⟩
      · rw [if_neg e] at k
        exact ⟨.exit j, s1, st1, by unfold evE; rw [h]; exact if_neg e, k⟩
theorem thenQ_normal {b : ACode} : thenQ call lf b Q .normal s st ↔ wp call lf b s st Q := Iff.rfl
theorem thenQ_ret {b : ACode} : thenQ call lf b Q .ret s st ↔ Q .ret s st := Iff.rfl
theorem thenQ_exit {b : ACode} {id : Nat} : thenQ call lf b Q (.exit id) s st ↔ Q (.exit id) s st := Iff.rfl
theorem blockQ_normal {id : Nat} : blockQ id Q .normal s st ↔ Q .normal s st := Iff.rfl
theorem blockQ_ret {id : Nat} : blockQ id Q .ret s st ↔ Q .ret s st := Iff.rfl
theorem blockQ_exit {id j : Nat} : blockQ id Q (.exit j) s st ↔ if j = id then Q .normal s st else Q (.exit j) s st := Iff.rfl
theorem wpCond_true {a b : ACode} : wpCond call lf a b s st Q (.bool true) ↔ wp call lf a s st Q := Iff.rfl
theorem wpCond_false {a b : ACode} : wpCond call lf a b s st Q (.bool false) ↔ wp call lf b s st Q := Iff.rfl
theorem wpOps_nil : wpOps call [] s st Q ↔ Q .normal s st := ⟨fun ⟨s', st', h, k⟩ => by cases h; exact k, fun h => ⟨_, _, rfl, h⟩⟩
theorem wpVal_some {d : Option Pos} {os : List AOper} {v : V} {st' : St} : wpVal call d os s Q (some (v, st')) ↔ wpOps call os (s.put d v) st' Q := Iff.rfl
theorem wpGuard_true {d : Option Pos} {op : AOp} {os : List AOper} : wpGuard call d op os s st Q (some true) ↔ wpVal call d os s Q (stepE call op s st) := Iff.rfl
theorem wpGuard_false {d : Option Pos} {op : AOp} {os : List AOper} : wpGuard call d op os s st Q (some false) ↔ wpOps call os (s.put d V.undef) st Q := Iff.rfl
theorem wpOps_guard {d : Option Pos} {op : AOp} {g : Pos × Bool} {os : List AOper} : wpOps call (⟨d, op, some g⟩ :: os) s st Q ↔ wpGuard call d op os s st Q (boolIs g.2 (s g.1)) := by
  unfold wpOps
  simp only [runE, wantedE]
  cases boolIs g.2 (s g.1) with
  | none => exact ⟨(fun ⟨_, _, h, _⟩ => by cases h), fun h => h.elim⟩
  | some b =>
    cases b with
    | false => exact Iff.rfl
    | true =>
      simp only [wpGuard]
      cases stepE call op s st with
      | none => exact ⟨(fun ⟨_, _, h, _⟩ => by cases h), fun h => h.elim⟩
      | some p => exact Iff.rfl
theorem wpOps_cons {d : Option Pos} {op : AOp} {os : List AOper} : wpOps call (⟨d, op, none⟩ :: os) s st Q ↔ wpVal call d os s Q (stepE call op s st) := by
  unfold wpOps
  simp only [runE, wantedE]
  cases stepE call op s st with
  | none => exact ⟨(fun ⟨_, _, h, _⟩ => by cases h), fun h => h.elim⟩
  | some p => exact Iff.rfl
theorem wp_loop {a : ACode} (I : Nat → Env → St → Prop) (n : Nat) (h0 : I n s st) (hn : n < lf)
    (h : ∀ k s st, I k s st → wp call lf a s st (fun x s' st' => match x with | .normal => ∃ m, m < k ∧ I m s' st' | x => Q x s' st')) : wp call lf (.loop a) s st Q := by
  have key : ∀ m, ∀ k s st, k < m → I k s st → ∃ x s' st', loopE (evE call lf a) m s st = some (x, s', st') ∧ Q x s' st' := by
    intro m
    induction m with
    | zero => intro k s st hk; omega
    | succ m ih =>
      intro k s st hk hI
      obtain ⟨x, s1, st1, h1, h2⟩ := h k s st hI
      cases x with
      | normal =>
        obtain ⟨j, hj, hI'⟩ := h2
        obtain ⟨y, s2, st2, h3, h4⟩ := ih j s1 st1 (by omega) hI'
        exact ⟨y, s2, st2, by unfold loopE; rw [h1]; exact h3, h4⟩
      | ret => exact ⟨.ret, s1, st1, by unfold loopE; rw [h1], h2⟩
      | exit id => exact ⟨.exit id, s1, st1, by unfold loopE; rw [h1], h2⟩
  obtain ⟨x, s', st', h1, h2⟩ := key lf n s st hn h0
  exact ⟨x, s', st', by unfold evE; exact h1, h2⟩
end
noncomputable section
def initE : List V → Nat → Env → Env
  | [], _, s => s
  | v :: vs, n, s => initE vs (n + 1) (s.put (some (pos n)) v)
def resE (s : Env) (st : St) : ARes → Option V
  | .tmp t => some (s t)
  | .cell t a n => match s t with
    | .ptr (some (i, o)) => sel a (match st.loadN i o n with | some l => some (.agg l) | none => none) (st.load1 i o)
    | _ => none
def ressE (s : Env) (st : St) : List ARes → Option (List V)
  | [] => some []
  | r :: rs => match resE s st r, ressE s st rs with
    | some v, some vs => sel v.plain (some (v :: vs)) none
    | _, _ => none
def finQ (rs : List ARes) (K : V → St → Prop) : Goal
  | .exit _, _, _ => False
  | _, s, st => ∃ vs, ressE s st rs = some vs ∧ K (oneOf vs) st
def env0 : Env := fun _ => .bad
end
theorem initE_ok : ∀ (vs : List V) (n : Nat) (f : Frame), envOf (initFrame vs n f) = initE vs n (envOf f)
  | [], n, f => rfl
  | v :: vs, n, f => by
    show envOf (initFrame vs (n + 1) (f.put (some (pos n)) v)) = initE vs (n + 1) ((envOf f).put (some (pos n)) v)
    rw [initE_ok, envOf_put]
theorem resE_ok {f : Frame} {st : St} {r : ARes} : resOf f st r = resE (envOf f) st r := by
  cases r with
  | tmp t => rfl
  | cell t a n =>
    show (match f.ev (.t t) with | .ptr (some (i, o)) => _ | _ => none) = (match envOf f t with | .ptr (some (i, o)) => _ | _ => none)
    rfl
theorem ressE_ok {f : Frame} {st : St} : ∀ (rs : List ARes), resultsOf f st rs = ressE (envOf f) st rs
  | [] => rfl
  | r :: rs => by
    simp only [resultsOf, ressE, resE_ok, ressE_ok rs]
    cases resE (envOf f) st r <;> cases ressE (envOf f) st rs <;> rfl
theorem enter_wp {call : CallT} {lf n : Nat} {c : ACode} {rs : List ARes} {args : List V} {st : St} {K : V → St → Prop} (h : wp call lf c (initE args 0 env0) st (finQ rs K)) :
    ∃ v st', enterF call lf args st ⟨n, c, rs⟩ = some (v, st') ∧ K v st' := by
  obtain ⟨x, s', st', h1, h2⟩ := h
  have e0 : envOf (initFrame args 0 .nil) = initE args 0 env0 := initE_ok args 0 .nil
  rw [← e0] at h1
  obtain ⟨f', k1, rfl⟩ := evE_ok h1
  have main : ∀ {y : AExit}, x = y → (∃ vs, ressE (envOf f') st' rs = some vs ∧ K (oneOf vs) st') → (∀ id, y ≠ .exit id) → ∃ v st', enterF call lf args st ⟨n, c, rs⟩ = some (v, st') ∧ K v st' := by
    rintro y rfl ⟨vs, e1, e2⟩ hy
    refine ⟨oneOf vs, st', ?_, e2⟩
    show (Option.rec none (Prod.rec (finish rs)) (ev c call lf (initFrame args 0 .nil) st) : Option (V × St)) = _
    rw [k1]
    show finish rs x (f', st') = _
    cases x with
    | exit id => exact absurd rfl (hy id)
    | normal => show (match resultsOf f' st' rs with | some vs => some (oneOf vs, st') | none => none) = _; rw [ressE_ok, e1]
    | ret => show (match resultsOf f' st' rs with | some vs => some (oneOf vs, st') | none => none) = _; rw [ressE_ok, e1]
  cases x with
  | exit id => exact h2.elim
  | normal => exact main rfl h2 (fun _ h => by cases h)
  | ret => exact main rfl h2 (fun _ h => by cases h)
end Go.Vabs

namespace Go.Vabs
set_option linter.unusedVariables false
set_option linter.unusedSimpArgs false
section
variable {call : CallT} {s : Env} {st : St}
theorem put_at {p q : Pos} {v : V} : (s.put (some p) v) q = sel (posEq q p) v (s q) := rfl
theorem put_no {v : V} : s.put none v = s := rfl
theorem ev_c {v : V} : s.ev (.c v) = v := rfl
theorem ev_slot {p : Pos} : s.ev (.t p) = s p := rfl
theorem posEq_h : posEq .h .h = true := rfl
theorem posEq_o {p q : Pos} : posEq (.o p) (.o q) = posEq p q := rfl
theorem posEq_i {p q : Pos} : posEq (.i p) (.i q) = posEq p q := rfl
theorem posEq_ho {q : Pos} : posEq .h (.o q) = false := rfl
theorem posEq_hi {q : Pos} : posEq .h (.i q) = false := rfl
theorem posEq_oh {q : Pos} : posEq (.o q) .h = false := rfl
theorem posEq_ih {q : Pos} : posEq (.i q) .h = false := rfl
theorem posEq_oi {p q : Pos} : posEq (.o p) (.i q) = false := rfl
theorem posEq_io {p q : Pos} : posEq (.i p) (.o q) = false := rfl
noncomputable def okv : Option V → St → Option (V × St)
  | some v, st => some (v, st)
  | none, _ => none
theorem okv_some {v : V} : okv (some v) st = some (v, st) := rfl
noncomputable def resv : Option V → St → Option (Res × St)
  | some v, st => some (.val v, st)
  | none, _ => none
theorem step_of {o : AOp} {x : Option V} (h : execOp o s.ev st = resv x st) : stepE call o s st = okv x st := by
  unfold stepE
  rw [h]
  cases x <;> rfl
theorem step_mv {x : Src} : stepE call (.mv x) s st = some (s.ev x, st) := rfl
theorem step_call {f : Nat} {xs : List Src} : stepE call (.call f xs) s st = call f (xs.map s.ev) st := rfl
noncomputable def pickV : V → V → V → Option V
  | .bool t, a, b => some (sel t a b)
  | _, _, _ => none
theorem step_pick {c a b : Src} : stepE call (.pick c a b) s st = okv (pickV (s.ev c) (s.ev a) (s.ev b)) st := by
  refine step_of ?_
  show ex_pick c a b s.ev st = _
  unfold ex_pick
  cases s.ev c <;> rfl
theorem pickV_bool {t : Bool} {a b : V} : pickV (.bool t) a b = some (sel t a b) := rfl
noncomputable def binV (op : BinOp) (eq : EqKind) : V → V → Option V
  | .int k a, .int k' b =>
    match op with
    | .shl | .shr => match shift op k a b with | some r => some (.int k r) | none => none
    | _ => if k = k' then arith op k a b else none
  | .str a, .str b => strOp op a b
  | u, v =>
    match eqAny eq u v with
    | some r => match op with
      | .eql => some (.bool r)
      | .neq => some (.bool (!r))
      | _ => none
    | none => none
theorem step_bin {op : BinOp} {eq : EqKind} {x y : Src} : stepE call (.bin op eq x y) s st = okv (binV op eq (s.ev x) (s.ev y)) st := by
  refine step_of ?_
  show ex_bin op eq x y s.ev st = _
  unfold ex_bin binV
  generalize s.ev x = u
  generalize s.ev y = v
  have hd : ∀ r : Option Bool, (match r with | some r => (match op with | .eql => some (Res.val (.bool r), st) | .neq => some (Res.val (.bool (!r)), st) | _ => none) | none => none) =
      resv (match r with | some r => (match op with | .eql => some (V.bool r) | .neq => some (V.bool (!r)) | _ => none) | none => none) st := by
    intro r
    cases r with
    | none => rfl
    | some r => cases op <;> rfl
  cases u with
  | int k a =>
    cases v with
    | int k' b =>
      dsimp only
      cases op <;> dsimp only <;> first
        | (cases shift _ k a b <;> rfl)
        | (by_cases hk : k = k' <;> simp only [hk, if_true, if_false] <;> first | rfl | (cases arith _ k' a b <;> rfl))
    | _ => exact hd _
  | str a =>
    cases v with
    | str b => dsimp only; cases strOp op a b <;> rfl
    | _ => exact hd _
  | _ => (cases v <;> exact hd _)
section
variable {eq : EqKind} {k k' : IntKind} {a b : Int}
theorem bin_add : binV .add eq (.int k a) (.int k b) = some (.int k (wrapV k (a + b))) := by simp only [binV, if_true, arith]
theorem bin_sub : binV .sub eq (.int k a) (.int k b) = some (.int k (wrapV k (a - b))) := by simp only [binV, if_true, arith]
theorem bin_mul : binV .mul eq (.int k a) (.int k b) = some (.int k (wrapV k (a * b))) := by simp only [binV, if_true, arith]
theorem eqI_dec {a b : Int} : eqI a b = decide (a = b) := by rw [eqI_eq]; by_cases h : a = b <;> simp [h]
theorem bin_quo (h : b ≠ 0) : binV .quo eq (.int k a) (.int k b) = some (.int k (wrapV k (Int.tdiv a b))) := by
  simp only [binV, if_true, arith, eqI_dec, decide_eq_false h, sel_false]
theorem bin_rem (h : b ≠ 0) : binV .rem eq (.int k a) (.int k b) = some (.int k (Int.tmod a b)) := by
  simp only [binV, if_true, arith, eqI_dec, decide_eq_false h, sel_false]
theorem bin_eql : binV .eql eq (.int k a) (.int k b) = some (.bool (decide (a = b))) := by simp only [binV, if_true, arith, eqI_dec]
theorem bin_neq : binV .neq eq (.int k a) (.int k b) = some (.bool (!decide (a = b))) := by simp only [binV, if_true, arith, eqI_dec]
theorem bin_lss : binV .lss eq (.int k a) (.int k b) = some (.bool (decide (a < b))) := by simp only [binV, if_true, arith, ltI_eq]
theorem bin_leq : binV .leq eq (.int k a) (.int k b) = some (.bool (decide (a ≤ b))) := by simp only [binV, if_true, arith, leI_eq]
theorem bin_gtr : binV .gtr eq (.int k a) (.int k b) = some (.bool (decide (b < a))) := by simp only [binV, if_true, arith, ltI_eq]
theorem bin_geq : binV .geq eq (.int k a) (.int k b) = some (.bool (decide (b ≤ a))) := by simp only [binV, if_true, arith, leI_eq]
theorem bin_shl {n : Nat} : binV .shl eq (.int k a) (.int k' (.ofNat n)) = some (.int k (wrapV k (a * ((2 ^ sel (Nat.ble n (bitsOf k)) n (bitsOf k) : Nat) : Int)))) := by simp only [binV, shift]; rfl
theorem bin_shr {n : Nat} : binV .shr eq (.int k a) (.int k' (.ofNat n)) = some (.int k (Int.fdiv a ((2 ^ sel (Nat.ble n (bitsOf k)) n (bitsOf k) : Nat) : Int))) := by simp only [binV, shift]; rfl
end
theorem bin_eqb {a b : Bool} : binV .eql (.val .bool) (.bool a) (.bool b) = some (.bool (a == b)) := by simp only [binV, eqAny, eqV]
theorem bin_neb {a b : Bool} : binV .neq (.val .bool) (.bool a) (.bool b) = some (.bool (!(a == b))) := by simp only [binV, eqAny, eqV]
theorem eqS_eq : ∀ {a b : List Nat}, eqS a b = decide (a = b)
  | [], [] => rfl
  | [], _ :: _ => rfl
  | _ :: _, [] => rfl
  | a :: x, b :: y => by
    show sel (Nat.beq a b) (eqS x y) false = _
    rw [eqS_eq]
    cases h : Nat.beq a b with
    | true =>
      rw [Nat.beq_eq] at h
      subst h
      by_cases e : x = y
      · subst e; simp [sel]
      · simp [sel, e]
    | false =>
      have : a ≠ b := fun e => by rw [e, Nat.beq_refl] at h; cases h
      simp [sel, this]
theorem bin_eqs {eq : EqKind} {a b : List Nat} : binV .eql eq (.str a) (.str b) = some (.bool (decide (a = b))) := by simp only [binV, strOp, eqS_eq]
theorem bin_nes {eq : EqKind} {a b : List Nat} : binV .neq eq (.str a) (.str b) = some (.bool (!decide (a = b))) := by simp only [binV, strOp, eqS_eq]
theorem bin_eqnil {p : Nat × Nat} {e n c : Nat} {f : Bool} {e' n' c' : Nat} {f' : Bool} : binV .eql (.nils .slice) (.slice (some p) e n c f) (.slice none e' n' c' f') = some (.bool false) := by simp only [binV, eqAny, eqNil]
theorem bin_eqnil2 {e n c : Nat} {f : Bool} {e' n' c' : Nat} {f' : Bool} : binV .eql (.nils .slice) (.slice none e n c f) (.slice none e' n' c' f') = some (.bool true) := by simp only [binV, eqAny, eqNil, Option.isNone_none]
noncomputable def unV : UnOp → V → Option V
  | .neg, .int k n => some (.int k (wrapV k (0 - n)))
  | .xor, .int k n => match bits .xor k (if k.signed = true then -1 else k.max) n with | some r => some (.int k r) | none => none
  | .not, .bool b => some (.bool (!b))
  | _, _ => none
theorem step_un {op : UnOp} {x : Src} : stepE call (.un op x) s st = okv (unV op (s.ev x)) st := by
  refine step_of ?_
  show ex_un op x s.ev st = _
  unfold ex_un unV
  generalize s.ev x = u
  cases op <;> cases u <;> try rfl
  rename_i k n
  dsimp only
  cases bits .xor k (if k.signed = true then -1 else k.max) n <;> rfl
theorem un_not {b : Bool} : unV .not (.bool b) = some (.bool (!b)) := rfl
theorem un_neg {k : IntKind} {n : Int} : unV .neg (.int k n) = some (.int k (wrapV k (0 - n))) := rfl
noncomputable def convV (st : St) : Conv → V → Option V
  | .int k, .int _ n => some (.int k (wrapV k n))
  | .str, .str s => some (.str s)
  | .toStr, .slice none _ _ _ _ => some (.str [])
  | .toStr, .slice (some (i, o)) e len _ _ => sel (Nat.beq e 1) (match st.loadN i o len with | some cs => (bytesOf cs).map .str | none => none) none
  | _, _ => none
theorem step_convInt {k : IntKind} {x : Src} : stepE call (.conv (.int k) x) s st = okv (convV st (.int k) (s.ev x)) st := by
  refine step_of ?_
  show ex_conv (.int k) x s.ev st = _
  unfold ex_conv convV
  cases s.ev x <;> rfl
theorem step_convStr {x : Src} : stepE call (.conv .toStr x) s st = okv (convV st .toStr (s.ev x)) st := by
  refine step_of ?_
  show ex_conv .toStr x s.ev st = _
  unfold ex_conv convV
  cases s.ev x with
  | slice a e n c f =>
    cases a with
    | none => rfl
    | some p =>
      obtain ⟨i, o⟩ := p
      dsimp only
      cases Nat.beq e 1
      · rfl
      · dsimp only [sel_true]
        cases st.loadN i o n with
        | none => rfl
        | some cs => dsimp only; cases bytesOf cs <;> rfl
  | _ => rfl
theorem conv_int {k k' : IntKind} {n : Int} : convV st (.int k) (.int k' n) = some (.int k (wrapV k n)) := rfl
noncomputable def lenV (st : St) : LenK → V → Option V
  | .str, .str s => some (.int .i64 (.ofNat s.length))
  | .slice, .slice _ _ n _ _ => some (.int .i64 (.ofNat n))
  | .const n, _ => some (.int .i64 (.ofNat n))
  | .map, .map none => some (.int .i64 0)
  | .map, .map (some i) => (match st.get i with | some (.map _ es _) => some (.int .i64 (.ofNat es.length)) | _ => none)
  | _, _ => none
theorem step_len {k : LenK} {x : Src} : stepE call (.len k x) s st = okv (lenV st k (s.ev x)) st := by
  refine step_of ?_
  show ex_len k x s.ev st = _
  unfold ex_len lenV
  generalize s.ev x = u
  cases k <;> cases u <;> try rfl
  rename_i m
  cases m with
  | none => rfl
  | some i =>
    dsimp only
    cases st.get i with
    | none => rfl
    | some o => cases o <;> rfl
theorem len_slice {a : Option (Nat × Nat)} {e n c : Nat} {f : Bool} : lenV st .slice (.slice a e n c f) = some (.int .i64 (n : Int)) := rfl
theorem len_str {l : List Nat} : lenV st .str (.str l) = some (.int .i64 (l.length : Int)) := rfl
theorem len_const {n : Nat} {v : V} : lenV st (.const n) v = some (.int .i64 (n : Int)) := by cases v <;> rfl
theorem step_slice {k : SlK} {x : Src} {lo hi mx : Option Src} : stepE call (.slice k x lo hi mx) s st = okv (sliceOp k (s.ev x) (lo.map s.ev) (hi.map s.ev) (mx.map s.ev)) st := by
  refine step_of ?_
  show ex_slice k x lo hi mx s.ev st = _
  unfold ex_slice
  cases sliceOp k (s.ev x) (lo.map s.ev) (hi.map s.ev) (mx.map s.ev) <;> rfl
noncomputable def idxAddrV : IxK → V → Option Nat → Option V
  | .arr n _ e, .ptr (some (j, o)), some i => sel (Nat.blt i n) (some (.ptr (some (j, o + i * e)))) none
  | .slice e, .slice (some (j, o)) e' len _ _, some i => sel (Nat.blt i len && Nat.beq e e') (some (.ptr (some (j, o + i * e)))) none
  | _, _, _ => none
theorem step_idxAddr {k : IxK} {x i : Src} : stepE call (.idxAddr k x i) s st = okv (idxAddrV k (s.ev x) (natOf (s.ev i))) st := by
  refine step_of ?_
  show ex_idxAddr k x i s.ev st = _
  unfold ex_idxAddr idxAddrV
  generalize natOf (s.ev i) = m
  generalize s.ev x = u
  cases m with
  | none =>
    cases k <;> cases u with
    | ptr a => cases a <;> rfl
    | slice a => cases a <;> rfl
    | _ => rfl
  | some i =>
    cases k with
    | str => cases u <;> rfl
    | arr n g e =>
      cases u <;> try rfl
      rename_i a
      cases a with
      | none => rfl
      | some p => obtain ⟨j, o⟩ := p; dsimp only; cases Nat.blt i n <;> rfl
    | slice e =>
      cases u <;> try rfl
      rename_i a e' len c f
      cases a with
      | none => rfl
      | some p => obtain ⟨j, o⟩ := p; dsimp only; cases (Nat.blt i len && Nat.beq e e') <;> rfl
noncomputable def indexV : IxK → V → Option Nat → Option V
  | .arr n a e, .agg cs, some i => sel (Nat.blt i n) (part a e (i * e) cs) none
  | .str, .str s, some i => (s[i]?).map fun b => .int .u8 (.ofNat b)
  | _, _, _ => none
theorem step_index {k : IxK} {x i : Src} : stepE call (.index k x i) s st = okv (indexV k (s.ev x) (natOf (s.ev i))) st := by
  refine step_of ?_
  show ex_index k x i s.ev st = _
  unfold ex_index indexV
  cases natOf (s.ev i) with
  | none => cases k <;> cases s.ev x <;> rfl
  | some i =>
    generalize s.ev x = u
    cases k <;> cases u <;> try rfl
    · rename_i n a e cs
      dsimp only; cases Nat.blt i n
      · rfl
      · dsimp only [sel_true]; cases part a e (i * e) cs <;> rfl
    · rename_i l
      dsimp only; cases l[i]? <;> rfl
noncomputable def loadV (st : St) (a : Bool) (n : Nat) : V → Option V
  | .ptr (some (i, o)) => sel a ((st.loadN i o n).map .agg) (st.load1 i o)
  | _ => none
theorem step_load {a : Bool} {n : Nat} {x : Src} : stepE call (.load a n x) s st = okv (loadV st a n (s.ev x)) st := by
  refine step_of ?_
  show ex_load a n x s.ev st = _
  unfold ex_load loadV
  simp only [load1F_eq]
  generalize s.ev x = u
  cases u <;> try rfl
  rename_i p
  cases p with
  | none => rfl
  | some p =>
    obtain ⟨i, o⟩ := p
    dsimp only
    cases a
    · dsimp only [sel_false]; cases st.load1 i o <;> rfl
    · dsimp only [sel_true]; cases st.loadN i o n <;> rfl
noncomputable def extractV : V → Nat → Option V
  | .tuple vs, n => nth n vs
  | _, _ => none
theorem step_extract {x : Src} {n : Nat} : stepE call (.extract x n) s st = okv (extractV (s.ev x) n) st := by
  refine step_of ?_
  show ex_extract x n s.ev st = _
  unfold ex_extract extractV
  generalize s.ev x = u
  cases u <;> try rfl
  rename_i vs
  dsimp only
  cases nth n vs <;> rfl
noncomputable def fieldV (a : Bool) (n off : Nat) : V → Option V
  | .agg cs => part a n off cs
  | _ => none
theorem step_field {a : Bool} {n off : Nat} {x : Src} : stepE call (.field a n off x) s st = okv (fieldV a n off (s.ev x)) st := by
  refine step_of ?_
  show ex_field a n off x s.ev st = _
  unfold ex_field fieldV
  generalize s.ev x = u
  cases u <;> try rfl
  rename_i cs
  dsimp only
  cases part a n off cs <;> rfl
noncomputable def fieldAddrV (off : Nat) : V → Option V
  | .ptr (some (i, o)) => some (.ptr (some (i, o + off)))
  | _ => none
theorem step_fieldAddr {off : Nat} {x : Src} : stepE call (.fieldAddr off x) s st = okv (fieldAddrV off (s.ev x)) st := by
  refine step_of ?_
  show ex_fieldAddr off x s.ev st = _
  unfold ex_fieldAddr fieldAddrV
  generalize s.ev x = u
  cases u <;> try rfl
  rename_i p
  cases p <;> rfl
theorem step_build {zs : List V} {ps : List (Nat × Nat × Src)} : stepE call (.build zs ps) s st = okv ((fill s.ev ps zs).map .agg) st := by
  refine step_of ?_
  show ex_build zs ps s.ev st = _
  unfold ex_build
  cases fill s.ev ps zs <;> rfl
theorem step_minmax {mx : Bool} {x : Src} {xs : List Src} : stepE call (.minmax mx x xs) s st = okv (mmAll mx (s.ev x) (xs.map s.ev)) st := by
  refine step_of ?_
  show ex_minmax mx x xs s.ev st = _
  unfold ex_minmax
  cases mmAll mx (s.ev x) (xs.map s.ev) <;> rfl
noncomputable def newV (f : Nat → V) : Option (Nat × St) → Option (V × St)
  | some (j, st') => some (f j, st')
  | none => none
theorem newV_some {f : Nat → V} {j : Nat} {st' : St} : newV f (some (j, st')) = some (f j, st') := rfl
theorem step_alloc {zs : List V} : stepE call (.alloc zs) s st = newV (fun j => .ptr (some (j, 0))) (st.alloc (.cells true zs)) := by
  show (match ex_alloc zs s.ev st with | some (.val v, st') => _ | some (.enter g args, st') => _ | none => _) = _
  unfold ex_alloc
  cases st.alloc (.cells true zs) <;> rfl
noncomputable def bsliceV (st : St) (e len : Nat) : Option (List V) → Option (V × St)
  | some cs => newV (fun j => .slice (some (j, 0)) e len len true) (st.alloc (.cells true cs))
  | none => none
theorem step_bslice {e len : Nat} {zs : List V} {ps : List (Nat × Nat × Src)} : stepE call (.bslice e len zs ps) s st = bsliceV st e len (fill s.ev ps (repN len zs)) := by
  show (match ex_bslice e len zs ps s.ev st with | some (.val v, st') => _ | some (.enter g args, st') => _ | none => _) = _
  unfold ex_bslice bsliceV
  cases fill s.ev ps (repN len zs) with
  | none => rfl
  | some cs => dsimp only; cases st.alloc (.cells true cs) <;> rfl
theorem bsliceV_some {e len : Nat} {cs : List V} : bsliceV st e len (some cs) = newV (fun j => .slice (some (j, 0)) e len len true) (st.alloc (.cells true cs)) := rfl
noncomputable def storeV (st : St) (n : Nat) : V → Option (List V) → Option (V × St)
  | .ptr (some (i, o)), some cs => sel (Nat.beq cs.length n) (match st.storeN i o cs with | some st' => some (V.undef, st') | none => none) none
  | _, _ => none
theorem step_store {n : Nat} {a x : Src} : stepE call (.store n a x) s st = storeV st n (s.ev a) (s.ev x).cells := by
  show (match ex_store n a x s.ev st with | some (.val v, st') => _ | some (.enter g args, st') => _ | none => _) = _
  unfold ex_store storeV
  generalize s.ev a = u
  cases u <;> try rfl
  rename_i p
  cases p with
  | none => rfl
  | some p =>
    obtain ⟨i, o⟩ := p
    dsimp only
    cases (s.ev x).cells with
    | none => rfl
    | some cs =>
      dsimp only
      cases Nat.beq cs.length n
      · rfl
      · dsimp only [sel_true]; cases st.storeN i o cs <;> rfl
noncomputable def valOf : Option (Res × St) → Option (V × St)
  | some (.val v, st') => some (v, st')
  | _ => none
noncomputable def appendV (st : St) (e bytes : Nat) (sv : V) : Option Nat → Option (List V) → Option (V × St)
  | some m, some new => valOf (appendOp st e bytes sv m new)
  | _, _ => none
noncomputable def firstNo (st : St) (e : Nat) : Option Nat → V → Option (List V)
  | some m, x => firstN st e m x
  | none, _ => none
theorem appendOp_val {e bytes m : Nat} {sv : V} {new : List V} {r : Res} {st' : St} (h : appendOp st e bytes sv m new = some (r, st')) : ∃ v, r = .val v := by
  unfold appendOp at h
  split at h
  · split at h
    · cases h; exact ⟨_, rfl⟩
    · obtain ⟨_, h⟩ := sel_some h
      split at h
      · split at h
        · cases h; exact ⟨_, rfl⟩
        · cases h
      · obtain ⟨_, h⟩ := sel_some h
        split at h
        · rcases sel_cases h with ⟨_, h⟩ | ⟨_, h⟩
          · split at h
            · cases h; exact ⟨_, rfl⟩
            · cases h
          · rcases sel_cases h with ⟨_, h⟩ | ⟨_, h⟩
            · split at h
              · split at h
                · cases h; exact ⟨_, rfl⟩
                · cases h
              · cases h
            · obtain ⟨_, h⟩ := sel_some h
              split at h
              · split at h
                · split at h
                  · cases h; exact ⟨_, rfl⟩
                  · cases h
                · cases h
              · cases h
        · cases h
  · cases h
theorem step_append {e bytes : Nat} {d x : Src} : stepE call (.append e bytes d x) s st = appendV st e bytes (s.ev d) (lenOf (s.ev x)) (firstNo st e (lenOf (s.ev x)) (s.ev x)) := by
  show (match ex_append e bytes d x s.ev st with | some (.val v, st') => _ | some (.enter g args, st') => _ | none => _) = _
  unfold ex_append appendV
  cases lenOf (s.ev x) with
  | none => rfl
  | some m =>
    dsimp only [firstNo]
    cases firstN st e m (s.ev x) with
    | none => rfl
    | some new =>
      dsimp only
      rw [appendF_eq]
      cases h : appendOp st e bytes (s.ev d) m new with
      | none => rfl
      | some p =>
        obtain ⟨r, s1⟩ := p
        obtain ⟨v, rfl⟩ := appendOp_val h
        rfl
end
noncomputable section
def heapFrom : Nat → List (Option AObj) → T AObj → T AObj
  | _, [], t => t
  | n, o :: l, t => heapFrom (n + 1) l (t.set n o)
def few (os : List (Option AObj)) : St := ⟨os.length, heapFrom 0 os .nil, fun _ => true, fun _ => true⟩
end
theorem heapFrom_get : ∀ (l : List (Option AObj)) (n : Nat) (t : T AObj) (i : Nat), (heapFrom n l t).get i = if n ≤ i ∧ i < n + l.length then (l[i - n]?).join else t.get i
  | [], n, t, i => by rw [if_neg (by simp only [List.length_nil]; omega)]; rfl
  | o :: l, n, t, i => by
    show (heapFrom (n + 1) l (t.set n o)).get i = _
    rw [heapFrom_get l, T.get_set]
    simp only [List.length_cons]
    by_cases c1 : n + 1 ≤ i ∧ i < n + 1 + l.length
    · rw [if_pos c1, if_pos (by omega), show i - n = (i - (n + 1)) + 1 from by omega]
      rfl
    · rw [if_neg c1]
      by_cases c2 : i = n
      · subst c2
        rw [if_pos rfl, if_pos (by omega), Nat.sub_self]
        rfl
      · rw [if_neg c2, if_neg (by omega)]
theorem few_heap (os : List (Option AObj)) (i : Nat) : (few os).heap.get i = (os[i]?).join := by
  show (heapFrom 0 os .nil).get i = _
  rw [heapFrom_get]
  by_cases h : i < os.length
  · rw [if_pos ⟨Nat.zero_le _, by omega⟩, Nat.sub_zero]
  · rw [if_neg (by omega), List.getElem?_eq_none (by omega)]
    rfl
theorem few_get (os : List (Option AObj)) (i : Nat) : (few os).get i = (os[i]?).join := by
  rw [St.get_eq, if_pos (show (few os).vis i = true from rfl), few_heap]
theorem few_neat (os : List (Option AObj)) : Neat (few os) := fun i hi => by
  rw [few_get, List.getElem?_eq_none hi]; rfl
theorem heapFrom_snoc : ∀ (l : List (Option AObj)) (n : Nat) (t : T AObj) (o : Option AObj), heapFrom n (l ++ [o]) t = (heapFrom n l t).set (n + l.length) o
  | [], n, t, o => rfl
  | a :: l, n, t, o => by
    show heapFrom (n + 1) (l ++ [o]) (t.set n a) = (heapFrom (n + 1) l (t.set n a)).set (n + (l.length + 1)) o
    rw [heapFrom_snoc l, show n + 1 + l.length = n + (l.length + 1) from by omega]
theorem few_alloc (os : List (Option AObj)) (o : AObj) : (few os).alloc o = some (os.length, few (os ++ [some o])) := by
  show (some (os.length, (⟨os.length + 1, (heapFrom 0 os .nil).set os.length (some o), fun _ => true, fun _ => true⟩ : St)) : Option (Nat × St)) = _
  unfold few
  rw [heapFrom_snoc]
  simp only [List.length_append, List.length_cons, List.length_nil, Nat.zero_add]
theorem few_next (os : List (Option AObj)) : (few os).next = os.length := rfl
theorem enter_eq {call : CallT} {lf n : Nat} {c : ACode} {rs : List ARes} {args : List V} {st st' : St} {v : V} (h : wp call lf c (initE args 0 env0) st (finQ rs fun u s => u = v ∧ s = st')) :
    enterF call lf args st ⟨n, c, rs⟩ = some (v, st') := by
  obtain ⟨u, s, h1, rfl, rfl⟩ := enter_wp (n := n) h
  exact h1
section
variable {s : Env} {st : St} {K : V → St → Prop}
theorem initE_nil {n : Nat} : initE [] n s = s := rfl
theorem initE_cons {v : V} {vs : List V} {n : Nat} : initE (v :: vs) n s = initE vs (n + 1) (s.put (some (pos n)) v) := rfl
theorem pos_0 : pos 0 = .h := rfl
theorem pos_1 : pos 1 = .o .h := rfl
theorem pos_2 : pos 2 = .i .h := rfl
theorem pos_3 : pos 3 = .o (.o .h) := rfl
theorem pos_4 : pos 4 = .i (.o .h) := rfl
theorem pos_5 : pos 5 = .o (.i .h) := rfl
theorem pos_6 : pos 6 = .i (.i .h) := rfl
theorem pos_7 : pos 7 = .o (.o (.o .h)) := rfl
theorem pos_8 : pos 8 = .i (.o (.o .h)) := rfl
theorem boolIs_b {b t : Bool} : boolIs b (.bool t) = some (t == b) := rfl
theorem boolIs_t {b : Bool} {l : List V} : boolIs b (.tuple l) = some false := rfl
theorem finQ_ret {rs : List ARes} : finQ rs K .ret s st ↔ ∃ vs, ressE s st rs = some vs ∧ K (oneOf vs) st := Iff.rfl
theorem finQ_normal {rs : List ARes} : finQ rs K .normal s st ↔ ∃ vs, ressE s st rs = some vs ∧ K (oneOf vs) st := Iff.rfl
theorem ressE_nil : ressE s st [] = some [] := rfl
noncomputable def consO (v : Option V) (r : Option (List V)) : Option (List V) := match v, r with
  | some v, some vs => sel v.plain (some (v :: vs)) none
  | _, _ => none
theorem ressE_cons {r : ARes} {rs : List ARes} : ressE s st (r :: rs) = consO (resE s st r) (ressE s st rs) := rfl
theorem resE_tmp {t : Pos} : resE s st (.tmp t) = some (s t) := rfl
theorem consO_some {v : V} {vs : List V} : consO (some v) (some vs) = sel v.plain (some (v :: vs)) none := rfl
end
theorem plain_bool {b : Bool} : (V.bool b).plain = true := rfl
theorem plain_int {k : IntKind} {n : Int} : (V.int k n).plain = true := rfl
theorem plain_str {s : List Nat} : (V.str s).plain = true := rfl
theorem plain_ptr {a : Option (Nat × Nat)} : (V.ptr a).plain = true := rfl
theorem plain_slice {a : Option (Nat × Nat)} {e n c : Nat} {f : Bool} : (V.slice a e n c f).plain = true := rfl
theorem plain_map {a : Option Nat} : (V.map a).plain = true := rfl
theorem plain_agg {cs : List V} : (V.agg cs).plain = true := rfl
theorem plain_func {f : Nat} {a b : List V} : (V.func f a b).plain = true := rfl
theorem plain_nilFunc : (V.nilFunc).plain = true := rfl
theorem oneOf_one {v : V} : oneOf [v] = v := rfl
theorem oneOf_two {v w : V} {l : List V} : oneOf (v :: w :: l) = .tuple (v :: w :: l) := rfl
theorem ble_self {n : Nat} : Nat.ble n n = true := Nat.ble_eq_true_of_le (Nat.le_refl n)
end Go.Vabs

namespace Go.Vabs
set_option linter.unusedVariables false
set_option linter.unusedSimpArgs false
theorem ble_t {a b : Nat} (h : a ≤ b) : Nat.ble a b = true := Nat.ble_eq_true_of_le h
theorem blt_t {a b : Nat} (h : a < b) : Nat.blt a b = true := Nat.ble_eq_true_of_le (Nat.succ_le_of_lt h)
theorem wrap_i {x : Int} (h1 : -9223372036854775808 ≤ x) (h2 : x < 9223372036854775808) : wrapV .i64 x = x := by
  cases x with
  | ofNat m =>
    show sel (Nat.blt m 9223372036854775808) _ _ = _
    rw [blt_t (by simp only [Int.ofNat_eq_natCast] at h2; omega)]
    rfl
  | negSucc m =>
    show sel (Nat.blt m 9223372036854775808) _ _ = _
    rw [blt_t (by simp only [Int.negSucc_eq] at h1; omega)]
    rfl
theorem wrap_u64 {m : Nat} (h : m < 18446744073709551616) : wrapV .u64 (m : Int) = m := by
  show (Int.ofNat (m % 18446744073709551616) : Int) = m
  rw [Nat.mod_eq_of_lt h]
  rfl
theorem natOf_nat {k : IntKind} {n : Nat} : natOf (.int k (n : Int)) = some n := rfl
theorem natOf_zero {k : IntKind} : natOf (.int k 0) = some 0 := rfl
theorem takeN_of : ∀ {n : Nat} {l : List V}, n ≤ l.length → takeN n l = some (l.take n)
  | 0, l, _ => by cases l <;> rfl
  | n + 1, [], h => by simp at h
  | n + 1, x :: l, h => by
    simp only [takeN, takeN_of (show n ≤ l.length by simpa using h), List.take_succ_cons]
theorem cut_of : ∀ {o n : Nat} {l : List V}, o + n ≤ l.length → cut o n l = some ((l.drop o).take n)
  | 0, n, l, h => by
    rw [show cut 0 n l = takeN n l from by cases n <;> rfl, List.drop_zero]
    exact takeN_of (by omega)
  | o + 1, 0, l, h => by simp [cut]
  | o + 1, n + 1, [], h => by simp at h
  | o + 1, n + 1, x :: l, h => by
    simp only [cut, List.drop_succ_cons]
    exact cut_of (by simp only [List.length_cons] at h; omega)
noncomputable section
def bytesV (bs : List Nat) : List V := bs.map fun (b : Nat) => V.int .u8 (b : Int)
def byteOf : V → Option Nat
  | .int .u8 (.ofNat n) => if n < 256 then some n else none
  | _ => none
def bytesL : List V → Option (List Nat)
  | [] => some []
  | v :: l => match byteOf v, bytesL l with | some b, some bs => some (b :: bs) | _, _ => none
def bytesAt (st : St) : V → Option (List Nat)
  | .slice none _ 0 0 _ => some []
  | .slice (some (i, o)) 1 n c _ => if n ≤ c then match st.get i with | some (.cells _ cs) => (match cut o n cs with | some l => bytesL l | none => none) | _ => none else none
  | _ => none
end
theorem bytesV_len {bs : List Nat} : (bytesV bs).length = bs.length := by simp [bytesV]
theorem bytesV_nil : bytesV [] = [] := rfl
theorem bytesV_at {bs : List Nat} {k : Nat} : (bytesV bs)[k]? = (bs[k]?).map fun (b : Nat) => V.int .u8 (b : Int) := by simp [bytesV]
theorem bytesV_flat {bs : List Nat} : ∀ v ∈ bytesV bs, v.flat = true := by
  intro v hv
  simp only [bytesV, List.mem_map] at hv
  obtain ⟨b, _, rfl⟩ := hv
  rfl
theorem bytesV_drop {bs : List Nat} {k : Nat} : (bytesV bs).drop k = bytesV (bs.drop k) := by simp [bytesV]
theorem bytesV_take {bs : List Nat} {k : Nat} : (bytesV bs).take k = bytesV (bs.take k) := by simp [bytesV]
theorem bytesL_some : ∀ {l : List V} {bs : List Nat}, bytesL l = some bs → l = bytesV bs ∧ ∀ b ∈ bs, b < 256
  | [], bs, h => by cases h; exact ⟨rfl, fun b hb => by cases hb⟩
  | v :: l, bs, h => by
    simp only [bytesL] at h
    split at h
    · rename_i b bs' hb hl
      cases h
      obtain ⟨h1, h2⟩ := bytesL_some hl
      unfold byteOf at hb
      split at hb
      · rename_i n
        split at hb
        · rename_i hn
          cases hb
          exact ⟨by rw [h1]; rfl, fun x hx => by rcases List.mem_cons.1 hx with e | e; (· rw [e]; exact hn); (· exact h2 x e)⟩
        · cases hb
      · cases hb
    · cases h
theorem bytesL_of : ∀ {bs : List Nat}, (∀ b ∈ bs, b < 256) → bytesL (bytesV bs) = some bs
  | [], _ => rfl
  | b :: bs, h => by
    show (match byteOf (.int .u8 (b : Int)), bytesL (bytesV bs) with | some b, some bs => some (b :: bs) | _, _ => none) = _
    rw [bytesL_of (fun x hx => h x (List.mem_cons_of_mem _ hx))]
    have : byteOf (.int .u8 (b : Int)) = some b := by
      show (if b < 256 then some b else none) = some b
      rw [if_pos (h b (List.mem_cons_self ..))]
    rw [this]
theorem bytesOf_of : ∀ {bs : List Nat}, (∀ b ∈ bs, b < 256) → bytesOf (bytesV bs) = some bs
  | [], _ => rfl
  | b :: bs, h => by
    show (match bytesOf (bytesV bs) with | some r => some ((b % 256) :: r) | none => none) = _
    rw [bytesOf_of (fun x hx => h x (List.mem_cons_of_mem _ hx)), Nat.mod_eq_of_lt (h b (List.mem_cons_self ..))]
theorem bytesAt_ext {v : V} {s s' g : St} {bs : List Nat} (h : bytesAt s v = some bs) (he : Ext s s' g) : bytesAt g v = some bs := by
  unfold bytesAt at h ⊢
  split at h
  · exact h
  · split at h
    · rename_i hc
      split at h
      · rename_i own cs hg
        rw [he.get _ _ hg]
        rw [if_pos hc]
        exact h
      · cases h
    · cases h
  · cases h
theorem bytesAt_lt {v : V} {s : St} {bs : List Nat} (h : bytesAt s v = some bs) : ∀ b ∈ bs, b < 256 := by
  unfold bytesAt at h
  split at h
  · cases h; intro b hb; cases hb
  · split at h
    · split at h
      · split at h
        · exact (bytesL_some h).2
        · cases h
      · cases h
    · cases h
  · cases h
noncomputable section
def slOf (nil : Bool) (bs : List Nat) : V := .slice (if nil then none else some (0, 0)) 1 bs.length bs.length false
def memOf (nil : Bool) (bs : List Nat) : St := if nil then few [] else few [some (.cells false (bytesV bs))]
end
theorem seen_bytes {st : St} {v : V} {bs : List Nat} {rest : List V} (h : bytesAt st v = some bs) (hr : ∀ v ∈ rest, v.flat = true) :
    ∃ τ nil, (nil = true → bs = []) ∧ Seen τ (v :: rest) st (slOf nil bs :: rest) (memOf nil bs) := by
  have hrest : ∀ (τ : Way) (l : List V), (∀ v ∈ l, v.flat = true) → All2 (fun a0 a => ∀ ι x, R ι a x → R (via τ ι) a0 x) l l := by
    intro τ l
    induction l with
    | nil => intro _; trivial
    | cons a l ih => intro h; exact ⟨fun ι x hx => flat_R (h a (List.mem_cons_self ..)) hx, ih fun u hu => h u (List.mem_cons_of_mem _ hu)⟩
  unfold bytesAt at h
  split at h
  · rename_i f
    cases h
    refine ⟨fun _ => none, true, fun _ => rfl, .ofCells ⟨fun ι x hx => ?_, hrest _ _ hr⟩ ?_ (fun _ _ => rfl) (few_neat _)⟩
    · exact hx
    · intro k o hk
      rw [show memOf true [] = few [] from rfl, few_heap] at hk
      simp at hk
  · rename_i i o n c f
    split at h
    · rename_i hc
      split at h
      · rename_i own cs hg
        split at h
        · rename_i l hl
          obtain ⟨h1, h2⟩ := bytesL_some h
          obtain ⟨l1, l2⟩ := cut_eq hl
          have hlen : bs.length = n := by rw [← l1, h1, bytesV_len]
          refine ⟨fun k => if k = 0 then some (i, o) else none, false, (fun e => by cases e), .ofCells ⟨fun ι x hx => ?_, hrest _ _ hr⟩ ?_ ?_ (few_neat _)⟩
          · obtain ⟨en, y, c', e1, e2, e3, e4, e5, e6⟩ := hx
            refine ⟨en.at o, y, c', by simp only [via, if_pos, e1, Option.map_some], by rw [hlen]; exact e2, by omega, by omega, (fun h => by cases h), ?_⟩
            rcases e6 with e6 | ⟨e6, e7⟩
            · exact .inl e6
            · exact .inr ⟨by rw [e6]; rfl, by show 0 + c' * 1 ≤ en.tot - o; omega⟩
          · intro k ob hk
            rw [show memOf false bs = few [some (.cells false (bytesV bs))] from rfl, few_heap] at hk
            cases k with
            | succ k => simp at hk
            | zero =>
              simp at hk
              subst hk
              refine ⟨i, o, own, cs, bytesV bs, rfl, rfl, hg, fun p v hv => ?_⟩
              have hp : p < n := by
                have := (List.getElem?_eq_some_iff.1 hv).1
                rw [bytesV_len] at this; omega
              refine ⟨v, by rw [← l2 p hp, h1]; exact hv, fun ι x hx => flat_R1 (bytesV_flat v (List.mem_of_getElem? hv)) hx⟩
          · intro k hk
            have hk : 1 ≤ k := hk
            exact if_neg (by omega)
        · cases h
      · cases h
    · cases h
  · cases h
noncomputable def bytesRd (spec : List Nat → List V → Option V) : List V → St → Option Ans := fun args st =>
  match args with
  | v :: rest => if rest.all V.flat = true then match bytesAt st v with
    | some bs => match spec bs rest with | some u => if u.flats = true then some ([], fun _ => u) else none | none => none
    | none => none else none
  | [] => none
theorem bytesRd_reads (spec : List Nat → List V → Option V) : Reads (bytesRd spec) := by
  intro args s s' g a h he
  unfold bytesRd at h ⊢
  split at h
  · split at h
    · rename_i hr
      split at h
      · rename_i bs hb
        rw [if_pos hr, bytesAt_ext hb he]
        exact h
      · cases h
    · cases h
  · cases h
theorem bytesRd_holds {call0 : CallT} {g : Nat} {spec : List Nat → List V → Option V}
    (h : ∀ nil bs rest u, (nil = true → bs = []) → (∀ b ∈ bs, b < 256) → spec bs rest = some u → ∃ s1, call0 g (slOf nil bs :: rest) (memOf nil bs) = some (u, s1)) : Holds call0 g (bytesRd spec) := by
  intro args st os f hr
  unfold bytesRd at hr
  split at hr
  · split at hr
    · rename_i hrest
      split at hr
      · rename_i bs hb
        split at hr
        · rename_i u hu
          split at hr
          · rename_i hfl
            cases hr
            obtain ⟨τ, nil, hn, hseen⟩ := seen_bytes hb (fun v hv => List.all_eq_true.1 hrest v hv)
            obtain ⟨s1, h1⟩ := h nil bs _ u hn (bytesAt_lt hb) hu
            exact ⟨τ, _, _, s1, u, [], h1, hseen, Left.flat hfl⟩
          · cases hr
        · cases hr
      · cases hr
    · cases hr
  · cases hr
section
variable {a : Option (Nat × Nat)} {e n c l h : Nat}
theorem slice_lohi (h1 : l ≤ h) (h2 : h ≤ c) : sliceOp (.slice e) (.slice a e n c false) (some (.int .i64 (l : Int))) (some (.int .i64 (h : Int))) none = some (.slice (shiftA a (l * e)) e (h - l) (c - l) false) := by
  simp only [sliceOp, bound, natOf_nat, Nat.beq_refl, Bool.true_or, sel_true, ble_t h1, ble_t h2, Option.isSome_none, Bool.or_self, Bool.and_false, sel_false]
theorem dlt_t {a b : Int} (h : a < b) : decide (a < b) = true := decide_eq_true h
theorem dlt_f {a b : Int} (h : b ≤ a) : decide (a < b) = false := decide_eq_false (by omega)
theorem dle_t {a b : Int} (h : a ≤ b) : decide (a ≤ b) = true := decide_eq_true h
theorem dle_f {a b : Int} (h : b < a) : decide (a ≤ b) = false := decide_eq_false (by omega)
theorem deq_t {a b : Int} (h : a = b) : decide (a = b) = true := decide_eq_true h
theorem deq_f {a b : Int} (h : a ≠ b) : decide (a = b) = false := decide_eq_false h
theorem dltn_t {a b : Nat} (h : a < b) : decide (a < b) = true := decide_eq_true h
theorem dltn_f {a b : Nat} (h : b ≤ a) : decide (a < b) = false := decide_eq_false (by omega)
theorem dlen_t {a b : Nat} (h : a ≤ b) : decide (a ≤ b) = true := decide_eq_true h
theorem dlen_f {a b : Nat} (h : b < a) : decide (a ≤ b) = false := decide_eq_false (by omega)
theorem deqn_t {a b : Nat} (h : a = b) : decide (a = b) = true := decide_eq_true h
theorem deqn_f {a b : Nat} (h : a ≠ b) : decide (a = b) = false := decide_eq_false h
theorem natOf_int {k : IntKind} {x : Int} (h : 0 ≤ x) : natOf (.int k x) = some x.toNat := by
  obtain ⟨m, rfl⟩ := Int.eq_ofNat_of_zero_le h
  rfl
section
variable {l h : Int} {k k' : IntKind}
theorem slice_lohiI (h0 : 0 ≤ l) (h1 : l ≤ h) (h2 : h ≤ c) : sliceOp (.slice e) (.slice a e n c false) (some (.int k l)) (some (.int k' h)) none = some (.slice (shiftA a (l.toNat * e)) e (h.toNat - l.toNat) (c - l.toNat) false) := by
  obtain ⟨l, rfl⟩ := Int.eq_ofNat_of_zero_le h0
  obtain ⟨h, rfl⟩ := Int.eq_ofNat_of_zero_le (show 0 ≤ h by omega)
  simp only [sliceOp, bound, natOf_nat, Nat.beq_refl, Bool.true_or, sel_true, ble_t (show l ≤ h by omega), ble_t (show h ≤ c by omega), Option.isSome_none, Bool.or_self, Bool.and_false, sel_false, Int.toNat_natCast]
end
theorem shiftA_some {i o k : Nat} : shiftA (some (i, o)) k = some (i, o + k) := rfl
theorem shiftA_none {k : Nat} : shiftA none k = none := rfl
theorem idxAddr_slice {i o k : Nat} {f : Bool} (h : k < n) : idxAddrV (.slice e) (.slice (some (i, o)) e n c f) (some k) = some (.ptr (some (i, o + k * e))) := by
  simp only [idxAddrV, blt_t h, Nat.beq_refl, Bool.and_self, sel_true]
theorem load_few {os : List (Option AObj)} {i o : Nat} {own : Bool} {cs : List V} (h : (os[i]?).join = some (.cells own cs)) : loadV (few os) false 1 (.ptr (some (i, o))) = cs[o]? := by
  show (few os).load1 i o = _
  unfold St.load1
  rw [few_get, h]
  exact nth_eq
theorem loadN_few {os : List (Option AObj)} {i o m : Nat} {own : Bool} {cs : List V} (h : (os[i]?).join = some (.cells own cs)) (hm : o + m ≤ cs.length) : (few os).loadN i o m = some ((cs.drop o).take m) := by
  unfold St.loadN
  rw [few_get, h]
  exact cut_of hm
end
theorem Sound.bytes {P : Program} {call : CallT} (hmix : P.follows .mixedOrders = true) (h : Sound P call) {g : Nat} {fn : AFunc} (lf : Nat) (hc : compF P g = some fn) {spec : List Nat → List V → Option V}
    (hrun : ∀ nil bs rest u, (nil = true → bs = []) → (∀ b ∈ bs, b < 256) → spec bs rest = some u → ∃ s1, enterF call lf (slOf nil bs :: rest) (memOf nil bs) fn = some (u, s1)) : Sound P (Vabs.withL call g (lawOf (bytesRd spec))) :=
  h.withL (h.withF hmix lf hc) (bytesRd_reads _) (bytesRd_holds fun nil bs rest u h1 h2 h3 => by
    obtain ⟨s1, e⟩ := hrun nil bs rest u h1 h2 h3
    exact ⟨s1, by rw [withF_same]; exact e⟩)
theorem Sound.closed {P : Program} {call call0 : CallT} (h : Sound P call) (h0 : Sound P call0) {g : Nat} {v : V} {s1 : St} (hrun : call0 g [] st0 = some (v, s1)) (hv : v.flats = true) : Sound P (Vabs.withL call g (lawOf (closedRd v))) :=
  h.withL h0 (closed_reads v) (closed_holds hrun hv)
theorem closed_call {call : CallT} {g : Nat} {v : V} {st : St} : withL call g (lawOf (closedRd v)) g [] st = some (v, st) := by rw [withL_same]; rfl
theorem bytes_call {call : CallT} {g : Nat} {spec : List Nat → List V → Option V} {v : V} {rest : List V} {st : St} {bs : List Nat} {u : V} (hb : bytesAt st v = some bs) (hr : rest.all V.flat = true) (hs : spec bs rest = some u) (hu : u.flats = true) :
    withL call g (lawOf (bytesRd spec)) g (v :: rest) st = some (u, st) := by
  rw [withL_same]
  show lawOut (bytesRd spec (v :: rest) st) st = _
  unfold bytesRd
  dsimp only
  rw [if_pos hr, hb]
  dsimp only
  rw [hs]
  dsimp only
  rw [if_pos hu]
  rfl
theorem bytesAt_few {os : List (Option AObj)} {i o n c : Nat} {f own : Bool} {cs : List V} {bs : List Nat} (h : (os[i]?).join = some (.cells own cs)) (hn : n ≤ c) (hm : o + n ≤ cs.length) (hcs : (cs.drop o).take n = bytesV bs) (hb : ∀ b ∈ bs, b < 256) :
    bytesAt (few os) (.slice (some (i, o)) 1 n c f) = some bs := by
  show (if n ≤ c then match (few os).get i with | some (.cells _ cs) => (match cut o n cs with | some l => bytesL l | none => none) | _ => none else none) = _
  rw [if_pos hn, few_get, h]
  dsimp only
  rw [cut_of hm]
  dsimp only
  rw [hcs]
  exact bytesL_of hb
theorem bytesAt_mem {nil : Bool} {bs : List Nat} (hnil : nil = true → bs = []) (hb : ∀ b ∈ bs, b < 256) : bytesAt (memOf nil bs) (slOf nil bs) = some bs := by
  cases nil with
  | true => rw [hnil rfl]; rfl
  | false => exact bytesAt_few (os := [some (.cells false (bytesV bs))]) rfl (Nat.le_refl _) (by simp [bytesV_len]) (by rw [List.drop_zero, bytesV_take, List.take_length]) hb
noncomputable def newBytes (bs : List Nat) : AObj := .cells true (bytesV bs)
theorem Left.bytesOk {τ : Way} {n : Nat} {s0 s1 : St} {j c : Nat} {f b : Bool} {bs : List Nat} (hj : s0.next ≤ j) (hg : s1.heap.get j = some (newBytes bs)) :
    Left τ n s0 s1 (.tuple [.slice (some (j, 0)) 1 bs.length c f, .bool b]) [newBytes bs] [j] (.tuple [.slice (some (n, 0)) 1 bs.length bs.length false, .bool b]) := by
  refine ⟨?_, rfl, ?_, ?_⟩
  · rintro ι1 ι2 x ⟨_, ho⟩ ⟨vs', rfl, h1⟩
    refine ⟨vs', rfl, ?_⟩
    have hn : ι2 n = ι1 j := ho 0 j rfl
    match vs'.toList, h1 with
    | x :: y :: [], ⟨⟨en, yy, c', e1, e2, e3, e4, e5, e6⟩, h3, _⟩ =>
      refine ⟨⟨en, yy, c', by rw [hn]; exact e1, e2, Nat.le_refl _, by omega, (fun h => by cases h), e6⟩, h3, trivial⟩
  · intro q k o hq ho
    cases q with
    | succ q => simp at hq
    | zero =>
      simp at hq ho
      subst hq ho
      exact ⟨hj, _, hg, rfl, fun ι1 ι2 B B' w e hB _ hor => or_flat hB bytesV_flat hor⟩
  · intro q q' k h1 h2
    cases q with
    | succ q => simp at h1
    | zero => cases q' with
      | succ q' => simp at h2
      | zero => rfl
theorem Left.bytes {τ : Way} {n : Nat} {s0 s1 : St} {j c : Nat} {f : Bool} {bs : List Nat} (hj : s0.next ≤ j) (hg : s1.heap.get j = some (newBytes bs)) :
    Left τ n s0 s1 (.slice (some (j, 0)) 1 bs.length c f) [newBytes bs] [j] (.slice (some (n, 0)) 1 bs.length bs.length false) := by
  refine ⟨?_, rfl, ?_, ?_⟩
  · rintro ι1 ι2 x ⟨_, ho⟩ ⟨en, yy, c', e1, e2, e3, e4, e5, e6⟩
    have hn : ι2 n = ι1 j := ho 0 j rfl
    exact ⟨en, yy, c', by rw [hn]; exact e1, e2, Nat.le_refl _, by omega, (fun h => by cases h), e6⟩
  · intro q k o hq ho
    cases q with
    | succ q => simp at hq
    | zero =>
      simp at hq ho
      subst hq ho
      exact ⟨hj, _, hg, rfl, fun ι1 ι2 B B' w e hB _ hor => or_flat hB bytesV_flat hor⟩
  · intro q q' k h1 h2
    cases q with
    | succ q => simp at h1
    | zero => cases q' with
      | succ q' => simp at h2
      | zero => rfl
noncomputable def isNil : V → Bool
  | .slice none _ _ _ _ => true
  | _ => false
noncomputable def bytesRdA (spec : Bool → List Nat → List V → Option Ans) : List V → St → Option Ans := fun args st =>
  match args with
  | v :: rest => if rest.all V.flat = true then match bytesAt st v with | some bs => spec (isNil v) bs rest | none => none else none
  | [] => none
theorem bytesRdA_reads (spec : Bool → List Nat → List V → Option Ans) : Reads (bytesRdA spec) := by
  intro args s s' g a h he
  unfold bytesRdA at h ⊢
  split at h
  · split at h
    · rename_i hr
      split at h
      · rename_i bs hb
        rw [if_pos hr, bytesAt_ext hb he]
        exact h
      · cases h
    · cases h
  · cases h
theorem seen_bytesN {st : St} {v : V} {bs : List Nat} {rest : List V} (h : bytesAt st v = some bs) (hr : ∀ v ∈ rest, v.flat = true) :
    ∃ τ, (isNil v = true → bs = []) ∧ Seen τ (v :: rest) st (slOf (isNil v) bs :: rest) (memOf (isNil v) bs) := by
  obtain ⟨τ, nil, h1, h2⟩ := seen_bytes h hr
  have e : nil = isNil v := by
    have hx := h2.args.1
    unfold bytesAt at h
    split at h
    · cases h
      cases nil with
      | true => rfl
      | false =>
        exfalso
        obtain ⟨en, y, c', e1, _⟩ := hx (fun _ => none) (.slice none 0 0) ⟨rfl, rfl, rfl⟩
        unfold via at e1
        split at e1 <;> cases e1
    · rename_i i o n c f
      cases nil with
      | false => rfl
      | true =>
        exfalso
        have hb := h1 rfl
        subst hb
        split at h
        · rename_i hc
          have key : R (via τ (fun _ => some ⟨0, 0, o + c⟩)) (slOf true []) (.slice (some ⟨0, o, none⟩) n c) :=
            hx (fun _ => some ⟨0, 0, o + c⟩) (.slice (some ⟨0, o, none⟩) n c) ⟨⟨0, 0, o + c⟩, ⟨0, o, none⟩, c, rfl, rfl, hc, Nat.le_refl _, fun _ => rfl, .inr ⟨by rw [Nat.zero_add], by show o + c * 1 ≤ o + c; omega⟩⟩
          obtain ⟨_, _, e3⟩ := key
          cases e3
        · cases h
    · cases h
  subst e
  exact ⟨τ, h1, h2⟩
theorem Sound.bytesA {P : Program} {call : CallT} (hmix : P.follows .mixedOrders = true) (h : Sound P call) {g : Nat} {fn : AFunc} (lf : Nat) (hc : compF P g = some fn) {spec : Bool → List Nat → List V → Option Ans}
    (hrun : ∀ nil bs rest os f, (nil = true → bs = []) → (∀ b ∈ bs, b < 256) → spec nil bs rest = some (os, f) →
      ∃ v0 s1 σ, enterF call lf (slOf nil bs :: rest) (memOf nil bs) fn = some (v0, s1) ∧ ∀ τ n, Left τ n (memOf nil bs) s1 v0 os σ (f n)) : Sound P (Vabs.withL call g (lawOf (bytesRdA spec))) := by
  refine h.withL (h.withF hmix lf hc) (bytesRdA_reads _) ?_
  intro args st os f hr
  unfold bytesRdA at hr
  split at hr
  · split at hr
    · rename_i hrest
      split at hr
      · rename_i bs hb
        obtain ⟨τ, hn, hseen⟩ := seen_bytesN hb (fun v hv => List.all_eq_true.1 hrest v hv)
        obtain ⟨v0, s1, σ, e, hl⟩ := hrun _ bs _ os f hn (bytesAt_lt hb) hr
        exact ⟨τ, _, _, s1, v0, σ, by rw [withF_same]; exact e, hseen, hl τ st.next⟩
      · cases hr
    · cases hr
  · cases hr
theorem bytesA_call {call : CallT} {g : Nat} {spec : Bool → List Nat → List V → Option Ans} {v : V} {rest : List V} {st : St} {bs : List Nat} (hb : bytesAt st v = some bs) (hr : rest.all V.flat = true) :
    withL call g (lawOf (bytesRdA spec)) g (v :: rest) st = lawOut (spec (isNil v) bs rest) st := by
  rw [withL_same]
  show lawOut (bytesRdA spec (v :: rest) st) st = _
  unfold bytesRdA
  dsimp only
  rw [if_pos hr, hb]
theorem lawOut_nil {f : Nat → V} {st : St} : lawOut (some ([], f)) st = some (f st.next, st) := rfl
theorem lawOut_one {f : Nat → V} {os : List (Option AObj)} {o : AObj} : lawOut (some ([o], f)) (few os) = some (f os.length, few (os ++ [some o])) := by
  show (match allocL [o] (few os) with | some st' => some (f (few os).next, st') | none => none) = _
  simp only [allocL, few_alloc]
  rfl
theorem append_none {os : List (Option AObj)} {j : Nat} : appendV (few os) 1 1 (.slice (some (j, 0)) 1 0 0 true) (some 0) (some []) = some (.slice (some (j, 0)) 1 0 0 true, few os) := rfl
theorem append_new {os : List (Option AObj)} {j n : Nat} {new : List V} (hj : (os[j]?).join = some (.cells true [])) (hn : 0 < n) (hl : new.length = n) (hs : n ≤ 140737488354816) :
    appendV (few os) 1 1 (.slice (some (j, 0)) 1 0 0 true) (some n) (some new) = some (.slice (some (os.length, 0)) 1 n n false, few (os ++ [some (.cells true new)])) := by
  obtain ⟨m, rfl⟩ : ∃ m, n = m + 1 := ⟨n - 1, by omega⟩
  show valOf (appendOp (few os) 1 1 (.slice (some (j, 0)) 1 0 0 true) (m + 1) new) = _
  unfold appendOp
  dsimp only
  rw [ble_t (show (2 * (0 + (m + 1)) + 1024) * 1 ≤ 281474976710656 by omega), show Nat.beq new.length ((m + 1) * 1) = true from by rw [hl, Nat.mul_one]; exact Nat.beq_refl _, few_get, hj]
  dsimp only [Bool.and_self, sel_true, Nat.beq_refl]
  rw [show Nat.ble (0 + (m + 1)) 0 = false from by rw [Nat.zero_add]; rfl]
  dsimp only [sel_false, sel_true]
  rw [show cut 0 (0 * 1) ([] : List V) = some [] from rfl]
  dsimp only
  rw [few_alloc, Nat.zero_add]
  rfl
end Go.Vabs

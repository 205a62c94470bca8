/- Lemmas for this claim, text T. No condition. -/
import Derived.Test.YtcgiiomghmffbaaVabsP
import Derived.Test.YtcgiiomghmffbaaVabsO
import Derived.Tactics
namespace Go.Vabs
set_option linter.unusedSimpArgs false
set_option linter.unusedVariables false
def CallPost (ι : Map) (B : Nat) (st st' : St) (v : V) (w : World) (e : Ending) (w' : World) : Prop :=
  ∃ x ι', e = .returned x ∧ Sub ι ι' ∧ (∀ i, (i < st.next ∨ st'.next ≤ i) → ι' i = ι i) ∧ Rel ι' B st'.heap w' ∧ Below B w w' ∧ R ι' v x
def CallOK (P : Program) (B : Nat) (call : CallT) : Prop := ∀ g args st v st', call g args st = some (v, st') → Callable P g ∧ ∀ ι w args', Neat st → Rel ι B st.heap w →
  (∀ i, st.next ≤ i → i < st'.next → ι i = none) → All2 (R ι) args args'.toList → Calls P g args' w (CallPost ι B st st' v w)
section
variable {P : Program} {B : Nat} {call : CallT} (hcall : CallOK P B call) (hfc : CallFramed call)
include hcall hfc in
theorem step_sim {ι : Map} {st st' : St} {w : World} {a : Act} {o : Oper} {f : Frame} {sr : Operand → Option Src} {ao : AOp} {v : V} {next : Act → World → Prop} {Q : Exit → Act → World → Prop} (hg : Good ι sr f.ev a) (hrel : Rel ι B st.heap w) (hfr : ∀ i, st.next ≤ i → i < st'.next → ι i = none) (hn : Neat st)
    (hc : compOp P sr o.op = some ao) (hx : stepOp call ao f st = some (v, st'))
    (hk : ∀ ι' w' x, Sub ι ι' → (∀ i, (i < st.next ∨ st'.next ≤ i) → ι' i = ι i) → Rel ι' B st'.heap w' → Below B w w' → R ι' v x → next (a.put o.dst x) w') : o.wp P a w next Q := by
  have hx : (Option.rec none (Prod.rec fun r s => afterRes call s r) (execOp ao f.ev st) : Option (V × St)) = some (v, st') := hx
  cases hex : execOp ao f.ev st with
  | none => rw [hex] at hx; cases hx
  | some p =>
    obtain ⟨r, st1⟩ := p
    rw [hex] at hx
    have hx : afterRes call st1 r = some (v, st') := hx
    obtain ⟨went1, _⟩ := exec_framed ao f.ev st r st1 hex
    cases r with
    | val u =>
      cases hx
      obtain ⟨ι', w', hs⟩ := exec_sim (o := o) hg hrel hfr hc hex (fun g args h => by cases h)
      obtain ⟨x, hrun, hr⟩ := hs.res
      unfold Oper.wp
      rcases hrun with hrun | ⟨hrun, rfl⟩
      · rw [hrun]; exact hk ι' w' x hs.sub hs.other hs.rel hs.below hr
      · rw [hrun]; exact hk ι' w' undef hs.sub hs.other hs.rel hs.below hr
    | enter g args =>
      have hx : call g args st1 = some (v, st') := hx
      obtain ⟨went2, _⟩ := hfc g args st1 v st' hx
      obtain ⟨hca, hcc⟩ := hcall g args st1 v st' hx
      obtain ⟨ι1, w1, hs⟩ := exec_sim (o := o) hg hrel (fun i h1 h2 => hfr i h1 (Nat.lt_of_lt_of_le h2 went2.next)) hc hex (fun g' args' h => by cases h; exact hca)
      obtain ⟨args', hrun, hr⟩ := hs.res
      unfold Oper.wp
      rw [hrun]
      refine (hcc ι1 w1 args' (went1.neat hn) hs.rel ?_ hr).mono ?_
      · intro i h1 h2
        rw [hs.other i (.inr h1)]
        exact hfr i (Nat.le_trans went1.next h1) h2
      · rintro e w2 ⟨x, ι2, rfl, k1, k2, k3, k4, k5⟩
        refine hk ι2 w2 x (hs.sub.trans k1) ?_ k3 (hs.below.trans k4) k5
        intro i hi
        rw [k2 i, hs.other i]
        · rcases hi with h | h
          · exact .inl h
          · exact .inr (Nat.le_trans went2.next h)
        · rcases hi with h | h
          · exact .inl (Nat.lt_of_lt_of_le h went1.next)
          · exact .inr h
structure Kept (drop : Nat) (ι ι' : Map) (B nt : Nat) (st st' : St) (w w' : World) (f' : Frame) (a a' : Act) : Prop where
  sub : Sub ι ι'
  other : ∀ i, (i < st.next ∨ st'.next ≤ i) → ι' i = ι i
  rel : Rel ι' B st'.heap w'
  below : Below B w w'
  fr : FR drop ι' f' a'.tmps
  size : nt ≤ a'.tmps.size
  defers : a'.defers = a.defers
theorem put_size {a : Act} {d : Option Nat} {x : Value} : (a.put d x).tmps.size = a.tmps.size := by cases d <;> simp [Act.put]
theorem put_defers {a : Act} {d : Option Nat} {x : Value} : (a.put d x).defers = a.defers := by cases d <;> rfl
theorem either_some {α : Type} {b : Option Bool} {x y : Option α} {r : α} (h : either b x y = some r) : (b = some true ∧ x = some r) ∨ (b = some false ∧ y = some r) := by
  cases b with
  | none => cases h
  | some b => cases b with
    | true => exact .inl ⟨rfl, h⟩
    | false => exact .inr ⟨rfl, h⟩
theorem dst_lt {nt : Nat} {o : Oper} {a : Act} (h : dstOk nt o = true) (hs : nt ≤ a.tmps.size) : ∀ n, o.dst = some n → n < a.tmps.size := by
  intro n hn
  unfold dstOk at h
  rw [hn] at h
  exact Nat.lt_of_lt_of_le (blt_iff.1 h) hs
include hcall hfc in
theorem reg_sim {nt drop : Nat} {ops : Array Oper} {Q : Exit → Act → World → Prop} : ∀ (os : List Oper) (al : Alias) (aos : List AOper) (ι : Map) (st st' : St) (w : World) (a : Act) (f f' : Frame),
    compReg P nt drop ops os al = some aos → runOps aos call f st = some (f', st') → FR drop ι f a.tmps → AL ι f a al → nt ≤ a.tmps.size → Rel ι B st.heap w → (∀ i, st.next ≤ i → i < st'.next → ι i = none) → Neat st →
    (∀ ι' w' a', Kept drop ι ι' B nt st st' w w' f' a a' → Q .normal a' w') → wpList P ops Q os a w := by
  intro os
  induction os with
  | nil =>
    intro al aos ι st st' w a f f' hc hr hf ha hsz hrel hfr hn hk
    cases hc
    cases hr
    exact hk ι w a ⟨Sub.refl _, fun _ _ => rfl, hrel, Below.refl _ _, hf, hsz, rfl⟩
  | cons o os ih =>
    intro al aos ι st st' w a f f' hc hr hf ha hsz hrel hfr hn hk
    simp only [compReg] at hc
    split at hc
    case h_2 => cases hc
    rename_i ao hao
    unfold compOper at hao
    split at hao
    case h_2 => cases hao
    rename_i g hg
    split at hao
    case h_2 => cases hao
    rename_i op hop
    have hh := sel_some hao
    clear hao
    obtain ⟨hdst, hao⟩ := hh
    cases hao
    rw [Bool.and_eq_true] at hdst
    obtain ⟨hdst, hgo⟩ := hdst
    have hlt := dst_lt hdst hsz
    rcases sel_cases hc with ⟨hdrop, hc⟩ | ⟨hdrop, hc⟩
    ·
      split at hc
      case h_2 => cases hc
      rename_i d x g' hd hmv hg'
      have hmv : op = .mv x := hmv
      subst hmv
      rw [hg] at hg'; cases hg'
      rw [hd] at hdrop hc
      have hh := sel_some hc
      clear hc
      obtain ⟨hcheck, hc⟩ := hh
      simp only [Bool.and_eq_true, Bool.not_eq_true'] at hcheck
      obtain ⟨⟨hmove, hsrc⟩, hgd⟩ := hcheck
      have hy : ∃ y, (o.op = .move y ∨ o.op = .assign y) ∧ srcAt drop (aliasOf g al) y = some x := by
        cases ho : o.op <;> rw [ho] at hmove hop <;> first
          | (cases hmove; done)
          | (rename_i y
             refine ⟨y, by simp, ?_⟩
             simp only [compOp, Option.map_eq_some_iff] at hop
             obtain ⟨s, hs, he⟩ := hop
             cases he
             exact hs)
      obtain ⟨y, hy, hsx⟩ := hy
      have hrun : (Go.execOp a.eval o).run P w = .ok (.value (a.eval y)) w := by rcases hy with hy | hy <;> simp [Go.execOp, hy]
      have next : ∀ u, (wanted f (posGuard g) = some true → R ι (f.ev x) u) → wpList P ops Q os (a.put o.dst u) w := by
        intro u hu
        rw [hd]
        refine ih _ aos ι st st' w _ f f' hc hr (hf.skip hdrop) ?_ (by rw [put_size]; exact hsz) hrel hfr hn ?_
        · intro t s h hm hw
          rcases List.mem_cons.1 hm with e | hm
          · cases e
            have e1 : (a.put (some d) u).eval (.tmp d) = u := by
              simp only [Act.eval, Act.put]
              rw [Array.getD_eq_getD_getElem?, Array.getElem?_setIfInBounds, if_pos rfl, if_pos (hlt d hd)]
              rfl
            rw [e1]
            exact hu hw
          · exact (ha.skip (d := d) (x := u)) t s h hm hw
        · intro ι2 w2 a2 k
          exact hk ι2 w2 a2 ⟨k.sub, k.other, k.rel, k.below, k.fr, k.size, k.defers.trans put_defers⟩
      rw [wpList]
      by_cases hreg : Region.wanted o (yielded ops a.tmps) = true
      · rw [if_pos hreg]
        left
        unfold Oper.wp
        rw [hrun]
        exact next _ fun hw => good_at hf ha hw _ _ hsx
      · rw [if_neg hreg]
        exact next _ fun hw => absurd (wanted_eq hf hg hgo hw) hreg
    · split at hc
      case h_2 => cases hc
      rename_i r hr1
      cases hc
      have hrun : either (wanted f (posGuard g)) (Option.rec none (Prod.rec fun v s => runOps r call (f.put (o.dst.map pos) v) s) (stepOp call op f st)) (runOps r call (f.put (o.dst.map pos) V.undef) st) = some (f', st') := hr
      have alput : ∀ ι' v x, Sub ι ι' → AL ι' (f.put (o.dst.map pos) v) (a.put o.dst x) (match o.dst with | some d => forget d al | none => al) := by
        intro ι' v x hs
        cases hd : o.dst with
        | none => exact (ha.mono hs)
        | some d => exact (ha.mono hs).put
      rcases either_some hrun with ⟨hw, hx⟩ | ⟨hw, hx⟩
      · rw [wpList, if_pos (wanted_eq hf hg hgo hw)]
        left
        cases hst : stepOp call op f st with
        | none => rw [hst] at hx; cases hx
        | some p =>
          obtain ⟨v, st1⟩ := p
          rw [hst] at hx
          have hx : runOps r call (f.put (o.dst.map pos) v) st1 = some (f', st') := hx
          obtain ⟨went1, _⟩ := step_framed hfc op f st v st1 hst
          obtain ⟨went2, _⟩ := runOps_framed hfc r _ st1 f' st' hx
          refine step_sim hcall hfc (good_at hf ha hw) hrel (fun i h1 h2 => hfr i h1 (Nat.lt_of_lt_of_le h2 went2.next)) hn hop hst ?_
          intro ι1 w1 x s1 s2 s3 s4 s5
          refine ih _ r ι1 st1 st' w1 _ _ f' hr1 hx (FR.put (hf.mono s1) hlt s5) (alput ι1 v x s1) (by rw [put_size]; exact hsz) s3 ?_ (went1.neat hn) ?_
          · intro i h1 h2
            rw [s2 i (.inr h1)]
            exact hfr i (Nat.le_trans went1.next h1) h2
          · intro ι2 w2 a2 k
            refine hk ι2 w2 a2 ⟨s1.trans k.sub, ?_, k.rel, s4.trans k.below, k.fr, k.size, k.defers.trans put_defers⟩
            intro i hi
            rw [k.other i, s2 i]
            · rcases hi with h | h
              · exact .inl h
              · exact .inr (Nat.le_trans went2.next h)
            · rcases hi with h | h
              · exact .inl (Nat.lt_of_lt_of_le h went1.next)
              · exact .inr h
      · rw [wpList, if_neg (by rw [wanted_eq hf hg hgo hw]; simp)]
        refine ih _ r ι st st' w _ _ f' hr1 hx (FR.put hf hlt ⟨#[], rfl, trivial⟩) (alput ι V.undef undef (Sub.refl _)) (by rw [put_size]; exact hsz) hrel hfr hn ?_
        intro ι2 w2 a2 k
        exact hk ι2 w2 a2 ⟨k.sub, k.other, k.rel, k.below, k.fr, k.size, k.defers.trans put_defers⟩
end
end Go.Vabs

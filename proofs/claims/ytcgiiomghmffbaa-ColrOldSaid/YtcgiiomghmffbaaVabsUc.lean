/- Lemmas for this claim, text Uc. No condition. -/
import Derived.Test.YtcgiiomghmffbaaVabsUb
namespace Go.Vabs
set_option linter.unusedSimpArgs false
set_option linter.unusedVariables false
def exitOf : AExit → Exit
  | .normal => .normal
  | .ret => .ret
  | .exit id => .exit id
theorem KeptY.trans {drop B l nt : Nat} {r : Loop} {ι ι1 ι2 : Map} {st st1 st2 : St} {w w1 w2 : World} {f1 f2 : Frame} {a a1 a2 : Act} {p1 p2 : Option AExit} (h : KeptY drop ι ι1 B l nt r st st1 w w1 f1 a a1 p1) (k : KeptY drop ι1 ι2 B l nt r st1 st2 w1 w2 f2 a1 a2 p2) (n1 : st.next ≤ st1.next) (n2 : st1.next ≤ st2.next) :
    KeptY drop ι ι2 B l nt r st st2 w w2 f2 a a2 p2 := by
  refine ⟨h.sub.trans k.sub, ?_, k.rel, h.below.trans k.below, k.fr, k.size, k.defers.trans h.defers, k.record⟩
  intro i hi
  rw [k.other i, h.other i]
  · rcases hi with hi | hi
    · exact .inl hi
    · exact .inr (Nat.le_trans n2 hi)
  · rcases hi with hi | hi
    · exact .inl (Nat.lt_of_lt_of_le hi n1)
    · exact .inr hi
theorem KeptY.fresh {drop B l nt : Nat} {r : Loop} {ι ι1 : Map} {st st1 st2 : St} {w w1 : World} {f1 : Frame} {a a1 : Act} {p1 : Option AExit} (h : KeptY drop ι ι1 B l nt r st st1 w w1 f1 a a1 p1) (n1 : st.next ≤ st1.next) (hfr : ∀ i, st.next ≤ i → i < st2.next → ι i = none) : ∀ i, st1.next ≤ i → i < st2.next → ι1 i = none := by
  intro i h1 h2
  rw [h.other i (.inr h1)]
  exact hfr i (Nat.le_trans n1 h1) h2
theorem KeptY.refl {drop B l nt : Nat} {r : Loop} {ι : Map} {st : St} {w : World} {f : Frame} {a : Act} {p : Option AExit} (hf : FR drop ι f a.tmps) (hsz : nt ≤ a.tmps.size) (hrel : Rel ι B st.heap w) (hrec : w.heap[l]? = some (.loop (recOf r p))) : KeptY drop ι ι B l nt r st st w w f a a p :=
  ⟨Sub.refl _, fun _ _ => rfl, hrel, BelowX.refl _ _ _, hf, hsz, rfl, hrec⟩
theorem Kept.y {drop B l nt : Nat} {r : Loop} {ι ι' : Map} {st st' : St} {w w' : World} {f' : Frame} {a a' : Act} {p : Option AExit} (h : Kept drop ι ι' B nt st st' w w' f' a a') (hrec : w.heap[l]? = some (.loop (recOf r p))) : KeptY drop ι ι' B l nt r st st' w w' f' a a' p :=
  ⟨h.sub, h.other, h.rel, h.below.x, h.fr, h.size, h.defers, h.below.keep _ _ hrec rfl⟩
theorem thenY_some {r : OutY} {k : Frame → Option AExit → St → OutY} {x : AExit} {f : Frame} {p : Option AExit} {s : St} (h : thenY r k = some ((x, f, p), s)) :
    (∃ f1 p1 s1, r = some ((.normal, f1, p1), s1) ∧ k f1 p1 s1 = some ((x, f, p), s)) ∨ (r = some ((x, f, p), s) ∧ x ≠ .normal) := by
  cases r with
  | none => cases h
  | some q =>
    obtain ⟨⟨y, f1, p1⟩, s1⟩ := q
    cases y with
    | normal => exact .inl ⟨f1, p1, s1, rfl, h⟩
    | ret => cases h; exact .inr ⟨rfl, fun e => by cases e⟩
    | exit id => cases h; exact .inr ⟨rfl, fun e => by cases e⟩
section
variable {P : Program} {B l li nt drop n : Nat} {r : Loop} {ι0 : Map} {call : CallT} {hd : Hand}
variable (hcall : CallOK P B call) (hfc : CallFramed call) (hh : HandOK P B l r li ι0 hd) (hfh : HandFramed hd) (hmix : P.follows .mixedOrders = true)
include hcall hfc hh hfh hmix in
theorem codeY_sim (lf : Nat) : ∀ (c : Code) (ac : ACode) (ι : Map) (st st' : St) (w : World) (a : Act) (f f' : Frame) (x : AExit) (p p' : Option AExit) (Q : Exit → Act → World → Prop),
    comp P none nt drop c = some ac → evY hd call lf ac f p st = some ((x, f', p'), st') → FR drop ι f a.tmps → nt ≤ a.tmps.size → Rel ι B st.heap w → (∀ i, st.next ≤ i → i < st'.next → ι i = none) → Neat st →
    Inn ι0 li l ι → w.heap[l]? = some (.loop (recOf r p)) →
    (∀ ι' w' a', KeptY drop ι ι' B l nt r st st' w w' f' a a' p' → Q (exitOf x) a' w') → c.wpIn Fence.wide n P Q a w := by
  intro c
  have next : ∀ {ac : ACode} {f f' : Frame} {st st' : St} {x : AExit} {p p' : Option AExit}, evY hd call lf ac f p st = some ((x, f', p'), st') → st.next ≤ st'.next := fun h => (evY_framed hfh hfc lf _ _ _ _ _ _ h).1.next
  have neat : ∀ {ac : ACode} {f f' : Frame} {st st' : St} {x : AExit} {p p' : Option AExit}, evY hd call lf ac f p st = some ((x, f', p'), st') → Neat st → Neat st' := fun h => (evY_framed hfh hfc lf _ _ _ _ _ _ h).1.neat
  induction c with
  | skip =>
    intro ac ι st st' w a f f' x p p' Q hc he hf hsz hrel hfr hn hli hrec hk
    cases hc; cases he
    exact wpIn_skip (hk ι w a (KeptY.refl hf hsz hrel hrec))
  | label lb =>
    intro ac ι st st' w a f f' x p p' Q hc he hf hsz hrel hfr hn hli hrec hk
    cases hc; cases he
    exact wpIn_label (hk ι w a (KeptY.refl hf hsz hrel hrec))
  | ret =>
    intro ac ι st st' w a f f' x p p' Q hc he hf hsz hrel hfr hn hli hrec hk
    cases hc; cases he
    exact wpIn_ret (hk ι w a (KeptY.refl hf hsz hrel hrec))
  | exit id =>
    intro ac ι st st' w a f f' x p p' Q hc he hf hsz hrel hfr hn hli hrec hk
    cases hc; cases he
    exact wpIn_exit (hk ι w a (KeptY.refl hf hsz hrel hrec))
  | region id ops draws =>
    intro ac ι st st' w a f f' x p p' Q hc he hf hsz hrel hfr hn hli hrec hk
    simp only [comp] at hc
    split at hc
    · rename_i hdr
      subst hdr
      split at hc
      case h_2 => cases hc
      rename_i lo hl
      split at hc
      · rename_i hcond
        cases hc
        simp only [Bool.and_eq_true] at hcond
        have he : outY p (runD (withPartners (lo.map (·.op)) (preds ops.toList) 0 lo) call 0 [] f st) = some ((x, f', p'), st') := he
        cases hr : runD (withPartners (lo.map (·.op)) (preds ops.toList) 0 lo) call 0 [] f st with
        | none => rw [hr] at he; cases he
        | some q =>
          rw [hr] at he
          cases he
          refine sure_in (rd := none) (draw_in hmix (at_no_defer (all_no_defer _ _ hl)) sure_out ?_)
          exact dreg_sim hcall hfc hl hcond.1.1 hcond.1.2 hcond.2 hr hf hsz hrel hfr hn fun ι' w' a' k => ⟨(fun h => by cases h), hk ι' w' a' (k.y hrec)⟩
      · cases hc
    · rename_i hdr
      have hdr : draws = false := by simpa using hdr
      subst hdr
      simp only [Option.map_eq_some_iff] at hc
      obtain ⟨lo, hl, rfl⟩ := hc
      have he : normalY (runY hd call lo f p st) = some ((x, f', p'), st') := he
      cases hr : runY hd call lo f p st with
      | none => rw [hr] at he; cases he
      | some q =>
        rw [hr] at he
        cases he
        refine wpIn_region ?_
        rw [List.range_eq_range', ← Array.length_toList]
        exact wpListY_ops ops.toList 0 (by simp) _ _ (regY_sim hcall hfc hh hfh ops.toList [] lo ι st _ w a f _ p _ hl hr hf (fun _ _ _ h => by cases h) hsz hrel hfr hn hli hrec hk)
  | seq c1 c2 ih1 ih2 =>
    intro ac ι st st' w a f f' x p p' Q hc he hf hsz hrel hfr hn hli hrec hk
    simp only [comp] at hc
    split at hc
    case h_2 => cases hc
    rename_i a1 a2 h1 h2
    cases hc
    have he : thenY (evY hd call lf a1 f p st) (evY hd call lf a2) = some ((x, f', p'), st') := he
    refine wpIn_seq ?_
    rcases thenY_some he with ⟨f1, p1, s1, e1, e2⟩ | ⟨e1, hne⟩
    · have n1 := next e1
      have n2 := next e2
      refine ih1 a1 ι st s1 w a f f1 .normal p p1 _ h1 e1 hf hsz hrel (fun i u v => hfr i u (Nat.lt_of_lt_of_le v n2)) hn hli hrec ?_
      intro ι1 w1 b1 k1
      show c2.wpIn Fence.wide n P Q b1 w1
      refine ih2 a2 ι1 s1 st' w1 b1 f1 f' x p1 p' Q h2 e2 k1.fr k1.size k1.rel (k1.fresh n1 hfr) (neat e1 hn) (li_sub hli k1.sub) k1.record ?_
      intro ι2 w2 b2 k2
      exact hk ι2 w2 b2 (k1.trans k2 n1 n2)
    · refine ih1 a1 ι st st' w a f f' x p p' _ h1 e1 hf hsz hrel hfr hn hli hrec ?_
      intro ι1 w1 b1 k1
      have := hk ι1 w1 b1 k1
      cases x with
      | normal => exact absurd rfl hne
      | ret => exact this
      | exit id => exact this
  | cond o c1 c2 ih1 ih2 =>
    intro ac ι st st' w a f f' x p p' Q hc he hf hsz hrel hfr hn hli hrec hk
    simp only [comp] at hc
    split at hc
    case h_2 => cases hc
    rename_i s a1 a2 hs h1 h2
    cases hc
    have he : condY (evY hd call lf a1 f p st) (evY hd call lf a2 f p st) (f.ev s) = some ((x, f', p'), st') := he
    have hg := good_of hf o s hs
    generalize f.ev s = v at he hg
    cases v with
    | bool t =>
      have e1 := inv_bool hg
      cases t with
      | true => exact wpIn_cond_true e1 (ih1 a1 ι st st' w a f f' x p p' Q h1 he hf hsz hrel hfr hn hli hrec hk)
      | false => exact wpIn_cond_false e1 (ih2 a2 ι st st' w a f f' x p p' Q h2 he hf hsz hrel hfr hn hli hrec hk)
    | _ => cases he
  | block id c ih =>
    intro ac ι st st' w a f f' x p p' Q hc he hf hsz hrel hfr hn hli hrec hk
    simp only [comp, Option.map_eq_some_iff] at hc
    obtain ⟨a1, h1, rfl⟩ := hc
    have he : blockY id (evY hd call lf a1 f p st) = some ((x, f', p'), st') := he
    refine wpIn_block ?_
    cases hr : evY hd call lf a1 f p st with
    | none => rw [hr] at he; cases he
    | some q =>
      obtain ⟨⟨y, f1, p1⟩, s1⟩ := q
      rw [hr] at he
      cases y with
      | normal =>
        cases he
        exact ih a1 ι st st' w a f f' .normal p p' _ h1 hr hf hsz hrel hfr hn hli hrec hk
      | ret =>
        cases he
        exact ih a1 ι st st' w a f f' .ret p p' _ h1 hr hf hsz hrel hfr hn hli hrec hk
      | exit j =>
        have he : sel (Nat.beq j id) (some ((AExit.normal, f1, p1), s1)) (some ((AExit.exit j, f1, p1), s1)) = some ((x, f', p'), st') := he
        cases hj : Nat.beq j id with
        | true =>
          rw [hj] at he
          cases he
          rw [Nat.beq_eq] at hj
          subst hj
          refine ih a1 ι st st' w a f f' (.exit j) p p' _ h1 hr hf hsz hrel hfr hn hli hrec ?_
          intro ι1 w1 b1 k1
          show (if j = j then Q .normal b1 w1 else _)
          rw [if_pos rfl]
          exact hk ι1 w1 b1 k1
        | false =>
          rw [hj] at he
          cases he
          have hne : j ≠ id := fun e => by rw [← Nat.beq_eq, hj] at e; cases e
          refine ih a1 ι st st' w a f f' (.exit j) p p' _ h1 hr hf hsz hrel hfr hn hli hrec ?_
          intro ι1 w1 b1 k1
          show (if j = id then Q .normal b1 w1 else Q (.exit j) b1 w1)
          rw [if_neg hne]
          exact hk ι1 w1 b1 k1
  | loop c ih =>
    intro ac ι st st' w a f f' x p p' Q hc he hf hsz hrel hfr hn hli hrec hk
    simp only [comp, Option.map_eq_some_iff] at hc
    obtain ⟨a1, h1, rfl⟩ := hc
    have he : loopY (evY hd call lf a1) lf f p st = some ((x, f', p'), st') := he
    refine loop_in (rd := none) (fun k b u => ∃ ι1 s1 f1 p1, loopY (evY hd call lf a1) k f1 p1 s1 = some ((x, f', p'), st') ∧ FR drop ι1 f1 b.tmps ∧ nt ≤ b.tmps.size ∧ Rel ι1 B s1.heap u ∧ (∀ i, s1.next ≤ i → i < st'.next → ι1 i = none) ∧ Neat s1 ∧
      Inn ι0 li l ι1 ∧ u.heap[l]? = some (.loop (recOf r p1)) ∧ ∀ ι' w' a', KeptY drop ι1 ι' B l nt r s1 st' u w' f' b a' p' → Q (exitOf x) a' w') ?_ ?_ (k := lf) ⟨ι, st, f, p, he, hf, hsz, hrel, hfr, hn, hli, hrec, hk⟩
    · rintro b u ⟨_, _, _, _, h, _⟩
      cases h
    · rintro k b u ⟨ι1, s1, f1, p1, h, hf, hsz, hrel, hfr, hn, hli, hrec, hk⟩
      have h : thenY (evY hd call lf a1 f1 p1 s1) (loopY (evY hd call lf a1) k) = some ((x, f', p'), st') := h
      rcases thenY_some h with ⟨f2, p2, s2, e1, e2⟩ | ⟨e1, hne⟩
      · have n1 := next e1
        have n2 : s2.next ≤ st'.next := (loopY_framed (fun f p => evY_framed hfh hfc lf a1 f p) k f2 p2 s2 _ st' e2).1.next
        refine ih a1 ι1 s1 s2 u b f1 f2 .normal p1 p2 _ h1 e1 hf hsz hrel (fun i u v => hfr i u (Nat.lt_of_lt_of_le v n2)) hn hli hrec ?_
        intro ι2 w2 b2 k2
        exact ⟨ι2, s2, f2, p2, e2, k2.fr, k2.size, k2.rel, k2.fresh n1 hfr, neat e1 hn, li_sub hli k2.sub, k2.record, fun ι3 w3 b3 k3 => hk ι3 w3 b3 (k2.trans k3 n1 n2)⟩
      · refine ih a1 ι1 s1 st' u b f1 f' x p1 p' _ h1 e1 hf hsz hrel hfr hn hli hrec ?_
        intro ι2 w2 b2 k2
        have := hk ι2 w2 b2 k2
        cases x with
        | normal => exact absurd rfl hne
        | ret => exact this
        | exit id => exact this
  | rangeFunc => intro ac ι st st' w a f f' x p p' Q hc; cases hc
  | scope => intro ac ι st st' w a f f' x p p' Q hc; cases hc
  | goto => intro ac ι st st' w a f f' x p p' Q hc; cases hc
  | refuse => intro ac ι st st' w a f f' x p p' Q hc; cases hc
end
end Go.Vabs

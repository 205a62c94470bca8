/-
  Code, calls.
-/
import Derived.Test.YtefgofmjfaobpaaVabsU
import Derived.LoopN
namespace Go.Vabs
set_option linter.unusedSimpArgs false
set_option linter.unusedVariables false
open Go.RowKit (Below)

def exitOf : AExit → Exit
  | .normal => .normal
  | .ret => .ret
  | .exit id => .exit id

theorem Kept.trans {drop B nt : Nat} {ι ι1 ι2 : Map} {st st1 st2 : St} {w w1 w2 : World} {f1 f2 : Frame} {a a1 a2 : Act} (h : Kept drop ι ι1 B nt st st1 w w1 f1 a a1) (k : Kept drop ι1 ι2 B nt st1 st2 w1 w2 f2 a1 a2) (n1 : st.next ≤ st1.next) (n2 : st1.next ≤ st2.next) :
    Kept drop ι ι2 B nt st st2 w w2 f2 a a2 := by
  refine ⟨h.sub.trans k.sub, ?_, k.rel, h.below.trans k.below, k.fr, k.size, k.defers.trans h.defers⟩
  intro i hi
  rw [k.other i, h.other i]
  · rcases hi with hi | hi
    · exact .inl hi
    · exact .inr (Nat.le_trans n2 hi)
  · rcases hi with hi | hi
    · exact .inl (Nat.lt_of_lt_of_le hi n1)
    · exact .inr hi
theorem Kept.fresh {drop B nt : Nat} {ι ι1 : Map} {st st1 st2 : St} {w w1 : World} {f1 : Frame} {a a1 : Act} (h : Kept drop ι ι1 B nt st st1 w w1 f1 a a1) (n1 : st.next ≤ st1.next) (hfr : ∀ i, st.next ≤ i → i < st2.next → ι i = none) : ∀ i, st1.next ≤ i → i < st2.next → ι1 i = none := by
  intro i h1 h2
  rw [h.other i (.inr h1)]
  exact hfr i (Nat.le_trans n1 h1) h2

section
variable {P : Program} {B : Nat} {call : CallT} (hcall : CallOK P B call) (hfc : CallFramed call) (hmix : P.follows .mixedOrders = true)

include hfc in
theorem ev_next {lf : Nat} {c : ACode} {f f' : Frame} {st st' : St} {x : AExit} (h : ev c call lf f st = some (x, f', st')) : st.next ≤ st'.next :=
  (ev_framed hfc lf c f st (x, f') st' (by show assoc (ev c call lf f st) = _; rw [h]; rfl)).1.next

include hfc in
theorem ev_neat {lf : Nat} {c : ACode} {f f' : Frame} {st st' : St} {x : AExit} (h : ev c call lf f st = some (x, f', st')) (hn : Neat st) : Neat st' :=
  (ev_framed hfc lf c f st (x, f') st' (by show assoc (ev c call lf f st) = _; rw [h]; rfl)).1.neat hn

/-- What code leaves. -/
def CodeOK (P : Program) (B : Nat) (call : CallT) (lf nt drop : Nat) (c : Code) : Prop := ∀ (ac : ACode) (ι : Map) (st st' : St) (w : World) (a : Act) (f f' : Frame) (x : AExit) (Q : Exit → Act → World → Prop),
  comp P nt drop c = some ac → ev ac call lf f st = some (x, f', st') → FR drop ι f a.tmps → nt ≤ a.tmps.size → Rel ι B st.heap w → (∀ i, st.next ≤ i → i < st'.next → ι i = none) → Neat st →
  (∀ ι' w' a', Kept drop ι ι' B nt st st' w w' f' a a' → Q (exitOf x) a' w') → c.wp P Q a w

theorem Kept.refl {drop B nt : Nat} {ι : Map} {st : St} {w : World} {f : Frame} {a : Act} (hf : FR drop ι f a.tmps) (hsz : nt ≤ a.tmps.size) (hrel : Rel ι B st.heap w) : Kept drop ι ι B nt st st w w f a a :=
  ⟨Sub.refl _, fun _ _ => rfl, hrel, Below.refl _ _, hf, hsz, rfl⟩

theorem andThen_some {r : Out} {k : Frame → St → Out} {x : AExit} {f : Frame} {s : St} (h : andThen r k = some (x, f, s)) :
    (∃ f1 s1, r = some (.normal, f1, s1) ∧ k f1 s1 = some (x, f, s)) ∨ (r = some (x, f, s) ∧ x ≠ .normal) := by
  cases r with
  | none => cases h
  | some p =>
    obtain ⟨y, f1, s1⟩ := p
    cases y with
    | normal => exact .inl ⟨f1, s1, rfl, h⟩
    | ret => cases h; exact .inr ⟨rfl, fun e => by cases e⟩
    | exit id => cases h; exact .inr ⟨rfl, fun e => by cases e⟩

include hcall hfc hmix in
theorem code_sim (lf nt drop : Nat) : ∀ c : Code, CodeOK P B call lf nt drop c := by
  intro c
  induction c with
  | skip =>
    intro ac ι st st' w a f f' x Q hc he hf hsz hrel hfr hn hk
    cases hc; cases he
    exact wp_skip (hk ι w a (Kept.refl hf hsz hrel))
  | label l =>
    intro ac ι st st' w a f f' x Q hc he hf hsz hrel hfr hn hk
    cases hc; cases he
    exact wp_label (hk ι w a (Kept.refl hf hsz hrel))
  | ret =>
    intro ac ι st st' w a f f' x Q hc he hf hsz hrel hfr hn hk
    cases hc; cases he
    exact wp_ret (hk ι w a (Kept.refl hf hsz hrel))
  | exit id =>
    intro ac ι st st' w a f f' x Q hc he hf hsz hrel hfr hn hk
    cases hc; cases he
    exact wp_exit (hk ι w a (Kept.refl hf hsz hrel))
  | region id ops draws =>
    intro ac ι st st' w a f f' x Q hc he hf hsz hrel hfr hn hk
    simp only [comp] at hc
    split at hc
    · rename_i hdr
      subst hdr
      split at hc
      case h_2 => cases hc
      rename_i l hl
      split at hc
      · rename_i hcond
        cases hc
        simp only [Bool.and_eq_true] at hcond
        have he : normalOut (runD (withPartners (l.map (·.op)) (preds ops.toList) 0 l) call 0 [] f st) = some (x, f', st') := he
        cases hr : runD (withPartners (l.map (·.op)) (preds ops.toList) 0 l) call 0 [] f st with
        | none => rw [hr] at he; cases he
        | some p =>
          rw [hr] at he
          cases he
          exact dreg_sim hcall hfc hmix hl hcond.1.1 hcond.1.2 hcond.2 hr hf hsz hrel hfr hn hk
      · cases hc
    · rename_i hdr
      have hdr : draws = false := by simpa using hdr
      subst hdr
      simp only [Option.map_eq_some_iff] at hc
      obtain ⟨l, hl, rfl⟩ := hc
      have he : normalOut (runOps l call f st) = some (x, f', st') := he
      cases hr : runOps l call f st with
      | none => rw [hr] at he; cases he
      | some p =>
        rw [hr] at he
        cases he
        exact wp_region_list (reg_sim hcall hfc ops.toList [] l ι st st' w a f f' hl hr hf (fun _ _ _ h => by cases h) hsz hrel hfr hn hk)
  | seq c1 c2 ih1 ih2 =>
    intro ac ι st st' w a f f' x Q hc he hf hsz hrel hfr hn hk
    simp only [comp] at hc
    split at hc
    case h_2 => cases hc
    rename_i a1 a2 h1 h2
    cases hc
    have he : andThen (ev a1 call lf f st) (ev a2 call lf) = some (x, f', st') := he
    refine wp_seq ?_
    rcases andThen_some he with ⟨f1, s1, e1, e2⟩ | ⟨e1, hne⟩
    · have n1 := ev_next hfc e1
      have n2 := ev_next hfc e2
      refine ih1 a1 ι st s1 w a f f1 .normal _ h1 e1 hf hsz hrel (fun i p q => hfr i p (Nat.lt_of_lt_of_le q n2)) hn ?_
      intro ι1 w1 b1 k1
      show c2.wp P Q b1 w1
      refine ih2 a2 ι1 s1 st' w1 b1 f1 f' x Q h2 e2 k1.fr k1.size k1.rel (k1.fresh n1 hfr) (ev_neat hfc e1 hn) ?_
      intro ι2 w2 b2 k2
      exact hk ι2 w2 b2 (k1.trans k2 n1 n2)
    · refine ih1 a1 ι st st' w a f f' x _ h1 e1 hf hsz hrel hfr hn ?_
      intro ι1 w1 b1 k1
      have := hk ι1 w1 b1 k1
      cases x with
      | normal => exact absurd rfl hne
      | ret => exact this
      | exit id => exact this
  | cond o c1 c2 ih1 ih2 =>
    intro ac ι st st' w a f f' x Q hc he hf hsz hrel hfr hn hk
    simp only [comp] at hc
    split at hc
    case h_2 => cases hc
    rename_i s a1 a2 hs h1 h2
    cases hc
    have he : evCondB (ev a1) (ev a2) call lf f st (f.ev s) = some (x, f', st') := he
    have hg := good_of hf o s hs
    generalize f.ev s = v at he hg
    cases v with
    | bool t =>
      have e1 := inv_bool hg
      cases t with
      | true => exact wp_cond_true e1 (ih1 a1 ι st st' w a f f' x Q h1 he hf hsz hrel hfr hn hk)
      | false => exact wp_cond_false e1 (ih2 a2 ι st st' w a f f' x Q h2 he hf hsz hrel hfr hn hk)
    | _ => cases he
  | block id c ih =>
    intro ac ι st st' w a f f' x Q hc he hf hsz hrel hfr hn hk
    simp only [comp, Option.map_eq_some_iff] at hc
    obtain ⟨a1, h1, rfl⟩ := hc
    have he : (Option.rec none (Prod.rec (blockExit id)) (ev a1 call lf f st) : Out) = some (x, f', st') := he
    refine wp_block ?_
    cases hr : ev a1 call lf f st with
    | none => rw [hr] at he; cases he
    | some p =>
      obtain ⟨y, f1, s1⟩ := p
      rw [hr] at he
      cases y with
      | normal =>
        cases he
        exact ih a1 ι st st' w a f f' .normal _ h1 hr hf hsz hrel hfr hn hk
      | ret =>
        cases he
        exact ih a1 ι st st' w a f f' .ret _ h1 hr hf hsz hrel hfr hn hk
      | exit j =>
        have he : sel (Nat.beq j id) (some (AExit.normal, f1, s1)) (some (AExit.exit j, f1, s1)) = some (x, f', st') := he
        cases hj : Nat.beq j id with
        | true =>
          rw [hj] at he
          cases he
          rw [Nat.beq_eq] at hj
          subst hj
          refine ih a1 ι st st' w a f f' (.exit j) _ h1 hr hf hsz hrel hfr hn ?_
          intro ι1 w1 b1 k1
          show (if j = j then Q .normal b1 w1 else _)
          rw [if_pos rfl]
          exact hk ι1 w1 b1 k1
        | false =>
          rw [hj] at he
          cases he
          have hne : j ≠ id := fun e => by rw [← Nat.beq_eq, hj] at e; cases e
          refine ih a1 ι st st' w a f f' (.exit j) _ h1 hr hf hsz hrel hfr hn ?_
          intro ι1 w1 b1 k1
          show (if j = id then Q .normal b1 w1 else Q (.exit j) b1 w1)
          rw [if_neg hne]
          exact hk ι1 w1 b1 k1
  | loop c ih =>
    intro ac ι st st' w a f f' x Q hc he hf hsz hrel hfr hn hk
    simp only [comp, Option.map_eq_some_iff] at hc
    obtain ⟨a1, h1, rfl⟩ := hc
    have he : loopN (ev a1 call lf) lf f st = some (x, f', st') := he
    refine wp_loop_rounds lf ?_
    have key : ∀ (n : Nat) (ι : Map) (st : St) (w : World) (a : Act) (f : Frame), loopN (ev a1 call lf) n f st = some (x, f', st') → FR drop ι f a.tmps → nt ≤ a.tmps.size → Rel ι B st.heap w → (∀ i, st.next ≤ i → i < st'.next → ι i = none) → Neat st →
        (∀ ι' w' a', Kept drop ι ι' B nt st st' w w' f' a a' → Q (exitOf x) a' w') → Code.rounds P c Q n a w := by
      intro n
      induction n with
      | zero => intro ι st w a f h; cases h
      | succ n ihn =>
        intro ι st w a f h hf hsz hrel hfr hn hk
        have h : andThen (ev a1 call lf f st) (loopN (ev a1 call lf) n) = some (x, f', st') := h
        rw [rounds_succ]
        rcases andThen_some h with ⟨f1, s1, e1, e2⟩ | ⟨e1, hne⟩
        · have n1 := ev_next hfc e1
          have n2 : s1.next ≤ st'.next := (loop_framed (fun f => ev_framed hfc lf a1 f) n f1 s1 (x, f') st' (by show assoc _ = _; rw [e2]; rfl)).1.next
          refine ih a1 ι st s1 w a f f1 .normal _ h1 e1 hf hsz hrel (fun i p q => hfr i p (Nat.lt_of_lt_of_le q n2)) hn ?_
          intro ι1 w1 b1 k1
          show Code.rounds P c Q n b1 w1
          exact ihn ι1 s1 w1 b1 f1 e2 k1.fr k1.size k1.rel (k1.fresh n1 hfr) (ev_neat hfc e1 hn) fun ι2 w2 b2 k2 => hk ι2 w2 b2 (k1.trans k2 n1 n2)
        · refine ih a1 ι st st' w a f f' x _ h1 e1 hf hsz hrel hfr hn ?_
          intro ι1 w1 b1 k1
          have := hk ι1 w1 b1 k1
          cases x with
          | normal => exact absurd rfl hne
          | ret => exact this
          | exit id => exact this
    exact key lf ι st w a f he hf hsz hrel hfr hn hk
  | rangeFunc => intro ac ι st st' w a f f' x Q hc; cases hc
  | scope => intro ac ι st st' w a f f' x Q hc; cases hc
  | goto => intro ac ι st st' w a f f' x Q hc; cases hc
  | refuse => intro ac ι st st' w a f f' x Q hc; cases hc
end

/- RESULTS -/
def resRun (tmps : Array Value) : ResultVar → Sem Value
  | .tmp t => pure (tmps.getD t undef)
  | .cell c t => do
    let ad ← asAddr (tmps.getD c undef)
    loadVar t ad
theorem results_eq (fn : Func) (tmps : Array Value) : results fn tmps = (do let vs ← fn.results.mapM (resRun tmps); pure (if h : vs.size = 1 then vs[0] else Value.tuple vs)) := rfl
theorem res_sim {P : Program} {B : Nat} {ι : Map} {st : St} {w : World} {a : Act} {f : Frame} {drop : Nat} {rv : ResultVar} {ar : ARes} {v : V} (hc : compRes P drop rv = some ar) (hf : FR drop ι f a.tmps) (hrel : Rel ι B st.heap w) (hr : resOf f st ar = some v) :
    ∃ x, (resRun a.tmps rv).run P w = .ok x w ∧ R ι v x := by
  cases rv with
  | tmp t =>
    have hh := sel_cases (b := bit drop t) (x := none) hc
    rcases hh with ⟨_, h⟩ | ⟨hb, h⟩
    · cases h
    · cases h
      have hr : some (f.ev (.t (pos t))) = some v := hr
      cases hr
      exact ⟨_, rfl, hf.tmp t hb⟩
  | cell c t =>
    unfold compRes at hc
    dsimp only at hc
    split at hc
    case h_2 => cases hc
    rename_i g n hg hn
    rcases sel_cases (b := bit drop c) (x := none) hc with ⟨_, h⟩ | ⟨hb, h⟩
    · cases h
    · cases h
      unfold resOf at hr
      dsimp only at hr
      have hp := hf.tmp c hb
      split at hr
      case h_2 => cases hr
      rename_i i q hv
      rw [hv] at hp
      obtain ⟨e, e1, e2⟩ := inv_ptr hp
      have e2 : a.tmps.getD c undef = .pointer (some ⟨e.blk, e.off + q, none⟩) := e2
      cases g with
      | true =>
        have hr : (match st.loadN i q n with | some l => some (V.agg l) | none => none) = some v := hr
        split at hr
        · rename_i l hl
          cases hr
          obtain ⟨l', k1, k2, _⟩ := loadN_rel (P := P) hrel hl e1
          refine ⟨.agg ⟨l'⟩, ?_, _, rfl, k2⟩
          simp only [resRun, e2]
          simp [asAddr, loadVar, run_isAgg' hg, run_sizeOf' hn, k1]
        · cases hr
      | false =>
        have hr : st.load1 i q = some v := hr
        obtain ⟨x, k1, k2⟩ := load1_rel hrel hr e1
        refine ⟨x, ?_, k2.up⟩
        simp only [resRun, e2]
        simp [asAddr, loadVar, run_isAgg' hg, k1]

theorem ress_sim {P : Program} {B : Nat} {ι : Map} {st : St} {w : World} {a : Act} {f : Frame} {drop : Nat} (hf : FR drop ι f a.tmps) (hrel : Rel ι B st.heap w) : ∀ (rvs : List ResultVar) (ars : List ARes) (vs : List V), optAll (compRes P drop) rvs = some ars → resultsOf f st ars = some vs →
    ∃ xs : List Value, (rvs.mapM (resRun a.tmps)).run P w = .ok xs w ∧ All2 (R2 ι) vs xs
  | [], ars, vs, h, hr => by cases h; cases hr; exact ⟨[], rfl, trivial⟩
  | rv :: rvs, ars, vs, h, hr => by
    simp only [optAll] at h
    split at h
    case h_2 => cases h
    rename_i ar ars' h1 h2
    cases h
    simp only [resultsOf] at hr
    split at hr
    case h_2 => cases hr
    rename_i v vs' hv hvs
    obtain ⟨hp, hr⟩ := sel_some hr
    cases hr
    obtain ⟨x, k1, k2⟩ := res_sim (P := P) h1 hf hrel hv
    obtain ⟨xs, k3, k4⟩ := ress_sim hf hrel rvs ars' vs' h2 hvs
    refine ⟨x :: xs, ?_, k2.of_plain hp, k4⟩
    simp only [List.mapM_cons, Sem.run_bind, k1, Result.andThen_ok, k3, Sem.run_pure]

theorem results_sim {P : Program} {B : Nat} {ι : Map} {st : St} {w : World} {a : Act} {f : Frame} {drop : Nat} {fn : Func} {ars : List ARes} {vs : List V} (hf : FR drop ι f a.tmps) (hrel : Rel ι B st.heap w) (hc : optAll (compRes P drop) fn.results.toList = some ars) (hr : resultsOf f st ars = some vs) :
    ∃ x, (results fn a.tmps).run P w = .ok x w ∧ R ι (oneOf vs) x := by
  obtain ⟨xs, k1, k2⟩ := ress_sim (P := P) hf hrel _ _ _ hc hr
  have hlen := k2.length
  rw [results_eq, Array.mapM_eq_mapM_toList]
  simp only [Sem.run_bind, Sem.run_map, k1, Result.andThen_ok, Sem.run_pure]
  by_cases h1 : xs.toArray.size = 1
  · rw [dif_pos h1]
    cases xs with
    | nil => simp at h1
    | cons x xs =>
      cases xs with
      | cons => simp at h1
      | nil =>
        cases vs with
        | nil => exact k2.elim
        | cons v vs =>
          cases vs with
          | cons => exact k2.2.elim
          | nil => exact ⟨x, rfl, k2.1.up⟩
  · rw [dif_neg h1]
    refine ⟨_, rfl, ?_⟩
    have : oneOf vs = .tuple vs := by
      cases vs with
      | nil => rfl
      | cons v vs => cases vs with
        | nil => exfalso; simp at hlen; simp [← hlen] at h1
        | cons => rfl
    rw [this]
    exact ⟨_, rfl, k2⟩

/- CALLS -/
theorem initFrame_look : ∀ (vs : List V) (n : Nat) (f : Frame) (k : Nat), (initFrame vs n f).look (pos k) = if n ≤ k ∧ k < n + vs.length then vs[k - n]? else f.look (pos k)
  | [], n, f, k => by rw [if_neg (by simp only [List.length_nil]; omega)]; rfl
  | v :: vs, n, f, k => by
    show (initFrame vs (n + 1) (T.lay (pos n) v f)).look (pos k) = _
    rw [initFrame_look vs (n + 1)]
    by_cases h1 : n + 1 ≤ k ∧ k < n + 1 + vs.length
    · rw [if_pos h1, if_pos (by simp only [List.length_cons]; omega), show k - n = (k - (n + 1)) + 1 from by omega]
      rfl
    · rw [if_neg h1]
      by_cases h2 : k = n
      · subst h2
        rw [T.look_lay_same, if_pos (by simp only [List.length_cons]; omega), Nat.sub_self]
        rfl
      · rw [T.look_lay_other _ _ _ _ (fun e => h2 (pos_inj e)), if_neg (by simp only [List.length_cons]; omega)]

theorem enter_ok {P : Program} {B : Nat} {call : CallT} (hmix : P.follows .mixedOrders = true) (hcall : CallOK P B call) (hfc : CallFramed call) {lf : Nat} {g : Nat} {fn : AFunc} (hcomp : compF P g = some fn) {args : List V} {st st' : St} {v : V} (h : enterF call lf args st fn = some (v, st')) :
    Callable P g ∧ ∀ ι w args', Neat st → Rel ι B st.heap w →
      (∀ i, st.next ≤ i → i < st'.next → ι i = none) → All2 (R ι) args args'.toList → Calls P g args' w (CallPost ι B st st' v w) := by
  unfold compF at hcomp
  split at hcomp
  case h_2 => cases hcomp
  rename_i F hF
  split at hcomp
  case h_2 => cases hcomp
  rename_i body hbody
  split at hcomp
  · cases hcomp
  rename_i hname
  have hcallable : Callable P g := ⟨F, hF, by rw [hbody]; rfl, by simpa using hname⟩
  refine ⟨hcallable, ?_⟩
  obtain ⟨drop, hd⟩ : ∃ drop, compD P F body drop = some fn := by
    split at hcomp
    · rename_i q hq; cases hcomp; exact ⟨_, hq⟩
    · exact ⟨_, hcomp⟩
  unfold compD at hd
  split at hd
  case h_2 => cases hd
  rename_i ac ars hac hars
  cases hd
  intro ι w args' hneat hrel hfr hargs
  have h : (Option.rec none (Prod.rec (finish ars)) (ev ac (call) lf (initFrame args 0 .nil) st) : Option (V × St)) = some (v, st') := h
  cases hev : ev ac (call) lf (initFrame args 0 .nil) st with
  | none => rw [hev] at h; cases h
  | some p =>
    obtain ⟨x, f1, s1⟩ := p
    rw [hev] at h
    have h : finish ars x (f1, s1) = some (v, st') := h
    have hx : x ≠ .normal → x = .ret := by
      intro hne
      cases x with
      | normal => exact absurd rfl hne
      | ret => rfl
      | exit id => cases h
    have hres : ∃ vs, resultsOf f1 s1 ars = some vs ∧ v = oneOf vs ∧ st' = s1 := by
      cases x with
      | exit id => cases h
      | normal =>
        have h : (match resultsOf f1 s1 ars with | some vs => some (oneOf vs, s1) | none => none) = some (v, st') := h
        split at h
        · rename_i vs hvs; cases h; exact ⟨vs, hvs, rfl, rfl⟩
        · cases h
      | ret =>
        have h : (match resultsOf f1 s1 ars with | some vs => some (oneOf vs, s1) | none => none) = some (v, st') := h
        split at h
        · rename_i vs hvs; cases h; exact ⟨vs, hvs, rfl, rfl⟩
        · cases h
    obtain ⟨vs, hvs, rfl, rfl⟩ := hres
    refine calls_of_wp hF hbody ?_
    have hfr0 : FR drop ι (initFrame args 0 .nil) (args' ++ Array.replicate (F.ntmps - args'.size) undef) := by
      intro n u _ hu
      rw [initFrame_look] at hu
      by_cases hn : 0 ≤ n ∧ n < 0 + args.length
      · rw [if_pos hn, Nat.sub_zero] at hu
        obtain ⟨y, hy, hr⟩ := hargs.get hu
        have hlt : n < args'.size := by
          have := (List.getElem?_eq_some_iff.1 hy).1
          simpa using this
        rw [Array.getD_eq_getD_getElem?, Array.getElem?_append_left hlt, ← Array.getElem?_toList, hy]
        exact hr
      · rw [if_neg hn] at hu; cases hu
    refine code_sim hcall hfc hmix lf F.ntmps drop body ac ι st st' w _ _ f1 x _ hac hev hfr0 (by simp; omega) hrel hfr hneat ?_
    intro ι' w' a' k
    obtain ⟨y, hy1, hy2⟩ := results_sim (P := P) (fn := F) k.fr k.rel hars hvs
    have post : a'.defers = [] ∧ ∃ v, (results F a'.tmps).run P w' = .ok v w' ∧ CallPost ι B st st' (oneOf vs) w (.returned v) w' :=
      ⟨k.defers, y, hy1, y, ι', rfl, k.sub, k.other, k.rel, k.below, hy2⟩
    cases x with
    | normal => exact post
    | ret => exact post
    | exit id => cases h

theorem call_ok {P : Program} {B : Nat} {C : T AFunc} (hmix : P.follows .mixedOrders = true) (hC : ∀ g fn, C.get g = some fn → compF P g = some fn) (lf : Nat) : ∀ d, CallOK P B (callF C lf d)
  | 0 => fun g args st v st' h => by cases h
  | d + 1 => by
    intro g args st v st' h
    have h : (Option.rec none (enterF (callF C lf d) lf args st) (T.get C g) : Option (V × St)) = some (v, st') := h
    cases hg : T.get C g with
    | none => rw [hg] at h; cases h
    | some fn =>
      rw [hg] at h
      exact enter_ok hmix (call_ok hmix hC lf d) (callF_framed C lf d) (hC g fn hg) h

end Go.Vabs

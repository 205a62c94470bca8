/-
  The abstract machine with its slots as a function, for runs with unknowns; and what must hold ahead of code, so that something holds behind it.
-/
import Derived.Test.YtpbafimkplhknaaVabsZ
namespace Go.Vabs
set_option linter.unusedVariables false
set_option linter.unusedSimpArgs false

abbrev Env := Pos → V
noncomputable section
def Env.put (s : Env) : Option Pos → V → Env
  | none, _ => s
  | some p, v => fun q => sel (posEq q p) v (s q)
def Env.ev (s : Env) : Src → V
  | .t p => s p
  | .c v => v
def envOf (f : Frame) : Env := fun p => f.ev (.t p)
end

theorem envOf_ev {f : Frame} : f.ev = (envOf f).ev := funext fun x => by cases x <;> rfl
theorem envOf_put {f : Frame} {d : Option Pos} {v : V} : envOf (f.put d v) = (envOf f).put d v := by
  cases d with
  | none => rfl
  | some p =>
    funext q
    show Frame.ev (T.lay p v f) (.t q) = sel (posEq q p) v (f.ev (.t q))
    rw [ev_t, ev_t]
    by_cases h : q = p
    · subst h
      rw [T.look_lay_same, posEq_iff.2 rfl]
      rfl
    · rw [T.look_lay_other _ _ _ _ h]
      have : posEq q p = false := by
        cases e : posEq q p with
        | false => rfl
        | true => exact absurd (posEq_iff.1 e) h
      rw [this]
      rfl

noncomputable section
def wantedE (s : Env) : Option (Pos × Bool) → Option Bool
  | none => some true
  | some g => boolIs g.2 (s g.1)
end
theorem wanted_env {f : Frame} {g : Option (Pos × Bool)} : wanted f g = wantedE (envOf f) g := by
  cases g with
  | none => rfl
  | some g =>
    show (Option.rec none (boolIs g.2) (f.look g.1) : Option Bool) = boolIs g.2 (f.ev (.t g.1))
    rw [ev_t]
    cases f.look g.1 <;> rfl

noncomputable section
/-- One operation. -/
def stepE (call : CallT) (o : AOp) (s : Env) (st : St) : Option (V × St) :=
  match execOp o s.ev st with
  | some (.val v, st') => some (v, st')
  | some (.enter g args, st') => call g args st'
  | none => none
def runE (call : CallT) : List AOper → Env → St → Option (Env × St)
  | [], s, st => some (s, st)
  | o :: os, s, st => match wantedE s o.guard with
    | some true => match stepE call o.op s st with
      | some (v, st') => runE call os (s.put o.dst v) st'
      | none => none
    | some false => runE call os (s.put o.dst V.undef) st
    | none => none
def runDE (call : CallT) : List (AOper × List Nat) → Nat → List Past → Env → St → Option (Env × St)
  | [], _, _, s, st => some (s, st)
  | o :: os, n, past, s, st => match wantedE s o.1.guard with
    | some true => match o.2 with
      | [] => match stepE call o.1.op s st with
        | some (v, st') => runDE call os (n + 1) (⟨st.next, st'.next, .call⟩ :: past) (s.put o.1.dst v) st'
        | none => none
      | _ :: _ => match okAll (pastsOf past n o.2) (foot o.1.op s.ev) with
        | true => match stepE call o.1.op s (limF (ahead n o.2) (foot o.1.op s.ev) (pastsOf past n o.2) st) with
          | some (v, st') => runDE call os (n + 1) (⟨st.next, st'.next, foot o.1.op s.ev⟩ :: past) (s.put o.1.dst v) (back st st')
          | none => none
        | false => none
    | some false => runDE call os (n + 1) (⟨st.next, st.next, .dir [] []⟩ :: past) (s.put o.1.dst V.undef) st
    | none => none
def loopE (b : Env → St → Option (AExit × Env × St)) : Nat → Env → St → Option (AExit × Env × St)
  | 0, _, _ => none
  | n + 1, s, st => match b s st with
    | some (.normal, s', st') => loopE b n s' st'
    | r => r
/- a range over a function: its rounds with slots as a function -/
def layAllE : List Pos → List V → Env → Option Env
  | [], [], s => some s
  | p :: ps, v :: vs, s => layAllE ps vs (s.put (some p) v)
  | _, _, _ => none
def roundEndE : Option (AExit × Env × St) → Option ((V × Option AExit) × St)
  | some (.normal, _, s) => some ((.bool true, none), s)
  | some (.ret, _, s) => some ((.bool false, some .ret), s)
  | some (.exit id, _, s) => some ((.bool false, some (.exit id)), s)
  | none => none
def roundE (ps : List Pos) (a b : Env → St → Option (AExit × Env × St)) (s : Env) (i : Nat) : Hand := fun j args st =>
  if j = i then
    match layAllE ps args s with
    | some s0 => match a s0 st with
      | some (.normal, s1, st1) => roundEndE (b s1 st1)
      | _ => none
    | none => none
  else none
def rangeOutE (s : Env) : OutY → Option (AExit × Env × St)
  | some ((.normal, _, none), st) => some (.normal, s, st)
  | some ((.ret, _, none), st) => some (.normal, s, st)
  | some ((.normal, _, some x), st) => some (x, s, st)
  | some ((.ret, _, some x), st) => some (x, s, st)
  | _ => none
def rangeE (ps : List Pos) (a b : Env → St → Option (AExit × Env × St)) (it : Nat) (itc : ACode) (call : CallT) (lf : Nat) (s : Env) (st : St) : V → Option (AExit × Env × St)
  | .func gf [] captured => if gf = it then
    match st.skip with
    | some (i, st1) => rangeOutE s (evY (roundE ps a b s i) call lf itc (initFrame (.yield i :: captured) 0 .nil) none st1)
    | none => none
    else none
  | _ => none
def evE (call : CallT) (lf : Nat) : ACode → Env → St → Option (AExit × Env × St)
  | .skip, s, st => some (.normal, s, st)
  | .reg ops, s, st => match runE call ops s st with | some (s', st') => some (.normal, s', st') | none => none
  | .dreg ops, s, st => match runDE call ops 0 [] s st with | some (s', st') => some (.normal, s', st') | none => none
  | .seq a b, s, st => match evE call lf a s st with
    | some (.normal, s', st') => evE call lf b s' st'
    | r => r
  | .cond c a b, s, st => match s.ev c with
    | .bool true => evE call lf a s st
    | .bool false => evE call lf b s st
    | _ => none
  | .block id a, s, st => match evE call lf a s st with
    | some (.exit j, s', st') => if j = id then some (.normal, s', st') else some (.exit j, s', st')
    | r => r
  | .loop a, s, st => loopE (evE call lf a) lf s st
  | .exit id, s, st => some (.exit id, s, st)
  | .ret, s, st => some (.ret, s, st)
  | .range g ps asg body it itc, s, st => rangeE ps (evE call lf asg) (evE call lf body) it itc call lf s st (s.ev g)
end

theorem stepE_eq {call : CallT} {o : AOp} {f : Frame} {st : St} : stepOp call o f st = stepE call o (envOf f) st := by
  unfold stepOp stepE
  rw [envOf_ev]
  cases execOp o (envOf f).ev st with
  | none => rfl
  | some p =>
    obtain ⟨r, s⟩ := p
    cases r <;> rfl

theorem runE_ok {call : CallT} : ∀ {os : List AOper} {f : Frame} {st : St} {s' : Env} {st' : St}, runE call os (envOf f) st = some (s', st') → ∃ f', runOps os call f st = some (f', st') ∧ envOf f' = s'
  | [], f, st, s', st', h => by cases h; exact ⟨f, rfl, rfl⟩
  | o :: os, f, st, s', st', h => by
    unfold runE at h
    show ∃ f', either (wanted f o.guard) (Option.rec none (Prod.rec fun v st' => runOps os call (f.put o.dst v) st') (stepOp call o.op f st)) (runOps os call (f.put o.dst V.undef) st) = some (f', st') ∧ envOf f' = s'
    rw [wanted_env, stepE_eq]
    split at h
    · rename_i hw
      rw [hw]
      split at h
      · rename_i v st1 hs
        rw [hs]
        rw [← envOf_put] at h
        exact runE_ok h
      · cases h
    · rename_i hw
      rw [hw]
      rw [← envOf_put] at h
      exact runE_ok h
    · cases h

theorem runDE_ok {call : CallT} : ∀ {os : List (AOper × List Nat)} {n : Nat} {past : List Past} {f : Frame} {st : St} {s' : Env} {st' : St}, runDE call os n past (envOf f) st = some (s', st') → ∃ f', runD os call n past f st = some (f', st') ∧ envOf f' = s'
  | [], n, past, f, st, s', st', h => by cases h; exact ⟨f, rfl, rfl⟩
  | (o, inc) :: os, n, past, f, st, s', st', h => by
    unfold runDE at h
    show ∃ f', runDCons o inc (runD os) call n past f st = some (f', st') ∧ envOf f' = s'
    unfold runDCons
    rw [wanted_env]
    split at h
    · rename_i hw
      rw [show wantedE (envOf f) o.guard = some true from hw]
      show ∃ f', (match inc with | [] => runDFree o (runD os) call n past f st | _ :: _ => runDLim o (runD os) call n past f st (pastsOf past n inc) (foot o.op f.ev) (ahead n inc)) = some (f', st') ∧ envOf f' = s'
      cases inc with
      | nil =>
        dsimp only at h ⊢
        unfold runDFree
        rw [stepE_eq]
        split at h
        · rename_i v st1 hs
          rw [hs]
          rw [← envOf_put] at h
          exact runDE_ok h
        · cases h
      | cons a l =>
        dsimp only at h ⊢
        unfold runDLim
        rw [stepE_eq, envOf_ev]
        split at h
        · rename_i hok
          rw [hok]
          split at h
          · rename_i v st1 hs
            show ∃ f', (Option.rec none (Prod.rec fun v st' => runD os call (n + 1) (⟨st.next, st'.next, foot o.op (envOf f).ev⟩ :: past) (f.put o.dst v) (back st st')) (stepE call o.op (envOf f) (limF (ahead n (a :: l)) (foot o.op (envOf f).ev) (pastsOf past n (a :: l)) st)) : Option (Frame × St)) = some (f', st') ∧ envOf f' = s'
            rw [hs]
            rw [← envOf_put] at h
            exact runDE_ok h
          · cases h
        · cases h
    · rename_i hw
      rw [show wantedE (envOf f) o.guard = some false from hw]
      rw [← envOf_put] at h
      exact runDE_ok h
    · cases h

theorem stepY_mono {hd hd' : Hand} {call : CallT} (hh : ∀ j a s r, hd j a s = some r → hd' j a s = some r) {o : AOp} {f : Frame} {p : Option AExit} {st : St} {q : (V × Option AExit) × St} (hq : stepY hd call o f p st = some q) : stepY hd' call o f p st = some q := by
  cases o with
  | callv g args =>
    have hq : yieldY hd (args.map f.ev) st (plainY p (stepOp call (.callv g args) f st)) p (f.ev g) = some q := hq
    show yieldY hd' (args.map f.ev) st (plainY p (stepOp call (.callv g args) f st)) p (f.ev g) = some q
    cases p with
    | some x => exact hq
    | none =>
      cases he : f.ev g <;> rw [he] at hq <;> first | exact hq | exact hh _ _ _ _ hq
  | _ => exact hq
theorem runY_mono {hd hd' : Hand} {call : CallT} (hh : ∀ j a s r, hd j a s = some r → hd' j a s = some r) : ∀ {os : List AOper} {f : Frame} {p : Option AExit} {st : St} {r : (Frame × Option AExit) × St}, runY hd call os f p st = some r → runY hd' call os f p st = some r
  | [], f, p, st, r, h => h
  | o :: os, f, p, st, r, h => by
    unfold runY at h ⊢
    cases hw : wanted f o.guard with
    | none => rw [hw] at h; exact h
    | some w =>
      rw [hw] at h
      cases w with
      | false => exact runY_mono hh (os := os) h
      | true =>
        have h : (match stepY hd call o.op f p st with | some ((v, p'), st') => runY hd call os (f.put o.dst v) p' st' | none => none) = some r := h
        show (match stepY hd' call o.op f p st with | some ((v, p'), st') => runY hd' call os (f.put o.dst v) p' st' | none => none) = some r
        have hs : ∀ q, stepY hd call o.op f p st = some q → stepY hd' call o.op f p st = some q := fun q hq => stepY_mono hh hq
        cases hq : stepY hd call o.op f p st with
        | none => rw [hq] at h; cases h
        | some q =>
          rw [hq] at h
          rw [hs q hq]
          obtain ⟨⟨v, p'⟩, st'⟩ := q
          exact runY_mono hh (os := os) h
theorem evY_mono {hd hd' : Hand} {call : CallT} {lf : Nat} (hh : ∀ j a s r, hd j a s = some r → hd' j a s = some r) : ∀ {c : ACode} {f : Frame} {p : Option AExit} {st : St} {r : (AExit × Frame × Option AExit) × St}, evY hd call lf c f p st = some r → evY hd' call lf c f p st = some r := by
  intro c
  induction c with
  | skip => intro f p st r h; exact h
  | reg ops =>
    intro f p st r h
    have h : normalY (runY hd call ops f p st) = some r := h
    show normalY (runY hd' call ops f p st) = some r
    cases hq : runY hd call ops f p st with
    | none => rw [hq] at h; cases h
    | some q => rw [hq] at h; rw [runY_mono hh hq]; exact h
  | dreg ops => intro f p st r h; exact h
  | seq a b iha ihb =>
    intro f p st r h
    have h : thenY (evY hd call lf a f p st) (evY hd call lf b) = some r := h
    show thenY (evY hd' call lf a f p st) (evY hd' call lf b) = some r
    cases hq : evY hd call lf a f p st with
    | none => rw [hq] at h; cases h
    | some q =>
      rw [hq] at h
      rw [iha hq]
      obtain ⟨⟨x, f1, p1⟩, st1⟩ := q
      cases x with
      | normal => exact ihb h
      | ret => exact h
      | exit id => exact h
  | cond c a b iha ihb =>
    intro f p st r h
    have h : condY (evY hd call lf a f p st) (evY hd call lf b f p st) (f.ev c) = some r := h
    show condY (evY hd' call lf a f p st) (evY hd' call lf b f p st) (f.ev c) = some r
    cases he : f.ev c with
    | bool t => rw [he] at h; cases t <;> first | exact iha h | exact ihb h
    | _ => rw [he] at h; cases h
  | block id a iha =>
    intro f p st r h
    have h : blockY id (evY hd call lf a f p st) = some r := h
    show blockY id (evY hd' call lf a f p st) = some r
    cases hq : evY hd call lf a f p st with
    | none => rw [hq] at h; cases h
    | some q => rw [hq] at h; rw [iha hq]; exact h
  | loop a iha =>
    intro f p st r h
    have h : loopY (evY hd call lf a) lf f p st = some r := h
    show loopY (evY hd' call lf a) lf f p st = some r
    have key : ∀ n f p st, loopY (evY hd call lf a) n f p st = some r → loopY (evY hd' call lf a) n f p st = some r := by
      intro n
      induction n with
      | zero => intro f p st h; cases h
      | succ n ih =>
        intro f p st h
        have h : thenY (evY hd call lf a f p st) (loopY (evY hd call lf a) n) = some r := h
        show thenY (evY hd' call lf a f p st) (loopY (evY hd' call lf a) n) = some r
        cases hq : evY hd call lf a f p st with
        | none => rw [hq] at h; cases h
        | some q =>
          rw [hq] at h
          rw [iha hq]
          obtain ⟨⟨x, f1, p1⟩, st1⟩ := q
          cases x with
          | normal => exact ih _ _ _ h
          | ret => exact h
          | exit id => exact h
    exact key lf f p st h
  | exit id => intro f p st r h; exact h
  | ret => intro f p st r h; exact h
  | range => intro f p st r h; cases h
theorem layAllE_ok : ∀ {ps : List Pos} {vs : List V} {f : Frame} {s : Env}, layAllE ps vs (envOf f) = some s → ∃ f', layAll ps vs f = some f' ∧ envOf f' = s
  | [], [], f, s, h => by cases h; exact ⟨f, rfl, rfl⟩
  | p :: ps, v :: vs, f, s, h => by
    have h : layAllE ps vs ((envOf f).put (some p) v) = some s := h
    rw [← envOf_put] at h
    obtain ⟨f', h1, h2⟩ := layAllE_ok h
    exact ⟨f', h1, h2⟩
  | [], _ :: _, f, s, h => by cases h
  | _ :: _, [], f, s, h => by cases h
theorem range_ok {call : CallT} {lf : Nat} {ps : List Pos} {asg body itc : ACode} {it : Nat}
    (ha : ∀ {f : Frame} {st : St} {x : AExit} {s' : Env} {st' : St}, evE call lf asg (envOf f) st = some (x, s', st') → ∃ f', ev asg call lf f st = some (x, f', st') ∧ envOf f' = s')
    (hb : ∀ {f : Frame} {st : St} {x : AExit} {s' : Env} {st' : St}, evE call lf body (envOf f) st = some (x, s', st') → ∃ f', ev body call lf f st = some (x, f', st') ∧ envOf f' = s')
    {f : Frame} {st : St} {v : V} {x : AExit} {s' : Env} {st' : St} (h : rangeE ps (evE call lf asg) (evE call lf body) it itc call lf (envOf f) st v = some (x, s', st')) :
    ∃ f', rangeV ps (ev asg) (ev body) it itc call lf f st v = some (x, f', st') ∧ envOf f' = s' := by
  unfold rangeE at h
  split at h
  · rename_i gf captured
    split at h
    · rename_i hg
      subst hg
      show ∃ f', sel (Nat.beq gf gf) (match st.skip with | some (i, st1) => rangeOut f (evY (round ps (ev asg call lf) (ev body call lf) f i) call lf itc (initFrame (.yield i :: captured) 0 .nil) none st1) | none => none) none = some (x, f', st') ∧ envOf f' = s'
      rw [Nat.beq_refl]
      show ∃ f', (match st.skip with | some (i, st1) => rangeOut f (evY (round ps (ev asg call lf) (ev body call lf) f i) call lf itc (initFrame (.yield i :: captured) 0 .nil) none st1) | none => none) = some (x, f', st') ∧ envOf f' = s'
      cases hsk : st.skip with
      | none => rw [hsk] at h; cases h
      | some q =>
        obtain ⟨i, st1⟩ := q
        rw [hsk] at h
        have h : rangeOutE (envOf f) (evY (roundE ps (evE call lf asg) (evE call lf body) (envOf f) i) call lf itc (initFrame (.yield i :: captured) 0 .nil) none st1) = some (x, s', st') := h
        show ∃ f', rangeOut f (evY (round ps (ev asg call lf) (ev body call lf) f i) call lf itc (initFrame (.yield i :: captured) 0 .nil) none st1) = some (x, f', st') ∧ envOf f' = s'
        have hh : ∀ j a s r, roundE ps (evE call lf asg) (evE call lf body) (envOf f) i j a s = some r → round ps (ev asg call lf) (ev body call lf) f i j a s = some r := by
          intro j a s r hr
          unfold roundE at hr
          split at hr
          · rename_i hj
            subst hj
            show sel (Nat.beq j j) _ _ = some r
            rw [Nat.beq_refl]
            show (match layAll ps a f with | some fr => (match ev asg call lf fr s with | some (.normal, f1, s1) => roundEnd (ev body call lf f1 s1) | _ => none) | none => none) = some r
            split at hr
            · rename_i s0 hl
              obtain ⟨f0, l1, rfl⟩ := layAllE_ok hl
              rw [l1]
              dsimp only
              split at hr
              · rename_i s1 st2 h1
                obtain ⟨f1, m1, rfl⟩ := ha h1
                rw [m1]
                dsimp only
                cases hq : evE call lf body (envOf f1) st2 with
                | none => rw [hq] at hr; cases hr
                | some q =>
                  obtain ⟨y, s2, st3⟩ := q
                  obtain ⟨f2, m2, rfl⟩ := hb hq
                  rw [hq] at hr
                  rw [m2]
                  cases y <;> exact hr
              · cases hr
            · cases hr
          · cases hr
        cases hq : evY (roundE ps (evE call lf asg) (evE call lf body) (envOf f) i) call lf itc (initFrame (.yield i :: captured) 0 .nil) none st1 with
        | none => rw [hq] at h; cases h
        | some q =>
          rw [hq] at h
          rw [evY_mono hh hq]
          obtain ⟨⟨y, f1, p1⟩, st2⟩ := q
          cases y with
          | exit id => cases p1 <;> cases h
          | normal => cases p1 <;> (cases h; exact ⟨f, rfl, rfl⟩)
          | ret => cases p1 <;> (cases h; exact ⟨f, rfl, rfl⟩)
    · cases h
  · cases h
theorem evE_ok {call : CallT} {lf : Nat} : ∀ {c : ACode} {f : Frame} {st : St} {x : AExit} {s' : Env} {st' : St}, evE call lf c (envOf f) st = some (x, s', st') → ∃ f', ev c call lf f st = some (x, f', st') ∧ envOf f' = s' := by
  intro c
  induction c with
  | skip => intro f st x s' st' h; cases h; exact ⟨f, rfl, rfl⟩
  | reg ops =>
    intro f st x s' st' h
    unfold evE at h
    split at h
    · rename_i s1 st1 h1
      cases h
      obtain ⟨f', k1, k2⟩ := runE_ok h1
      exact ⟨f', by show normalOut (runOps ops call f st) = _; rw [k1]; rfl, k2⟩
    · cases h
  | dreg ops =>
    intro f st x s' st' h
    unfold evE at h
    split at h
    · rename_i s1 st1 h1
      cases h
      obtain ⟨f', k1, k2⟩ := runDE_ok h1
      exact ⟨f', by show normalOut (runD ops call 0 [] f st) = _; rw [k1]; rfl, k2⟩
    · cases h
  | seq a b iha ihb =>
    intro f st x s' st' h
    unfold evE at h
    show ∃ f', andThen (ev a call lf f st) (ev b call lf) = some (x, f', st') ∧ envOf f' = s'
    split at h
    · rename_i s1 st1 h1
      obtain ⟨f1, k1, rfl⟩ := iha h1
      rw [k1]
      exact ihb h
    · rename_i hne
      obtain ⟨f1, k1, k2⟩ := iha h
      refine ⟨f1, ?_, k2⟩
      rw [k1]
      cases x with
      | normal => exact absurd h (hne _ _)
      | ret => rfl
      | exit id => rfl
  | cond c a b iha ihb =>
    intro f st x s' st' h
    unfold evE at h
    show ∃ f', evCondB (ev a) (ev b) call lf f st (f.ev c) = some (x, f', st') ∧ envOf f' = s'
    rw [envOf_ev]
    split at h
    · rename_i hc; rw [hc]; exact iha h
    · rename_i hc; rw [hc]; exact ihb h
    · cases h
  | block id a iha =>
    intro f st x s' st' h
    unfold evE at h
    show ∃ f', (Option.rec none (Prod.rec (blockExit id)) (ev a call lf f st) : Out) = some (x, f', st') ∧ envOf f' = s'
    split at h
    · rename_i j s1 st1 h1
      obtain ⟨f1, k1, rfl⟩ := iha h1
      rw [k1]
      show ∃ f', sel (Nat.beq j id) (some (AExit.normal, f1, st1)) (some (AExit.exit j, f1, st1)) = some (x, f', st') ∧ envOf f' = s'
      split at h
      · rename_i e
        subst e
        cases h
        exact ⟨f1, by rw [Nat.beq_refl]; rfl, rfl⟩
      · rename_i e
        cases h
        exact ⟨f1, by rw [show Nat.beq j id = false from by cases hb : Nat.beq j id with | false => rfl | true => exact absurd (Nat.eq_of_beq_eq_true hb) e]; rfl, rfl⟩
    · rename_i hne
      obtain ⟨f1, k1, k2⟩ := iha h
      refine ⟨f1, ?_, k2⟩
      rw [k1]
      cases x with
      | normal => rfl
      | ret => rfl
      | exit j => exact absurd h (hne _ _ _)
  | loop a iha =>
    intro f st x s' st' h
    have h : loopE (evE call lf a) lf (envOf f) st = some (x, s', st') := by unfold evE at h; exact h
    show ∃ f', loopN (ev a call lf) lf f st = some (x, f', st') ∧ envOf f' = s'
    have key : ∀ (n : Nat) (f : Frame) (st : St), loopE (evE call lf a) n (envOf f) st = some (x, s', st') → ∃ f', loopN (ev a call lf) n f st = some (x, f', st') ∧ envOf f' = s' := by
      intro n
      induction n with
      | zero => intro f st h; cases h
      | succ n ih =>
        intro f st h
        unfold loopE at h
        show ∃ f', andThen (ev a call lf f st) (loopN (ev a call lf) n) = some (x, f', st') ∧ envOf f' = s'
        split at h
        · rename_i s1 st1 h1
          obtain ⟨f1, k1, rfl⟩ := iha h1
          rw [k1]
          exact ih f1 st1 h
        · rename_i hne
          obtain ⟨f1, k1, k2⟩ := iha h
          refine ⟨f1, ?_, k2⟩
          rw [k1]
          cases x with
          | normal => exact absurd h (hne _ _)
          | ret => rfl
          | exit id => rfl
    exact key lf f st h
  | exit id => intro f st x s' st' h; cases h; exact ⟨f, rfl, rfl⟩
  | ret => intro f st x s' st' h; cases h; exact ⟨f, rfl, rfl⟩
  | range g ps asg body it itc iha ihb _ =>
    intro f st x s' st' h
    have h : rangeE ps (evE call lf asg) (evE call lf body) it itc call lf (envOf f) st ((envOf f).ev g) = some (x, s', st') := by unfold evE at h; exact h
    rw [← envOf_ev] at h
    exact range_ok iha ihb h

/- WHAT MUST HOLD AHEAD -/
abbrev Goal := AExit → Env → St → Prop
/-- The code runs to an end, and Q holds there. -/
def wp (call : CallT) (lf : Nat) (c : ACode) (s : Env) (st : St) (Q : Goal) : Prop := ∃ x s' st', evE call lf c s st = some (x, s', st') ∧ Q x s' st'
def wpOps (call : CallT) (os : List AOper) (s : Env) (st : St) (Q : Goal) : Prop := ∃ s' st', runE call os s st = some (s', st') ∧ Q .normal s' st'
def wpDs (call : CallT) (os : List (AOper × List Nat)) (n : Nat) (past : List Past) (s : Env) (st : St) (Q : Goal) : Prop := ∃ s' st', runDE call os n past s st = some (s', st') ∧ Q .normal s' st'
/-- Behind a part: the rest. -/
def thenQ (call : CallT) (lf : Nat) (b : ACode) (Q : Goal) : Goal
  | .normal, s, st => wp call lf b s st Q
  | x, s, st => Q x s st
def blockQ (id : Nat) (Q : Goal) : Goal
  | .exit j, s, st => if j = id then Q .normal s st else Q (.exit j) s st
  | x, s, st => Q x s st
def wpCond (call : CallT) (lf : Nat) (a b : ACode) (s : Env) (st : St) (Q : Goal) : V → Prop
  | .bool true => wp call lf a s st Q
  | .bool false => wp call lf b s st Q
  | _ => False
/-- Behind an operation. -/
def wpVal (call : CallT) (d : Option Pos) (os : List AOper) (s : Env) (Q : Goal) : Option (V × St) → Prop
  | some (v, st') => wpOps call os (s.put d v) st' Q
  | none => False
def wpGuard (call : CallT) (d : Option Pos) (op : AOp) (os : List AOper) (s : Env) (st : St) (Q : Goal) : Option Bool → Prop
  | some true => wpVal call d os s Q (stepE call op s st)
  | some false => wpOps call os (s.put d V.undef) st Q
  | none => False

section
variable {call : CallT} {lf : Nat} {s : Env} {st : St} {Q : Goal}
theorem wp_skip : wp call lf .skip s st Q ↔ Q .normal s st := ⟨fun ⟨x, s', st', h, k⟩ => by cases h; exact k, fun h => ⟨_, _, _, rfl, h⟩⟩
theorem wp_ret : wp call lf .ret s st Q ↔ Q .ret s st := ⟨fun ⟨x, s', st', h, k⟩ => by cases h; exact k, fun h => ⟨_, _, _, rfl, h⟩⟩
theorem wp_exit {id : Nat} : wp call lf (.exit id) s st Q ↔ Q (.exit id) s st := ⟨fun ⟨x, s', st', h, k⟩ => by cases h; exact k, fun h => ⟨_, _, _, rfl, h⟩⟩
theorem wp_reg {ops : List AOper} : wp call lf (.reg ops) s st Q ↔ wpOps call ops s st Q := by
  constructor
  · rintro ⟨x, s', st', h, k⟩
    unfold evE at h
    split at h
    · rename_i h1; cases h; exact ⟨_, _, h1, k⟩
    · cases h
  · rintro ⟨s', st', h, k⟩
    exact ⟨.normal, s', st', by unfold evE; rw [h], k⟩
theorem wp_dreg {ops : List (AOper × List Nat)} : wp call lf (.dreg ops) s st Q ↔ wpDs call ops 0 [] s st Q := by
  constructor
  · rintro ⟨x, s', st', h, k⟩
    unfold evE at h
    split at h
    · rename_i h1; cases h; exact ⟨_, _, h1, k⟩
    · cases h
  · rintro ⟨s', st', h, k⟩
    exact ⟨.normal, s', st', by unfold evE; rw [h], k⟩
theorem wp_seq {a b : ACode} : wp call lf (.seq a b) s st Q ↔ wp call lf a s st (thenQ call lf b Q) := by
  constructor
  · rintro ⟨x, s', st', h, k⟩
    unfold evE at h
    split at h
    · rename_i s1 st1 h1
      exact ⟨.normal, s1, st1, h1, x, s', st', h, k⟩
    · rename_i hne
      refine ⟨x, s', st', h, ?_⟩
      cases x with
      | normal => exact absurd h (hne _ _)
      | ret => exact k
      | exit id => exact k
  · rintro ⟨x, s1, st1, h, k⟩
    cases x with
    | normal =>
      obtain ⟨y, s2, st2, h2, k2⟩ := k
      exact ⟨y, s2, st2, by unfold evE; rw [h]; exact h2, k2⟩
    | ret => exact ⟨.ret, s1, st1, by unfold evE; rw [h], k⟩
    | exit id => exact ⟨.exit id, s1, st1, by unfold evE; rw [h], k⟩
theorem wp_cond {c : Src} {a b : ACode} : wp call lf (.cond c a b) s st Q ↔ wpCond call lf a b s st Q (s.ev c) := by
  unfold wp
  simp only [evE]
  generalize s.ev c = v
  cases v with
  | bool t => cases t <;> exact Iff.rfl
  | _ => exact ⟨(fun ⟨_, _, _, h, _⟩ => by cases h), fun h => h.elim⟩
theorem wp_block {id : Nat} {a : ACode} : wp call lf (.block id a) s st Q ↔ wp call lf a s st (blockQ id Q) := by
  constructor
  · rintro ⟨x, s', st', h, k⟩
    unfold evE at h
    split at h
    · rename_i j s1 st1 h1
      refine ⟨.exit j, s1, st1, h1, ?_⟩
      show if j = id then Q .normal s1 st1 else Q (.exit j) s1 st1
      split at h
      · rename_i e; cases h; rw [if_pos e]; exact k
      · rename_i e; cases h; rw [if_neg e]; exact k
    · rename_i hne
      refine ⟨x, s', st', h, ?_⟩
      cases x with
      | normal => exact k
      | ret => exact k
      | exit j => exact absurd h (hne _ _ _)
  · rintro ⟨x, s1, st1, h, k⟩
    cases x with
    | normal => exact ⟨.normal, s1, st1, by unfold evE; rw [h], k⟩
    | ret => exact ⟨.ret, s1, st1, by unfold evE; rw [h], k⟩
    | exit j =>
      have k : if j = id then Q .normal s1 st1 else Q (.exit j) s1 st1 := k
      by_cases e : j = id
      · rw [if_pos e] at k
        exact ⟨.normal, s1, st1, by unfold evE; rw [h]; exact if_pos e, k⟩
      · rw [if_neg e] at k
        exact ⟨.exit j, s1, st1, by unfold evE; rw [h]; exact if_neg e, k⟩
theorem thenQ_normal {b : ACode} : thenQ call lf b Q .normal s st ↔ wp call lf b s st Q := Iff.rfl
theorem thenQ_ret {b : ACode} : thenQ call lf b Q .ret s st ↔ Q .ret s st := Iff.rfl
theorem thenQ_exit {b : ACode} {id : Nat} : thenQ call lf b Q (.exit id) s st ↔ Q (.exit id) s st := Iff.rfl
theorem blockQ_normal {id : Nat} : blockQ id Q .normal s st ↔ Q .normal s st := Iff.rfl
theorem blockQ_ret {id : Nat} : blockQ id Q .ret s st ↔ Q .ret s st := Iff.rfl
theorem blockQ_exit {id j : Nat} : blockQ id Q (.exit j) s st ↔ if j = id then Q .normal s st else Q (.exit j) s st := Iff.rfl
theorem wpCond_true {a b : ACode} : wpCond call lf a b s st Q (.bool true) ↔ wp call lf a s st Q := Iff.rfl
theorem wpCond_false {a b : ACode} : wpCond call lf a b s st Q (.bool false) ↔ wp call lf b s st Q := Iff.rfl
theorem wpOps_nil : wpOps call [] s st Q ↔ Q .normal s st := ⟨fun ⟨s', st', h, k⟩ => by cases h; exact k, fun h => ⟨_, _, rfl, h⟩⟩
theorem wpVal_some {d : Option Pos} {os : List AOper} {v : V} {st' : St} : wpVal call d os s Q (some (v, st')) ↔ wpOps call os (s.put d v) st' Q := Iff.rfl
theorem wpGuard_true {d : Option Pos} {op : AOp} {os : List AOper} : wpGuard call d op os s st Q (some true) ↔ wpVal call d os s Q (stepE call op s st) := Iff.rfl
theorem wpGuard_false {d : Option Pos} {op : AOp} {os : List AOper} : wpGuard call d op os s st Q (some false) ↔ wpOps call os (s.put d V.undef) st Q := Iff.rfl
theorem wpOps_guard {d : Option Pos} {op : AOp} {g : Pos × Bool} {os : List AOper} : wpOps call (⟨d, op, some g⟩ :: os) s st Q ↔ wpGuard call d op os s st Q (boolIs g.2 (s g.1)) := by
  unfold wpOps
  simp only [runE, wantedE]
  cases boolIs g.2 (s g.1) with
  | none => exact ⟨(fun ⟨_, _, h, _⟩ => by cases h), fun h => h.elim⟩
  | some b =>
    cases b with
    | false => exact Iff.rfl
    | true =>
      simp only [wpGuard]
      cases stepE call op s st with
      | none => exact ⟨(fun ⟨_, _, h, _⟩ => by cases h), fun h => h.elim⟩
      | some p => exact Iff.rfl
theorem wpOps_cons {d : Option Pos} {op : AOp} {os : List AOper} : wpOps call (⟨d, op, none⟩ :: os) s st Q ↔ wpVal call d os s Q (stepE call op s st) := by
  unfold wpOps
  simp only [runE, wantedE]
  cases stepE call op s st with
  | none => exact ⟨(fun ⟨_, _, h, _⟩ => by cases h), fun h => h.elim⟩
  | some p => exact Iff.rfl

/-- Rounds: what holds ahead of each (n: how many may still come), each one turning it into itself with fewer to come, or going out. -/
theorem wp_loop {a : ACode} (I : Nat → Env → St → Prop) (n : Nat) (h0 : I n s st) (hn : n < lf)
    (h : ∀ k s st, I k s st → wp call lf a s st (fun x s' st' => match x with | .normal => ∃ m, m < k ∧ I m s' st' | x => Q x s' st')) : wp call lf (.loop a) s st Q := by
  have key : ∀ m, ∀ k s st, k < m → I k s st → ∃ x s' st', loopE (evE call lf a) m s st = some (x, s', st') ∧ Q x s' st' := by
    intro m
    induction m with
    | zero => intro k s st hk; omega
    | succ m ih =>
      intro k s st hk hI
      obtain ⟨x, s1, st1, h1, h2⟩ := h k s st hI
      cases x with
      | normal =>
        obtain ⟨j, hj, hI'⟩ := h2
        obtain ⟨y, s2, st2, h3, h4⟩ := ih j s1 st1 (by omega) hI'
        exact ⟨y, s2, st2, by unfold loopE; rw [h1]; exact h3, h4⟩
      | ret => exact ⟨.ret, s1, st1, by unfold loopE; rw [h1], h2⟩
      | exit id => exact ⟨.exit id, s1, st1, by unfold loopE; rw [h1], h2⟩
  obtain ⟨x, s', st', h1, h2⟩ := key lf n s st hn h0
  exact ⟨x, s', st', by unfold evE; exact h1, h2⟩
end

/- CALLS -/
noncomputable section
def initE : List V → Nat → Env → Env
  | [], _, s => s
  | v :: vs, n, s => initE vs (n + 1) (s.put (some (pos n)) v)
def resE (s : Env) (st : St) : ARes → Option V
  | .tmp t => some (s t)
  | .cell t a n => match s t with
    | .ptr (some (i, o)) => sel a (match st.loadN i o n with | some l => some (.agg l) | none => none) (st.load1 i o)
    | _ => none
def ressE (s : Env) (st : St) : List ARes → Option (List V)
  | [] => some []
  | r :: rs => match resE s st r, ressE s st rs with
    | some v, some vs => sel v.plain (some (v :: vs)) none
    | _, _ => none
/-- Behind the body: the results. -/
def finQ (rs : List ARes) (K : V → St → Prop) : Goal
  | .exit _, _, _ => False
  | _, s, st => ∃ vs, ressE s st rs = some vs ∧ K (oneOf vs) st
def env0 : Env := fun _ => .bad
end
theorem initE_ok : ∀ (vs : List V) (n : Nat) (f : Frame), envOf (initFrame vs n f) = initE vs n (envOf f)
  | [], n, f => rfl
  | v :: vs, n, f => by
    show envOf (initFrame vs (n + 1) (f.put (some (pos n)) v)) = initE vs (n + 1) ((envOf f).put (some (pos n)) v)
    rw [initE_ok, envOf_put]
theorem resE_ok {f : Frame} {st : St} {r : ARes} : resOf f st r = resE (envOf f) st r := by
  cases r with
  | tmp t => rfl
  | cell t a n =>
    show (match f.ev (.t t) with | .ptr (some (i, o)) => _ | _ => none) = (match envOf f t with | .ptr (some (i, o)) => _ | _ => none)
    rfl
theorem ressE_ok {f : Frame} {st : St} : ∀ (rs : List ARes), resultsOf f st rs = ressE (envOf f) st rs
  | [] => rfl
  | r :: rs => by
    simp only [resultsOf, ressE, resE_ok, ressE_ok rs]
    cases resE (envOf f) st r <;> cases ressE (envOf f) st rs <;> rfl

theorem enter_wp {call : CallT} {lf n : Nat} {c : ACode} {rs : List ARes} {args : List V} {st : St} {K : V → St → Prop} (h : wp call lf c (initE args 0 env0) st (finQ rs K)) :
    ∃ v st', enterF call lf args st ⟨n, c, rs⟩ = some (v, st') ∧ K v st' := by
  obtain ⟨x, s', st', h1, h2⟩ := h
  have e0 : envOf (initFrame args 0 .nil) = initE args 0 env0 := initE_ok args 0 .nil
  rw [← e0] at h1
  obtain ⟨f', k1, rfl⟩ := evE_ok h1
  have main : ∀ {y : AExit}, x = y → (∃ vs, ressE (envOf f') st' rs = some vs ∧ K (oneOf vs) st') → (∀ id, y ≠ .exit id) → ∃ v st', enterF call lf args st ⟨n, c, rs⟩ = some (v, st') ∧ K v st' := by
    rintro y rfl ⟨vs, e1, e2⟩ hy
    refine ⟨oneOf vs, st', ?_, e2⟩
    show (Option.rec none (Prod.rec (finish rs)) (ev c call lf (initFrame args 0 .nil) st) : Option (V × St)) = _
    rw [k1]
    show finish rs x (f', st') = _
    cases x with
    | exit id => exact absurd rfl (hy id)
    | normal => show (match resultsOf f' st' rs with | some vs => some (oneOf vs, st') | none => none) = _; rw [ressE_ok, e1]
    | ret => show (match resultsOf f' st' rs with | some vs => some (oneOf vs, st') | none => none) = _; rw [ressE_ok, e1]
  cases x with
  | exit id => exact h2.elim
  | normal => exact main rfl h2 (fun _ h => by cases h)
  | ret => exact main rfl h2 (fun _ h => by cases h)

end Go.Vabs

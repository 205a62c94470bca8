/-
  The abstract machine in small steps: a long closed run is cut into parts, each run by a declaration of its own.
-/
import Derived.Test.YtkcjhakjelidgaaVabsWa
namespace Go.Vabs
set_option linter.unusedSimpArgs false
set_option linter.unusedVariables false
noncomputable section
/-- What is to be done behind. -/
inductive Kt where
  | seq (b : ACode)
  | blk (id : Nat)
  | loop (c : ACode) (n : Nat)
  | ret (rs : List ARes) (f : Frame) (os : List AOper) (d : Option Pos)
  | top (rs : List ARes)
  | dret (rs : List ARes) (f : Frame) (os : List (AOper × List Nat)) (n : Nat) (past : List Past) (d : Option Pos) (lo : Nat) (ft : Foot) (lim : Option ((Nat → Bool) × (Nat → Bool)))
/-- d: how deep calls may go from here. -/
inductive Cfg where
  | run (d : Nat) (ks : List Kt) (c : ACode) (f : Frame) (st : St)
  | out (d : Nat) (ks : List Kt) (x : AExit) (f : Frame) (st : St)
  | ops (d : Nat) (ks : List Kt) (os : List AOper) (f : Frame) (st : St)
  | dops (d : Nat) (ks : List Kt) (os : List (AOper × List Nat)) (n : Nat) (past : List Past) (f : Frame) (st : St)
  | done (v : V) (st : St)
/-- Behind a limited operation. -/
def backO : Option ((Nat → Bool) × (Nat → Bool)) → St → St
  | none, st => st
  | some (vis, wr), ⟨next, heap, _, _⟩ => ⟨next, heap, vis, wr⟩
section
variable (C : T AFunc) (lf : Nat)
def finishO (rs : List ARes) (r : Out) : Option (V × St) := Option.rec none (Prod.rec (finish rs)) r
/-- What a run that stands so comes to. -/
def den : Nat → List Kt → Out → Option (V × St)
  | _, [], _ => none
  | d, .seq b :: ks, r => den d ks (andThen r (ev b (callF C lf d) lf))
  | d, .blk id :: ks, r => den d ks (Option.rec none (Prod.rec (blockExit id)) r)
  | d, .loop c n :: ks, r => den d ks (andThen r (loopN (ev c (callF C lf d) lf) n))
  | d, .ret rs f os dst :: ks, r => match finishO rs r with | some (v, st) => den (d + 1) ks (normalOut (runOps os (callF C lf (d + 1)) (f.put dst v) st)) | none => none
  | _, .top rs :: _, r => finishO rs r
  | d, .dret rs f os n past dst lo ft lim :: ks, r => match finishO rs r with | some (v, st) => den (d + 1) ks (normalOut (runD os (callF C lf (d + 1)) (Nat.succ n) (⟨lo, st.next, ft⟩ :: past) (f.put dst v) (backO lim st))) | none => none
def denC : Cfg → Option (V × St)
  | .run d ks c f st => den C lf d ks (ev c (callF C lf d) lf f st)
  | .out d ks x f st => den C lf d ks (some (x, f, st))
  | .ops d ks os f st => den C lf d ks (normalOut (runOps os (callF C lf d) f st))
  | .dops d ks os n past f st => den C lf d ks (normalOut (runD os (callF C lf d) n past f st))
  | .done v st => some (v, st)

def outCfg (d : Nat) (ks : List Kt) : Out → Option Cfg
  | some (x, f, st) => some (.out d ks x f st)
  | none => none
def enterCfg (d : Nat) (ks : List Kt) (os : List AOper) (dst : Option Pos) (f : Frame) (g : Nat) (args : List V) (st : St) : Option Cfg :=
  match d with
  | 0 => none
  | d + 1 => match T.get C g with
    | some fn => some (.run d (.ret fn.results f os dst :: ks) fn.code (initFrame args 0 .nil) st)
    | none => none
def opCfg (d : Nat) (ks : List Kt) (os : List AOper) (dst : Option Pos) (f : Frame) : Option (Res × St) → Option Cfg
  | some (.val v, st) => some (.ops d ks os (f.put dst v) st)
  | some (.enter g args, st) => enterCfg C d ks os dst f g args st
  | none => none
def enterD (d : Nat) (ks : List Kt) (k : Kt) (g : Nat) (args : List V) (st : St) : Option Cfg :=
  match d with
  | 0 => none
  | d + 1 => match T.get C g with
    | some fn => some (.run d (k :: ks) fn.code (initFrame args 0 .nil) st)
    | none => none
def rsOf (g : Nat) : List ARes := match T.get C g with | some fn => fn.results | none => []
def dopCfg (d : Nat) (ks : List Kt) (os : List (AOper × List Nat)) (n : Nat) (past : List Past) (dst : Option Pos) (f : Frame) (lo : Nat) (ft : Foot) (lim : Option ((Nat → Bool) × (Nat → Bool))) : Option (Res × St) → Option Cfg
  | some (.val v, st) => some (.dops d ks os (Nat.succ n) (⟨lo, st.next, ft⟩ :: past) (f.put dst v) (backO lim st))
  | some (.enter g args, st) => enterD C d ks (.dret (rsOf C g) f os n past dst lo ft lim) g args st
  | none => none
def dopsCfg (d : Nat) (ks : List Kt) (n : Nat) (past : List Past) (f : Frame) (st : St) : List (AOper × List Nat) → Option Cfg
  | [] => some (.out d ks .normal f st)
  | (o, inc) :: os => either (wanted f o.guard)
      (match inc with
      | [] => dopCfg C d ks os n past o.dst f st.next .call none (execOp o.op f.ev st)
      | j :: inc => sel (okAll (pastsOf past n (j :: inc)) (foot o.op f.ev)) (dopCfg C d ks os n past o.dst f st.next (foot o.op f.ev) (some (st.vis, st.wr)) (execOp o.op f.ev (limF (ahead n (j :: inc)) (foot o.op f.ev) (pastsOf past n (j :: inc)) st))) none)
      (some (.dops d ks os (Nat.succ n) (⟨st.next, st.next, .dir [] []⟩ :: past) (f.put o.dst V.undef) st))
def condCfg (d : Nat) (ks : List Kt) (a b : ACode) (f : Frame) (st : St) : V → Option Cfg
  | .bool t => some (sel t (.run d ks a f st) (.run d ks b f st))
  | _ => none
def runCfg (d : Nat) (ks : List Kt) (f : Frame) (st : St) : ACode → Option Cfg
  | .skip => some (.out d ks .normal f st)
  | .reg ops => some (.ops d ks ops f st)
  | .dreg ops => some (.dops d ks ops 0 [] f st)
  | .seq a b => some (.run d (.seq b :: ks) a f st)
  | .cond c a b => condCfg d ks a b f st (f.ev c)
  | .block id c => some (.run d (.blk id :: ks) c f st)
  | .loop c => match lf with | 0 => none | n + 1 => some (.run d (.loop c n :: ks) c f st)
  | .exit id => some (.out d ks (.exit id) f st)
  | .ret => some (.out d ks .ret f st)
  | .range g ps a b it itc => outCfg d ks (evRange g ps (ev a) (ev b) it itc (callF C lf d) lf f st)
def doneCfg : Option (V × St) → Option Cfg
  | some (v, st) => some (.done v st)
  | none => none
def backCfg (d : Nat) (ks : List Kt) (os : List AOper) (dst : Option Pos) (f : Frame) : Option (V × St) → Option Cfg
  | some (v, st) => some (.ops (d + 1) ks os (f.put dst v) st)
  | none => none
def backD (d : Nat) (ks : List Kt) (os : List (AOper × List Nat)) (n : Nat) (past : List Past) (dst : Option Pos) (f : Frame) (lo : Nat) (ft : Foot) (lim : Option ((Nat → Bool) × (Nat → Bool))) : Option (V × St) → Option Cfg
  | some (v, st) => some (.dops (d + 1) ks os (Nat.succ n) (⟨lo, st.next, ft⟩ :: past) (f.put dst v) (backO lim st))
  | none => none
def popCfg (d : Nat) (x : AExit) (f : Frame) (st : St) : List Kt → Option Cfg
  | [] => none
  | .seq b :: ks => some (AExit.rec (.run d ks b f st) (.out d ks .ret f st) (fun id => .out d ks (.exit id) f st) x)
  | .blk id :: ks => outCfg d ks (blockExit id x (f, st))
  | .loop c n :: ks => AExit.rec (Nat.rec none (fun n _ => some (.run d (.loop c n :: ks) c f st)) n) (some (.out d ks .ret f st)) (fun id => some (.out d ks (.exit id) f st)) x
  | .ret rs f0 os dst :: ks => backCfg d ks os dst f0 (finish rs x (f, st))
  | .top rs :: _ => doneCfg (finish rs x (f, st))
  | .dret rs f0 os n past dst lo ft lim :: ks => backD d ks os n past dst f0 lo ft lim (finish rs x (f, st))
def opsCfg (d : Nat) (ks : List Kt) (f : Frame) (st : St) : List AOper → Option Cfg
  | [] => some (.out d ks .normal f st)
  | o :: os => either (wanted f o.guard) (opCfg C d ks os o.dst f (execOp o.op f.ev st)) (some (.ops d ks os (f.put o.dst V.undef) st))
def stepC : Cfg → Option Cfg
  | .run d ks c f st => runCfg C lf d ks f st c
  | .out d ks x f st => popCfg d x f st ks
  | .ops d ks os f st => opsCfg C d ks f st os
  | .dops d ks os n past f st => dopsCfg C d ks n past f st os
  | .done _ _ => none
def stepsC : Nat → Cfg → Option Cfg := Nat.rec some fun _ k c => Option.rec none k (stepC C lf c)

end
end
section
variable {C : T AFunc} {lf : Nat}
theorem den_none : ∀ (d : Nat) (ks : List Kt), den C lf d ks none = none
  | _, [] => rfl
  | d, .seq b :: ks => den_none d ks
  | d, .blk id :: ks => den_none d ks
  | d, .loop c n :: ks => den_none d ks
  | d, .ret rs f os dst :: ks => rfl
  | d, .top rs :: ks => rfl
  | d, .dret rs f os n past dst lo ft lim :: ks => rfl

theorem outCfg_den {d : Nat} {ks : List Kt} {r : Out} {c : Cfg} (h : outCfg d ks r = some c) : denC C lf c = den C lf d ks r := by
  cases r with
  | none => cases h
  | some p => obtain ⟨x, f, st⟩ := p; cases h; rfl

theorem step_den {c c' : Cfg} (h : stepC C lf c = some c') : denC C lf c = denC C lf c' := by
  cases c with
  | run d ks c f st =>
    cases c with
    | skip => cases h; rfl
    | reg ops => cases h; rfl
    | dreg ops => cases h; rfl
    | seq a b => cases h; rfl
    | cond s a b =>
      have h : condCfg d ks a b f st (f.ev s) = some c' := h
      show den C lf d ks (evCondB (ev a) (ev b) (callF C lf d) lf f st (f.ev s)) = _
      cases hv : f.ev s with
      | bool t =>
        rw [hv] at h
        cases h
        cases t <;> rfl
      | _ => rw [hv] at h; cases h
    | block id c => cases h; rfl
    | loop c =>
      cases lf with
      | zero => cases h
      | succ n => cases h; rfl
    | exit id => cases h; rfl
    | ret => cases h; rfl
    | range g ps a b it itc => exact (outCfg_den h).symm
  | out d ks x f st =>
    cases ks with
    | nil => cases h
    | cons k ks =>
      cases k with
      | seq b => cases x <;> (cases h; rfl)
      | blk id => exact (outCfg_den h).symm
      | loop c n =>
        cases x with
        | normal =>
          cases n with
          | zero => cases h
          | succ n => cases h; rfl
        | ret => cases h; rfl
        | exit id => cases h; rfl
      | ret rs f0 os dst =>
        have h : backCfg d ks os dst f0 (finish rs x (f, st)) = some c' := h
        show (match finish rs x (f, st) with | some (v, st) => den C lf (d + 1) ks (normalOut (runOps os (callF C lf (d + 1)) (f0.put dst v) st)) | none => none) = _
        cases hf : finish rs x (f, st) with
        | none => rw [hf] at h; cases h
        | some p => rw [hf] at h; cases h; rfl
      | top rs =>
        have h : doneCfg (finish rs x (f, st)) = some c' := h
        show finish rs x (f, st) = _
        cases hf : finish rs x (f, st) with
        | none => rw [hf] at h; cases h
        | some p => rw [hf] at h; cases h; rfl
      | dret rs f0 os n past dst lo ft lim =>
        have h : backD d ks os n past dst f0 lo ft lim (finish rs x (f, st)) = some c' := h
        show (match finish rs x (f, st) with | some (v, st) => den C lf (d + 1) ks (normalOut (runD os (callF C lf (d + 1)) (Nat.succ n) (⟨lo, st.next, ft⟩ :: past) (f0.put dst v) (backO lim st))) | none => none) = _
        cases hf : finish rs x (f, st) with
        | none => rw [hf] at h; cases h
        | some p => rw [hf] at h; cases h; rfl
  | dops d ks os n past f st =>
    cases os with
    | nil => cases h; rfl
    | cons oi os =>
      obtain ⟨o, inc⟩ := oi
      -- an operation, its state ahead; behind it: how memory is taken up again
      have oper : ∀ (st0 : St) (lo : Nat) (ft : Foot) (lim : Option ((Nat → Bool) × (Nat → Bool))), dopCfg C d ks os n past o.dst f lo ft lim (execOp o.op f.ev st0) = some c' →
          den C lf d ks (normalOut (Option.rec none (Prod.rec fun v st' => runD os (callF C lf d) (Nat.succ n) (⟨lo, st'.next, ft⟩ :: past) (f.put o.dst v) (backO lim st')) (stepOp (callF C lf d) o.op f st0))) = denC C lf c' := by
        intro st0 lo ft lim h
        show den C lf d ks (normalOut (Option.rec none (Prod.rec fun v st' => runD os (callF C lf d) (Nat.succ n) (⟨lo, st'.next, ft⟩ :: past) (f.put o.dst v) (backO lim st')) (Option.rec none (Prod.rec fun r st' => afterRes (callF C lf d) st' r) (execOp o.op f.ev st0)))) = _
        cases hx : execOp o.op f.ev st0 with
        | none => rw [hx] at h; cases h
        | some p =>
          obtain ⟨r, st1⟩ := p
          rw [hx] at h
          cases r with
          | val v => cases h; rfl
          | enter g args =>
            have h : enterD C d ks (.dret (rsOf C g) f os n past o.dst lo ft lim) g args st1 = some c' := h
            show den C lf d ks (normalOut (Option.rec none (Prod.rec fun v st' => runD os (callF C lf d) (Nat.succ n) (⟨lo, st'.next, ft⟩ :: past) (f.put o.dst v) (backO lim st')) (callF C lf d g args st1))) = _
            cases d with
            | zero => cases h
            | succ d =>
              have h : (match T.get C g with | some fn => some (Cfg.run d (.dret (rsOf C g) f os n past o.dst lo ft lim :: ks) fn.code (initFrame args 0 .nil) st1) | none => none) = some c' := h
              show den C lf (d + 1) ks (normalOut (Option.rec none (Prod.rec fun v st' => runD os (callF C lf (d + 1)) (Nat.succ n) (⟨lo, st'.next, ft⟩ :: past) (f.put o.dst v) (backO lim st')) (Option.rec none (enterF (callF C lf d) lf args st1) (T.get C g)))) = _
              cases hg : T.get C g with
              | none => rw [hg] at h; cases h
              | some fn =>
                rw [hg] at h
                have hrs : rsOf C g = fn.results := by unfold rsOf; rw [hg]
                rw [hrs] at h
                cases h
                show den C lf (d + 1) ks (normalOut (Option.rec none (Prod.rec fun v st' => runD os (callF C lf (d + 1)) (Nat.succ n) (⟨lo, st'.next, ft⟩ :: past) (f.put o.dst v) (backO lim st')) (finishO fn.results (ev fn.code (callF C lf d) lf (initFrame args 0 .nil) st1)))) =
                  (match finishO fn.results (ev fn.code (callF C lf d) lf (initFrame args 0 .nil) st1) with | some (v, st) => den C lf (d + 1) ks (normalOut (runD os (callF C lf (d + 1)) (Nat.succ n) (⟨lo, st.next, ft⟩ :: past) (f.put o.dst v) (backO lim st))) | none => none)
                cases finishO fn.results (ev fn.code (callF C lf d) lf (initFrame args 0 .nil) st1) with
                | none => exact den_none _ _
                | some p => rfl
      have h : either (wanted f o.guard)
          (match inc with
          | [] => dopCfg C d ks os n past o.dst f st.next .call none (execOp o.op f.ev st)
          | j :: inc => sel (okAll (pastsOf past n (j :: inc)) (foot o.op f.ev)) (dopCfg C d ks os n past o.dst f st.next (foot o.op f.ev) (some (st.vis, st.wr)) (execOp o.op f.ev (limF (ahead n (j :: inc)) (foot o.op f.ev) (pastsOf past n (j :: inc)) st))) none)
          (some (.dops d ks os (Nat.succ n) (⟨st.next, st.next, .dir [] []⟩ :: past) (f.put o.dst V.undef) st)) = some c' := h
      cases hw : wanted f o.guard with
      | none => rw [hw] at h; cases h
      | some b =>
        rw [hw] at h
        cases b with
        | false =>
          cases h
          cases inc <;> (show den C lf d ks (normalOut (either (wanted f o.guard) _ _)) = _; rw [hw]; rfl)
        | true =>
          cases inc with
          | nil =>
            have h : dopCfg C d ks os n past o.dst f st.next .call none (execOp o.op f.ev st) = some c' := h
            show den C lf d ks (normalOut (either (wanted f o.guard) (runDFree o (runD os) (callF C lf d) n past f st) _)) = _
            rw [hw]
            exact oper st st.next .call none h
          | cons j inc =>
            have h : sel (okAll (pastsOf past n (j :: inc)) (foot o.op f.ev)) (dopCfg C d ks os n past o.dst f st.next (foot o.op f.ev) (some (st.vis, st.wr)) (execOp o.op f.ev (limF (ahead n (j :: inc)) (foot o.op f.ev) (pastsOf past n (j :: inc)) st))) none = some c' := h
            obtain ⟨hok, h⟩ := sel_some h
            show den C lf d ks (normalOut (either (wanted f o.guard) (runDLim o (runD os) (callF C lf d) n past f st (pastsOf past n (j :: inc)) (foot o.op f.ev) (ahead n (j :: inc))) _)) = _
            rw [hw]
            show den C lf d ks (normalOut (runDLim o (runD os) (callF C lf d) n past f st (pastsOf past n (j :: inc)) (foot o.op f.ev) (ahead n (j :: inc)))) = _
            unfold runDLim
            rw [hok]
            rw [← oper _ st.next (foot o.op f.ev) (some (st.vis, st.wr)) h]
            show den C lf d ks (normalOut (Option.rec none (Prod.rec fun v st' => runD os (callF C lf d) (Nat.succ n) (⟨st.next, st'.next, foot o.op f.ev⟩ :: past) (f.put o.dst v) (back st st')) (stepOp (callF C lf d) o.op f (limF (ahead n (j :: inc)) (foot o.op f.ev) (pastsOf past n (j :: inc)) st)))) = _
            cases stepOp (callF C lf d) o.op f (limF (ahead n (j :: inc)) (foot o.op f.ev) (pastsOf past n (j :: inc)) st) with
            | none => rfl
            | some p => cases st; rfl
  | ops d ks os f st =>
    cases os with
    | nil => cases h; rfl
    | cons o os =>
      have h : either (wanted f o.guard) (opCfg C d ks os o.dst f (execOp o.op f.ev st)) (some (.ops d ks os (f.put o.dst V.undef) st)) = some c' := h
      show den C lf d ks (normalOut (either (wanted f o.guard) (Option.rec none (Prod.rec fun v st' => runOps os (callF C lf d) (f.put o.dst v) st') (stepOp (callF C lf d) o.op f st)) (runOps os (callF C lf d) (f.put o.dst V.undef) st))) = _
      cases hw : wanted f o.guard with
      | none => rw [hw] at h; cases h
      | some b =>
        rw [hw] at h
        cases b with
        | false => cases h; rfl
        | true =>
          have h : opCfg C d ks os o.dst f (execOp o.op f.ev st) = some c' := h
          show den C lf d ks (normalOut (Option.rec none (Prod.rec fun v st' => runOps os (callF C lf d) (f.put o.dst v) st') (Option.rec none (Prod.rec fun r st' => afterRes (callF C lf d) st' r) (execOp o.op f.ev st)))) = _
          cases hx : execOp o.op f.ev st with
          | none => rw [hx] at h; cases h
          | some p =>
            obtain ⟨r, st1⟩ := p
            rw [hx] at h
            cases r with
            | val v => cases h; rfl
            | enter g args =>
              have h : enterCfg C d ks os o.dst f g args st1 = some c' := h
              show den C lf d ks (normalOut (Option.rec none (Prod.rec fun v st' => runOps os (callF C lf d) (f.put o.dst v) st') (callF C lf d g args st1))) = _
              cases d with
              | zero => cases h
              | succ d =>
                have h : (match T.get C g with | some fn => some (Cfg.run d (.ret fn.results f os o.dst :: ks) fn.code (initFrame args 0 .nil) st1) | none => none) = some c' := h
                show den C lf (d + 1) ks (normalOut (Option.rec none (Prod.rec fun v st' => runOps os (callF C lf (d + 1)) (f.put o.dst v) st') (Option.rec none (enterF (callF C lf d) lf args st1) (T.get C g)))) = _
                cases hg : T.get C g with
                | none => rw [hg] at h; cases h
                | some fn =>
                  rw [hg] at h
                  cases h
                  show den C lf (d + 1) ks (normalOut (Option.rec none (Prod.rec fun v st' => runOps os (callF C lf (d + 1)) (f.put o.dst v) st') (finishO fn.results (ev fn.code (callF C lf d) lf (initFrame args 0 .nil) st1)))) =
                    (match finishO fn.results (ev fn.code (callF C lf d) lf (initFrame args 0 .nil) st1) with | some (v, st) => den C lf (d + 1) ks (normalOut (runOps os (callF C lf (d + 1)) (f.put o.dst v) st)) | none => none)
                  cases finishO fn.results (ev fn.code (callF C lf d) lf (initFrame args 0 .nil) st1) with
                  | none => exact den_none _ _
                  | some p => rfl
  | done v st => cases h

theorem steps_den : ∀ (n : Nat) {c c' : Cfg}, stepsC C lf n c = some c' → denC C lf c = denC C lf c'
  | 0, c, c', h => by cases h; rfl
  | n + 1, c, c', h => by
    have h : (Option.rec none (stepsC C lf n) (stepC C lf c) : Option Cfg) = some c' := h
    cases hs : stepC C lf c with
    | none => rw [hs] at h; cases h
    | some c1 =>
      rw [hs] at h
      exact (step_den hs).trans (steps_den n h)
/-- The whole: a call of function g. -/
theorem call_den {d g : Nat} {fn : AFunc} (hg : T.get C g = some fn) {args : List V} {st : St} : callF C lf (d + 1) g args st = denC C lf (.run d [.top fn.results] fn.code (initFrame args 0 .nil) st) := by
  show (Option.rec none (enterF (callF C lf d) lf args st) (T.get C g) : Option (V × St)) = _
  rw [hg]
  rfl
end

/- MEMORY THAT IS NOT LED TO FALLS AWAY -/
/-- g has what s has, maybe more. -/
structure Less (s g : St) : Prop where
  next : g.next = s.next
  vis : g.vis = s.vis
  wr : g.wr = s.wr
  heap : ∀ i o, s.heap.get i = some o → g.heap.get i = some o
theorem Less.ext {s s' g : St} (h : Less s g) (hw : Went s s') : Ext s s' g :=
  ⟨h.next, fun i x hx => by rw [get_of (by rw [h.vis]; exact get_vis hx)]; exact h.heap i x (St.get_heap hx), fun i _ hi => by rw [h.wr]; exact hi, fun i h1 h2 => by rw [h.vis, h.wr]; exact hw.seen i h1 h2⟩
theorem Less.over {s s' g g' : St} (h : Less s g) (hw : Went s s') (ho : Over s s' g g') : Less s' g' := by
  refine ⟨ho.next, by rw [ho.vis, h.vis, hw.vis], by rw [ho.wr, h.wr, hw.wr], fun i o hi => ?_⟩
  by_cases hc : (s.next ≤ i ∧ i < s'.next) ∨ (s.get i).isSome = true
  · rw [ho.here i hc]; exact hi
  · rw [ho.there i hc]
    have hsame : s'.heap.get i = s.heap.get i := by
      by_cases hq : s'.heap.get i = s.heap.get i
      · exact hq
      · rcases hw.heap i hq with a | ⟨a, _, c⟩
        · exact absurd (.inl a) hc
        · refine absurd (.inr ?_) hc
          rw [get_of a]; exact c
    exact h.heap i o (by rw [← hsame]; exact hi)
theorem Less.framed {α : Type} {m : St → Option (α × St)} (hm : Framed m) {s s' g : St} {r : α} (h : Less s g) (hs : m s = some (r, s')) : ∃ g', m g = some (r, g') ∧ Less s' g' := by
  obtain ⟨hw, hx⟩ := hm s r s' hs
  obtain ⟨g', h1, h2⟩ := hx g (h.ext hw)
  exact ⟨g', h1, h.over hw h2⟩
theorem Less.out {m : St → Out} (hm : FramedC m) {s s' g : St} {x : AExit} {f : Frame} (h : Less s g) (hs : m s = some (x, f, s')) : ∃ g', m g = some (x, f, g') ∧ Less s' g' := by
  obtain ⟨g', h1, h2⟩ := Less.framed hm (r := (x, f)) (s' := s') h (by show assoc (m s) = _; rw [hs]; rfl)
  have h1 : assoc (m g) = some ((x, f), g') := h1
  refine ⟨g', ?_, h2⟩
  cases hg : m g with
  | none => rw [hg] at h1; cases h1
  | some p => obtain ⟨y, f2, s2⟩ := p; rw [hg] at h1; cases h1; rfl
theorem Less.back {s g : St} (h : Less s g) (lim : Option ((Nat → Bool) × (Nat → Bool))) : Less (backO lim s) (backO lim g) := by
  cases lim with
  | none => exact h
  | some p =>
    obtain ⟨v, w⟩ := p
    cases s; cases g
    exact ⟨h.next, rfl, rfl, h.heap⟩
section
variable {C : T AFunc} {lf : Nat}
theorem finish_less {rs : List ARes} {x : AExit} {f : Frame} {s s' g : St} {v : V} (h : Less s g) (hs : finish rs x (f, s) = some (v, s')) : ∃ g', finish rs x (f, g) = some (v, g') ∧ Less s' g' := by
  have main : (match resultsOf f s rs with | some vs => some (oneOf vs, s) | none => none) = some (v, s') → ∃ g', (match resultsOf f g rs with | some vs => some (oneOf vs, g) | none => none) = some (v, g') ∧ Less s' g' := by
    intro hs
    split at hs
    · rename_i vs hvs
      cases hs
      exact ⟨g, by rw [resultsOf_framed hvs (h.ext (Went.refl _))], h⟩
    · cases hs
  cases x with
  | exit id => cases hs
  | normal => exact main hs
  | ret => exact main hs
theorem block_less {id : Nat} {x y : AExit} {f f' : Frame} {s s' g : St} (h : Less s g) (hs : blockExit id x (f, s) = some (y, f', s')) : ∃ g', blockExit id x (f, g) = some (y, f', g') ∧ Less s' g' := by
  cases x with
  | normal => cases hs; exact ⟨g, rfl, h⟩
  | ret => cases hs; exact ⟨g, rfl, h⟩
  | exit j =>
    have hs : sel (Nat.beq j id) (some (AExit.normal, f, s)) (some (AExit.exit j, f, s)) = some (y, f', s') := hs
    show ∃ g', sel (Nat.beq j id) (some (AExit.normal, f, g)) (some (AExit.exit j, f, g)) = some (y, f', g') ∧ _
    cases hb : Nat.beq j id with
    | true => rw [hb] at hs; cases hs; exact ⟨g, rfl, h⟩
    | false => rw [hb] at hs; cases hs; exact ⟨g, rfl, h⟩
/-- What is behind comes to the same over a larger memory. -/
theorem den_less : ∀ (ks : List Kt) (d : Nat) {x : AExit} {f : Frame} {s s' g : St} {v : V}, den C lf d ks (some (x, f, s)) = some (v, s') → Less s g → ∃ g', den C lf d ks (some (x, f, g)) = some (v, g') ∧ Less s' g'
  | [], d, x, f, s, s', g, v, h, _ => by cases h
  | .seq b :: ks, d, x, f, s, s', g, v, h, hl => by
    cases x with
    | normal =>
      have h : den C lf d ks (ev b (callF C lf d) lf f s) = some (v, s') := h
      show ∃ g', den C lf d ks (ev b (callF C lf d) lf f g) = some (v, g') ∧ Less s' g'
      cases he : ev b (callF C lf d) lf f s with
      | none => rw [he, den_none] at h; cases h
      | some p =>
        obtain ⟨y, f1, s1⟩ := p
        rw [he] at h
        obtain ⟨g1, h1, h2⟩ := hl.out (ev_framed (callF_framed C lf d) lf b f) he
        rw [h1]
        exact den_less ks d h h2
    | ret => exact den_less ks d (x := .ret) h hl
    | exit id => exact den_less ks d (x := .exit id) h hl
  | .blk id :: ks, d, x, f, s, s', g, v, h, hl => by
    have h : den C lf d ks (blockExit id x (f, s)) = some (v, s') := h
    show ∃ g', den C lf d ks (blockExit id x (f, g)) = some (v, g') ∧ Less s' g'
    cases he : blockExit id x (f, s) with
    | none => rw [he, den_none] at h; cases h
    | some p =>
      obtain ⟨y, f1, s1⟩ := p
      rw [he] at h
      obtain ⟨g1, h1, h2⟩ := block_less hl he
      rw [h1]
      exact den_less ks d h h2
  | .loop c n :: ks, d, x, f, s, s', g, v, h, hl => by
    cases x with
    | normal =>
      have h : den C lf d ks (loopN (ev c (callF C lf d) lf) n f s) = some (v, s') := h
      show ∃ g', den C lf d ks (loopN (ev c (callF C lf d) lf) n f g) = some (v, g') ∧ Less s' g'
      cases he : loopN (ev c (callF C lf d) lf) n f s with
      | none => rw [he, den_none] at h; cases h
      | some p =>
        obtain ⟨y, f1, s1⟩ := p
        rw [he] at h
        obtain ⟨g1, h1, h2⟩ := hl.out (loop_framed (fun f => ev_framed (callF_framed C lf d) lf c f) n f) he
        rw [h1]
        exact den_less ks d h h2
    | ret => exact den_less ks d (x := .ret) h hl
    | exit id => exact den_less ks d (x := .exit id) h hl
  | .ret rs f0 os dst :: ks, d, x, f, s, s', g, v, h, hl => by
    have h : (match finish rs x (f, s) with | some (v, st) => den C lf (d + 1) ks (normalOut (runOps os (callF C lf (d + 1)) (f0.put dst v) st)) | none => none) = some (v, s') := h
    show ∃ g', (match finish rs x (f, g) with | some (v, st) => den C lf (d + 1) ks (normalOut (runOps os (callF C lf (d + 1)) (f0.put dst v) st)) | none => none) = some (v, g') ∧ Less s' g'
    cases he : finish rs x (f, s) with
    | none => rw [he] at h; cases h
    | some p =>
      obtain ⟨u, s1⟩ := p
      rw [he] at h
      obtain ⟨g1, h1, h2⟩ := finish_less hl he
      rw [h1]
      have h : den C lf (d + 1) ks (normalOut (runOps os (callF C lf (d + 1)) (f0.put dst u) s1)) = some (v, s') := h
      show ∃ g', den C lf (d + 1) ks (normalOut (runOps os (callF C lf (d + 1)) (f0.put dst u) g1)) = some (v, g') ∧ Less s' g'
      cases hr : normalOut (runOps os (callF C lf (d + 1)) (f0.put dst u) s1) with
      | none => rw [hr, den_none] at h; cases h
      | some p =>
        obtain ⟨y, f1, s2⟩ := p
        rw [hr] at h
        obtain ⟨g2, h3, h4⟩ := h2.out (normal_framed (runOps_framed (callF_framed C lf (d + 1)) os (f0.put dst u))) hr
        rw [h3]
        exact den_less ks (d + 1) h h4
  | .top rs :: ks, d, x, f, s, s', g, v, h, hl => by
    exact finish_less hl (show finish rs x (f, s) = some (v, s') from h)
  | .dret rs f0 os n past dst lo ft lim :: ks, d, x, f, s, s', g, v, h, hl => by
    have h : (match finish rs x (f, s) with | some (v, st) => den C lf (d + 1) ks (normalOut (runD os (callF C lf (d + 1)) (Nat.succ n) (⟨lo, st.next, ft⟩ :: past) (f0.put dst v) (backO lim st))) | none => none) = some (v, s') := h
    show ∃ g', (match finish rs x (f, g) with | some (v, st) => den C lf (d + 1) ks (normalOut (runD os (callF C lf (d + 1)) (Nat.succ n) (⟨lo, st.next, ft⟩ :: past) (f0.put dst v) (backO lim st))) | none => none) = some (v, g') ∧ Less s' g'
    cases he : finish rs x (f, s) with
    | none => rw [he] at h; cases h
    | some p =>
      obtain ⟨u, s1⟩ := p
      rw [he] at h
      obtain ⟨g1, h1, h2⟩ := finish_less hl he
      rw [h1]
      have h : den C lf (d + 1) ks (normalOut (runD os (callF C lf (d + 1)) (Nat.succ n) (⟨lo, s1.next, ft⟩ :: past) (f0.put dst u) (backO lim s1))) = some (v, s') := h
      show ∃ g', den C lf (d + 1) ks (normalOut (runD os (callF C lf (d + 1)) (Nat.succ n) (⟨lo, g1.next, ft⟩ :: past) (f0.put dst u) (backO lim g1))) = some (v, g') ∧ Less s' g'
      rw [h2.next]
      cases hr : normalOut (runD os (callF C lf (d + 1)) (Nat.succ n) (⟨lo, s1.next, ft⟩ :: past) (f0.put dst u) (backO lim s1)) with
      | none => rw [hr, den_none] at h; cases h
      | some p =>
        obtain ⟨y, f1, s2⟩ := p
        rw [hr] at h
        obtain ⟨g2, h3, h4⟩ := (h2.back lim).out (normal_framed (runD_framed (callF_framed C lf (d + 1)) os (Nat.succ n) (⟨lo, s1.next, ft⟩ :: past) (f0.put dst u))) hr
        rw [h3]
        exact den_less ks (d + 1) h h4
theorem out_less {d : Nat} {ks : List Kt} {m : St → Out} (hm : FramedC m) {s s' g : St} {v : V} (h : den C lf d ks (m s) = some (v, s')) (hl : Less s g) : ∃ g', den C lf d ks (m g) = some (v, g') ∧ Less s' g' := by
  cases he : m s with
  | none => rw [he, den_none] at h; cases h
  | some p =>
    obtain ⟨y, f1, s1⟩ := p
    rw [he] at h
    obtain ⟨g1, h1, h2⟩ := hl.out hm he
    rw [h1]
    exact den_less ks d h h2
theorem ops_less {d : Nat} {ks : List Kt} {os : List AOper} {f : Frame} {s g : St} {v : V} {s' : St} (h : denC C lf (.ops d ks os f s) = some (v, s')) (he : Less s g) : ∃ g', denC C lf (.ops d ks os f g) = some (v, g') ∧ Less s' g' :=
  out_less (m := fun s => normalOut (runOps os (callF C lf d) f s)) (normal_framed (runOps_framed (callF_framed C lf d) os f)) h he
theorem dops_less {d : Nat} {ks : List Kt} {os : List (AOper × List Nat)} {n : Nat} {past : List Past} {f : Frame} {s g : St} {v : V} {s' : St} (h : denC C lf (.dops d ks os n past f s) = some (v, s')) (he : Less s g) : ∃ g', denC C lf (.dops d ks os n past f g) = some (v, g') ∧ Less s' g' :=
  out_less (m := fun s => normalOut (runD os (callF C lf d) n past f s)) (normal_framed (runD_framed (callF_framed C lf d) os n past f)) h he
end

/- PARTS OF A RUN -/
noncomputable section
/-- A memory of some objects, the next number being n. -/
def heapAt : List (Nat × AObj) → T AObj
  | [] => .nil
  | p :: l => (heapAt l).set p.1 (some p.2)
def memAt (n : Nat) (vis wr : Nat → Bool) (l : List (Nat × AObj)) : St := ⟨n, heapAt l, vis, wr⟩
/-- Sight within a call of a drawn region. -/
def lv (vis : Nat → Bool) (ps : List Past) : Nat → Bool := fun i => vis i && !hidden ps i
def lw (fr : Bool) (wr : Nat → Bool) (n : Nat) (ps : List Past) : Nat → Bool := fun i => wr i && (Nat.ble n i || (fr && unseen i ps))
def allV : Nat → Bool := fun _ => true
def frameAt : List (Nat × V) → Frame
  | [] => .nil
  | p :: l => (frameAt l).lay (pos p.1) p.2
def stOf : Option Cfg → St
  | some (.ops _ _ _ _ st) => st
  | some (.dops _ _ _ _ _ _ st) => st
  | _ => st0
def subC : ACode → List Nat → ACode
  | c, [] => c
  | .seq a _, 0 :: p => subC a p
  | .seq _ b, _ :: p => subC b p
  | .cond _ a _, 0 :: p => subC a p
  | .cond _ _ b, _ :: p => subC b p
  | .block _ a, _ :: p => subC a p
  | .loop a, _ :: p => subC a p
  | c, _ => c
def opsOf : ACode → List AOper
  | .reg ops => ops
  | _ => []
def dopsOf : ACode → List (AOper × List Nat)
  | .dreg ops => ops
  | _ => []
def dropD : Nat → List (AOper × List Nat) → List (AOper × List Nat)
  | 0, l => l
  | _ + 1, [] => []
  | n + 1, _ :: l => dropD n l
def dropO : Nat → List AOper → List AOper
  | 0, l => l
  | _ + 1, [] => []
  | n + 1, _ :: l => dropO n l
end
noncomputable section
def getsOf (s : St) : List Nat → List (Option AObj)
  | [] => []
  | i :: l => s.heap.get i :: getsOf s l
def idsOf : List (Nat × AObj) → List Nat
  | [] => []
  | p :: l => p.1 :: idsOf l
def objsOf : List (Nat × AObj) → List (Option AObj)
  | [] => []
  | p :: l => some p.2 :: objsOf l
/-- All that is asked at a cut. -/
def cutE (C : T AFunc) (lf n : Nat) (c : Cfg) (ids : List Nat) : Option Cfg × Nat × (Nat → Bool) × (Nat → Bool) × List (Option AObj) :=
  (stepsC C lf n c, (stOf (stepsC C lf n c)).next, (stOf (stepsC C lf n c)).vis, (stOf (stepsC C lf n c)).wr, getsOf (stOf (stepsC C lf n c)) ids)
def cutR (C : T AFunc) (lf n : Nat) (c : Cfg) (d : Nat) (ks : List Kt) (os : List AOper) (f : Frame) (N : Nat) (vis wr : Nat → Bool) (objs : List (Option AObj)) : Option Cfg × Nat × (Nat → Bool) × (Nat → Bool) × List (Option AObj) :=
  (some (.ops d ks os f (stOf (stepsC C lf n c))), N, vis, wr, objs)
def cutD (C : T AFunc) (lf n : Nat) (c : Cfg) (d : Nat) (ks : List Kt) (os : List (AOper × List Nat)) (m : Nat) (past : List Past) (f : Frame) (N : Nat) (vis wr : Nat → Bool) (objs : List (Option AObj)) : Option Cfg × Nat × (Nat → Bool) × (Nat → Bool) × List (Option AObj) :=
  (some (.dops d ks os m past f (stOf (stepsC C lf n c))), N, vis, wr, objs)
def isDone : Option Cfg → Bool
  | some (.done (.bool true) _) => true
  | _ => false
/-- A whole number; a byte; a slot that holds nothing. -/
def iV (n : Nat) : V := .int .i64 (.ofNat n)
def bV (n : Nat) : V := .int .u8 (.ofNat n)
def uV : V := .tuple []
def nS : V := .slice none 0 0 0 true
def pV (i o : Nat) : V := .ptr (some (i, o))
def sV (i o e n c : Nat) (f : Bool) : V := .slice (some (i, o)) e n c f
/-- Cells that are bytes; that are numbers. -/
def bsV : List Nat → List V
  | [] => []
  | b :: l => .int .u8 (.ofNat b) :: bsV l
def nsV : List Nat → List V
  | [] => []
  | b :: l => .int .i64 (.ofNat b) :: nsV l
end
theorem heapAt_get {s : St} : ∀ {l : List (Nat × AObj)}, getsOf s (idsOf l) = objsOf l → ∀ i o, (heapAt l).get i = some o → s.heap.get i = some o
  | [], _, i, o, h => by cases h
  | p :: l, hl, i, o, h => by
    have hl : s.heap.get p.1 :: getsOf s (idsOf l) = some p.2 :: objsOf l := hl
    obtain ⟨h1, h2⟩ := List.cons.inj hl
    have h : T.get (T.set (heapAt l) p.1 (some p.2)) i = some o := h
    rw [T.get_set] at h
    by_cases hi : i = p.1
    · rw [if_pos hi] at h; cases h; rw [hi]; exact h1
    · rw [if_neg hi] at h; exact heapAt_get h2 i o h
/-- From one cut to the next. -/
theorem cut_on {C : T AFunc} {lf n N : Nat} {c : Cfg} {d : Nat} {ks : List Kt} {os : List AOper} {f : Frame} {vis wr : Nat → Bool} {l : List (Nat × AObj)} {v : V}
    (h : cutE C lf n c (idsOf l) = cutR C lf n c d ks os f N vis wr (objsOf l)) (hd : ∃ s', denC C lf (.ops d ks os f (memAt N vis wr l)) = some (v, s')) : ∃ s', denC C lf c = some (v, s') := by
  obtain ⟨s', hd⟩ := hd
  unfold cutE cutR at h
  obtain ⟨h, h'⟩ := Prod.mk.inj h
  obtain ⟨hn, h'⟩ := Prod.mk.inj h'
  obtain ⟨hv, h'⟩ := Prod.mk.inj h'
  obtain ⟨hw, hl⟩ := Prod.mk.inj h'
  generalize stOf (stepsC C lf n c) = g at h hn hv hw hl
  obtain ⟨g', hg, _⟩ := ops_less hd (g := g) ⟨hn, hv, hw, heapAt_get hl⟩
  exact ⟨g', (steps_den n h).trans hg⟩
theorem cut_in {C : T AFunc} {lf n N : Nat} {c : Cfg} {d : Nat} {ks : List Kt} {os : List (AOper × List Nat)} {m : Nat} {past : List Past} {f : Frame} {vis wr : Nat → Bool} {l : List (Nat × AObj)} {v : V}
    (h : cutE C lf n c (idsOf l) = cutD C lf n c d ks os m past f N vis wr (objsOf l)) (hd : ∃ s', denC C lf (.dops d ks os m past f (memAt N vis wr l)) = some (v, s')) : ∃ s', denC C lf c = some (v, s') := by
  obtain ⟨s', hd⟩ := hd
  unfold cutE cutD at h
  obtain ⟨h, h'⟩ := Prod.mk.inj h
  obtain ⟨hn, h'⟩ := Prod.mk.inj h'
  obtain ⟨hv, h'⟩ := Prod.mk.inj h'
  obtain ⟨hw, hl⟩ := Prod.mk.inj h'
  generalize stOf (stepsC C lf n c) = g at h hn hv hw hl
  obtain ⟨g', hg, _⟩ := dops_less hd (g := g) ⟨hn, hv, hw, heapAt_get hl⟩
  exact ⟨g', (steps_den n h).trans hg⟩
/-- The last part. -/
theorem cut_last {C : T AFunc} {lf n : Nat} {c : Cfg} (h : isDone (stepsC C lf n c) = true) : ∃ s', denC C lf c = some (.bool true, s') := by
  unfold isDone at h
  split at h
  · rename_i st hs; exact ⟨st, steps_den n hs⟩
  · cases h
theorem whole {C : T AFunc} {lf d g : Nat} {fn : AFunc} (hg : T.get C g = some fn) (h : ∃ s', denC C lf (.run d [.top fn.results] fn.code .nil st0) = some (.bool true, s')) : isTrue (callF C lf (d + 1) g [] st0) = true := by
  obtain ⟨s', h⟩ := h
  rw [call_den hg]
  show isTrue (denC C lf (.run d [.top fn.results] fn.code .nil st0)) = true
  rw [h]
  rfl
end Go.Vabs

/-
  The abstract machine in small steps: a long closed run is cut into parts, each run by a declaration of its own.
-/
import Derived.Test.YtjolgdfagnlgnaaVabsWa
namespace Go.Vabs
set_option linter.unusedSimpArgs false
set_option linter.unusedVariables false
noncomputable section
/-- What is to be done behind. -/
inductive Kt where
  | seq (b : ACode)
  | blk (id : Nat)
  | loop (c : ACode) (n : Nat)
  | ret (rs : List ARes) (f : Frame) (os : List AOper) (d : Option Pos)
  | top (rs : List ARes)
/-- d: how deep calls may go from here. -/
inductive Cfg where
  | run (d : Nat) (ks : List Kt) (c : ACode) (f : Frame) (st : St)
  | out (d : Nat) (ks : List Kt) (x : AExit) (f : Frame) (st : St)
  | ops (d : Nat) (ks : List Kt) (os : List AOper) (f : Frame) (st : St)
  | done (v : V) (st : St)
section
variable (C : T AFunc) (lf : Nat)
def finishO (rs : List ARes) (r : Out) : Option (V × St) := Option.rec none (Prod.rec (finish rs)) r
/-- What a run that stands so comes to. -/
def den : Nat → List Kt → Out → Option (V × St)
  | _, [], _ => none
  | d, .seq b :: ks, r => den d ks (andThen r (ev b (callF C lf d) lf))
  | d, .blk id :: ks, r => den d ks (Option.rec none (Prod.rec (blockExit id)) r)
  | d, .loop c n :: ks, r => den d ks (andThen r (loopN (ev c (callF C lf d) lf) n))
  | d, .ret rs f os dst :: ks, r => match finishO rs r with | some (v, st) => den (d + 1) ks (normalOut (runOps os (callF C lf (d + 1)) (f.put dst v) st)) | none => none
  | _, .top rs :: _, r => finishO rs r
def denC : Cfg → Option (V × St)
  | .run d ks c f st => den C lf d ks (ev c (callF C lf d) lf f st)
  | .out d ks x f st => den C lf d ks (some (x, f, st))
  | .ops d ks os f st => den C lf d ks (normalOut (runOps os (callF C lf d) f st))
  | .done v st => some (v, st)

def outCfg (d : Nat) (ks : List Kt) : Out → Option Cfg
  | some (x, f, st) => some (.out d ks x f st)
  | none => none
def enterCfg (d : Nat) (ks : List Kt) (os : List AOper) (dst : Option Pos) (f : Frame) (g : Nat) (args : List V) (st : St) : Option Cfg :=
  match d with
  | 0 => none
  | d + 1 => match T.get C g with
    | some fn => some (.run d (.ret fn.results f os dst :: ks) fn.code (initFrame args 0 .nil) st)
    | none => none
def opCfg (d : Nat) (ks : List Kt) (os : List AOper) (dst : Option Pos) (f : Frame) : Option (Res × St) → Option Cfg
  | some (.val v, st) => some (.ops d ks os (f.put dst v) st)
  | some (.enter g args, st) => enterCfg C d ks os dst f g args st
  | none => none
def condCfg (d : Nat) (ks : List Kt) (a b : ACode) (f : Frame) (st : St) : V → Option Cfg
  | .bool t => some (sel t (.run d ks a f st) (.run d ks b f st))
  | _ => none
def runCfg (d : Nat) (ks : List Kt) (f : Frame) (st : St) : ACode → Option Cfg
  | .skip => some (.out d ks .normal f st)
  | .reg ops => some (.ops d ks ops f st)
  | .dreg ops => outCfg d ks (normalOut (runD ops (callF C lf d) 0 [] f st))
  | .seq a b => some (.run d (.seq b :: ks) a f st)
  | .cond c a b => condCfg d ks a b f st (f.ev c)
  | .block id c => some (.run d (.blk id :: ks) c f st)
  | .loop c => match lf with | 0 => none | n + 1 => some (.run d (.loop c n :: ks) c f st)
  | .exit id => some (.out d ks (.exit id) f st)
  | .ret => some (.out d ks .ret f st)
  | .range g ps a b it itc => outCfg d ks (evRange g ps (ev a) (ev b) it itc (callF C lf d) lf f st)
def doneCfg : Option (V × St) → Option Cfg
  | some (v, st) => some (.done v st)
  | none => none
def backCfg (d : Nat) (ks : List Kt) (os : List AOper) (dst : Option Pos) (f : Frame) : Option (V × St) → Option Cfg
  | some (v, st) => some (.ops (d + 1) ks os (f.put dst v) st)
  | none => none
def popCfg (d : Nat) (x : AExit) (f : Frame) (st : St) : List Kt → Option Cfg
  | [] => none
  | .seq b :: ks => some (AExit.rec (.run d ks b f st) (.out d ks .ret f st) (fun id => .out d ks (.exit id) f st) x)
  | .blk id :: ks => outCfg d ks (blockExit id x (f, st))
  | .loop c n :: ks => AExit.rec (Nat.rec none (fun n _ => some (.run d (.loop c n :: ks) c f st)) n) (some (.out d ks .ret f st)) (fun id => some (.out d ks (.exit id) f st)) x
  | .ret rs f0 os dst :: ks => backCfg d ks os dst f0 (finish rs x (f, st))
  | .top rs :: _ => doneCfg (finish rs x (f, st))
def opsCfg (d : Nat) (ks : List Kt) (f : Frame) (st : St) : List AOper → Option Cfg
  | [] => some (.out d ks .normal f st)
  | o :: os => either (wanted f o.guard) (opCfg C d ks os o.dst f (execOp o.op f.ev st)) (some (.ops d ks os (f.put o.dst V.undef) st))
def stepC : Cfg → Option Cfg
  | .run d ks c f st => runCfg C lf d ks f st c
  | .out d ks x f st => popCfg d x f st ks
  | .ops d ks os f st => opsCfg C d ks f st os
  | .done _ _ => none
def stepsC : Nat → Cfg → Option Cfg := Nat.rec some fun _ k c => Option.rec none k (stepC C lf c)

end
end
section
variable {C : T AFunc} {lf : Nat}
theorem den_none : ∀ (d : Nat) (ks : List Kt), den C lf d ks none = none
  | _, [] => rfl
  | d, .seq b :: ks => den_none d ks
  | d, .blk id :: ks => den_none d ks
  | d, .loop c n :: ks => den_none d ks
  | d, .ret rs f os dst :: ks => rfl
  | d, .top rs :: ks => rfl

theorem outCfg_den {d : Nat} {ks : List Kt} {r : Out} {c : Cfg} (h : outCfg d ks r = some c) : denC C lf c = den C lf d ks r := by
  cases r with
  | none => cases h
  | some p => obtain ⟨x, f, st⟩ := p; cases h; rfl

theorem step_den {c c' : Cfg} (h : stepC C lf c = some c') : denC C lf c = denC C lf c' := by
  cases c with
  | run d ks c f st =>
    cases c with
    | skip => cases h; rfl
    | reg ops => cases h; rfl
    | dreg ops => exact (outCfg_den h).symm
    | seq a b => cases h; rfl
    | cond s a b =>
      have h : condCfg d ks a b f st (f.ev s) = some c' := h
      show den C lf d ks (evCondB (ev a) (ev b) (callF C lf d) lf f st (f.ev s)) = _
      cases hv : f.ev s with
      | bool t =>
        rw [hv] at h
        cases h
        cases t <;> rfl
      | _ => rw [hv] at h; cases h
    | block id c => cases h; rfl
    | loop c =>
      cases lf with
      | zero => cases h
      | succ n => cases h; rfl
    | exit id => cases h; rfl
    | ret => cases h; rfl
    | range g ps a b it itc => exact (outCfg_den h).symm
  | out d ks x f st =>
    cases ks with
    | nil => cases h
    | cons k ks =>
      cases k with
      | seq b => cases x <;> (cases h; rfl)
      | blk id => exact (outCfg_den h).symm
      | loop c n =>
        cases x with
        | normal =>
          cases n with
          | zero => cases h
          | succ n => cases h; rfl
        | ret => cases h; rfl
        | exit id => cases h; rfl
      | ret rs f0 os dst =>
        have h : backCfg d ks os dst f0 (finish rs x (f, st)) = some c' := h
        show (match finish rs x (f, st) with | some (v, st) => den C lf (d + 1) ks (normalOut (runOps os (callF C lf (d + 1)) (f0.put dst v) st)) | none => none) = _
        cases hf : finish rs x (f, st) with
        | none => rw [hf] at h; cases h
        | some p => rw [hf] at h; cases h; rfl
      | top rs =>
        have h : doneCfg (finish rs x (f, st)) = some c' := h
        show finish rs x (f, st) = _
        cases hf : finish rs x (f, st) with
        | none => rw [hf] at h; cases h
        | some p => rw [hf] at h; cases h; rfl
  | ops d ks os f st =>
    cases os with
    | nil => cases h; rfl
    | cons o os =>
      have h : either (wanted f o.guard) (opCfg C d ks os o.dst f (execOp o.op f.ev st)) (some (.ops d ks os (f.put o.dst V.undef) st)) = some c' := h
      show den C lf d ks (normalOut (either (wanted f o.guard) (Option.rec none (Prod.rec fun v st' => runOps os (callF C lf d) (f.put o.dst v) st') (stepOp (callF C lf d) o.op f st)) (runOps os (callF C lf d) (f.put o.dst V.undef) st))) = _
      cases hw : wanted f o.guard with
      | none => rw [hw] at h; cases h
      | some b =>
        rw [hw] at h
        cases b with
        | false => cases h; rfl
        | true =>
          have h : opCfg C d ks os o.dst f (execOp o.op f.ev st) = some c' := h
          show den C lf d ks (normalOut (Option.rec none (Prod.rec fun v st' => runOps os (callF C lf d) (f.put o.dst v) st') (Option.rec none (Prod.rec fun r st' => afterRes (callF C lf d) st' r) (execOp o.op f.ev st)))) = _
          cases hx : execOp o.op f.ev st with
          | none => rw [hx] at h; cases h
          | some p =>
            obtain ⟨r, st1⟩ := p
            rw [hx] at h
            cases r with
            | val v => cases h; rfl
            | enter g args =>
              have h : enterCfg C d ks os o.dst f g args st1 = some c' := h
              show den C lf d ks (normalOut (Option.rec none (Prod.rec fun v st' => runOps os (callF C lf d) (f.put o.dst v) st') (callF C lf d g args st1))) = _
              cases d with
              | zero => cases h
              | succ d =>
                have h : (match T.get C g with | some fn => some (Cfg.run d (.ret fn.results f os o.dst :: ks) fn.code (initFrame args 0 .nil) st1) | none => none) = some c' := h
                show den C lf (d + 1) ks (normalOut (Option.rec none (Prod.rec fun v st' => runOps os (callF C lf (d + 1)) (f.put o.dst v) st') (Option.rec none (enterF (callF C lf d) lf args st1) (T.get C g)))) = _
                cases hg : T.get C g with
                | none => rw [hg] at h; cases h
                | some fn =>
                  rw [hg] at h
                  cases h
                  show den C lf (d + 1) ks (normalOut (Option.rec none (Prod.rec fun v st' => runOps os (callF C lf (d + 1)) (f.put o.dst v) st') (finishO fn.results (ev fn.code (callF C lf d) lf (initFrame args 0 .nil) st1)))) =
                    (match finishO fn.results (ev fn.code (callF C lf d) lf (initFrame args 0 .nil) st1) with | some (v, st) => den C lf (d + 1) ks (normalOut (runOps os (callF C lf (d + 1)) (f.put o.dst v) st)) | none => none)
                  cases finishO fn.results (ev fn.code (callF C lf d) lf (initFrame args 0 .nil) st1) with
                  | none => exact den_none _ _
                  | some p => rfl
  | done v st => cases h

theorem steps_den : ∀ (n : Nat) {c c' : Cfg}, stepsC C lf n c = some c' → denC C lf c = denC C lf c'
  | 0, c, c', h => by cases h; rfl
  | n + 1, c, c', h => by
    have h : (Option.rec none (stepsC C lf n) (stepC C lf c) : Option Cfg) = some c' := h
    cases hs : stepC C lf c with
    | none => rw [hs] at h; cases h
    | some c1 =>
      rw [hs] at h
      exact (step_den hs).trans (steps_den n h)
/-- The whole: a call of function g. -/
theorem call_den {d g : Nat} {fn : AFunc} (hg : T.get C g = some fn) {args : List V} {st : St} : callF C lf (d + 1) g args st = denC C lf (.run d [.top fn.results] fn.code (initFrame args 0 .nil) st) := by
  show (Option.rec none (enterF (callF C lf d) lf args st) (T.get C g) : Option (V × St)) = _
  rw [hg]
  rfl
end

/- MEMORY THAT IS NOT LED TO FALLS AWAY -/
section
variable {C : T AFunc} {lf : Nat}
theorem finishO_framed {m : St → Out} (hm : FramedC m) (rs : List ARes) : Framed (fun s => finishO rs (m s)) := by
  refine bind_framed (m := fun s => assoc (m s)) (k := fun (p : AExit × Frame) _ _ s => finish rs p.1 (p.2, s)) hm ?_ ?_
  · intro p n n'
    obtain ⟨x, f1⟩ := p
    have main : Framed (fun s => match resultsOf f1 s rs with | some vs => some (oneOf vs, s) | none => none) := by
      intro s r s' h
      dsimp only at h
      split at h
      · rename_i vs hvs
        cases h
        exact ⟨Went.refl _, fun g he => ⟨g, by dsimp only; rw [resultsOf_framed hvs he], Over.refl _ _ he⟩⟩
      · cases h
    cases x with
    | normal => exact main
    | ret => exact main
    | exit j => exact none_framed
  · intro s
    show finishO rs (m s) = _
    cases m s with
    | none => rfl
    | some p =>
      obtain ⟨x, f1, s1⟩ := p
      rfl
theorem block_framed {m : St → Out} (hm : FramedC m) (id : Nat) : FramedC (fun s => (Option.rec none (Prod.rec (blockExit id)) (m s) : Out)) := by
  refine bind_framed (m := fun s => assoc (m s)) (k := fun (p : AExit × Frame) _ _ s => assoc (blockExit id p.1 (p.2, s))) hm ?_ ?_
  · intro p n n'
    obtain ⟨x, f1⟩ := p
    cases x with
    | normal => exact ret_framed _
    | ret => exact ret_framed _
    | exit j =>
      show Framed fun s => assoc (sel (Nat.beq j id) (some (.normal, f1, s)) (some (.exit j, f1, s)))
      cases Nat.beq j id
      · exact ret_framed _
      · exact ret_framed _
  · intro s
    show assoc (Option.rec none (Prod.rec (blockExit id)) (m s)) = _
    cases m s with
    | none => rfl
    | some p =>
      obtain ⟨x, f1, s1⟩ := p
      rfl
theorem den_framed : ∀ (ks : List Kt) (d : Nat) {m : St → Out}, FramedC m → Framed (fun s => den C lf d ks (m s))
  | [], d, m, _ => none_framed
  | .seq b :: ks, d, m, hm => den_framed ks d (then_framed hm (ev_framed (callF_framed C lf d) lf b))
  | .blk id :: ks, d, m, hm => den_framed ks d (block_framed hm id)
  | .loop c n :: ks, d, m, hm => den_framed ks d (then_framed hm (loop_framed (fun f => ev_framed (callF_framed C lf d) lf c f) n))
  | .ret rs f os dst :: ks, d, m, hm => by
    refine bind_framed (m := fun s => finishO rs (m s)) (k := fun v _ _ s => den C lf (d + 1) ks (normalOut (runOps os (callF C lf (d + 1)) (f.put dst v) s))) (finishO_framed hm rs) (fun v _ _ => den_framed ks (d + 1) (normal_framed (runOps_framed (callF_framed C lf (d + 1)) os _))) ?_
    intro s
    show (match finishO rs (m s) with | some (v, st) => den C lf (d + 1) ks (normalOut (runOps os (callF C lf (d + 1)) (f.put dst v) st)) | none => none) = _
    cases finishO rs (m s) with
    | none => rfl
    | some p => rfl
  | .top rs :: ks, d, m, hm => finishO_framed hm rs
/-- Operations to be done over a smaller memory: they come to the same. -/
theorem ops_less {d : Nat} {ks : List Kt} {os : List AOper} {f : Frame} {s g : St} {v : V} {s' : St} (h : denC C lf (.ops d ks os f s) = some (v, s')) (he : Ext s s' g) : ∃ g', denC C lf (.ops d ks os f g) = some (v, g') := by
  obtain ⟨_, hx⟩ := den_framed ks d (normal_framed (runOps_framed (callF_framed C lf d) os f)) s v s' h
  obtain ⟨g', h1, _⟩ := hx g he
  exact ⟨g', h1⟩
end

/- PARTS OF A RUN -/
noncomputable section
/-- A memory of some objects, the next number being n. -/
def heapAt : List (Nat × AObj) → T AObj
  | [] => .nil
  | p :: l => (heapAt l).set p.1 (some p.2)
def memAt (n : Nat) (l : List (Nat × AObj)) : St := ⟨n, heapAt l, fun _ => true, fun _ => true⟩
def frameAt : List (Nat × V) → Frame
  | [] => .nil
  | p :: l => (frameAt l).lay (pos p.1) p.2
def stOf : Option Cfg → St
  | some (.ops _ _ _ _ st) => st
  | _ => st0
def subC : ACode → List Nat → ACode
  | c, [] => c
  | .seq a _, 0 :: p => subC a p
  | .seq _ b, _ :: p => subC b p
  | .cond _ a _, 0 :: p => subC a p
  | .cond _ _ b, _ :: p => subC b p
  | .block _ a, _ :: p => subC a p
  | .loop a, _ :: p => subC a p
  | c, _ => c
def opsOf : ACode → List AOper
  | .reg ops => ops
  | _ => []
def dropO : Nat → List AOper → List AOper
  | 0, l => l
  | _ + 1, [] => []
  | n + 1, _ :: l => dropO n l
end
noncomputable section
def getsOf (s : St) : List Nat → List (Option AObj)
  | [] => []
  | i :: l => s.get i :: getsOf s l
def idsOf : List (Nat × AObj) → List Nat
  | [] => []
  | p :: l => p.1 :: idsOf l
def objsOf : List (Nat × AObj) → List (Option AObj)
  | [] => []
  | p :: l => some p.2 :: objsOf l
/-- All that is asked at a cut. -/
def cutE (C : T AFunc) (lf n : Nat) (c : Cfg) (ids : List Nat) : Option Cfg × Nat × (Nat → Bool) × (Nat → Bool) × List (Option AObj) :=
  (stepsC C lf n c, (stOf (stepsC C lf n c)).next, (stOf (stepsC C lf n c)).vis, (stOf (stepsC C lf n c)).wr, getsOf (stOf (stepsC C lf n c)) ids)
def cutR (C : T AFunc) (lf n : Nat) (c : Cfg) (d : Nat) (ks : List Kt) (os : List AOper) (f : Frame) (N : Nat) (objs : List (Option AObj)) : Option Cfg × Nat × (Nat → Bool) × (Nat → Bool) × List (Option AObj) :=
  (some (.ops d ks os f (stOf (stepsC C lf n c))), N, (fun _ => true), (fun _ => true), objs)
def isDone : Option Cfg → Bool
  | some (.done (.bool true) _) => true
  | _ => false
/-- Cells that are bytes; that are numbers. -/
def bsV : List Nat → List V
  | [] => []
  | b :: l => .int .u8 (.ofNat b) :: bsV l
def nsV : List Nat → List V
  | [] => []
  | b :: l => .int .i64 (.ofNat b) :: nsV l
end
theorem heapAt_get {s : St} : ∀ {l : List (Nat × AObj)}, getsOf s (idsOf l) = objsOf l → ∀ i o, (heapAt l).get i = some o → s.get i = some o
  | [], _, i, o, h => by cases h
  | p :: l, hl, i, o, h => by
    have hl : s.get p.1 :: getsOf s (idsOf l) = some p.2 :: objsOf l := hl
    obtain ⟨h1, h2⟩ := List.cons.inj hl
    have h : T.get (T.set (heapAt l) p.1 (some p.2)) i = some o := h
    rw [T.get_set] at h
    by_cases hi : i = p.1
    · rw [if_pos hi] at h; cases h; rw [hi]; exact h1
    · rw [if_neg hi] at h; exact heapAt_get h2 i o h
/-- From one cut to the next. -/
theorem cut_on {C : T AFunc} {lf n N : Nat} {c : Cfg} {d : Nat} {ks : List Kt} {os : List AOper} {f : Frame} {l : List (Nat × AObj)} {v : V}
    (h : cutE C lf n c (idsOf l) = cutR C lf n c d ks os f N (objsOf l)) (hd : ∃ s', denC C lf (.ops d ks os f (memAt N l)) = some (v, s')) : ∃ s', denC C lf c = some (v, s') := by
  obtain ⟨s', hd⟩ := hd
  unfold cutE cutR at h
  obtain ⟨h, h'⟩ := Prod.mk.inj h
  obtain ⟨hn, h'⟩ := Prod.mk.inj h'
  obtain ⟨hv, h'⟩ := Prod.mk.inj h'
  obtain ⟨hw, hl⟩ := Prod.mk.inj h'
  generalize stOf (stepsC C lf n c) = g at h hn hv hw hl
  obtain ⟨g', hg⟩ := ops_less hd (g := g) ⟨hn, fun i o ho => heapAt_get hl i o (by rw [St.get_eq, if_pos (show (memAt N l).vis i = true from rfl)] at ho; exact ho), fun i _ _ => by rw [hw], fun i _ _ => by rw [hv, hw]; exact ⟨rfl, rfl⟩⟩
  exact ⟨g', (steps_den n h).trans hg⟩
/-- The last part. -/
theorem cut_last {C : T AFunc} {lf n : Nat} {c : Cfg} (h : isDone (stepsC C lf n c) = true) : ∃ s', denC C lf c = some (.bool true, s') := by
  unfold isDone at h
  split at h
  · rename_i st hs; exact ⟨st, steps_den n hs⟩
  · cases h
theorem whole {C : T AFunc} {lf d g : Nat} {fn : AFunc} (hg : T.get C g = some fn) (h : ∃ s', denC C lf (.run d [.top fn.results] fn.code .nil st0) = some (.bool true, s')) : isTrue (callF C lf (d + 1) g [] st0) = true := by
  obtain ⟨s', h⟩ := h
  rw [call_den hg]
  show isTrue (denC C lf (.run d [.top fn.results] fn.code .nil st0)) = true
  rw [h]
  rfl
end Go.Vabs

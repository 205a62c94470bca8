/-
  Long runs of calls with arguments, cut into parts: what they answer, and objects that they leave. A law whose answers come from several runs.
-/
import Derived.Test.YtkcjhakjelidgaaVabsWb
import Derived.Test.YtkcjhakjelidgaaVabsZj
namespace Go.Vabs
set_option linter.unusedSimpArgs false
set_option linter.unusedVariables false
noncomputable section
def doneO (ids : List Nat) : Option Cfg → Option (V × List (Option AObj))
  | some (.done v st) => some (v, getsOf st ids)
  | _ => none
end
/-- Has these objects. -/
def HasO (W : List (Nat × AObj)) (s : St) : Prop := getsOf s (idsOf W) = objsOf W
theorem HasO.less {s g : St} (hl : Less s g) : ∀ {W : List (Nat × AObj)}, HasO W s → HasO W g
  | [], _ => rfl
  | p :: W, h => by
    obtain ⟨h1, h2⟩ := List.cons.inj (show s.heap.get p.1 :: getsOf s (idsOf W) = some p.2 :: objsOf W from h)
    show g.heap.get p.1 :: getsOf g (idsOf W) = some p.2 :: objsOf W
    rw [hl.heap _ _ h1, show getsOf g (idsOf W) = objsOf W from HasO.less hl h2]
section
variable {C : T AFunc} {lf n N : Nat} {c : Cfg} {d : Nat} {ks : List Kt} {f : Frame} {vis wr : Nat → Bool} {l W : List (Nat × AObj)} {v : V}
theorem cut_onO {os : List AOper}
    (h : cutE C lf n c (idsOf l) = cutR C lf n c d ks os f N vis wr (objsOf l)) (hd : ∃ s', denC C lf (.ops d ks os f (memAt N vis wr l)) = some (v, s') ∧ HasO W s') : ∃ s', denC C lf c = some (v, s') ∧ HasO W s' := by
  obtain ⟨s', hd, ho⟩ := hd
  unfold cutE cutR at h
  obtain ⟨h, h'⟩ := Prod.mk.inj h
  obtain ⟨hn, h'⟩ := Prod.mk.inj h'
  obtain ⟨hv, h'⟩ := Prod.mk.inj h'
  obtain ⟨hw, hl⟩ := Prod.mk.inj h'
  generalize stOf (stepsC C lf n c) = g at h hn hv hw hl
  obtain ⟨g', hg, hk⟩ := ops_less hd (g := g) ⟨hn, hv, hw, heapAt_get hl⟩
  exact ⟨g', (steps_den n h).trans hg, ho.less hk⟩
theorem cut_inO {os : List (AOper × List Nat)} {m : Nat} {past : List Past}
    (h : cutE C lf n c (idsOf l) = cutD C lf n c d ks os m past f N vis wr (objsOf l)) (hd : ∃ s', denC C lf (.dops d ks os m past f (memAt N vis wr l)) = some (v, s') ∧ HasO W s') : ∃ s', denC C lf c = some (v, s') ∧ HasO W s' := by
  obtain ⟨s', hd, ho⟩ := hd
  unfold cutE cutD at h
  obtain ⟨h, h'⟩ := Prod.mk.inj h
  obtain ⟨hn, h'⟩ := Prod.mk.inj h'
  obtain ⟨hv, h'⟩ := Prod.mk.inj h'
  obtain ⟨hw, hl⟩ := Prod.mk.inj h'
  generalize stOf (stepsC C lf n c) = g at h hn hv hw hl
  obtain ⟨g', hg, hk⟩ := dops_less hd (g := g) ⟨hn, hv, hw, heapAt_get hl⟩
  exact ⟨g', (steps_den n h).trans hg, ho.less hk⟩
theorem cut_lastO (h : doneO (idsOf W) (stepsC C lf n c) = some (v, objsOf W)) : ∃ s', denC C lf c = some (v, s') ∧ HasO W s' := by
  unfold doneO at h
  split at h
  · rename_i u st hs
    obtain ⟨h1, h2⟩ := Prod.mk.inj (Option.some.inj h)
    subst h1
    exact ⟨st, steps_den n hs, h2⟩
  · cases h
theorem wholeO {g : Nat} {fn : AFunc} {args : List V} {st : St} (hg : T.get C g = some fn) (h : ∃ s', denC C lf (.run d [.top fn.results] fn.code (initFrame args 0 .nil) st) = some (v, s') ∧ HasO W s') : ∃ s', callF C lf (d + 1) g args st = some (v, s') ∧ HasO W s' := by
  obtain ⟨s', h, ho⟩ := h
  exact ⟨s', (call_den hg).trans h, ho⟩
end

/- A LAW WHOSE ANSWERS COME FROM SEVERAL RUNS -/
theorem Sound.withE {P : Program} {call : CallT} (h : Sound P call) {g : Nat} {rd : List V → St → Option Ans} (hr : Reads rd)
    (hl : ∀ args st os f, rd args st = some (os, f) → ∃ call0, Sound P call0 ∧ ∃ τ args0 s0 s1 v0 σ, call0 g args0 s0 = some (v0, s1) ∧ Seen τ args st args0 s0 ∧ Left τ st.next s0 s1 v0 os σ (f st.next)) : Sound P (Vabs.withL call g (lawOf rd)) := by
  refine ⟨fun B g' args st v st' hx => ?_, fun g' args => ?_⟩
  · unfold Vabs.withL at hx
    split at hx
    · rename_i e
      subst e
      have hx : lawOut (rd args st) st = some (v, st') := hx
      cases hrd : rd args st with
      | none => rw [hrd] at hx; cases hx
      | some a =>
        obtain ⟨os, f⟩ := a
        rw [hrd] at hx
        have hx : (match allocL os st with | some st' => some (f st.next, st') | none => none) = some (v, st') := hx
        split at hx
        · rename_i s1 hal
          cases hx
          obtain ⟨call0, h0, τ, args0, s0, s1, v0, σ, hrun, hseen, hleft⟩ := hl args st os f hrd
          refine ⟨(h0.ok 0 _ args0 s0 v0 s1 hrun).1, fun ι w args' hn hrel hfr hargs => ?_⟩
          exact small_ok h0 hrun hseen hleft hal hn hrel hfr hargs
        · cases hx
    · exact h.ok B g' args st v st' hx
  · by_cases e : g' = g
    · subst e
      have : (fun s => Vabs.withL call g' (lawOf rd) g' args s) = fun s => lawOf rd args s := funext fun s => withL_same
      show Framed (fun s => Vabs.withL call g' (lawOf rd) g' args s)
      rw [this]
      exact lawOf_framed hr args
    · have : (fun s => Vabs.withL call g (lawOf rd) g' args s) = fun s => call g' args s := funext fun s => withL_other e
      show Framed (fun s => Vabs.withL call g (lawOf rd) g' args s)
      rw [this]
      exact h.fr g' args
end Go.Vabs

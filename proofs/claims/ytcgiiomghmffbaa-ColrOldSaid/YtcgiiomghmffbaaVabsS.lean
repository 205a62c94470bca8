/- Lemmas for this claim, text S. No condition. -/
import Derived.Test.YtcgiiomghmffbaaVabsR
namespace Go.Vabs
set_option linter.unusedSimpArgs false
set_option linter.unusedVariables false
def CallFramed (call : CallT) : Prop := ∀ g args, Framed (call g args)
theorem bind_framed {α β : Type} {m : St → Option (α × St)} {k : α → Nat → Nat → St → Option (β × St)} (hm : Framed m) (hk : ∀ x n n', Framed (k x n n')) {m' : St → Option (β × St)}
    (he : ∀ s, m' s = match m s with | some (x, s1) => k x s.next s1.next s1 | none => none) : Framed m' := by
  intro s r s' h
  rw [he] at h
  split at h
  · rename_i x s1 h1
    obtain ⟨w1, w2⟩ := hm s x s1 h1
    obtain ⟨w3, w4⟩ := hk x s.next s1.next s1 r s' h
    refine ⟨w1.trans w3, fun g hg => ?_⟩
    obtain ⟨g1, k1, k2⟩ := w2 g (hg.left w3)
    obtain ⟨g2, k3, k4⟩ := w4 g1 (Ext.step w1 w3 hg k2)
    refine ⟨g2, ?_, Over.trans w1 w3 k2 k4⟩
    rw [he, k1]
    show k x g.next g1.next g1 = _
    rw [hg.next, k2.next]
    exact k3
  · cases h
theorem none_framed {α : Type} : Framed (fun _ => (none : Option (α × St))) := fun s r s' h => by cases h
theorem ret_framed {α : Type} (x : α) : Framed (fun s => some (x, s)) := fun s r s' h => by
  cases h
  exact ⟨Went.refl _, fun g he => ⟨g, rfl, Over.refl _ _ he⟩⟩
theorem step_framed {call : CallT} (hc : CallFramed call) (o : AOp) (f : Frame) : Framed (stepOp call o f) := by
  refine bind_framed (m := execOp o f.ev) (k := fun r _ _ s => afterRes call s r) (exec_framed o f.ev) ?_ ?_
  · intro r n n'
    cases r with
    | val v => exact ret_framed v
    | enter g args => exact hc g args
  · intro s
    show (Option.rec none (Prod.rec fun r st' => afterRes call st' r) (execOp o f.ev s) : Option (V × St)) = _
    cases execOp o f.ev s with
    | none => rfl
    | some p => rfl
theorem either_framed {α : Type} {b : Option Bool} {x y : St → Option (α × St)} (hx : Framed x) (hy : Framed y) : Framed (fun s => either b (x s) (y s)) := by
  cases b with
  | none => exact none_framed
  | some b => cases b with
    | true => exact hx
    | false => exact hy
theorem runOps_framed {call : CallT} (hc : CallFramed call) : ∀ (ops : List AOper) (f : Frame), Framed (runOps ops call f)
  | [], f => ret_framed f
  | o :: os, f => by
    refine either_framed (b := wanted f o.guard) (x := fun st => (Option.rec none (Prod.rec fun v st' => runOps os call (f.put o.dst v) st') (stepOp call o.op f st) : Option (Frame × St))) (y := fun st => runOps os call (f.put o.dst V.undef) st) ?_ (runOps_framed hc os _)
    refine bind_framed (m := stepOp call o.op f) (k := fun v _ _ s => runOps os call (f.put o.dst v) s) (step_framed hc _ _) (fun v _ _ => runOps_framed hc os _) ?_
    intro s
    show (Option.rec none (Prod.rec fun v st' => runOps os call (f.put o.dst v) st') (stepOp call o.op f s) : Option (Frame × St)) = _
    cases stepOp call o.op f s with
    | none => rfl
    | some p => rfl
noncomputable def limVis (ft : Foot) (ps : List Past) (next i : Nat) : Bool := match ft with
  | .dir rs _ => Nat.ble next i || mem i rs
  | .call => !hidden ps i
noncomputable def limWr (fr : Bool) (ft : Foot) (ps : List Past) (next i : Nat) : Bool := match ft with
  | .dir _ ws => Nat.ble next i || mem i ws
  | .call => Nat.ble next i || (fr && unseen i ps)
theorem limF_eq (fr : Bool) (ft : Foot) (ps : List Past) (s : St) : limF fr ft ps s = { next := s.next, heap := s.heap, vis := fun i => s.vis i && limVis ft ps s.next i, wr := fun i => s.wr i && limWr fr ft ps s.next i } := by
  cases s; cases ft <;> rfl
theorem back_eq (s s' : St) : back s s' = { next := s'.next, heap := s'.heap, vis := s.vis, wr := s.wr } := by
  cases s; cases s'; rfl
theorem lim_went {fr : Bool} {ft : Foot} {ps : List Past} {s s1 : St} (h : Went (limF fr ft ps s) s1) : Went s (back s s1) := by
  rw [limF_eq] at h
  rw [back_eq]
  refine ⟨h.next, rfl, rfl, ?_, ?_⟩
  · intro i hi
    rcases h.heap i hi with a | ⟨a, b, c⟩
    · exact .inl a
    · simp only [Bool.and_eq_true] at a b
      exact .inr ⟨a.1, b.1, c⟩
  · intro i h1 h2
    have := h.seen i h1 h2
    simp only [Bool.and_eq_true] at this
    exact ⟨this.1.1, this.2.1⟩
theorem lim_get {fr : Bool} {ft : Foot} {ps : List Past} {s : St} {i : Nat} {x : AObj} (h : (limF fr ft ps s).get i = some x) : s.get i = some x ∧ limVis ft ps s.next i = true := by
  have hv := get_vis h
  have hh := St.get_heap h
  rw [limF_eq] at hv hh
  simp only [Bool.and_eq_true] at hv
  exact ⟨by rw [get_of hv.1]; exact hh, hv.2⟩
theorem lim_ext {fr : Bool} {ft : Foot} {ps : List Past} {s s1 g : St} (he : Ext s (back s s1) g) (hw : Went (limF fr ft ps s) s1) : Ext (limF fr ft ps s) s1 (limF fr ft ps g) := by
  have hn := he.next
  refine ⟨by rw [limF_eq, limF_eq]; exact hn, ?_, ?_, ?_⟩
  · intro i x hx
    obtain ⟨h1, h2⟩ := lim_get hx
    have h3 := he.get i x h1
    rw [limF_eq]
    rw [get_of (by simp only [Bool.and_eq_true]; exact ⟨get_vis h3, by rw [hn]; exact h2⟩)]
    exact (St.get_heap h3 :)
  · intro i h1 h2
    rw [limF_eq] at h1 h2 ⊢
    simp only [Bool.and_eq_true] at h1 h2 ⊢
    exact ⟨he.wr i h1.1 h2.1, by rw [hn]; exact h2.2⟩
  · intro i h1 h2
    have h3 := he.seen i (by rw [limF_eq] at h1; exact h1) (by rw [back_eq]; exact h2)
    have h4 := hw.seen i h1 h2
    rw [limF_eq] at h4 ⊢
    simp only [Bool.and_eq_true] at h4 ⊢
    exact ⟨⟨h3.1, by rw [hn]; exact h4.1.2⟩, h3.2, by rw [hn]; exact h4.2.2⟩
theorem lim_over {fr : Bool} {ft : Foot} {ps : List Past} {s s1 g g1 : St} (he : Ext s (back s s1) g) (hw : Went (limF fr ft ps s) s1) (ho : Over (limF fr ft ps s) s1 (limF fr ft ps g) g1) : Over s (back s s1) g (back g g1) := by
  have lnext : (limF fr ft ps s).next = s.next := by rw [limF_eq]
  have lheap : (limF fr ft ps s).heap = s.heap := by rw [limF_eq]
  have gheap : (limF fr ft ps g).heap = g.heap := by rw [limF_eq]
  have e1 : (back g g1).heap = g1.heap := by rw [back_eq]
  have e2 : (back s s1).heap = s1.heap := by rw [back_eq]
  have e3 : (back s s1).next = s1.next := by rw [back_eq]
  refine ⟨by rw [back_eq, back_eq]; exact ho.next, by rw [back_eq], by rw [back_eq], ?_, ?_⟩
  · intro i hi
    rw [e1, e2]
    rw [e3] at hi
    by_cases hc : ((limF fr ft ps s).next ≤ i ∧ i < s1.next) ∨ ((limF fr ft ps s).get i).isSome = true
    · exact ho.here i hc
    · rw [ho.there i hc, gheap]
      rw [lnext] at hc
      have hi2 : (s.get i).isSome = true := hi.resolve_left fun e => hc (.inl e)
      rw [Option.isSome_iff_exists] at hi2
      obtain ⟨y, hy⟩ := hi2
      rw [St.get_heap (he.get i y hy)]
      have hsame : s1.heap.get i = s.heap.get i := by
        by_cases hq : s1.heap.get i = (limF fr ft ps s).heap.get i
        · rw [hq, lheap]
        · rcases hw.heap i hq with a | ⟨a, _, c⟩
          · rw [lnext] at a; exact absurd (.inl a) hc
          · refine absurd (.inr ?_) hc
            rw [get_of a]; exact c
      rw [hsame, St.get_heap hy]
  · intro i hi
    rw [e1]
    rw [e3] at hi
    rw [ho.there i, gheap]
    rintro (⟨a, b⟩ | c)
    · exact hi (.inl ⟨by rw [lnext] at a; exact a, b⟩)
    · rw [Option.isSome_iff_exists] at c
      obtain ⟨y, hy⟩ := c
      exact hi (.inr (by rw [(lim_get hy).1]; rfl))
theorem lim_framed {α : Type} {m : St → Option (α × St)} (hm : Framed m) (fr : Bool) (ft : Foot) (ps : List Past) : Framed (fun s => match m (limF fr ft ps s) with | some (x, s1) => some (x, back s s1) | none => none) := by
  intro s r s' h
  dsimp only at h
  split at h
  · rename_i x s1 h1
    cases h
    obtain ⟨w1, w2⟩ := hm _ _ _ h1
    refine ⟨lim_went w1, fun g he => ?_⟩
    obtain ⟨g1, k1, k2⟩ := w2 _ (lim_ext he w1)
    refine ⟨back g g1, ?_, lim_over he w1 k2⟩
    dsimp only
    rw [k1]
  · cases h
theorem back_next (s s' : St) : (back s s').next = s'.next := by rw [back_eq]
theorem runD_framed {call : CallT} (hc : CallFramed call) : ∀ (ops : List (AOper × List Nat)) (n : Nat) (past : List Past) (f : Frame), Framed (runD ops call n past f)
  | [], n, past, f => ret_framed f
  | (o, inc) :: os, n, past, f => by
    have hskip : Framed (fun st => runD os call (Nat.succ n) (⟨st.next, st.next, .dir [] []⟩ :: past) (f.put o.dst V.undef) st) := by
      refine bind_framed (m := fun s => some ((), s)) (k := fun _ p _ s => runD os call (Nat.succ n) (⟨p, p, .dir [] []⟩ :: past) (f.put o.dst V.undef) s) (ret_framed ()) (fun _ _ _ => runD_framed hc os _ _ _) ?_
      intro s; rfl
    cases inc with
    | nil =>
      refine either_framed (b := wanted f o.guard) (x := fun st => runDFree o (runD os) call n past f st) ?_ hskip
      refine bind_framed (m := stepOp call o.op f) (k := fun v p q s => runD os call (Nat.succ n) (⟨p, q, .call⟩ :: past) (f.put o.dst v) s) (step_framed hc _ _) (fun _ _ _ => runD_framed hc os _ _ _) ?_
      intro s
      unfold runDFree
      cases stepOp call o.op f s with
      | none => rfl
      | some p => rfl
    | cons j inc =>
      refine either_framed (b := wanted f o.guard) (x := fun st => runDLim o (runD os) call n past f st (pastsOf past n (j :: inc)) (foot o.op f.ev) (ahead n (j :: inc))) ?_ hskip
      generalize pastsOf past n (j :: inc) = ps
      generalize foot o.op f.ev = ft
      generalize ahead n (j :: inc) = fr
      cases hok : okAll ps ft with
      | false =>
        have : (fun st => runDLim o (runD os) call n past f st ps ft fr) = fun _ => none := by
          funext st
          unfold runDLim
          rw [hok]; rfl
        rw [this]
        exact none_framed
      | true =>
        refine bind_framed (k := fun v p q s => runD os call (Nat.succ n) (⟨p, q, ft⟩ :: past) (f.put o.dst v) s) (lim_framed (step_framed hc o.op f) fr ft ps) (fun _ _ _ => runD_framed hc os _ _ _) ?_
        intro s
        unfold runDLim
        rw [hok]
        show (Option.rec none (Prod.rec fun v st' => runD os call (Nat.succ n) (⟨s.next, st'.next, ft⟩ :: past) (f.put o.dst v) (back s st')) (stepOp call o.op f (limF fr ft ps s)) : Option (Frame × St)) = _
        cases stepOp call o.op f (limF fr ft ps s) with
        | none => rfl
        | some p => show _ = runD os call (Nat.succ n) (⟨s.next, (back s p.2).next, ft⟩ :: past) (f.put o.dst p.1) (back s p.2); rw [back_next]
def assoc (r : Out) : Option ((AExit × Frame) × St) := match r with | some (x, f, s) => some ((x, f), s) | none => none
def FramedC (m : St → Out) : Prop := Framed (fun s => assoc (m s))
theorem normal_framed {m : St → Option (Frame × St)} (hm : Framed m) : FramedC (fun s => normalOut (m s)) := by
  refine bind_framed (k := fun f _ _ s => some ((.normal, f), s)) hm (fun f _ _ => ret_framed _) ?_
  intro s
  show assoc (normalOut (m s)) = _
  cases m s with
  | none => rfl
  | some p => rfl
theorem then_framed {m : St → Out} {k : Frame → St → Out} (hm : FramedC m) (hk : ∀ f, FramedC (k f)) : FramedC (fun s => andThen (m s) (k)) := by
  refine bind_framed (m := fun s => assoc (m s)) (k := fun (p : AExit × Frame) _ _ s => match p with | (.normal, f) => assoc (k f s) | (x, f) => some ((x, f), s)) hm ?_ ?_
  · intro p n n'
    obtain ⟨x, f⟩ := p
    cases x with
    | normal => exact hk f
    | ret => exact ret_framed _
    | exit id => exact ret_framed _
  · intro s
    show assoc (andThen (m s) k) = _
    cases m s with
    | none => rfl
    | some p =>
      obtain ⟨x, f, s1⟩ := p
      cases x <;> rfl
theorem loop_framed {b : Frame → St → Out} (hb : ∀ f, FramedC (b f)) : ∀ (n : Nat) (f : Frame), FramedC (loopN b n f)
  | 0, f => fun s r s' h => by cases h
  | n + 1, f => then_framed (hb f) (loop_framed hb n)
def HandFramed (hd : Hand) : Prop := ∀ i args, Framed (hd i args)
theorem plainY_framed {m : St → Option (V × St)} (hm : Framed m) (p : Option AExit) : Framed (fun st => plainY p (m st)) := by
  refine bind_framed (k := fun v _ _ s => some ((v, p), s)) hm (fun v _ _ => ret_framed _) ?_
  intro s
  show plainY p (m s) = _
  cases m s with
  | none => rfl
  | some q => rfl
theorem stepY_framed {hd : Hand} {call : CallT} (hh : HandFramed hd) (hc : CallFramed call) (o : AOp) (f : Frame) (p : Option AExit) : Framed (stepY hd call o f p) := by
  have plain := plainY_framed (step_framed hc o f) p
  cases o with
  | callv s args =>
    show Framed (fun st => yieldY hd (args.map f.ev) st (plainY p (stepOp call (.callv s args) f st)) p (f.ev s))
    cases p with
    | none => cases f.ev s with
      | yield i => exact hh i _
      | _ => exact plain
    | some x => exact plain
  | _ => exact plain
theorem runY_framed {hd : Hand} {call : CallT} (hh : HandFramed hd) (hc : CallFramed call) : ∀ (ops : List AOper) (f : Frame) (p : Option AExit), Framed (runY hd call ops f p)
  | [], f, p => ret_framed _
  | o :: os, f, p => by
    refine either_framed (b := wanted f o.guard) (x := fun st => (match stepY hd call o.op f p st with | some ((v, p'), st') => runY hd call os (f.put o.dst v) p' st' | none => none)) ?_ (runY_framed hh hc os (f.put o.dst V.undef) p)
    refine bind_framed (k := fun (x : V × Option AExit) _ _ s => runY hd call os (f.put o.dst x.1) x.2 s) (stepY_framed hh hc o.op f p) (fun _ _ _ => runY_framed hh hc os _ _) ?_
    intro s
    show (match stepY hd call o.op f p s with | some ((v, p'), st') => runY hd call os (f.put o.dst v) p' st' | none => none) = _
    cases stepY hd call o.op f p s with
    | none => rfl
    | some q => rfl
theorem thenY_framed {m : St → OutY} {k : Frame → Option AExit → St → OutY} (hm : Framed m) (hk : ∀ f p, Framed (k f p)) : Framed (fun s => thenY (m s) k) := by
  refine bind_framed (m := m) (k := fun (q : AExit × Frame × Option AExit) _ _ s => match q with | (.normal, f, p) => k f p s | q => some (q, s)) hm ?_ ?_
  · intro q n n'
    obtain ⟨x, f, p⟩ := q
    cases x with
    | normal => exact hk f p
    | ret => exact ret_framed _
    | exit id => exact ret_framed _
  · intro s
    show thenY (m s) k = _
    cases m s with
    | none => rfl
    | some q =>
      obtain ⟨⟨x, f, p⟩, s1⟩ := q
      cases x <;> rfl
theorem loopY_framed {b : Frame → Option AExit → St → OutY} (hb : ∀ f p, Framed (b f p)) : ∀ (n : Nat) (f : Frame) (p : Option AExit), Framed (loopY b n f p)
  | 0, f, p => none_framed
  | n + 1, f, p => thenY_framed (hb f p) (loopY_framed hb n)
theorem evY_framed {hd : Hand} {call : CallT} (hh : HandFramed hd) (hc : CallFramed call) (lf : Nat) : ∀ (c : ACode) (f : Frame) (p : Option AExit), Framed (evY hd call lf c f p)
  | .skip, f, p => ret_framed _
  | .reg ops, f, p => by
    refine bind_framed (k := fun (x : Frame × Option AExit) _ _ s => some ((AExit.normal, x.1, x.2), s)) (runY_framed hh hc ops f p) (fun _ _ _ => ret_framed _) ?_
    intro s
    show normalY (runY hd call ops f p s) = _
    cases runY hd call ops f p s with
    | none => rfl
    | some q => rfl
  | .dreg ops, f, p => by
    refine bind_framed (k := fun (f : Frame) _ _ s => some ((AExit.normal, f, p), s)) (runD_framed hc ops 0 [] f) (fun _ _ _ => ret_framed _) ?_
    intro s
    show outY p (runD ops call 0 [] f s) = _
    cases runD ops call 0 [] f s with
    | none => rfl
    | some q => rfl
  | .seq a b, f, p => thenY_framed (evY_framed hh hc lf a f p) (evY_framed hh hc lf b)
  | .cond c a b, f, p => by
    show Framed (fun s => condY (evY hd call lf a f p s) (evY hd call lf b f p s) (f.ev c))
    cases f.ev c with
    | bool t => cases t with
      | true => exact evY_framed hh hc lf a f p
      | false => exact evY_framed hh hc lf b f p
    | _ => exact none_framed
  | .block id c, f, p => by
    refine bind_framed (k := fun (q : AExit × Frame × Option AExit) _ _ s => blockY id (some (q, s))) (evY_framed hh hc lf c f p) ?_ ?_
    · intro q n n'
      obtain ⟨x, f1, p1⟩ := q
      cases x with
      | normal => exact ret_framed _
      | ret => exact ret_framed _
      | exit j =>
        show Framed fun s => sel (Nat.beq j id) (some ((AExit.normal, f1, p1), s)) (some ((AExit.exit j, f1, p1), s))
        cases Nat.beq j id
        · exact ret_framed _
        · exact ret_framed _
    · intro s
      show blockY id (evY hd call lf c f p s) = _
      cases evY hd call lf c f p s with
      | none => rfl
      | some q => rfl
  | .loop c, f, p => loopY_framed (fun f p => evY_framed hh hc lf c f p) lf f p
  | .exit id, f, p => ret_framed _
  | .ret, f, p => ret_framed _
  | .range _ _ _ _ _ _, f, p => none_framed
theorem skip_framed : Framed (fun s => St.skip s) := by
  refine bind_framed (m := fun s => s.alloc (.cells true [])) (k := fun i _ _ s => match s.set i none with | some s2 => some (i, s2) | none => none) (alloc_framed _) ?_ ?_
  · intro i _ _ s r s' h
    dsimp only at h ⊢
    cases hs : s.set i none with
    | none => rw [hs] at h; cases h
    | some s2 =>
      rw [hs] at h
      cases h
      obtain ⟨h1, h2⟩ := set_framed _ _ _ _ hs
      refine ⟨h1, fun g hg => ?_⟩
      obtain ⟨g', k1, k2⟩ := h2 g hg
      exact ⟨g', by rw [k1], k2⟩
  · intro s
    show St.skip s = _
    unfold St.skip
    cases s.alloc (.cells true []) with
    | none => rfl
    | some p => rfl
theorem round_framed {a b : Frame → St → Out} (ha : ∀ f, FramedC (a f)) (hb : ∀ f, FramedC (b f)) (ps : List Pos) (f : Frame) (i : Nat) : HandFramed (round ps a b f i) := by
  intro j args
  show Framed fun st => sel (Nat.beq j i) (match layAll ps args f with | some fr => (match a fr st with | some (.normal, f1, s1) => roundEnd (b f1 s1) | _ => none) | none => none) none
  cases Nat.beq j i with
  | false => exact none_framed
  | true =>
    show Framed fun st => (match layAll ps args f with | some fr => (match a fr st with | some (.normal, f1, s1) => roundEnd (b f1 s1) | _ => none) | none => none)
    cases layAll ps args f with
    | none => exact none_framed
    | some fr =>
      have hend : ∀ f1, Framed (fun s => roundEnd (b f1 s)) := fun f1 => by
        refine bind_framed (m := fun s => assoc (b f1 s)) (k := fun (q : AExit × Frame) _ _ s => match q.1 with | .normal => some ((V.bool true, (none : Option AExit)), s) | .ret => some ((V.bool false, some AExit.ret), s) | .exit id => some ((V.bool false, some (AExit.exit id)), s)) (hb f1) ?_ ?_
        · intro q n n'
          obtain ⟨x, f2⟩ := q
          cases x with
          | normal => exact ret_framed _
          | ret => exact ret_framed _
          | exit id => exact ret_framed _
        · intro s
          show roundEnd (b f1 s) = _
          cases h : b f1 s with
          | none => rfl
          | some q =>
            obtain ⟨x, f2, s2⟩ := q
            cases x <;> rfl
      refine bind_framed (m := fun s => assoc (a fr s)) (k := fun (q : AExit × Frame) _ _ s => match q with | (.normal, f1) => roundEnd (b f1 s) | _ => none) (ha fr) ?_ ?_
      · intro q n n'
        obtain ⟨x, f2⟩ := q
        cases x with
        | normal => exact hend f2
        | ret => exact none_framed
        | exit id => exact none_framed
      · intro s
        show (match a fr s with | some (.normal, f1, s1) => roundEnd (b f1 s1) | _ => none) = _
        cases h : a fr s with
        | none => rfl
        | some q =>
          obtain ⟨x, f2, s2⟩ := q
          cases x <;> rfl
theorem ev_framed {call : CallT} (hc : CallFramed call) (lf : Nat) : ∀ (c : ACode) (f : Frame), FramedC (ev c call lf f)
  | .skip, f => ret_framed (α := AExit × Frame) (AExit.normal, f)
  | .reg ops, f => normal_framed (runOps_framed hc ops f)
  | .dreg ops, f => normal_framed (runD_framed hc ops 0 [] f)
  | .seq a b, f => then_framed (ev_framed hc lf a f) (ev_framed hc lf b)
  | .cond c a b, f => by
    show FramedC (fun s => evCondB (ev a) (ev b) call lf f s (f.ev c))
    cases f.ev c with
    | bool t => cases t with
      | true => exact ev_framed hc lf a f
      | false => exact ev_framed hc lf b f
    | _ => exact fun s r s' h => by cases h
  | .block id c, f => by
    refine bind_framed (m := fun s => assoc (ev c call lf f s)) (k := fun (p : AExit × Frame) _ _ s => assoc (blockExit id p.1 (p.2, s))) (ev_framed hc lf c f) ?_ ?_
    · intro p n n'
      obtain ⟨x, f1⟩ := p
      cases x with
      | normal => exact ret_framed _
      | ret => exact ret_framed _
      | exit j =>
        show Framed fun s => assoc (sel (Nat.beq j id) (some (.normal, f1, s)) (some (.exit j, f1, s)))
        cases Nat.beq j id
        · exact ret_framed _
        · exact ret_framed _
    · intro s
      show assoc (Option.rec none (Prod.rec (blockExit id)) (ev c call lf f s)) = _
      cases h : ev c call lf f s with
      | none => rfl
      | some p =>
        obtain ⟨x, f1, s1⟩ := p
        rfl
  | .loop c, f => loop_framed (fun f => ev_framed hc lf c f) lf f
  | .exit id, f => ret_framed (α := AExit × Frame) (AExit.exit id, f)
  | .ret, f => ret_framed (α := AExit × Frame) (AExit.ret, f)
  | .range g ps a b it itc, f => by
    show FramedC (fun st => rangeV ps (ev a) (ev b) it itc call lf f st (f.ev g))
    cases f.ev g with
    | func gf fst cap =>
      cases fst with
      | cons _ _ => exact fun s r s' h => by cases h
      | nil =>
        show FramedC (fun st => sel (Nat.beq gf it) (match st.skip with | some (i, st1) => rangeOut f (evY (round ps (ev a call lf) (ev b call lf) f i) call lf itc (initFrame (.yield i :: cap) 0 .nil) none st1) | none => none) none)
        cases Nat.beq gf it with
        | false => exact fun s r s' h => by cases h
        | true =>
          have hr : ∀ i, Framed (fun s => assoc (rangeOut f (evY (round ps (ev a call lf) (ev b call lf) f i) call lf itc (initFrame (.yield i :: cap) 0 .nil) none s))) := fun i => by
            refine bind_framed (k := fun (q : AExit × Frame × Option AExit) _ _ s => assoc (rangeOut f (some (q, s)))) (evY_framed (round_framed (ev_framed hc lf a) (ev_framed hc lf b) ps f i) hc lf itc (initFrame (.yield i :: cap) 0 .nil) none) ?_ ?_
            · intro q n n'
              obtain ⟨x, f1, p⟩ := q
              cases x with
              | normal => cases p <;> exact ret_framed _
              | ret => cases p <;> exact ret_framed _
              | exit id => exact none_framed
            · intro s
              show assoc (rangeOut f (evY (round ps (ev a call lf) (ev b call lf) f i) call lf itc (initFrame (.yield i :: cap) 0 .nil) none s)) = _
              cases evY (round ps (ev a call lf) (ev b call lf) f i) call lf itc (initFrame (.yield i :: cap) 0 .nil) none s with
              | none => rfl
              | some q => rfl
          refine bind_framed (m := fun s => St.skip s) (k := fun i _ _ s => assoc (rangeOut f (evY (round ps (ev a call lf) (ev b call lf) f i) call lf itc (initFrame (.yield i :: cap) 0 .nil) none s))) skip_framed (fun i _ _ => hr i) ?_
          intro s
          show assoc (match s.skip with | some (i, st1) => rangeOut f (evY (round ps (ev a call lf) (ev b call lf) f i) call lf itc (initFrame (.yield i :: cap) 0 .nil) none st1) | none => none) = _
          cases s.skip with
          | none => rfl
          | some q => rfl
    | _ => exact fun s r s' h => by cases h
theorem resOf_framed {f : Frame} {r : ARes} {v : V} {s s' g : St} (h : resOf f s r = some v) (he : Ext s s' g) : resOf f g r = some v := by
  cases r with
  | tmp t => exact h
  | cell t a n =>
    unfold resOf at h ⊢
    dsimp only at h ⊢
    split at h
    · rename_i i o hv
      cases a with
      | true =>
        have h : (match s.loadN i o n with | some l => some (V.agg l) | none => none) = some v := h
        split at h
        · rename_i l hl; cases h
          show (match g.loadN i o n with | some l => some (V.agg l) | none => none) = _
          rw [loadN_framed hl he]
        · cases h
      | false => exact load1_framed (show s.load1 i o = some v from h) he
    · cases h
theorem resultsOf_framed {f : Frame} : ∀ {rs : List ARes} {vs : List V} {s s' g : St}, resultsOf f s rs = some vs → Ext s s' g → resultsOf f g rs = some vs
  | [], vs, s, s', g, h, he => h
  | r :: rs, vs, s, s', g, h, he => by
    simp only [resultsOf] at h ⊢
    split at h
    · rename_i v vs' h1 h2
      rw [resOf_framed h1 he, resultsOf_framed h2 he]
      exact h
    · cases h
theorem enter_framed {call : CallT} (hc : CallFramed call) (lf : Nat) (args : List V) (fn : AFunc) : Framed (fun s => enterF call lf args s fn) := by
  refine bind_framed (m := fun s => assoc (ev fn.code call lf (initFrame args 0 .nil) s)) (k := fun (p : AExit × Frame) _ _ s => finish fn.results p.1 (p.2, s)) (ev_framed hc lf _ _) ?_ ?_
  · intro p n n'
    obtain ⟨x, f1⟩ := p
    have main : Framed (fun s => match resultsOf f1 s fn.results with | some vs => some (oneOf vs, s) | none => none) := by
      intro s r s' h
      dsimp only at h
      split at h
      · rename_i vs hvs
        cases h
        exact ⟨Went.refl _, fun g he => ⟨g, by dsimp only; rw [resultsOf_framed hvs he], Over.refl _ _ he⟩⟩
      · cases h
    cases x with
    | normal => exact main
    | ret => exact main
    | exit j => exact none_framed
  · intro s
    show (Option.rec none (Prod.rec (finish fn.results)) (ev fn.code call lf (initFrame args 0 .nil) s) : Option (V × St)) = _
    cases h : ev fn.code call lf (initFrame args 0 .nil) s with
    | none => rfl
    | some p =>
      obtain ⟨x, f1, s1⟩ := p
      rfl
theorem callF_framed (C : T AFunc) (lf : Nat) : ∀ d, CallFramed (callF C lf d)
  | 0 => fun g args => none_framed
  | d + 1 => fun g args => by
    show Framed fun s => (Option.rec none (enterF (callF C lf d) lf args s) (T.get C g) : Option (V × St))
    cases T.get C g with
    | none => exact none_framed
    | some fn => exact enter_framed (callF_framed C lf d) lf args fn
end Go.Vabs

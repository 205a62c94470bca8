/-
  Ranges over slices.Chunk.
-/
import Derived.Test.YtglopgoonbocpaaVabsNb
import Derived.Test.YtglopgoonbocpaaVabsRb
namespace Go.Vabs.Ca
set_option linter.unusedVariables false
set_option linter.unusedSimpArgs false
set_option maxRecDepth 10000
def chunkIt : ACode := (.seq (.reg [AOper.mk (some (.i (.o .h))) (.mv (.c (.int .i64 (.ofNat 0)))) none]) (.block 0 (.loop (.seq (.seq (.reg [AOper.mk (some (.i (.i .h))) (.mv (.t (.i (.o .h)))) none, AOper.mk (some (.o (.o (.o .h)))) (.load false 1 (.t (.o .h))) none, AOper.mk (some (.i (.o (.o .h)))) (.len .slice (.t (.o (.o (.o .h))))) none, AOper.mk (some (.o (.i (.o .h)))) (.bin .lss (.val .int) (.t (.i (.i .h))) (.t (.i (.o (.o .h))))) none]) (.cond (.t (.o (.i (.o .h)))) .skip (.exit 0))) (.seq (.block 1 (.seq (.dreg [(AOper.mk (some (.o (.i (.i .h)))) (.load false 1 (.t (.i .h))) none, [1]), (AOper.mk (some (.i (.i (.i .h)))) (.load false 1 (.t (.o .h))) none, [0]), (AOper.mk (some (.o (.o (.o (.o .h))))) (.mv (.t (.i (.o .h)))) none, []), (AOper.mk (some (.i (.o (.o (.o .h))))) (.slice (.slice 1) (.t (.i (.i (.i .h)))) (some (.t (.o (.o (.o (.o .h)))))) none none) none, []), (AOper.mk (some (.o (.i (.o (.o .h))))) (.len .slice (.t (.i (.o (.o (.o .h)))))) none, []), (AOper.mk (some (.i (.i (.o (.o .h))))) (.minmax false (.t (.o (.i (.i .h)))) [.t (.o (.i (.o (.o .h))))]) none, []), (AOper.mk (some (.o (.i .h))) (.mv (.t (.i (.i (.o (.o .h)))))) none, [])]) (.seq (.reg [AOper.mk (some (.o (.o (.i (.o .h))))) (.mv (.t .h)) none, AOper.mk (some (.i (.o (.i (.o .h))))) (.load false 1 (.t (.o .h))) none, AOper.mk (some (.o (.i (.i (.o .h))))) (.mv (.t (.i (.o .h)))) none, AOper.mk (some (.i (.i (.i (.o .h))))) (.mv (.t (.i (.o .h)))) none, AOper.mk (some (.o (.o (.o (.i .h))))) (.mv (.t (.o (.i .h)))) none, AOper.mk (some (.i (.o (.o (.i .h))))) (.bin .add (.val .int) (.t (.i (.i (.i (.o .h))))) (.t (.o (.o (.o (.i .h)))))) none, AOper.mk (some (.o (.i (.o (.i .h))))) (.mv (.t (.i (.o .h)))) none, AOper.mk (some (.i (.i (.o (.i .h))))) (.mv (.t (.o (.i .h)))) none, AOper.mk (some (.o (.o (.i (.i .h))))) (.bin .add (.val .int) (.t (.o (.i (.o (.i .h))))) (.t (.i (.i (.o (.i .h)))))) none, AOper.mk (some (.i (.o (.i (.i .h))))) (.slice (.slice 1) (.t (.i (.o (.i (.o .h))))) (some (.t (.o (.i (.i (.o .h)))))) (some (.t (.i (.o (.o (.i .h)))))) (some (.t (.o (.o (.i (.i .h))))))) none, AOper.mk (some (.o (.i (.i (.i .h))))) (.callv (.t (.o (.o (.i (.o .h))))) [.t (.i (.o (.i (.i .h))))]) none, AOper.mk (some (.i (.i (.i (.i .h))))) (.un .not (.t (.o (.i (.i (.i .h)))))) none]) (.cond (.t (.i (.i (.i (.i .h))))) .ret .skip)))) (.reg [AOper.mk (some (.i (.i (.o .h)))) (.mv (.t (.i (.o .h)))) none, AOper.mk (some (.o (.o (.i .h)))) (.load false 1 (.t (.i .h))) none, AOper.mk (some (.i (.o (.i .h)))) (.bin .add (.val .int) (.t (.i (.i (.o .h)))) (.t (.o (.o (.i .h))))) none, AOper.mk (some (.i (.o .h))) (.mv (.t (.i (.o (.i .h))))) none]))))))
def Chunk_c (n_It : Nat) : AFunc := AFunc.mk 9 (.seq (.reg [AOper.mk (some (.i .h)) (.box (.t .h)) none, AOper.mk (some (.o (.o .h))) (.box (.t (.o .h))) none, AOper.mk (some (.i (.o .h))) (.mv (.c .nilFunc)) none]) (.seq (.seq (.reg [AOper.mk (some (.o (.i .h))) (.load false 1 (.t (.o (.o .h)))) none, AOper.mk (some (.i (.i .h))) (.bin .lss (.val .int) (.t (.o (.i .h))) (.c (.int .i64 (.ofNat 1)))) none]) (.cond (.t (.i (.i .h))) (.reg [AOper.mk (some (.o (.o (.o .h)))) .fail none, AOper.mk none .fail none]) .skip)) (.seq (.reg [AOper.mk (some (.i (.o (.o .h)))) (.mkfn n_It [] [.t (.i .h), .t (.o (.o .h))]) none, AOper.mk (some (.i (.o .h))) (.mv (.t (.i (.o (.o .h))))) none]) .ret))) [.tmp (.i (.o .h))]
attribute [local simp] wp_skip wp_ret wp_exit wp_reg wp_seq wp_cond wp_block thenQ_normal thenQ_ret thenQ_exit blockQ_normal blockQ_ret blockQ_exit wpCond_true wpCond_false wpOps_nil wpVal_some wpGuard_true wpGuard_false wpOps_guard wpOps_cons
  put_at put_no ev_c ev_slot posEq_h posEq_o posEq_i posEq_ho posEq_hi posEq_oh posEq_ih posEq_oi posEq_io sel_true sel_false
  okv_some step_mv step_call step_pick pickV_bool step_bin bin_add bin_sub bin_mul bin_eql bin_neq bin_lss bin_leq bin_gtr bin_geq bin_eqb bin_neb bin_eqs bin_nes step_un un_not un_neg step_len len_slice len_str len_const step_extract extractV nth step_convInt conv_int step_convStr step_slice step_idxAddr natOf_nat step_load step_index step_field step_fieldAddr step_build step_minmax
  step_alloc step_bslice bsliceV_some newV_some step_store step_append boolIs_b boolIs_t finQ_ret finQ_normal ressE_nil ressE_cons resE_tmp consO_some initE_nil initE_cons pos_0 pos_1 pos_2 pos_3 pos_4 pos_5 pos_6 pos_7 pos_8 plain_bool plain_int plain_str plain_ptr plain_slice plain_map plain_agg plain_func plain_nilFunc V.undef oneOf_one oneOf_two ble_self
open Go.Vabs.Pk Go.Vabs.Sa Go.Vabs.Sb Go.Vabs.Sc
attribute [local simp] step_nilchk nilchk_ptr step_box cells_int cells_bool cells_str cells_slice cells_ptr cells_agg fieldAddrV natOf_zero fill repN splice over newV step_appendZ
  wp_dreg wpDs_nil wpDs_cons wantedE_none wantedE_some wpDGuard_true wpDGuard_lim wpDGuard_false wpDLim_true wpDVal_free wpDVal_lim back_limited next_limited limF_dir foot_load foot_convStr okAll_nil okAll_cons pastsOf nthP ahead few_next load_limited convStr_limited blt_dec okPair_dd okPair_dc okPair_cd okPair_cc anyIn_nil anyIn_same anyIn_cons meets_nil meets_nil'
/- RANGES OVER A FUNCTION: what must hold ahead of the function's own code. -/
abbrev GoalY := AExit → Env → Option AExit → St → Prop
def wpY (hd : Hand) (call : CallT) (lf : Nat) (c : ACode) (s : Env) (p : Option AExit) (st : St) (Q : GoalY) : Prop :=
  ∀ f, envOf f = s → ∃ x f' p' st', evY hd call lf c f p st = some ((x, f', p'), st') ∧ Q x (envOf f') p' st'
section
variable {hd : Hand} {call : CallT} {lf : Nat} {s : Env} {p : Option AExit} {st : St} {Q : GoalY}
theorem wpY_skip (h : Q .normal s p st) : wpY hd call lf .skip s p st Q := fun f hf => ⟨.normal, f, p, st, rfl, by rw [hf]; exact h⟩
theorem wpY_ret (h : Q .ret s p st) : wpY hd call lf .ret s p st Q := fun f hf => ⟨.ret, f, p, st, rfl, by rw [hf]; exact h⟩
theorem wpY_exit {id : Nat} (h : Q (.exit id) s p st) : wpY hd call lf (.exit id) s p st Q := fun f hf => ⟨.exit id, f, p, st, rfl, by rw [hf]; exact h⟩
def thenYQ (hd : Hand) (call : CallT) (lf : Nat) (b : ACode) (Q : GoalY) : GoalY
  | .normal, s, p, st => wpY hd call lf b s p st Q
  | x, s, p, st => Q x s p st
theorem wpY_seq {a b : ACode} (h : wpY hd call lf a s p st (thenYQ hd call lf b Q)) : wpY hd call lf (.seq a b) s p st Q := fun f hf => by
  obtain ⟨x, f1, p1, st1, h1, h2⟩ := h f hf
  show ∃ x f' p' st', thenY (evY hd call lf a f p st) (evY hd call lf b) = some ((x, f', p'), st') ∧ Q x (envOf f') p' st'
  rw [h1]
  cases x with
  | normal => exact h2 f1 rfl
  | ret => exact ⟨.ret, f1, p1, st1, rfl, h2⟩
  | exit id => exact ⟨.exit id, f1, p1, st1, rfl, h2⟩
theorem wpY_cond {c : Src} {a b : ACode} {t : Bool} (ht : s.ev c = .bool t) (h : if t then wpY hd call lf a s p st Q else wpY hd call lf b s p st Q) : wpY hd call lf (.cond c a b) s p st Q := fun f hf => by
  show ∃ x f' p' st', condY (evY hd call lf a f p st) (evY hd call lf b f p st) (f.ev c) = some ((x, f', p'), st') ∧ Q x (envOf f') p' st'
  rw [envOf_ev, hf, ht]
  cases t with
  | true => exact (show wpY hd call lf a s p st Q from h) f hf
  | false => exact (show wpY hd call lf b s p st Q from h) f hf
theorem thenYQ_normal {b : ACode} : thenYQ hd call lf b Q .normal s p st ↔ wpY hd call lf b s p st Q := Iff.rfl
theorem thenYQ_ret {b : ACode} : thenYQ hd call lf b Q .ret s p st ↔ Q .ret s p st := Iff.rfl
def blockYQ (id : Nat) (Q : GoalY) : GoalY
  | .exit j, s, p, st => if j = id then Q .normal s p st else Q (.exit j) s p st
  | x, s, p, st => Q x s p st
theorem blockYQ_normal {id : Nat} : blockYQ id Q .normal s p st ↔ Q .normal s p st := Iff.rfl
theorem blockYQ_ret {id : Nat} : blockYQ id Q .ret s p st ↔ Q .ret s p st := Iff.rfl
theorem wpY_block {id : Nat} {a : ACode} (h : wpY hd call lf a s p st (blockYQ id Q)) : wpY hd call lf (.block id a) s p st Q := fun f hf => by
  obtain ⟨x, f1, p1, st1, h1, h2⟩ := h f hf
  show ∃ x f' p' st', blockY id (evY hd call lf a f p st) = some ((x, f', p'), st') ∧ Q x (envOf f') p' st'
  rw [h1]
  cases x with
  | normal => exact ⟨.normal, f1, p1, st1, rfl, h2⟩
  | ret => exact ⟨.ret, f1, p1, st1, rfl, h2⟩
  | exit j =>
    have h2 : if j = id then Q .normal (envOf f1) p1 st1 else Q (.exit j) (envOf f1) p1 st1 := h2
    show ∃ x f' p' st', sel (Nat.beq j id) (some ((AExit.normal, f1, p1), st1)) (some ((AExit.exit j, f1, p1), st1)) = some ((x, f', p'), st') ∧ Q x (envOf f') p' st'
    by_cases e : j = id
    · rw [if_pos e] at h2
      rw [e, Nat.beq_refl]
      exact ⟨.normal, f1, p1, st1, rfl, h2⟩
    · rw [if_neg e] at h2
      rw [show Nat.beq j id = false from by cases hb : Nat.beq j id with | false => rfl | true => exact absurd (Nat.eq_of_beq_eq_true hb) e]
      exact ⟨.exit j, f1, p1, st1, rfl, h2⟩
def callless : AOp → Bool
  | .callv _ _ => false
  | _ => true
theorem stepY_plain {o : AOp} {f : Frame} (ho : callless o = true) : stepY hd call o f p st = plainY p (stepOp call o f st) := by
  cases o <;> first | rfl | cases ho
theorem runY_plain : ∀ {os : List AOper} {f : Frame} {st : St} {f' : Frame} {st' : St}, (os.all fun o => callless o.op) = true → runOps os call f st = some (f', st') → ∀ rest, runY hd call (os ++ rest) f p st = runY hd call rest f' p st'
  | [], f, st, f', st', _, h, rest => by cases h; rfl
  | o :: os, f, st, f', st', ha, h, rest => by
    rw [List.all_cons, Bool.and_eq_true] at ha
    have h : either (wanted f o.guard) (Option.rec none (Prod.rec fun v st' => runOps os call (f.put o.dst v) st') (stepOp call o.op f st)) (runOps os call (f.put o.dst V.undef) st) = some (f', st') := h
    show either (wanted f o.guard) (match stepY hd call o.op f p st with | some ((v, p'), st') => runY hd call (os ++ rest) (f.put o.dst v) p' st' | none => none) (runY hd call (os ++ rest) (f.put o.dst V.undef) p st) = _
    cases hw : wanted f o.guard with
    | none => rw [hw] at h; cases h
    | some w =>
      rw [hw] at h
      cases w with
      | false => exact runY_plain ha.2 h rest
      | true =>
        rw [stepY_plain ha.1]
        cases hs : stepOp call o.op f st with
        | none => rw [hs] at h; cases h
        | some q =>
          obtain ⟨v, st1⟩ := q
          rw [hs] at h
          exact runY_plain ha.2 h rest
theorem wpY_reg {ops : List AOper} (ha : (ops.all fun o => callless o.op) = true) (h : wpOps call ops s st fun _ s' st' => Q .normal s' p st') : wpY hd call lf (.reg ops) s p st Q := fun f hf => by
  obtain ⟨s', st', h1, h2⟩ := h
  rw [← hf] at h1
  obtain ⟨f', k1, rfl⟩ := runE_ok h1
  refine ⟨.normal, f', p, st', ?_, h2⟩
  show normalY (runY hd call ops f p st) = _
  have := runY_plain (hd := hd) (p := p) ha k1 []
  rw [List.append_nil] at this
  rw [this]
  rfl
/-- Operations, a call of yield, operations. -/
theorem wpY_yield {ops pre post : List AOper} {d : Option Pos} {g : Src} {xs : List Src} (ho : ops = pre ++ ⟨d, .callv g xs, none⟩ :: post) (ha : (pre.all fun o => callless o.op) = true) (hb : (post.all fun o => callless o.op) = true)
    (h : wpOps call pre s st fun _ s1 st1 => ∃ i v p' st2, s1.ev g = .yield i ∧ hd i (xs.map s1.ev) st1 = some ((v, p'), st2) ∧ wpOps call post (s1.put d v) st2 fun _ s2 st3 => Q .normal s2 p' st3) : wpY hd call lf (.reg ops) s none st Q := fun f hf => by
  obtain ⟨s1, st1, h1, i, v, p', st2, h2, h3, s2, st3, h4, h5⟩ := h
  rw [← hf] at h1
  obtain ⟨f1, k1, rfl⟩ := runE_ok h1
  rw [← envOf_put] at h4
  obtain ⟨f2, k2, rfl⟩ := runE_ok h4
  refine ⟨.normal, f2, p', st3, ?_, h5⟩
  show normalY (runY hd call ops f none st) = _
  rw [ho, runY_plain ha k1]
  show normalY (match stepY hd call (.callv g xs) f1 none st1 with | some ((v, p'), st') => runY hd call post (f1.put d v) p' st' | none => none) = _
  have hy : stepY hd call (.callv g xs) f1 none st1 = some ((v, p'), st2) := by
    show yieldY hd (xs.map f1.ev) st1 (plainY none (stepOp call (.callv g xs) f1 st1)) none (f1.ev g) = _
    rw [envOf_ev, h2]
    exact h3
  rw [hy]
  show normalY (runY hd call post (f1.put d v) p' st2) = _
  have := runY_plain (hd := hd) (p := p') hb k2 []
  rw [List.append_nil] at this
  rw [this]
  rfl
theorem wpY_yieldAt (k : Nat) {ops : List AOper} {d : Option Pos} {g : Src} {xs : List Src} (ho : ops[k]? = some ⟨d, .callv g xs, none⟩) (ha : ((ops.take k).all fun o => callless o.op) = true) (hb : ((ops.drop (k + 1)).all fun o => callless o.op) = true)
    (h : wpOps call (ops.take k) s st fun _ s1 st1 => ∃ i v p' st2, s1.ev g = .yield i ∧ hd i (xs.map s1.ev) st1 = some ((v, p'), st2) ∧ wpOps call (ops.drop (k + 1)) (s1.put d v) st2 fun _ s2 st3 => Q .normal s2 p' st3) : wpY hd call lf (.reg ops) s none st Q := by
  refine wpY_yield (pre := ops.take k) (post := ops.drop (k + 1)) ?_ ha hb h
  obtain ⟨hk, he⟩ := List.getElem?_eq_some_iff.1 ho
  rw [← he, List.getElem_cons_drop, List.take_append_drop]
theorem wpY_dreg {ops : List (AOper × List Nat)} (h : wpDs call ops 0 [] s st fun _ s' st' => Q .normal s' p st') : wpY hd call lf (.dreg ops) s p st Q := fun f hf => by
  obtain ⟨s', st', h1, h2⟩ := h
  rw [← hf] at h1
  obtain ⟨f', k1, rfl⟩ := runDE_ok h1
  refine ⟨.normal, f', p, st', ?_, h2⟩
  show outY p (runD ops call 0 [] f st) = _
  rw [k1]
  rfl
theorem wpY_loop {a : ACode} (I : Nat → Env → Option AExit → St → Prop) (n : Nat) (h0 : I n s p st) (hn : n < lf)
    (h : ∀ k s p st, I k s p st → wpY hd call lf a s p st (fun x s' p' st' => match x with | .normal => ∃ m, m < k ∧ I m s' p' st' | x => Q x s' p' st')) : wpY hd call lf (.loop a) s p st Q := fun f hf => by
  have key : ∀ m, ∀ k f p st, k < m → I k (envOf f) p st → ∃ x f' p' st', loopY (evY hd call lf a) m f p st = some ((x, f', p'), st') ∧ Q x (envOf f') p' st' := by
    intro m
    induction m with
    | zero => intro k f p st hk; omega
    | succ m ih =>
      intro k f p st hk hI
      obtain ⟨x, f1, p1, st1, h1, h2⟩ := h k _ p st hI f rfl
      show ∃ x f' p' st', thenY (evY hd call lf a f p st) (loopY (evY hd call lf a) m) = some ((x, f', p'), st') ∧ Q x (envOf f') p' st'
      rw [h1]
      cases x with
      | normal =>
        obtain ⟨j, hj, hI'⟩ := h2
        exact ih j f1 p1 st1 (by omega) hI'
      | ret => exact ⟨.ret, f1, p1, st1, rfl, h2⟩
      | exit id => exact ⟨.exit id, f1, p1, st1, rfl, h2⟩
  exact key lf n f p st hn (by rw [hf]; exact h0)
end
def rangeQ (Q : Goal) (s : Env) : GoalY
  | .normal, _, none, st => Q .normal s st
  | .ret, _, none, st => Q .normal s st
  | .normal, _, some x, st => Q x s st
  | .ret, _, some x, st => Q x s st
  | .exit _, _, _, _ => False
theorem wp_range {call : CallT} {lf : Nat} {g : Src} {ps : List Pos} {asg body itc : ACode} {it i : Nat} {s : Env} {st st1 : St} {captured : List V} {Q : Goal} (hg : s.ev g = .func it [] captured) (hst : st.skip = some (i, st1))
    (h : wpY (roundE ps (evE call lf asg) (evE call lf body) s i) call lf itc (initE (.yield i :: captured) 0 env0) none st1 (rangeQ Q s)) : wp call lf (.range g ps asg body it itc) s st Q := by
  obtain ⟨x, f', p', st', h1, h2⟩ := h (initFrame (.yield i :: captured) 0 .nil) (initE_ok _ 0 .nil)
  have he : evE call lf (.range g ps asg body it itc) s st = rangeOutE s (some ((x, f', p'), st')) := by
    show rangeE ps (evE call lf asg) (evE call lf body) it itc call lf s st (s.ev g) = _
    rw [hg]
    show (if it = it then (match st.skip with | some (i, st1) => rangeOutE s (evY (roundE ps (evE call lf asg) (evE call lf body) s i) call lf itc (initFrame (.yield i :: captured) 0 .nil) none st1) | none => none) else none) = _
    rw [if_pos rfl, hst]
    show rangeOutE s (evY (roundE ps (evE call lf asg) (evE call lf body) s i) call lf itc (initFrame (.yield i :: captured) 0 .nil) none st1) = _
    rw [h1]
  unfold wp
  rw [he]
  cases x with
  | exit id => cases p' <;> exact h2.elim
  | normal => cases p' <;> exact ⟨_, _, _, rfl, h2⟩
  | ret => cases p' <;> exact ⟨_, _, _, rfl, h2⟩
theorem few_skip {os : List (Option AObj)} : (few os).skip = some (os.length, few (os ++ [none])) := by
  unfold St.skip
  rw [few_alloc]
  dsimp only
  rw [few_set (x := .cells true []) (by simp)]
  dsimp only
  rw [List.set_append_right _ _ (Nat.le_refl _), Nat.sub_self]
  rfl
/-- A round. -/
theorem roundE_ok {call : CallT} {lf : Nat} {p : Pos} {asg body : ACode} {s : Env} {st : St} {v : V} {i : Nat} {R : AExit → St → Prop}
    (h : wp call lf asg (s.put (some p) v) st fun x s1 st1 => x = .normal ∧ wp call lf body s1 st1 fun x _ st' => R x st') :
    ∃ w p' st', roundE [p] (evE call lf asg) (evE call lf body) s i i [v] st = some ((w, p'), st') ∧ ((w = .bool true ∧ p' = none ∧ R .normal st') ∨ ∃ x, w = .bool false ∧ p' = some x ∧ x ≠ .normal ∧ R x st') := by
  obtain ⟨x, s1, st1, h1, rfl, y, s2, st2, h3, h4⟩ := h
  unfold roundE
  rw [if_pos rfl]
  show ∃ w p' st', (match evE call lf asg (s.put (some p) v) st with | some (.normal, s1, st1) => roundEndE (evE call lf body s1 st1) | _ => none) = some ((w, p'), st') ∧ _
  rw [h1]
  dsimp only
  rw [h3]
  cases y with
  | normal => exact ⟨_, _, _, rfl, .inl ⟨rfl, rfl, h4⟩⟩
  | ret => exact ⟨_, _, _, rfl, .inr ⟨_, rfl, rfl, (fun h => by cases h), h4⟩⟩
  | exit id => exact ⟨_, _, _, rfl, .inr ⟨_, rfl, rfl, (fun h => by cases h), h4⟩⟩
/- slices.Chunk -/
theorem slice_cut {q o n c : Nat} {f : Bool} {k k' k2 : IntKind} {l h : Int} (h0 : 0 ≤ l) (h1 : l < h) (h2 : h ≤ c) : sliceOp (.slice 1) (.slice (some (q, o)) 1 n c f) (some (.int k l)) (some (.int k' h)) (some (.int k2 h)) = some (.slice (some (q, o + l.toNat)) 1 (h.toNat - l.toNat) (h.toNat - l.toNat) true) := by
  have e1 : bound (some (.int k2 h)) c c = some h.toNat := by
    obtain ⟨m, rfl⟩ : ∃ m : Nat, h = (m : Int) := ⟨h.toNat, by omega⟩
    show sel (Nat.ble m c) (some m) none = _
    rw [ble_t (by omega)]
    rfl
  have e2 : bound (some (.int k' h)) 0 h.toNat = some h.toNat := by
    obtain ⟨m, rfl⟩ : ∃ m : Nat, h = (m : Int) := ⟨h.toNat, by omega⟩
    show sel (Nat.ble m m) (some m) none = _
    rw [ble_t (by omega)]
    rfl
  have e3 : bound (some (.int k l)) 0 h.toNat = some l.toNat := by
    obtain ⟨m, rfl⟩ : ∃ m : Nat, l = (m : Int) := ⟨l.toNat, by omega⟩
    show sel (Nat.ble m h.toNat) (some m) none = _
    rw [ble_t (by omega)]
    rfl
  show sel (Nat.beq 1 1 || false) (match bound (some (.int k2 h)) c c with
      | some m => match bound (some (.int k' h)) 0 m with
        | some h => match bound (some (.int k l)) 0 h with
          | some l => some (V.slice (sel (Nat.beq m l && (f || true)) (some (q, o)) (shiftA (some (q, o)) (l * 1))) 1 (h - l) (m - l) (f || true))
          | none => none
        | none => none
      | none => none) none = _
  rw [e1]
  dsimp only
  rw [e2]
  dsimp only
  rw [e3]
  dsimp only
  rw [show Nat.beq h.toNat l.toNat = false from by
    cases e : Nat.beq h.toNat l.toNat with
    | false => rfl
    | true => have := Nat.eq_of_beq_eq_true e; omega, Bool.or_true]
  show some (V.slice (some (q, o + l.toNat * 1)) 1 _ _ true) = _
  rw [Nat.mul_one]
theorem slice_from {q o n c : Nat} {f : Bool} {k : IntKind} {l : Int} (h0 : 0 ≤ l) (h1 : l < n) (h2 : n ≤ c) : sliceOp (.slice 1) (.slice (some (q, o)) 1 n c f) (some (.int k l)) none none = some (.slice (some (q, o + l.toNat)) 1 (n - l.toNat) (c - l.toNat) f) := by
  obtain ⟨m, rfl⟩ : ∃ m : Nat, l = (m : Int) := ⟨l.toNat, by omega⟩
  show sel (Nat.beq 1 1 || false) (match bound (some (.int k (m : Int))) 0 n with
          | some l => some (V.slice (sel (Nat.beq c l && (f || false)) (some (q, o)) (shiftA (some (q, o)) (l * 1))) 1 (n - l) (c - l) (f || false))
          | none => none) none = _
  have e3 : bound (some (.int k (m : Int))) 0 n = some m := by
    show sel (Nat.ble m n) (some m) none = _
    rw [ble_t (by omega)]
    rfl
  rw [e3]
  dsimp only
  rw [show Nat.beq c m = false from by
    cases e : Nat.beq c m with
    | false => rfl
    | true => have := Nat.eq_of_beq_eq_true e; omega, Bool.or_false]
  rw [Nat.beq_refl, Bool.or_false]
  show some (V.slice (some (q, o + m * 1)) 1 (n - m) (c - m) f) = _
  rw [Nat.mul_one]
  rfl
set_option maxHeartbeats 1000000 in
/-- The rounds over the chunks of a slice: I: what holds ahead of each. -/
theorem wp_chunk {call : CallT} {lf : Nat} {g : Src} {p : Pos} {asg body : ACode} {it : Nat} {s : Env} {Q : Goal} {os : List (Option AObj)} {b1 b2 q o len cap n m : Nat} {f : Bool} (I : Nat → List (Option AObj) → Prop)
    (hg : s.ev g = .func it [] [.ptr (some (b1, 0)), .ptr (some (b2, 0))]) (hn : 0 < n ∧ n < 1000000) (hm : len ≤ m * n) (hlf : m < lf) (hcap : len ≤ cap) (hc : cap < 4611686018427387904)
    (hb : ∀ i X, I i X → (X[b1]?).join = some (.cells true [.slice (some (q, o)) 1 len cap f]) ∧ (X[b2]?).join = some (.cells true [.int .i64 (n : Int)]))
    (h0 : I 0 (os ++ [none]))
    (hr : ∀ j X, j * n < len → I j X → wp call lf asg (s.put (some p) (.slice (some (q, o + j * n)) 1 (min n (len - j * n)) (min n (len - j * n)) true)) (few X) fun x s1 st1 => x = .normal ∧ wp call lf body s1 st1 fun x _ st' => match x with | .normal => ∃ X', st' = few X' ∧ I (j + 1) X' | x => Q x s st')
    (he : ∀ j X, len ≤ j * n → I j X → Q .normal s (few X)) : wp call lf (.range g [p] asg body it chunkIt) s (few os) Q := by
  refine wp_range hg few_skip ?_
  unfold chunkIt
  refine wpY_seq (wpY_reg rfl ?_)
  obtain ⟨y, hy⟩ : ∃ y, y = os.length := ⟨_, rfl⟩
  rw [← hy]
  simp
  refine wpY_block ?_
  refine wpY_loop (fun k s p st => ∃ j X, j + k = m ∧ p = none ∧ st = few X ∧ I j X ∧ s .h = .yield y ∧ s (.o .h) = .ptr (some (b1, 0)) ∧ s (.i .h) = .ptr (some (b2, 0)) ∧ s (.i (.o .h)) = .int .i64 ((j * n : Nat) : Int)) m ?_ hlf ?_
  · exact ⟨0, _, by omega, rfl, rfl, h0, by simp, by simp, by simp, by simp⟩
  · rintro k t p' st ⟨j, X, hk, rfl, rfl, hI, t1, t2, t3, t4⟩
    obtain ⟨g1, g2⟩ := hb j X hI
    obtain ⟨z, hz⟩ : ∃ z, z = j * n := ⟨_, rfl⟩
    rw [← hz] at t4
    have l1 : loadV (few X) false 1 (.ptr (some (b1, 0))) = some (.slice (some (q, o)) 1 len cap f) := (load_few g1).trans rfl
    have l2 : loadV (few X) false 1 (.ptr (some (b2, 0))) = some (.int .i64 (n : Int)) := (load_few g2).trans rfl
    have hzb : z < len → z < 4611686018427387904 := fun _ => by omega
    have hdone : ¬ z < len → k = 0 ∨ True := fun _ => .inr trivial
    refine wpY_seq ?_
    refine wpY_seq (wpY_reg rfl ?_)
    by_cases hzl : z < len
    · simp (disch := omega) [t1, t2, t3, t4, l1, dltn_t, thenYQ_normal]
      refine wpY_cond (t := true) (by simp) ?_
      refine wpY_skip (thenYQ_normal.2 ?_)
      refine wpY_seq (wpY_block (wpY_seq (wpY_dreg ?_)))
      obtain ⟨e, hee⟩ : ∃ e, e = min n (len - z) := ⟨_, rfl⟩
      have hmm : mmAll false (.int .i64 (n : Int)) [.int .i64 ((len - z : Nat) : Int)] = some (.int .i64 (e : Int)) := by
        obtain ⟨d, hd⟩ : ∃ d, d = len - z := ⟨_, rfl⟩
        rw [hee, ← hd]
        rcases Nat.lt_or_ge d n with h | h
        · rw [Nat.min_eq_right (by omega)]
          simp (disch := omega) [mmAll, mm2, ltI_eq, dltn_t, sel_true, sel_false]
        · rw [Nat.min_eq_left h]
          simp (disch := omega) [mmAll, mm2, ltI_eq, dltn_f, sel_true, sel_false]
      have hsf : sliceOp (.slice 1) (.slice (some (q, o)) 1 len cap f) (some (.int .i64 (z : Int))) none none = some (.slice (some (q, o + z)) 1 (len - z) (cap - z) f) := slice_from (by omega) (by omega) (by omega)
      have hcut : sliceOp (.slice 1) (.slice (some (q, o)) 1 len cap f) (some (.int .i64 (z : Int))) (some (.int .i64 ((z : Int) + (e : Int)))) (some (.int .i64 ((z : Int) + (e : Int)))) = some (.slice (some (q, o + z)) 1 e e true) := by
        have := slice_cut (q := q) (o := o) (n := len) (c := cap) (f := f) (k := .i64) (k' := .i64) (k2 := .i64) (l := (z : Int)) (h := (z : Int) + (e : Int)) (by omega) (by omega) (by omega)
        rw [this]
        congr 2 <;> omega
      simp (disch := omega) [t1, t2, t3, t4, l1, l2, hsf, hmm, thenYQ_normal]
      refine wpY_seq (wpY_yieldAt 10 rfl rfl rfl ?_)
      have hr' := hr j X (by omega) hI
      rw [← hz, ← hee] at hr'
      obtain ⟨w, p', st', r1, r2⟩ := roundE_ok (i := y) (R := fun x st' => match x with | .normal => ∃ X', st' = few X' ∧ I (j + 1) X' | x => Q x s st') hr'
      simp (disch := omega) [t1, t2, t3, t4, l1, l2, wrap_i, hcut]
      refine ⟨w, p', st', r1, ?_⟩
      rcases r2 with ⟨rfl, rfl, X', rfl, hI'⟩ | ⟨x, rfl, rfl, hx, hR⟩
      · obtain ⟨g1', g2'⟩ := hb _ _ hI'
        have l2' : loadV (few X') false 1 (.ptr (some (b2, 0))) = some (.int .i64 (n : Int)) := (load_few g2').trans rfl
        simp (disch := omega) [t1, t2, t3, t4, l2', wrap_i, thenYQ_normal]
        refine wpY_cond (t := false) (by simp) ?_
        refine wpY_skip (blockYQ_normal.2 (thenYQ_normal.2 ?_))
        refine wpY_reg rfl ?_
        simp (disch := omega) [t1, t2, t3, t4, l2', wrap_i]
        have hjm : j < m := Nat.lt_of_mul_lt_mul_right (a := n) (by omega)
        refine ⟨k - 1, by omega, j + 1, by omega, X', rfl, hI', ?_⟩
        push_cast [hz]
        rw [Int.add_mul, Int.one_mul]
      · simp (disch := omega) [t1, t2, t3, t4, thenYQ_normal]
        refine wpY_cond (t := true) (by simp) ?_
        refine wpY_ret (blockYQ_ret.2 (thenYQ_ret.2 ?_))
        cases x with
        | normal => exact absurd rfl hx
        | ret => exact hR
        | exit id => exact hR
    · simp (disch := omega) [t1, t2, t3, t4, l1, dltn_f, thenYQ_normal]
      refine wpY_cond (t := false) (by simp) ?_
      refine wpY_exit ?_
      exact he j X (by omega) hI
theorem step_mkfn {call : CallT} {s : Env} {st : St} {g : Nat} {a b : List Src} : stepE call (.mkfn g a b) s st = okv (sel (allB V.base (a.map s.ev) && allB V.base (b.map s.ev)) (some (.func g (a.map s.ev) (b.map s.ev))) none) st := by
  refine step_of ?_
  show ex_mkfn g a b s.ev st = _
  unfold ex_mkfn
  cases allB V.base (a.map s.ev) && allB V.base (b.map s.ev) <;> rfl
theorem base_ptr {p : Option (Nat × Nat)} : V.base (.ptr p) = true := rfl
def ChunkF (it : Nat) (call : CallT) (g : Nat) : Prop := ∀ os v (n : Nat), v.cells = some [v] → v.plain = true → 0 < n → n < 1000000 → call g [v, .int .i64 (n : Int)] (few os) = some (.func it [] [.ptr (some (os.length, 0)), .ptr (some (os.length + 1, 0))], few (os ++ [some (.cells true [v]), some (.cells true [.int .i64 (n : Int)])]))
theorem ChunkF.code {base : CallT} {g lf it : Nat} : ChunkF it (Vabs.withF base g lf (Chunk_c it)) g := fun os v n hc hp h1 h2 => by
  rw [withF_same]
  obtain ⟨A, hA⟩ : ∃ A, A = os ++ [some (AObj.cells true [v])] := ⟨_, rfl⟩
  have eA : A.length = os.length + 1 := by rw [hA]; simp
  have al1 : (few os).alloc (.cells true [v]) = some (os.length, few A) := by rw [hA]; exact few_alloc os _
  obtain ⟨B, hB⟩ : ∃ B, B = A ++ [some (AObj.cells true [.int .i64 (n : Int)])] := ⟨_, rfl⟩
  have al2 : (few A).alloc (.cells true [.int .i64 (n : Int)]) = some (os.length + 1, few B) := by rw [hB, ← eA]; exact few_alloc A _
  have l2 : loadV (few B) false 1 (.ptr (some (os.length + 1, 0))) = some (.int .i64 (n : Int)) := (load_few (show (B[os.length + 1]?).join = some (.cells true [.int .i64 (n : Int)]) by rw [hB, ← eA]; simp)).trans rfl
  have hBe : os ++ [some (AObj.cells true [v]), some (.cells true [.int .i64 (n : Int)])] = B := by rw [hB, hA]; simp
  rw [hBe]
  refine enter_eq ?_
  simp (disch := omega) [hc, al1, al2, l2, dltn_f, dlt_f, step_mkfn, allB, base_ptr]
theorem ChunkF.withF {it : Nat} {call : CallT} {n g lf : Nat} {fn : AFunc} (h : ChunkF it call n) (hne : n ≠ g) : ChunkF it (Vabs.withF call g lf fn) n := fun os v z a b c d => by rw [withF_other hne]; exact h os v z a b c d
theorem ChunkF.other {it : Nat} {call : CallT} {n g : Nat} {l : List V → St → Option (V × St)} (h : ChunkF it call n) (hne : n ≠ g) : ChunkF it (withL call g l) n := fun os v z a b c d => by rw [withL_other hne]; exact h os v z a b c d

end Go.Vabs.Ca

namespace Go.Vabs.Cb
set_option linter.unusedVariables false
set_option linter.unusedSimpArgs false
set_option maxRecDepth 10000
attribute [local simp] wp_skip wp_ret wp_exit wp_reg wp_seq wp_cond wp_block thenQ_normal thenQ_ret thenQ_exit blockQ_normal blockQ_ret blockQ_exit wpCond_true wpCond_false wpOps_nil wpVal_some wpGuard_true wpGuard_false wpOps_guard wpOps_cons
  put_at put_no ev_c ev_slot posEq_h posEq_o posEq_i posEq_ho posEq_hi posEq_oh posEq_ih posEq_oi posEq_io sel_true sel_false
  okv_some step_mv step_call step_pick pickV_bool step_bin bin_add bin_sub bin_mul bin_eql bin_neq bin_lss bin_leq bin_gtr bin_geq bin_eqb bin_neb bin_eqs bin_nes step_un un_not un_neg step_len len_slice len_str len_const step_extract extractV nth step_convInt conv_int step_convStr step_slice step_idxAddr natOf_nat step_load step_index step_field step_fieldAddr step_build step_minmax
  step_alloc step_bslice bsliceV_some newV_some step_store step_append boolIs_b boolIs_t finQ_ret finQ_normal ressE_nil ressE_cons resE_tmp consO_some initE_nil initE_cons pos_0 pos_1 pos_2 pos_3 pos_4 pos_5 pos_6 pos_7 pos_8 plain_bool plain_int plain_str plain_ptr plain_slice plain_map plain_agg plain_func plain_nilFunc V.undef oneOf_one oneOf_two ble_self
open Go.Vabs.Pk Go.Vabs.Ph Go.Vabs.Sa Go.Vabs.Sb Go.Vabs.Sc Go.Vabs.Sd Go.Vabs.Se Go.Vabs.Sg Go.Vabs.Sh Go.Vabs.Sm Go.Vabs.Sn Go.Vabs.Sp Go.Vabs.Sr Go.Vabs.St Go.Vabs.Su Go.Vabs.L2 Go.Vabs.Na Go.Vabs.Nb Go.Vabs.Ra Go.Vabs.Rb Go.Vabs.Rc Go.Vabs.Rd Go.Vabs.Re Go.Vabs.Ca
attribute [local simp] step_nilchk nilchk_ptr step_box cells_int cells_bool cells_str cells_slice cells_ptr cells_agg fieldAddrV natOf_zero fill repN splice over newV step_appendZ
  wp_dreg wpDs_nil wpDs_cons wantedE_none wantedE_some wpDGuard_true wpDGuard_lim wpDGuard_false wpDLim_true wpDVal_free wpDVal_lim back_limited next_limited limF_dir foot_load foot_convStr okAll_nil okAll_cons pastsOf nthP ahead few_next load_limited convStr_limited blt_dec okPair_dd okPair_dc okPair_cd okPair_cc anyIn_nil anyIn_same anyIn_cons meets_nil meets_nil'
/- LISTS OF ELEMENTS OF SEVERAL CELLS -/
section
variable {α : Type}
def elV (f : α → List V) (L : List α) : List V := (L.map f).flatten
def elS (e q n : Nat) : V := if n = 0 then .slice none 0 0 0 true else .slice (some (q, 0)) e n n false
theorem elS_len {st : St} {e q n : Nat} : lenV st .slice (elS e q n) = some (.int .i64 (n : Int)) := by unfold elS; split <;> (first | (rename_i h0; rw [h0]; rfl) | rfl)
theorem elS_plain {e q n : Nat} : (elS e q n).plain = true := by unfold elS; split <;> rfl
theorem elS_cells {e q n : Nat} : (elS e q n).cells = some [elS e q n] := by unfold elS; split <;> rfl
theorem elV_snoc {f : α → List V} {L : List α} {a : α} : elV f (L ++ [a]) = elV f L ++ f a := by simp [elV]
theorem elV_len {f : α → List V} {e : Nat} (hf : ∀ a, (f a).length = e) : ∀ {L : List α}, (elV f L).length = L.length * e
  | [] => by simp [elV]
  | a :: L => by
    show (f a ++ elV f L).length = _
    rw [List.length_append, hf, elV_len hf, List.length_cons, Nat.add_mul, Nat.one_mul, Nat.add_comm]
theorem elV_at {f : α → List V} {e : Nat} (hf : ∀ a, (f a).length = e) : ∀ {L : List α} {k : Nat} {a : α}, L[k]? = some a → ((elV f L).drop (k * e)).take e = f a
  | [], k, a, h => by simp at h
  | b :: L, 0, a, h => by
    cases h
    show ((f b ++ elV f L).drop (0 * e)).take e = f b
    rw [Nat.zero_mul, List.drop_zero, List.take_left' (hf b)]
  | b :: L, k + 1, a, h => by
    have h : L[k]? = some a := h
    show ((f b ++ elV f L).drop ((k + 1) * e)).take e = f a
    rw [show (k + 1) * e = (f b).length + k * e from by rw [hf b, Nat.add_mul, Nat.one_mul, Nat.add_comm], List.drop_append, List.drop_of_length_le (by omega), List.nil_append, show (f b).length + k * e - (f b).length = k * e from by omega]
    exact elV_at hf h
theorem el_load {f : α → List V} {e : Nat} (hf : ∀ a, (f a).length = e) {os : List (Option AObj)} {q : Nat} {own : Bool} {L : List α} (h : (os[q]?).join = some (.cells own (elV f L))) {k : Nat} {a : α} (ha : L[k]? = some a) : loadV (few os) true e (.ptr (some (q, k * e))) = some (.agg (f a)) := by
  have hk := (List.getElem?_eq_some_iff.1 ha).1
  rw [load_fewC, cellsAt_eq, h]
  show (cut (k * e) e (elV f L)).map V.agg = _
  have : k * e + e ≤ (elV f L).length := by
    rw [elV_len hf, ← Nat.succ_mul]
    exact Nat.mul_le_mul_right _ hk
  rw [cut_of this, elV_at hf ha]
  rfl
theorem growEl {f : α → List V} {e w : Nat} (hf : ∀ a, (f a).length = e) (hw : w ≤ 64) {os : List (Option AObj)} {q n : Nat} {L : List α} (a : α) (hn : L.length = n) (hs : n ≤ 1000000) (h : n ≠ 0 → (os[q]?).join = some (.cells true (elV f L))) :
    appendV (few os) e w (elS e q n) (some 1) (some (f a)) = some (.slice (some (os.length, 0)) e (n + 1) (n + 1) false, few (Sp.setK n os q ++ [some (AObj.cells true (elV f (L ++ [a])))])) := by
  have hb : (2 * (n + 1) + 1024) * w ≤ 281474976710656 := by
    have := Nat.mul_le_mul (show 2 * (n + 1) + 1024 ≤ 3000000 by omega) hw
    omega
  rw [elV_snoc]
  unfold elS
  split
  · rename_i h0
    subst h0
    have : L = [] := List.length_eq_zero_iff.1 hn
    subst this
    rw [grow_none, if_pos ⟨hb, by rw [hf]; omega⟩]
    rfl
  · rename_i h0
    have ho : ownAt os q = some (elV f L) := by rw [ownAt_eq, h h0]
    rw [grow_some, ho, growC_some, if_pos ⟨hb, by rw [hf]; omega, by rw [elV_len hf, hn]⟩]
    unfold Sp.setK
    rw [if_neg h0]
/-- A list in a box, that grows. -/
structure InBox (e : Nat) (f : α → List V) (M H : Nat) (X0 X : List (Option AObj)) (q : Nat) (L : List α) : Prop where
  old : ∀ i, i < M → i ≠ H → (X[i]?).join = (X0[i]?).join
  le : M ≤ X.length
  lt : H < M
  hd : (X[H]?).join = some (.cells true [elS e q L.length])
  tb : L ≠ [] → M ≤ q ∧ (X[q]?).join = some (.cells true (elV f L))
theorem InBox.keep {e : Nat} {f : α → List V} {M H : Nat} {X0 X X' : List (Option AObj)} {q : Nat} {L : List α} (h : InBox e f M H X0 X q L) (he : ∀ i, i < X.length → (X'[i]?).join = (X[i]?).join) (hl : X.length ≤ X'.length) : InBox e f M H X0 X' q L := by
  have h1 := h.le
  have h2 := h.lt
  exact ⟨fun i hi hne => by rw [he i (by omega), h.old i hi hne], by omega, h2, by rw [he H (by omega)]; exact h.hd, fun hne => by
    obtain ⟨g1, g2⟩ := h.tb hne
    exact ⟨g1, by rw [he q (join_lt g2)]; exact g2⟩⟩
/-- One more. -/
theorem InBox.next {e w : Nat} {f : α → List V} (hf : ∀ a, (f a).length = e) (hw : w ≤ 64) {M H : Nat} {X0 X : List (Option AObj)} {q n : Nat} {L : List α} (h : InBox e f M H X0 X q L) (a : α) (hn : L.length = n) (hs : n ≤ 1000000) :
    ∃ Y Z, appendV (few X) e w (elS e q n) (some 1) (some (f a)) = some (elS e X.length (n + 1), few Y) ∧ storeV (few Y) 1 (.ptr (some (H, 0))) (some [elS e X.length (n + 1)]) = some (V.undef, few Z) ∧ InBox e f M H X0 Z X.length (L ++ [a]) := by
  have h1 := h.le
  have h2 := h.lt
  have ln : L ≠ [] ↔ n ≠ 0 := by rw [← hn]; cases L <;> simp
  obtain ⟨Y, hY⟩ : ∃ Y, Y = Sp.setK n X q ++ [some (AObj.cells true (elV f (L ++ [a])))] := ⟨_, rfl⟩
  have eY : Y.length = X.length + 1 := by rw [hY]; simp [Sp.setK_len]
  have kY : ∀ i, i < X.length → (n ≠ 0 → i ≠ q) → (Y[i]?).join = (X[i]?).join := fun i hi hne => by rw [hY, join_app (by rw [Sp.setK_len]; exact hi), Sp.setK_at hne]
  have hg := growEl hf hw (os := X) (q := q) a hn hs fun h0 => (h.tb (ln.2 h0)).2
  rw [← hY] at hg
  have hv : elS e X.length (n + 1) = .slice (some (X.length, 0)) e (n + 1) (n + 1) false := if_neg (by omega)
  have hqM : n ≠ 0 → M ≤ q := fun h0 => (h.tb (ln.2 h0)).1
  have hH : (Y[H]?).join = some (.cells true [elS e q n]) := by
    rw [kY H (by omega) (fun h0 => by have := hqM h0; omega), ← hn]
    exact h.hd
  have hst := store_few (v := elS e X.length (n + 1)) hH (o := 0) (by simp)
  refine ⟨Y, Y.set H (some (.cells true [elS e X.length (n + 1)])), by rw [hv]; exact hg, hst, fun i hi hne => ?_, by rw [List.length_set]; omega, h2, ?_, fun _ => ⟨h1, ?_⟩⟩
  · rw [join_set (by omega), kY i (by omega) (fun h0 => by have := hqM h0; omega)]
    exact h.old i hi hne
  · rw [join_set_same (by omega), List.length_append, hn]
    rfl
  · rw [join_set (by omega), hY, List.getElem?_append_right (by rw [Sp.setK_len]; exact Nat.le_refl _), Sp.setK_len, Nat.sub_self]
    rfl
end
/- BYTES WITHIN BYTES -/
theorem sub_bytes {os : List (Option AObj)} {p o w c : Nat} {f : Bool} {d : List Nat} (h : (os[p]?).join = some (newBytes d)) (hd : ∀ b ∈ d, b < 256) (how : o + w ≤ d.length) (hc : w ≤ c) : bytesAt (few os) (.slice (some (p, o)) 1 w c f) = some ((d.drop o).take w) := by
  refine lookB_at (lookB_of (own := true) (cs := bytesV d) (by rw [few_next]; exact join_lt h) (by rw [few_get]; exact h) (flats_good (List.all_eq_true.2 bytesV_flat)) hc (by rw [bytesV_len]; omega) ?_ (fun b hb => hd b (List.mem_of_mem_drop (List.mem_of_mem_take hb))))
  rw [bytesV_drop, bytesV_take]
theorem num_cut {bs : List Nat} {a x z w : Nat} (h : a + w ≤ bs.length) (hx : x + z ≤ w) : num ((bs.drop a).take w) (x : Int) z = num bs ((a + x : Nat) : Int) z := by
  rw [num_drop (by rw [List.length_take, List.length_drop]; omega), num_drop (by omega), List.drop_take, List.take_take, List.drop_drop, Nat.min_eq_left (by omega)]

end Go.Vabs.Cb

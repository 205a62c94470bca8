/- Lemmas for this claim, text Ca. No condition. -/
import Derived.Test.YtcgiiomghmffbaaVabsNb
import Derived.Test.YtcgiiomghmffbaaVabsRb
import Derived.Test.YtcgiiomghmffbaaVabsZd
import Derived.Test.YtcgiiomghmffbaaVabsSb
import Derived.Test.YtcgiiomghmffbaaVabsZj
import Derived.Test.YtcgiiomghmffbaaVabsNa
import Derived.Test.YtcgiiomghmffbaaVabsSp
namespace Go.Vabs.Ca
set_option linter.unusedVariables false
set_option linter.unusedSimpArgs false
set_option maxRecDepth 10000
def chunkIt : ACode := (.seq (.reg [AOper.mk (some (.i (.o .h))) (.mv (.c (.int .i64 (.ofNat 0)))) none]) (.block 0 (.loop (.seq (.seq (.reg [AOper.mk (some (.i (.i .h))) (.mv (.t (.i (.o .h)))) none, AOper.mk (some (.o (.o (.o .h)))) (.load false 1 (.t (.o .h))) none, AOper.mk (some (.i (.o (.o .h)))) (.len .slice (.t (.o (.o (.o .h))))) none, AOper.mk (some (.o (.i (.o .h)))) (.bin .lss (.val .int) (.t (.i (.i .h))) (.t (.i (.o (.o .h))))) none]) (.cond (.t (.o (.i (.o .h)))) .skip (.exit 0))) (.seq (.block 1 (.seq (.dreg [(AOper.mk (some (.o (.i (.i .h)))) (.load false 1 (.t (.i .h))) none, [1]), (AOper.mk (some (.i (.i (.i .h)))) (.load false 1 (.t (.o .h))) none, [0]), (AOper.mk (some (.o (.o (.o (.o .h))))) (.mv (.t (.i (.o .h)))) none, []), (AOper.mk (some (.i (.o (.o (.o .h))))) (.slice (.slice 1) (.t (.i (.i (.i .h)))) (some (.t (.o (.o (.o (.o .h)))))) none none) none, []), (AOper.mk (some (.o (.i (.o (.o .h))))) (.len .slice (.t (.i (.o (.o (.o .h)))))) none, []), (AOper.mk (some (.i (.i (.o (.o .h))))) (.minmax false (.t (.o (.i (.i .h)))) [.t (.o (.i (.o (.o .h))))]) none, []), (AOper.mk (some (.o (.i .h))) (.mv (.t (.i (.i (.o (.o .h)))))) none, [])]) (.seq (.reg [AOper.mk (some (.o (.o (.i (.o .h))))) (.mv (.t .h)) none, AOper.mk (some (.i (.o (.i (.o .h))))) (.load false 1 (.t (.o .h))) none, AOper.mk (some (.o (.i (.i (.o .h))))) (.mv (.t (.i (.o .h)))) none, AOper.mk (some (.i (.i (.i (.o .h))))) (.mv (.t (.i (.o .h)))) none, AOper.mk (some (.o (.o (.o (.i .h))))) (.mv (.t (.o (.i .h)))) none, AOper.mk (some (.i (.o (.o (.i .h))))) (.bin .add (.val .int) (.t (.i (.i (.i (.o .h))))) (.t (.o (.o (.o (.i .h)))))) none, AOper.mk (some (.o (.i (.o (.i .h))))) (.mv (.t (.i (.o .h)))) none, AOper.mk (some (.i (.i (.o (.i .h))))) (.mv (.t (.o (.i .h)))) none, AOper.mk (some (.o (.o (.i (.i .h))))) (.bin .add (.val .int) (.t (.o (.i (.o (.i .h))))) (.t (.i (.i (.o (.i .h)))))) none, AOper.mk (some (.i (.o (.i (.i .h))))) (.slice (.slice 1) (.t (.i (.o (.i (.o .h))))) (some (.t (.o (.i (.i (.o .h)))))) (some (.t (.i (.o (.o (.i .h)))))) (some (.t (.o (.o (.i (.i .h))))))) none, AOper.mk (some (.o (.i (.i (.i .h))))) (.callv (.t (.o (.o (.i (.o .h))))) [.t (.i (.o (.i (.i .h))))]) none, AOper.mk (some (.i (.i (.i (.i .h))))) (.un .not (.t (.o (.i (.i (.i .h)))))) none]) (.cond (.t (.i (.i (.i (.i .h))))) .ret .skip)))) (.reg [AOper.mk (some (.i (.i (.o .h)))) (.mv (.t (.i (.o .h)))) none, AOper.mk (some (.o (.o (.i .h)))) (.load false 1 (.t (.i .h))) none, AOper.mk (some (.i (.o (.i .h)))) (.bin .add (.val .int) (.t (.i (.i (.o .h)))) (.t (.o (.o (.i .h))))) none, AOper.mk (some (.i (.o .h))) (.mv (.t (.i (.o (.i .h))))) none]))))))
def Chunk_c (n_It : Nat) : AFunc := AFunc.mk 9 (.seq (.reg [AOper.mk (some (.i .h)) (.box (.t .h)) none, AOper.mk (some (.o (.o .h))) (.box (.t (.o .h))) none, AOper.mk (some (.i (.o .h))) (.mv (.c .nilFunc)) none]) (.seq (.seq (.reg [AOper.mk (some (.o (.i .h))) (.load false 1 (.t (.o (.o .h)))) none, AOper.mk (some (.i (.i .h))) (.bin .lss (.val .int) (.t (.o (.i .h))) (.c (.int .i64 (.ofNat 1)))) none]) (.cond (.t (.i (.i .h))) (.reg [AOper.mk (some (.o (.o (.o .h)))) .fail none, AOper.mk none .fail none]) .skip)) (.seq (.reg [AOper.mk (some (.i (.o (.o .h)))) (.mkfn n_It [] [.t (.i .h), .t (.o (.o .h))]) none, AOper.mk (some (.i (.o .h))) (.mv (.t (.i (.o (.o .h))))) none]) .ret))) [.tmp (.i (.o .h))]
attribute [local simp] wp_skip wp_ret wp_exit wp_reg wp_seq wp_cond wp_block thenQ_normal thenQ_ret thenQ_exit blockQ_normal blockQ_ret blockQ_exit wpCond_true wpCond_false wpOps_nil wpVal_some wpGuard_true wpGuard_false wpOps_guard wpOps_cons
  put_at put_no ev_c ev_slot posEq_h posEq_o posEq_i posEq_ho posEq_hi posEq_oh posEq_ih posEq_oi posEq_io sel_true sel_false
  okv_some step_mv step_call step_pick pickV_bool step_bin bin_add bin_sub bin_mul bin_eql bin_neq bin_lss bin_leq bin_gtr bin_geq bin_eqb bin_neb bin_eqs bin_nes step_un un_not un_neg step_len len_slice len_str len_const step_extract extractV nth step_convInt conv_int step_convStr step_slice step_idxAddr natOf_nat step_load step_index step_field step_fieldAddr step_build step_minmax
  step_alloc step_bslice bsliceV_some newV_some step_store step_append boolIs_b boolIs_t finQ_ret finQ_normal ressE_nil ressE_cons resE_tmp consO_some initE_nil initE_cons pos_0 pos_1 pos_2 pos_3 pos_4 pos_5 pos_6 pos_7 pos_8 plain_bool plain_int plain_str plain_ptr plain_slice plain_map plain_agg plain_func plain_nilFunc V.undef oneOf_one oneOf_two ble_self
open Go.Vabs.Pk Go.Vabs.Sa Go.Vabs.Sb Go.Vabs.Sc
attribute [local simp] step_nilchk nilchk_ptr step_box cells_int cells_bool cells_str cells_slice cells_ptr cells_agg fieldAddrV natOf_zero fill repN splice over newV step_appendZ
  wp_dreg wpDs_nil wpDs_cons wantedE_none wantedE_some wpDGuard_true wpDGuard_lim wpDGuard_false wpDLim_true wpDVal_free wpDVal_lim back_limited next_limited limF_dir foot_load foot_convStr okAll_nil okAll_cons pastsOf nthP ahead few_next load_limited convStr_limited blt_dec okPair_dd okPair_dc okPair_cd okPair_cc anyIn_nil anyIn_same anyIn_cons meets_nil meets_nil'
abbrev GoalY := AExit → Env → Option AExit → St → Prop
def wpY (hd : Hand) (call : CallT) (lf : Nat) (c : ACode) (s : Env) (p : Option AExit) (st : St) (Q : GoalY) : Prop :=
  ∀ f, envOf f = s → ∃ x f' p' st', evY hd call lf c f p st = some ((x, f', p'), st') ∧ Q x (envOf f') p' st'
section
variable {hd : Hand} {call : CallT} {lf : Nat} {s : Env} {p : Option AExit} {st : St} {Q : GoalY}
theorem wpY_skip (h : Q .normal s p st) : wpY hd call lf .skip s p st Q := fun f hf => ⟨.normal, f, p, st, rfl, by rw [hf]; exact h⟩
theorem wpY_ret (h : Q .ret s p st) : wpY hd call lf .ret s p st Q := fun f hf => ⟨.ret, f, p, st, rfl, by rw [hf]; exact h⟩
theorem wpY_exit {id : Nat} (h : Q (.exit id) s p st) : wpY hd call lf (.exit id) s p st Q := fun f hf => ⟨.exit id, f, p, st, rfl, by rw [hf]; exact h⟩
def thenYQ (hd : Hand) (call : CallT) (lf : Nat) (b : ACode) (Q : GoalY) : GoalY
  | .normal, s, p, st => wpY hd call lf b s p st Q
  | x, s, p, st => Q x s p st
theorem wpY_seq {a b : ACode} (h : wpY hd call lf a s p st (thenYQ hd call lf b Q)) : wpY hd call lf (.seq a b) s p st Q := fun f hf => by
  obtain ⟨x, f1, p1, st1, h1, h2⟩ := h f hf
  show ∃ x f' p' st', thenY (evY hd call lf a f p st) (evY hd call lf b) = some ((x, f', p'), st') ∧ Q x (envOf f') p' st'
  rw [h1]
  cases x with
  | normal => exact h2 f1 rfl
  | ret => exact ⟨.ret, f1, p1, st1, rfl, h2⟩
  | exit id => exact ⟨.exit id, f1, p1, st1, rfl, h2⟩
theorem wpY_cond {c : Src} {a b : ACode} {t : Bool} (ht : s.ev c = .bool t) (h : if t then wpY hd call lf a s p st Q else wpY hd call lf b s p st Q) : wpY hd call lf (.cond c a b) s p st Q := fun f hf => by
  show ∃ x f' p' st', condY (evY hd call lf a f p st) (evY hd call lf b f p st) (f.ev c) = some ((x, f', p'), st') ∧ Q x (envOf f') p' st'
  rw [envOf_ev, hf, ht]
  cases t with
  | true => exact (show wpY hd call lf a s p st Q from h) f hf
  | false => exact (show wpY hd call lf b s p st Q from h) f hf
theorem thenYQ_normal {b : ACode} : thenYQ hd call lf b Q .normal s p st ↔ wpY hd call lf b s p st Q := Iff.rfl
theorem thenYQ_ret {b : ACode} : thenYQ hd call lf b Q .ret s p st ↔ Q .ret s p st := Iff.rfl
def blockYQ (id : Nat) (Q : GoalY) : GoalY
  | .exit j, s, p, st => if j = id then Q .normal s p st else Q (.exit j) s p st
  | x, s, p, st => Q x s p st
theorem blockYQ_normal {id : Nat} : blockYQ id Q .normal s p st ↔ Q .normal s p st := Iff.rfl
theorem blockYQ_ret {id : Nat} : blockYQ id Q .ret s p st ↔ Q .ret s p st := Iff.rfl
theorem wpY_block {id : Nat} {a : ACode} (h : wpY hd call lf a s p st (blockYQ id Q)) : wpY hd call lf (.block id a) s p st Q := fun f hf => by
  obtain ⟨x, f1, p1, st1, h1, h2⟩ := h f hf
  show ∃ x f' p' st', blockY id (evY hd call lf a f p st) = some ((x, f', p'), st') ∧ Q x (envOf f') p' st'
  rw [h1]
  cases x with
  | normal => exact ⟨.normal, f1, p1, st1, rfl, h2⟩
  | ret => exact ⟨.ret, f1, p1, st1, rfl, h2⟩
  | exit j =>
    have h2 : if j = id then Q .normal (envOf f1) p1 st1 else Q (.exit j) (envOf f1) p1 st1 := h2
    show ∃ x f' p' st', sel (Nat.beq j id) (some ((AExit.normal, f1, p1), st1)) (some ((AExit.exit j, f1, p1), st1)) = some ((x, f', p'), st') ∧ Q x (envOf f') p' st'
    by_cases e : j = id
    · rw [if_pos e] at h2
      rw [e, Nat.beq_refl]
      exact ⟨.normal, f1, p1, st1, rfl, h2⟩
    · rw [if_neg e] at h2
      rw [show Nat.beq j id = false from by cases hb : Nat.beq j id with | false => rfl | true => exact absurd (Nat.eq_of_beq_eq_true hb) e]
      exact ⟨.exit j, f1, p1, st1, rfl, h2⟩
def callless : AOp → Bool
  | .callv _ _ => false
  | _ => true
theorem stepY_plain {o : AOp} {f : Frame} (ho : callless o = true) : stepY hd call o f p st = plainY p (stepOp call o f st) := by
  cases o <;> first | rfl | cases ho
theorem runY_plain : ∀ {os : List AOper} {f : Frame} {st : St} {f' : Frame} {st' : St}, (os.all fun o => callless o.op) = true → runOps os call f st = some (f', st') → ∀ rest, runY hd call (os ++ rest) f p st = runY hd call rest f' p st'
  | [], f, st, f', st', _, h, rest => by cases h; rfl
  | o :: os, f, st, f', st', ha, h, rest => by
    rw [List.all_cons, Bool.and_eq_true] at ha
    have h : either (wanted f o.guard) (Option.rec none (Prod.rec fun v st' => runOps os call (f.put o.dst v) st') (stepOp call o.op f st)) (runOps os call (f.put o.dst V.undef) st) = some (f', st') := h
    show either (wanted f o.guard) (match stepY hd call o.op f p st with | some ((v, p'), st') => runY hd call (os ++ rest) (f.put o.dst v) p' st' | none => none) (runY hd call (os ++ rest) (f.put o.dst V.undef) p st) = _
    cases hw : wanted f o.guard with
    | none => rw [hw] at h; cases h
    | some w =>
      rw [hw] at h
      cases w with
      | false => exact runY_plain ha.2 h rest
      | true =>
        rw [stepY_plain ha.1]
        cases hs : stepOp call o.op f st with
        | none => rw [hs] at h; cases h
        | some q =>
          obtain ⟨v, st1⟩ := q
          rw [hs] at h
          exact runY_plain ha.2 h rest
theorem wpY_reg {ops : List AOper} (ha : (ops.all fun o => callless o.op) = true) (h : wpOps call ops s st fun _ s' st' => Q .normal s' p st') : wpY hd call lf (.reg ops) s p st Q := fun f hf => by
  obtain ⟨s', st', h1, h2⟩ := h
  rw [← hf] at h1
  obtain ⟨f', k1, rfl⟩ := runE_ok h1
  refine ⟨.normal, f', p, st', ?_, h2⟩
  show normalY (runY hd call ops f p st) = _
  have := runY_plain (hd := hd) (p := p) ha k1 []
  rw [List.append_nil] at this
  rw [this]
  rfl
theorem wpY_yield {ops pre post : List AOper} {d : Option Pos} {g : Src} {xs : List Src} (ho : ops = pre ++ ⟨d, .callv g xs, none⟩ :: post) (ha : (pre.all fun o => callless o.op) = true) (hb : (post.all fun o => callless o.op) = true)
    (h : wpOps call pre s st fun _ s1 st1 => ∃ i v p' st2, s1.ev g = .yield i ∧ hd i (xs.map s1.ev) st1 = some ((v, p'), st2) ∧ wpOps call post (s1.put d v) st2 fun _ s2 st3 => Q .normal s2 p' st3) : wpY hd call lf (.reg ops) s none st Q := fun f hf => by
  obtain ⟨s1, st1, h1, i, v, p', st2, h2, h3, s2, st3, h4, h5⟩ := h
  rw [← hf] at h1
  obtain ⟨f1, k1, rfl⟩ := runE_ok h1
  rw [← envOf_put] at h4
  obtain ⟨f2, k2, rfl⟩ := runE_ok h4
  refine ⟨.normal, f2, p', st3, ?_, h5⟩
  show normalY (runY hd call ops f none st) = _
  rw [ho, runY_plain ha k1]
  show normalY (match stepY hd call (.callv g xs) f1 none st1 with | some ((v, p'), st') => runY hd call post (f1.put d v) p' st' | none => none) = _
  have hy : stepY hd call (.callv g xs) f1 none st1 = some ((v, p'), st2) := by
    show yieldY hd (xs.map f1.ev) st1 (plainY none (stepOp call (.callv g xs) f1 st1)) none (f1.ev g) = _
    rw [envOf_ev, h2]
    exact h3
  rw [hy]
  show normalY (runY hd call post (f1.put d v) p' st2) = _
  have := runY_plain (hd := hd) (p := p') hb k2 []
  rw [List.append_nil] at this
  rw [this]
  rfl
theorem wpY_yieldAt (k : Nat) {ops : List AOper} {d : Option Pos} {g : Src} {xs : List Src} (ho : ops[k]? = some ⟨d, .callv g xs, none⟩) (ha : ((ops.take k).all fun o => callless o.op) = true) (hb : ((ops.drop (k + 1)).all fun o => callless o.op) = true)
    (h : wpOps call (ops.take k) s st fun _ s1 st1 => ∃ i v p' st2, s1.ev g = .yield i ∧ hd i (xs.map s1.ev) st1 = some ((v, p'), st2) ∧ wpOps call (ops.drop (k + 1)) (s1.put d v) st2 fun _ s2 st3 => Q .normal s2 p' st3) : wpY hd call lf (.reg ops) s none st Q := by
  refine wpY_yield (pre := ops.take k) (post := ops.drop (k + 1)) ?_ ha hb h
  obtain ⟨hk, he⟩ := List.getElem?_eq_some_iff.1 ho
  rw [← he, List.getElem_cons_drop, List.take_append_drop]
theorem wpY_dreg {ops : List (AOper × List Nat)} (h : wpDs call ops 0 [] s st fun _ s' st' => Q .normal s' p st') : wpY hd call lf (.dreg ops) s p st Q := fun f hf => by
  obtain ⟨s', st', h1, h2⟩ := h
  rw [← hf] at h1
  obtain ⟨f', k1, rfl⟩ := runDE_ok h1
  refine ⟨.normal, f', p, st', ?_, h2⟩
  show outY p (runD ops call 0 [] f st) = _
  rw [k1]
  rfl
theorem wpY_loop {a : ACode} (I : Nat → Env → Option AExit → St → Prop) (n : Nat) (h0 : I n s p st) (hn : n < lf)
    (h : ∀ k s p st, I k s p st → wpY hd call lf a s p st (fun x s' p' st' => match x with | .normal => ∃ m, m < k ∧ I m s' p' st' | x => Q x s' p' st')) : wpY hd call lf (.loop a) s p st Q := fun f hf => by
  have key : ∀ m, ∀ k f p st, k < m → I k (envOf f) p st → ∃ x f' p' st', loopY (evY hd call lf a) m f p st = some ((x, f', p'), st') ∧ Q x (envOf f') p' st' := by
    intro m
    induction m with
    | zero => intro k f p st hk; omega
    | succ m ih =>
      intro k f p st hk hI
      obtain ⟨x, f1, p1, st1, h1, h2⟩ := h k _ p st hI f rfl
      show ∃ x f' p' st', thenY (evY hd call lf a f p st) (loopY (evY hd call lf a) m) = some ((x, f', p'), st') ∧ Q x (envOf f') p' st'
      rw [h1]
      cases x with
      | normal =>
        obtain ⟨j, hj, hI'⟩ := h2
        exact ih j f1 p1 st1 (by omega) hI'
      | ret => exact ⟨.ret, f1, p1, st1, rfl, h2⟩
      | exit id => exact ⟨.exit id, f1, p1, st1, rfl, h2⟩
  exact key lf n f p st hn (by rw [hf]; exact h0)
end
def rangeQ (Q : Goal) (s : Env) : GoalY
  | .normal, _, none, st => Q .normal s st
  | .ret, _, none, st => Q .normal s st
  | .normal, _, some x, st => Q x s st
  | .ret, _, some x, st => Q x s st
  | .exit _, _, _, _ => False
theorem wp_range {call : CallT} {lf : Nat} {g : Src} {ps : List Pos} {asg body itc : ACode} {it i : Nat} {s : Env} {st st1 : St} {captured : List V} {Q : Goal} (hg : s.ev g = .func it [] captured) (hst : st.skip = some (i, st1))
    (h : wpY (roundE ps (evE call lf asg) (evE call lf body) s i) call lf itc (initE (.yield i :: captured) 0 env0) none st1 (rangeQ Q s)) : wp call lf (.range g ps asg body it itc) s st Q := by
  obtain ⟨x, f', p', st', h1, h2⟩ := h (initFrame (.yield i :: captured) 0 .nil) (initE_ok _ 0 .nil)
  have he : evE call lf (.range g ps asg body it itc) s st = rangeOutE s (some ((x, f', p'), st')) := by
    show rangeE ps (evE call lf asg) (evE call lf body) it itc call lf s st (s.ev g) = _
    rw [hg]
    show (if it = it then (match st.skip with | some (i, st1) => rangeOutE s (evY (roundE ps (evE call lf asg) (evE call lf body) s i) call lf itc (initFrame (.yield i :: captured) 0 .nil) none st1) | none => none) else none) = _
    rw [if_pos rfl, hst]
    show rangeOutE s (evY (roundE ps (evE call lf asg) (evE call lf body) s i) call lf itc (initFrame (.yield i :: captured) 0 .nil) none st1) = _
    rw [h1]
  unfold wp
  rw [he]
  cases x with
  | exit id => cases p' <;> exact h2.elim
  | normal => cases p' <;> exact ⟨_, _, _, rfl, h2⟩
  | ret => cases p' <;> exact ⟨_, _, _, rfl, h2⟩
theorem few_skip {os : List (Option AObj)} : (few os).skip = some (os.length, few (os ++ [none])) := by
  unfold St.skip
  rw [few_alloc]
  dsimp only
  rw [few_set (x := .cells true []) (by simp)]
  dsimp only
  rw [List.set_append_right _ _ (Nat.le_refl _), Nat.sub_self]
  rfl
theorem roundE_ok {call : CallT} {lf : Nat} {p : Pos} {asg body : ACode} {s : Env} {st : St} {v : V} {i : Nat} {R : AExit → St → Prop}
    (h : wp call lf asg (s.put (some p) v) st fun x s1 st1 => x = .normal ∧ wp call lf body s1 st1 fun x _ st' => R x st') :
    ∃ w p' st', roundE [p] (evE call lf asg) (evE call lf body) s i i [v] st = some ((w, p'), st') ∧ ((w = .bool true ∧ p' = none ∧ R .normal st') ∨ ∃ x, w = .bool false ∧ p' = some x ∧ x ≠ .normal ∧ R x st') := by
  obtain ⟨x, s1, st1, h1, rfl, y, s2, st2, h3, h4⟩ := h
  unfold roundE
  rw [if_pos rfl]
  show ∃ w p' st', (match evE call lf asg (s.put (some p) v) st with | some (.normal, s1, st1) => roundEndE (evE call lf body s1 st1) | _ => none) = some ((w, p'), st') ∧ _
  rw [h1]
  dsimp only
  rw [h3]
  cases y with
  | normal => exact ⟨_, _, _, rfl, .inl ⟨rfl, rfl, h4⟩⟩
  | ret => exact ⟨_, _, _, rfl, .inr ⟨_, rfl, rfl, (fun h => by cases h), h4⟩⟩
  | exit id => exact ⟨_, _, _, rfl, .inr ⟨_, rfl, rfl, (fun h => by cases h), h4⟩⟩
theorem slice_cut {q o n c : Nat} {f : Bool} {k k' k2 : IntKind} {l h : Int} (h0 : 0 ≤ l) (h1 : l < h) (h2 : h ≤ c) : sliceOp (.slice 1) (.slice (some (q, o)) 1 n c f) (some (.int k l)) (some (.int k' h)) (some (.int k2 h)) = some (.slice (some (q, o + l.toNat)) 1 (h.toNat - l.toNat) (h.toNat - l.toNat) true) := by
  have e1 : bound (some (.int k2 h)) c c = some h.toNat := by
    obtain ⟨m, rfl⟩ : ∃ m : Nat, h = (m : Int) := ⟨h.toNat, by omega⟩
    show sel (Nat.ble m c) (some m) none = _
    rw [ble_t (by omega)]
    rfl
  have e2 : bound (some (.int k' h)) 0 h.toNat = some h.toNat := by
    obtain ⟨m, rfl⟩ : ∃ m : Nat, h = (m : Int) := ⟨h.toNat, by omega⟩
    show sel (Nat.ble m m) (some m) none = _
    rw [ble_t (by omega)]
    rfl
  have e3 : bound (some (.int k l)) 0 h.toNat = some l.toNat := by
    obtain ⟨m, rfl⟩ : ∃ m : Nat, l = (m : Int) := ⟨l.toNat, by omega⟩
    show sel (Nat.ble m h.toNat) (some m) none = _
    rw [ble_t (by omega)]
    rfl
  show sel (Nat.beq 1 1 || false) (match bound (some (.int k2 h)) c c with
      | some m => match bound (some (.int k' h)) 0 m with
        | some h => match bound (some (.int k l)) 0 h with
          | some l => some (V.slice (sel (Nat.beq m l && (f || true)) (some (q, o)) (shiftA (some (q, o)) (l * 1))) 1 (h - l) (m - l) (f || true))
          | none => none
        | none => none
      | none => none) none = _
  rw [e1]
  dsimp only
  rw [e2]
  dsimp only
  rw [e3]
  dsimp only
  rw [show Nat.beq h.toNat l.toNat = false from by
    cases e : Nat.beq h.toNat l.toNat with
    | false => rfl
    | true => have := Nat.eq_of_beq_eq_true e; omega, Bool.or_true]
  show some (V.slice (some (q, o + l.toNat * 1)) 1 _ _ true) = _
  rw [Nat.mul_one]
theorem slice_from {q o n c : Nat} {f : Bool} {k : IntKind} {l : Int} (h0 : 0 ≤ l) (h1 : l < n) (h2 : n ≤ c) : sliceOp (.slice 1) (.slice (some (q, o)) 1 n c f) (some (.int k l)) none none = some (.slice (some (q, o + l.toNat)) 1 (n - l.toNat) (c - l.toNat) f) := by
  obtain ⟨m, rfl⟩ : ∃ m : Nat, l = (m : Int) := ⟨l.toNat, by omega⟩
  show sel (Nat.beq 1 1 || false) (match bound (some (.int k (m : Int))) 0 n with
          | some l => some (V.slice (sel (Nat.beq c l && (f || false)) (some (q, o)) (shiftA (some (q, o)) (l * 1))) 1 (n - l) (c - l) (f || false))
          | none => none) none = _
  have e3 : bound (some (.int k (m : Int))) 0 n = some m := by
    show sel (Nat.ble m n) (some m) none = _
    rw [ble_t (by omega)]
    rfl
  rw [e3]
  dsimp only
  rw [show Nat.beq c m = false from by
    cases e : Nat.beq c m with
    | false => rfl
    | true => have := Nat.eq_of_beq_eq_true e; omega, Bool.or_false]
  rw [Nat.beq_refl, Bool.or_false]
  show some (V.slice (some (q, o + m * 1)) 1 (n - m) (c - m) f) = _
  rw [Nat.mul_one]
  rfl
set_option maxHeartbeats 1000000 in
theorem wp_chunk {call : CallT} {lf : Nat} {g : Src} {p : Pos} {asg body : ACode} {it : Nat} {s : Env} {Q : Goal} {os : List (Option AObj)} {b1 b2 q o len cap n m : Nat} {f : Bool} (I : Nat → List (Option AObj) → Prop)
    (hg : s.ev g = .func it [] [.ptr (some (b1, 0)), .ptr (some (b2, 0))]) (hn : 0 < n ∧ n < 1000000) (hm : len ≤ m * n) (hlf : m < lf) (hcap : len ≤ cap) (hc : cap < 4611686018427387904)
    (hb : ∀ i X, I i X → (X[b1]?).join = some (.cells true [.slice (some (q, o)) 1 len cap f]) ∧ (X[b2]?).join = some (.cells true [.int .i64 (n : Int)]))
    (h0 : I 0 (os ++ [none]))
    (hr : ∀ j X, j * n < len → I j X → wp call lf asg (s.put (some p) (.slice (some (q, o + j * n)) 1 (min n (len - j * n)) (min n (len - j * n)) true)) (few X) fun x s1 st1 => x = .normal ∧ wp call lf body s1 st1 fun x _ st' => match x with | .normal => ∃ X', st' = few X' ∧ I (j + 1) X' | x => Q x s st')
    (he : ∀ j X, len ≤ j * n → I j X → Q .normal s (few X)) : wp call lf (.range g [p] asg body it chunkIt) s (few os) Q := by
  refine wp_range hg few_skip ?_
  unfold chunkIt
  refine wpY_seq (wpY_reg rfl ?_)
  obtain ⟨y, hy⟩ : ∃ y, y = os.length := ⟨_, rfl⟩
  rw [← hy]
  simp
  refine wpY_block ?_
  refine wpY_loop (fun k s p st => ∃ j X, j + k = m ∧ p = none ∧ st = few X ∧ I j X ∧ s .h = .yield y ∧ s (.o .h) = .ptr (some (b1, 0)) ∧ s (.i .h) = .ptr (some (b2, 0)) ∧ s (.i (.o .h)) = .int .i64 ((j * n : Nat) : Int)) m ?_ hlf ?_
  · exact ⟨0, _, by omega, rfl, rfl, h0, by simp, by simp, by simp, by simp⟩
  · rintro k t p' st ⟨j, X, hk, rfl, rfl, hI, t1, t2, t3, t4⟩
    obtain ⟨g1, g2⟩ := hb j X hI
    obtain ⟨z, hz⟩ : ∃ z, z = j * n := ⟨_, rfl⟩
    rw [← hz] at t4
    have l1 : loadV (few X) false 1 (.ptr (some (b1, 0))) = some (.slice (some (q, o)) 1 len cap f) := (load_few g1).trans rfl
    have l2 : loadV (few X) false 1 (.ptr (some (b2, 0))) = some (.int .i64 (n : Int)) := (load_few g2).trans rfl
    have hzb : z < len → z < 4611686018427387904 := fun _ => by omega
    have hdone : ¬ z < len → k = 0 ∨ True := fun _ => .inr trivial
    refine wpY_seq ?_
    refine wpY_seq (wpY_reg rfl ?_)
    by_cases hzl : z < len
    · simp (disch := omega) [t1, t2, t3, t4, l1, dltn_t, thenYQ_normal]
      refine wpY_cond (t := true) (by simp) ?_
      refine wpY_skip (thenYQ_normal.2 ?_)
      refine wpY_seq (wpY_block (wpY_seq (wpY_dreg ?_)))
      obtain ⟨e, hee⟩ : ∃ e, e = min n (len - z) := ⟨_, rfl⟩
      have hmm : mmAll false (.int .i64 (n : Int)) [.int .i64 ((len - z : Nat) : Int)] = some (.int .i64 (e : Int)) := by
        obtain ⟨d, hd⟩ : ∃ d, d = len - z := ⟨_, rfl⟩
        rw [hee, ← hd]
        rcases Nat.lt_or_ge d n with h | h
        · rw [Nat.min_eq_right (by omega)]
          simp (disch := omega) [mmAll, mm2, ltI_eq, dltn_t, sel_true, sel_false]
        · rw [Nat.min_eq_left h]
          simp (disch := omega) [mmAll, mm2, ltI_eq, dltn_f, sel_true, sel_false]
      have hsf : sliceOp (.slice 1) (.slice (some (q, o)) 1 len cap f) (some (.int .i64 (z : Int))) none none = some (.slice (some (q, o + z)) 1 (len - z) (cap - z) f) := slice_from (by omega) (by omega) (by omega)
      have hcut : sliceOp (.slice 1) (.slice (some (q, o)) 1 len cap f) (some (.int .i64 (z : Int))) (some (.int .i64 ((z : Int) + (e : Int)))) (some (.int .i64 ((z : Int) + (e : Int)))) = some (.slice (some (q, o + z)) 1 e e true) := by
        have := slice_cut (q := q) (o := o) (n := len) (c := cap) (f := f) (k := .i64) (k' := .i64) (k2 := .i64) (l := (z : Int)) (h := (z : Int) + (e : Int)) (by omega) (by omega) (by omega)
        rw [this]
        congr 2 <;> omega
      simp (disch := omega) [t1, t2, t3, t4, l1, l2, hsf, hmm, thenYQ_normal]
      refine wpY_seq (wpY_yieldAt 10 rfl rfl rfl ?_)
      have hr' := hr j X (by omega) hI
      rw [← hz, ← hee] at hr'
      obtain ⟨w, p', st', r1, r2⟩ := roundE_ok (i := y) (R := fun x st' => match x with | .normal => ∃ X', st' = few X' ∧ I (j + 1) X' | x => Q x s st') hr'
      simp (disch := omega) [t1, t2, t3, t4, l1, l2, wrap_i, hcut]
      refine ⟨w, p', st', r1, ?_⟩
      rcases r2 with ⟨rfl, rfl, X', rfl, hI'⟩ | ⟨x, rfl, rfl, hx, hR⟩
      · obtain ⟨g1', g2'⟩ := hb _ _ hI'
        have l2' : loadV (few X') false 1 (.ptr (some (b2, 0))) = some (.int .i64 (n : Int)) := (load_few g2').trans rfl
        simp (disch := omega) [t1, t2, t3, t4, l2', wrap_i, thenYQ_normal]
        refine wpY_cond (t := false) (by simp) ?_
        refine wpY_skip (blockYQ_normal.2 (thenYQ_normal.2 ?_))
        refine wpY_reg rfl ?_
        simp (disch := omega) [t1, t2, t3, t4, l2', wrap_i]
        have hjm : j < m := Nat.lt_of_mul_lt_mul_right (a := n) (by omega)
        refine ⟨k - 1, by omega, j + 1, by omega, X', rfl, hI', ?_⟩
        push_cast [hz]
        rw [Int.add_mul, Int.one_mul]
      · simp (disch := omega) [t1, t2, t3, t4, thenYQ_normal]
        refine wpY_cond (t := true) (by simp) ?_
        refine wpY_ret (blockYQ_ret.2 (thenYQ_ret.2 ?_))
        cases x with
        | normal => exact absurd rfl hx
        | ret => exact hR
        | exit id => exact hR
    · simp (disch := omega) [t1, t2, t3, t4, l1, dltn_f, thenYQ_normal]
      refine wpY_cond (t := false) (by simp) ?_
      refine wpY_exit ?_
      exact he j X (by omega) hI
theorem step_mkfn {call : CallT} {s : Env} {st : St} {g : Nat} {a b : List Src} : stepE call (.mkfn g a b) s st = okv (sel (allB V.base (a.map s.ev) && allB V.base (b.map s.ev)) (some (.func g (a.map s.ev) (b.map s.ev))) none) st := by
  refine step_of ?_
  show ex_mkfn g a b s.ev st = _
  unfold ex_mkfn
  cases allB V.base (a.map s.ev) && allB V.base (b.map s.ev) <;> rfl
theorem base_ptr {p : Option (Nat × Nat)} : V.base (.ptr p) = true := rfl
def ChunkF (it : Nat) (call : CallT) (g : Nat) : Prop := ∀ os v (n : Nat), v.cells = some [v] → v.plain = true → 0 < n → n < 1000000 → call g [v, .int .i64 (n : Int)] (few os) = some (.func it [] [.ptr (some (os.length, 0)), .ptr (some (os.length + 1, 0))], few (os ++ [some (.cells true [v]), some (.cells true [.int .i64 (n : Int)])]))
theorem ChunkF.code {base : CallT} {g lf it : Nat} : ChunkF it (Vabs.withF base g lf (Chunk_c it)) g := fun os v n hc hp h1 h2 => by
  rw [withF_same]
  obtain ⟨A, hA⟩ : ∃ A, A = os ++ [some (AObj.cells true [v])] := ⟨_, rfl⟩
  have eA : A.length = os.length + 1 := by rw [hA]; simp
  have al1 : (few os).alloc (.cells true [v]) = some (os.length, few A) := by rw [hA]; exact few_alloc os _
  obtain ⟨B, hB⟩ : ∃ B, B = A ++ [some (AObj.cells true [.int .i64 (n : Int)])] := ⟨_, rfl⟩
  have al2 : (few A).alloc (.cells true [.int .i64 (n : Int)]) = some (os.length + 1, few B) := by rw [hB, ← eA]; exact few_alloc A _
  have l2 : loadV (few B) false 1 (.ptr (some (os.length + 1, 0))) = some (.int .i64 (n : Int)) := (load_few (show (B[os.length + 1]?).join = some (.cells true [.int .i64 (n : Int)]) by rw [hB, ← eA]; simp)).trans rfl
  have hBe : os ++ [some (AObj.cells true [v]), some (.cells true [.int .i64 (n : Int)])] = B := by rw [hB, hA]; simp
  rw [hBe]
  refine enter_eq ?_
  simp (disch := omega) [hc, al1, al2, l2, dltn_f, dlt_f, step_mkfn, allB, base_ptr]
end Go.Vabs.Ca

namespace Go.Vabs.Cb
set_option linter.unusedVariables false
set_option linter.unusedSimpArgs false
set_option maxRecDepth 10000
attribute [local simp] wp_skip wp_ret wp_exit wp_reg wp_seq wp_cond wp_block thenQ_normal thenQ_ret thenQ_exit blockQ_normal blockQ_ret blockQ_exit wpCond_true wpCond_false wpOps_nil wpVal_some wpGuard_true wpGuard_false wpOps_guard wpOps_cons
  put_at put_no ev_c ev_slot posEq_h posEq_o posEq_i posEq_ho posEq_hi posEq_oh posEq_ih posEq_oi posEq_io sel_true sel_false
  okv_some step_mv step_call step_pick pickV_bool step_bin bin_add bin_sub bin_mul bin_eql bin_neq bin_lss bin_leq bin_gtr bin_geq bin_eqb bin_neb bin_eqs bin_nes step_un un_not un_neg step_len len_slice len_str len_const step_extract extractV nth step_convInt conv_int step_convStr step_slice step_idxAddr natOf_nat step_load step_index step_field step_fieldAddr step_build step_minmax
  step_alloc step_bslice bsliceV_some newV_some step_store step_append boolIs_b boolIs_t finQ_ret finQ_normal ressE_nil ressE_cons resE_tmp consO_some initE_nil initE_cons pos_0 pos_1 pos_2 pos_3 pos_4 pos_5 pos_6 pos_7 pos_8 plain_bool plain_int plain_str plain_ptr plain_slice plain_map plain_agg plain_func plain_nilFunc V.undef oneOf_one oneOf_two ble_self
open Go.Vabs.Pk Go.Vabs.Ph Go.Vabs.Sa Go.Vabs.Sb Go.Vabs.Sc Go.Vabs.Sd Go.Vabs.Se Go.Vabs.Sg Go.Vabs.Sh Go.Vabs.Sm Go.Vabs.Sn Go.Vabs.Sp Go.Vabs.Sr Go.Vabs.St Go.Vabs.Su Go.Vabs.L2 Go.Vabs.Na Go.Vabs.Nb Go.Vabs.Ra Go.Vabs.Rb Go.Vabs.Rc Go.Vabs.Rd Go.Vabs.Re Go.Vabs.Ca
attribute [local simp] step_nilchk nilchk_ptr step_box cells_int cells_bool cells_str cells_slice cells_ptr cells_agg fieldAddrV natOf_zero fill repN splice over newV step_appendZ
  wp_dreg wpDs_nil wpDs_cons wantedE_none wantedE_some wpDGuard_true wpDGuard_lim wpDGuard_false wpDLim_true wpDVal_free wpDVal_lim back_limited next_limited limF_dir foot_load foot_convStr okAll_nil okAll_cons pastsOf nthP ahead few_next load_limited convStr_limited blt_dec okPair_dd okPair_dc okPair_cd okPair_cc anyIn_nil anyIn_same anyIn_cons meets_nil meets_nil'
section
variable {α : Type}
def elV (f : α → List V) (L : List α) : List V := (L.map f).flatten
def elS (e q n : Nat) : V := if n = 0 then .slice none 0 0 0 true else .slice (some (q, 0)) e n n false
theorem elS_len {st : St} {e q n : Nat} : lenV st .slice (elS e q n) = some (.int .i64 (n : Int)) := by unfold elS; split <;> (first | (rename_i h0; rw [h0]; rfl) | rfl)
theorem elS_plain {e q n : Nat} : (elS e q n).plain = true := by unfold elS; split <;> rfl
theorem elV_snoc {f : α → List V} {L : List α} {a : α} : elV f (L ++ [a]) = elV f L ++ f a := by simp [elV]
theorem elV_len {f : α → List V} {e : Nat} (hf : ∀ a, (f a).length = e) : ∀ {L : List α}, (elV f L).length = L.length * e
  | [] => by simp [elV]
  | a :: L => by
    show (f a ++ elV f L).length = _
    rw [List.length_append, hf, elV_len hf, List.length_cons, Nat.add_mul, Nat.one_mul, Nat.add_comm]
theorem elV_at {f : α → List V} {e : Nat} (hf : ∀ a, (f a).length = e) : ∀ {L : List α} {k : Nat} {a : α}, L[k]? = some a → ((elV f L).drop (k * e)).take e = f a
  | [], k, a, h => by simp at h
  | b :: L, 0, a, h => by
    cases h
    show ((f b ++ elV f L).drop (0 * e)).take e = f b
    rw [Nat.zero_mul, List.drop_zero, List.take_left' (hf b)]
  | b :: L, k + 1, a, h => by
    have h : L[k]? = some a := h
    show ((f b ++ elV f L).drop ((k + 1) * e)).take e = f a
    rw [show (k + 1) * e = (f b).length + k * e from by rw [hf b, Nat.add_mul, Nat.one_mul, Nat.add_comm], List.drop_append, List.drop_of_length_le (by omega), List.nil_append, show (f b).length + k * e - (f b).length = k * e from by omega]
    exact elV_at hf h
theorem growEl {f : α → List V} {e w : Nat} (hf : ∀ a, (f a).length = e) (hw : w ≤ 64) {os : List (Option AObj)} {q n : Nat} {L : List α} (a : α) (hn : L.length = n) (hs : n ≤ 1000000) (h : n ≠ 0 → (os[q]?).join = some (.cells true (elV f L))) :
    appendV (few os) e w (elS e q n) (some 1) (some (f a)) = some (.slice (some (os.length, 0)) e (n + 1) (n + 1) false, few (Sp.setK n os q ++ [some (AObj.cells true (elV f (L ++ [a])))])) := by
  have hb : (2 * (n + 1) + 1024) * w ≤ 281474976710656 := by
    have := Nat.mul_le_mul (show 2 * (n + 1) + 1024 ≤ 3000000 by omega) hw
    omega
  rw [elV_snoc]
  unfold elS
  split
  · rename_i h0
    subst h0
    have : L = [] := List.length_eq_zero_iff.1 hn
    subst this
    rw [grow_none, if_pos ⟨hb, by rw [hf]; omega⟩]
    rfl
  · rename_i h0
    have ho : ownAt os q = some (elV f L) := by rw [ownAt_eq, h h0]
    rw [grow_some, ho, growC_some, if_pos ⟨hb, by rw [hf]; omega, by rw [elV_len hf, hn]⟩]
    unfold Sp.setK
    rw [if_neg h0]
end
end Go.Vabs.Cb

namespace Go.Vabs
set_option linter.unusedVariables false
noncomputable section
def tl (X l : List (Option AObj)) : St := few (X ++ l)
def storeT (X l : List (Option AObj)) (n k o : Nat) (vs : List V) : Option (List V) → Option (V × St)
  | some cs => if vs.length = n then (match splice o vs cs with | some r => some (V.undef, tl X (l.set k (some (.cells true r)))) | none => none) else none
  | none => none
def growT (X l : List (Option AObj)) (e bytes k n m : Nat) (new : List V) : Option (List V) → Option (V × St)
  | some cs => if (2 * (n + (m + 1)) + 1024) * bytes ≤ 281474976710656 ∧ new.length = (m + 1) * e ∧ n * e = cs.length then
      some (.slice (some (X.length + l.length, 0)) e (n + (m + 1)) (n + (m + 1)) false, tl X (l.set k none ++ [some (.cells true (cs ++ new))])) else none
  | none => none
end
section
variable {X l : List (Option AObj)}
theorem tl_of {X : List (Option AObj)} : few X = tl X [] := by unfold tl; rw [List.append_nil]
theorem tl_eq {X l : List (Option AObj)} : tl X l = few (X ++ l) := rfl
theorem tl_next : (tl X l).next = X.length + l.length := by rw [tl_eq, few_next, List.length_append]
theorem tl_alloc {o : AObj} : (tl X l).alloc o = some (X.length + l.length, tl X (l ++ [some o])) := by
  rw [tl_eq, few_alloc, List.length_append, List.append_assoc]; rfl
theorem tl_at {k : Nat} : ((X ++ l)[X.length + k]?).join = (l[k]?).join := by
  rw [List.getElem?_append_right (Nat.le_add_right ..), Nat.add_sub_cancel_left]
theorem tl_cells {k : Nat} : cellsAt (X ++ l) (X.length + k) = cellsAt l k := by rw [cellsAt_eq, cellsAt_eq, tl_at]
theorem tl_own {k : Nat} : ownAt (X ++ l) (X.length + k) = ownAt l k := by rw [ownAt_eq, ownAt_eq, tl_at]
theorem tl_load {a : Bool} {n k o : Nat} : loadV (tl X l) a n (.ptr (some (X.length + k, o))) = loadC a n o (cellsAt l k) := by
  rw [tl_eq, load_fewC, tl_cells]
theorem tl_store {n k o : Nat} {vs : List V} : storeV (tl X l) n (.ptr (some (X.length + k, o))) (some vs) = storeT X l n k o vs (ownAt l k) := by
  rw [tl_eq, store_fewC, tl_own]
  unfold storeC storeT
  cases ownAt l k with
  | none => rfl
  | some cs =>
    dsimp only
    cases splice o vs cs with
    | none => rfl
    | some r =>
      dsimp only
      rw [List.set_append_right _ _ (Nat.le_add_right ..), Nat.add_sub_cancel_left]
      rfl
theorem storeT_some {n k o : Nat} {vs cs : List V} : storeT X l n k o vs (some cs) = if vs.length = n then (match splice o vs cs with | some r => some (V.undef, tl X (l.set k (some (.cells true r)))) | none => none) else none := rfl
theorem tl_first {m e n k o c : Nat} {f : Bool} : firstN (tl X l) e m (.slice (some (X.length + k, o)) e n c f) = firstC m e n o (cellsAt l k) := by
  rw [tl_eq, first_fewC, tl_cells]
theorem tl_grow_none {e e' bytes m : Nat} {f : Bool} {new : List V} : appendV (tl X l) e bytes (.slice none e' 0 0 f) (some (m + 1)) (some new) =
    if (2 * (m + 1) + 1024) * bytes ≤ 281474976710656 ∧ new.length = (m + 1) * e then some (.slice (some (X.length + l.length, 0)) e (m + 1) (m + 1) false, tl X (l ++ [some (.cells true new)])) else none := by
  rw [tl_eq, grow_none, List.length_append, List.append_assoc]; rfl
theorem tl_grow {e bytes k n m : Nat} {new : List V} : appendV (tl X l) e bytes (.slice (some (X.length + k, 0)) e n n false) (some (m + 1)) (some new) = growT X l e bytes k n m new (ownAt l k) := by
  rw [tl_eq, grow_some, tl_own]
  unfold growC growT
  cases ownAt l k with
  | none => rfl
  | some cs =>
    dsimp only
    rw [List.set_append_right _ _ (Nat.le_add_right ..), Nat.add_sub_cancel_left, List.length_append, List.append_assoc]
    rfl
theorem tl_back {Y m : List (Option AObj)} : back (tl X l) (tl Y m) = tl Y m := rfl
theorem tl_back_few {Y : List (Option AObj)} : back (tl X l) (few Y) = few Y := rfl
theorem few_back_tl {Y : List (Option AObj)} : back (few Y) (tl X l) = tl X l := rfl
theorem tl_alloc_dir {rs ws : List Nat} {ps : List Past} {o : AObj} : (limited (.dir rs ws) ps (tl X l)).alloc o = some (X.length + l.length, back (limited (.dir rs ws) ps (tl X l)) (tl X (l ++ [some o]))) := by
  rw [tl_eq, alloc_dir, List.length_append, List.append_assoc]; rfl
theorem tl_store_d {i o n : Nat} {ps : List Past} {cs : List V} : storeV (limited (.dir [i] [i]) ps (tl X l)) n (.ptr (some (i, o))) (some cs) = backv (limited (.dir [i] [i]) ps (tl X l)) (storeV (tl X l) n (.ptr (some (i, o))) (some cs)) := store_d
end
end Go.Vabs

namespace Go.Vabs
set_option linter.unusedVariables false
def ids1 : V → List Nat
  | .agg l => l.flatMap idOf
  | v => idOf v
def ids2 : V → List Nat
  | .tuple l => l.flatMap ids1
  | v => ids1 v
def oids : AObj → List Nat
  | .cells _ cs => cs.flatMap idOf
  | .map _ es _ => es.flatMap fun e => idOf e.1 ++ ids1 e.2.1
inductive Rch (n : Nat) (s1 : St) (v0 : V) : Nat → Prop
  | root {i : Nat} : i ∈ ids2 v0 → n ≤ i → Rch n s1 v0 i
  | step {i j : Nat} {o : AObj} : Rch n s1 v0 j → s1.heap.get j = some o → i ∈ oids o → n ≤ i → Rch n s1 v0 i
noncomputable section
def rn (n : Nat) (σ : List Nat) (i : Nat) : Nat := if i < n then i else n + σ.idxOf i
def rn0 (n : Nat) (σ : List Nat) : V → V
  | .ptr (some (i, o)) => .ptr (some (rn n σ i, o))
  | .slice (some (i, o)) e k c f => .slice (some (rn n σ i, o)) e k c f
  | .map (some i) => .map (some (rn n σ i))
  | v => v
def rn1 (n : Nat) (σ : List Nat) : V → V
  | .agg l => .agg (l.map (rn0 n σ))
  | v => rn0 n σ v
def rn2 (n : Nat) (σ : List Nat) : V → V
  | .tuple l => .tuple (l.map (rn1 n σ))
  | v => rn1 n σ v
def rnO (n : Nat) (σ : List Nat) : AObj → AObj
  | .cells own cs => .cells own (cs.map (rn0 n σ))
  | .map own es c => .map own (es.map fun e => (rn0 n σ e.1, rn1 n σ e.2.1, e.2.2)) c
def V.leads : V → Bool
  | .ptr (some (i, o)) => true
  | .slice (some (i, o)) e k c f => Nat.ble k c
  | .map (some i) => true
  | v => v.flat
def ok1 : V → Bool
  | .agg l => l.all V.leads
  | v => v.leads
def ok2 : V → Bool
  | .tuple l => l.all ok1
  | v => ok1 v
def okO : AObj → Bool
  | .cells own cs => own && cs.all V.leads
  | .map own es _ => own && es.all fun e => e.1.leads && ok1 e.2.1
structure Canon (n : Nat) (s1 : St) (v0 : V) (σ : List Nat) : Prop where
  sorted : σ.Pairwise (· < ·)
  new : ∀ i ∈ σ, Rch n s1 v0 i
  root : ∀ i ∈ ids2 v0, i < n ∨ i ∈ σ
  step : ∀ j ∈ σ, ∃ o, s1.heap.get j = some o ∧ okO o = true ∧ ∀ i ∈ oids o, i < n ∨ i ∈ σ
  ok : ok2 v0 = true
def objsOf (n : Nat) (s1 : St) (σ : List Nat) : List AObj := σ.map fun j => match s1.heap.get j with | some o => rnO n σ o | none => .cells true []
end
theorem Rch.le {n : Nat} {s1 : St} {v0 : V} {i : Nat} (h : Rch n s1 v0 i) : n ≤ i := by cases h <;> assumption
theorem Canon.mem {n : Nat} {s1 : St} {v0 : V} {σ : List Nat} (h : Canon n s1 v0 σ) (i : Nat) : i ∈ σ ↔ Rch n s1 v0 i := by
  refine ⟨h.new i, fun hr => ?_⟩
  induction hr with
  | root h1 h2 => exact (h.root _ h1).resolve_left (by omega)
  | step h1 h2 h3 h4 ih =>
    obtain ⟨o, k1, _, k3⟩ := h.step _ ih
    rw [h2] at k1
    cases k1
    exact (k3 _ h3).resolve_left (by omega)
theorem sorted_ext : ∀ {l m : List Nat}, l.Pairwise (· < ·) → m.Pairwise (· < ·) → (∀ i, i ∈ l ↔ i ∈ m) → l = m
  | [], [], _, _, _ => rfl
  | [], b :: m, _, _, h => by have := (h b).2 (List.mem_cons_self ..); cases this
  | a :: l, [], _, _, h => by have := (h a).1 (List.mem_cons_self ..); cases this
  | a :: l, b :: m, h1, h2, h => by
    rw [List.pairwise_cons] at h1 h2
    have hab : a = b := by
      have ha := (h a).1 (List.mem_cons_self ..)
      have hb := (h b).2 (List.mem_cons_self ..)
      rw [List.mem_cons] at ha hb
      rcases ha with ha | ha
      · exact ha
      · rcases hb with hb | hb
        · exact hb.symm
        · have := h1.1 b hb
          have := h2.1 a ha
          omega
    subst hab
    rw [sorted_ext h1.2 h2.2 fun i => ?_]
    constructor
    · intro hi
      have := (h i).1 (List.mem_cons_of_mem _ hi)
      rw [List.mem_cons] at this
      rcases this with rfl | this
      · have := h1.1 i hi; omega
      · exact this
    · intro hi
      have := (h i).2 (List.mem_cons_of_mem _ hi)
      rw [List.mem_cons] at this
      rcases this with rfl | this
      · have := h2.1 i hi; omega
      · exact this
theorem Canon.only {n : Nat} {s1 : St} {v0 : V} {σ σ' : List Nat} (h : Canon n s1 v0 σ) (h' : Canon n s1 v0 σ') : σ = σ' :=
  sorted_ext h.sorted h'.sorted fun i => by rw [h.mem, h'.mem]
theorem ren_of {n : Nat} {σ : List Nat} {i : Nat} (h : i < n ∨ i ∈ σ) (hs : ∀ i ∈ σ, n ≤ i) : ren n σ i (rn n σ i) := by
  by_cases hi : i < n
  · exact .inl ⟨hi, if_pos hi⟩
  · have hm := h.resolve_left hi
    refine .inr ⟨σ.idxOf i, ?_, if_neg hi⟩
    have hlt := List.idxOf_lt_length_of_mem hm
    rw [List.getElem?_eq_getElem hlt, List.getElem_idxOf hlt]
section
variable {n : Nat} {σ : List Nat} (hs : ∀ i ∈ σ, n ≤ i)
include hs
theorem Ren0_of {v : V} (h : ∀ i ∈ idOf v, i < n ∨ i ∈ σ) (hl : v.leads = true) : Ren0 (ren n σ) v (rn0 n σ v) := by
  cases v with
  | ptr a =>
    cases a with
    | none => exact ⟨rfl, rfl⟩
    | some p => exact ⟨ren_of (h p.1 (List.mem_cons_self ..)) hs, rfl⟩
  | slice a e k c f =>
    cases a with
    | none => exact ⟨rfl, rfl⟩
    | some p => exact ⟨ren_of (h p.1 (List.mem_cons_self ..)) hs, rfl, rfl, rfl, Nat.le_of_ble_eq_true hl, Nat.le_refl _, fun hf => ⟨hf, rfl⟩⟩
  | map a =>
    cases a with
    | none => exact ⟨rfl, rfl⟩
    | some p => exact ren_of (h p (List.mem_cons_self ..)) hs
  | bool b => exact ⟨rfl, rfl⟩
  | int k z => exact ⟨rfl, rfl⟩
  | str z => exact ⟨rfl, rfl⟩
  | nilFunc => exact ⟨rfl, rfl⟩
  | _ => exact absurd hl (by simp [V.leads, V.flat])
theorem Ren0s_of : ∀ {l : List V}, (∀ i ∈ l.flatMap idOf, i < n ∨ i ∈ σ) → l.all V.leads = true → All2 (Ren0 (ren n σ)) l (l.map (rn0 n σ))
  | [], _, _ => trivial
  | v :: l, h, hl => by
    rw [List.all_cons, Bool.and_eq_true] at hl
    rw [List.flatMap_cons] at h
    exact ⟨Ren0_of hs (fun i hi => h i (List.mem_append_left _ hi)) hl.1, Ren0s_of (fun i hi => h i (List.mem_append_right _ hi)) hl.2⟩
theorem Ren1_of {v : V} (h : ∀ i ∈ ids1 v, i < n ∨ i ∈ σ) (hl : ok1 v = true) : Ren1 (ren n σ) v (rn1 n σ v) := by
  cases v with
  | agg l => exact Ren0s_of hs h hl
  | ptr a => have := Ren0_of hs (v := .ptr a) h hl; cases a <;> exact this
  | slice a e k c f => have := Ren0_of hs (v := .slice a e k c f) h hl; cases a <;> exact this
  | map a => have := Ren0_of hs (v := .map a) h hl; cases a <;> exact this
  | bool b => exact ⟨rfl, rfl⟩
  | int k z => exact ⟨rfl, rfl⟩
  | str z => exact ⟨rfl, rfl⟩
  | nilFunc => exact ⟨rfl, rfl⟩
  | _ => exact absurd hl (by simp [ok1, V.leads, V.flat])
theorem Ren1s_of : ∀ {l : List V}, (∀ i ∈ l.flatMap ids1, i < n ∨ i ∈ σ) → l.all ok1 = true → All2 (Ren1 (ren n σ)) l (l.map (rn1 n σ))
  | [], _, _ => trivial
  | v :: l, h, hl => by
    rw [List.all_cons, Bool.and_eq_true] at hl
    rw [List.flatMap_cons] at h
    exact ⟨Ren1_of hs (fun i hi => h i (List.mem_append_left _ hi)) hl.1, Ren1s_of (fun i hi => h i (List.mem_append_right _ hi)) hl.2⟩
theorem Ren2_of {v : V} (h : ∀ i ∈ ids2 v, i < n ∨ i ∈ σ) (hl : ok2 v = true) : Ren (ren n σ) v (rn2 n σ v) := by
  cases v with
  | tuple l => exact Ren1s_of hs h hl
  | agg l => exact Ren1_of hs (v := .agg l) h hl
  | ptr a => exact Ren1_of hs (v := .ptr a) h hl
  | slice a e k c f => exact Ren1_of hs (v := .slice a e k c f) h hl
  | map a => exact Ren1_of hs (v := .map a) h hl
  | bool b => exact ⟨rfl, rfl⟩
  | int k z => exact ⟨rfl, rfl⟩
  | str z => exact ⟨rfl, rfl⟩
  | nilFunc => exact ⟨rfl, rfl⟩
  | _ => exact absurd hl (by simp [ok2, ok1, V.leads, V.flat])
theorem RenE_of : ∀ {es : List (V × V × Nat)}, (∀ i ∈ es.flatMap (fun e => idOf e.1 ++ ids1 e.2.1), i < n ∨ i ∈ σ) → (es.all fun e => e.1.leads && ok1 e.2.1) = true →
    All2 (fun (y y' : V × V × Nat) => Ren0 (ren n σ) y.1 y'.1 ∧ Ren1 (ren n σ) y.2.1 y'.2.1 ∧ y.2.2 = y'.2.2) es (es.map fun e => (rn0 n σ e.1, rn1 n σ e.2.1, e.2.2))
  | [], _, _ => trivial
  | e :: es, h, hl => by
    rw [List.flatMap_cons] at h
    rw [List.all_cons, Bool.and_eq_true, Bool.and_eq_true] at hl
    exact ⟨⟨Ren0_of hs (fun i hi => h i (List.mem_append_left _ (List.mem_append_left _ hi))) hl.1.1, Ren1_of hs (fun i hi => h i (List.mem_append_left _ (List.mem_append_right _ hi))) hl.1.2, rfl⟩, RenE_of (fun i hi => h i (List.mem_append_right _ hi)) hl.2⟩
theorem RenO_of {o : AObj} (h : ∀ i ∈ oids o, i < n ∨ i ∈ σ) (hl : okO o = true) : RenO (ren n σ) o (rnO n σ o) := by
  cases o with
  | cells own cs =>
    have hl : (own && cs.all V.leads) = true := hl
    rw [Bool.and_eq_true] at hl
    obtain ⟨rfl, hl⟩ := hl
    refine ⟨by rw [List.length_map]; exact Nat.le_refl _, fun k v hv => ?_⟩
    rw [List.getElem?_map] at hv
    obtain ⟨u, hu, rfl⟩ := Option.map_eq_some_iff.1 hv
    have hm := List.mem_of_getElem? hu
    exact ⟨u, hu, Ren0_of hs (fun i hi => h i (List.mem_flatMap.2 ⟨u, hm, hi⟩)) (List.all_eq_true.1 hl u hm)⟩
  | map own es c =>
    have hl : (own && es.all fun e => e.1.leads && ok1 e.2.1) = true := hl
    rw [Bool.and_eq_true] at hl
    obtain ⟨rfl, hl⟩ := hl
    exact ⟨rfl, RenE_of hs h hl⟩
end
theorem Canon.left {n : Nat} {s0 s1 : St} {v0 : V} {σ : List Nat} (hn : s0.next = n) (h : Canon n s1 v0 σ) : Left (wayId n) n s0 s1 v0 (objsOf n s1 σ) σ (rn2 n σ v0) := by
  have hs : ∀ i ∈ σ, n ≤ i := fun i hi => (h.new i hi).le
  refine Left.ren ?_ (Ren2_of hs h.root h.ok) (by unfold objsOf; rw [List.length_map]) (fun j k o h1 h2 => ?_) (fun j j' k h1 h2 => ?_)
  · rintro rfl
    have := h.ok
    simp [ok2, ok1, V.leads, V.flat] at this
  · have hk := List.mem_of_getElem? h1
    obtain ⟨o0, g1, g2, g3⟩ := h.step k hk
    refine ⟨by rw [hn]; exact hs k hk, o0, g1, ?_⟩
    have : o = rnO n σ o0 := by
      unfold objsOf at h2
      rw [List.getElem?_map, h1] at h2
      have h2 : some (match s1.heap.get k with | some o => rnO n σ o | none => .cells true []) = some o := h2
      rw [g1] at h2
      exact (Option.some.inj h2).symm
    rw [this]
    exact RenO_of hs g3 g2
  · obtain ⟨hj, e1⟩ := List.getElem?_eq_some_iff.1 h1
    obtain ⟨hj', e2⟩ := List.getElem?_eq_some_iff.1 h2
    have hp := List.pairwise_iff_getElem.1 h.sorted
    rcases Nat.lt_trichotomy j j' with hl | hl | hl
    · have := hp j j' hj hj' hl; omega
    · exact hl
    · have := hp j' j hj' hj hl; omega
def covers (st : St) (Y : List (Option AObj)) : Prop := Y.length = st.next ∧ ∀ i o, st.look i = some o → (few Y).look i = some o
def autoP (base : CallT) (lf : Nat) (fn : AFunc) (args : List V) (st : St) (a : List AObj × V) : Prop :=
  ∀ Y, covers st Y → ∃ s1 v0 σ, enterF base lf args (few Y) fn = some (v0, s1) ∧ Canon st.next s1 v0 σ ∧ a = (objsOf st.next s1 σ, rn2 st.next σ v0)
open Classical in
noncomputable def autoRd (base : CallT) (lf : Nat) (fn : AFunc) : List V → St → Option Ans := fun args st =>
  if h : goods st.next args = true ∧ ∃ a, autoP base lf fn args st a then some (h.2.choose.1, fun _ => h.2.choose.2) else none
theorem covers_frozen {st : St} : covers st (frozen st) := ⟨frozen_len, fun i o h => by rw [frozen_look]; exact h⟩
theorem autoP_only {base : CallT} {lf : Nat} {fn : AFunc} {args : List V} {st : St} {a b : List AObj × V} (ha : autoP base lf fn args st a) (hb : autoP base lf fn args st b) : a = b := by
  obtain ⟨s1, v0, σ, h1, h2, h3⟩ := ha _ covers_frozen
  obtain ⟨s1', v0', σ', k1, k2, k3⟩ := hb _ covers_frozen
  rw [h1] at k1
  cases k1
  obtain rfl := h2.only k2
  rw [h3, k3]
theorem autoRd_of {base : CallT} {lf : Nat} {fn : AFunc} {args : List V} {st : St} {a : List AObj × V} (hg : goods st.next args = true) (ha : autoP base lf fn args st a) : autoRd base lf fn args st = some (a.1, fun _ => a.2) := by
  unfold autoRd
  have h : goods st.next args = true ∧ ∃ a, autoP base lf fn args st a := ⟨hg, a, ha⟩
  rw [dif_pos h, autoP_only h.2.choose_spec ha]
theorem autoRd_some {base : CallT} {lf : Nat} {fn : AFunc} {args : List V} {st : St} {r : Ans} (h : autoRd base lf fn args st = some r) : goods st.next args = true ∧ ∃ a, autoP base lf fn args st a ∧ r = (a.1, fun _ => a.2) := by
  unfold autoRd at h
  split at h
  · rename_i hh
    exact ⟨hh.1, _, hh.2.choose_spec, (Option.some.inj h).symm⟩
  · cases h
theorem autoRd_reads {base : CallT} {lf : Nat} {fn : AFunc} : Reads (autoRd base lf fn) := by
  intro args s s' g r h he
  obtain ⟨hg, a, ha, rfl⟩ := autoRd_some h
  refine autoRd_of (by rw [he.next]; exact hg) fun Y hY => ?_
  obtain ⟨s1, v0, σ, h1, h2, h3⟩ := ha Y ⟨by rw [hY.1, he.next], fun i o ho => hY.2 i o (look_ext he ho)⟩
  rw [he.next]
  exact ⟨s1, v0, σ, h1, h2, h3⟩
theorem Sound.auto {P : Program} {call : CallT} (hmix : P.follows .mixedOrders = true) (h : Sound P call) {g : Nat} {fn : AFunc} (lf : Nat) (hc : compF P g = some fn) : Sound P (Vabs.withL call g (lawOf (autoRd call lf fn))) := by
  refine h.withL (h.withF hmix lf hc) autoRd_reads fun args st os f hx => ?_
  obtain ⟨hg, a, ha, hr⟩ := autoRd_some hx
  cases hr
  obtain ⟨s1, v0, σ, h1, h2, h3⟩ := ha _ covers_frozen
  refine ⟨wayId st.next, args, few (frozen st), s1, v0, σ, ?_, seen_frozen hg, ?_⟩
  · rw [withF_same]; exact h1
  · rw [h3]
    exact h2.left (by rw [few_next, frozen_len])
theorem auto_call {base : CallT} {lf g : Nat} {fn : AFunc} {args : List V} {os : List (Option AObj)} {new : List AObj} {v : V} (hg : goods os.length args = true) (ha : autoP base lf fn args (few os) (new, v)) : Vabs.withL base g (lawOf (autoRd base lf fn)) g args (few os) = some (v, few (os ++ new.map some)) := by
  rw [withL_same]
  show lawOut (autoRd base lf fn args (few os)) (few os) = _
  rw [autoRd_of (by rw [few_next]; exact hg) ha]
  exact lawOut_few
theorem canon_flat {n : Nat} {s1 : St} {v0 : V} (h : ids2 v0 = []) (hk : ok2 v0 = true) : Canon n s1 v0 [] := ⟨List.Pairwise.nil, fun i hi => (by cases hi), fun i hi => (by rw [h] at hi; cases hi), fun j hj => (by cases hj), hk⟩
theorem rn0_flat {n : Nat} {σ : List Nat} {v : V} (h : idOf v = []) : rn0 n σ v = v := by
  cases v with
  | ptr a => cases a with | none => rfl | some p => cases h
  | slice a e k c f => cases a with | none => rfl | some p => cases h
  | map a => cases a with | none => rfl | some p => cases h
  | _ => rfl
theorem rn0s_flat {n : Nat} {σ : List Nat} : ∀ {l : List V}, l.flatMap idOf = [] → l.map (rn0 n σ) = l
  | [], _ => rfl
  | v :: l, h => by
    rw [List.flatMap_cons, List.append_eq_nil_iff] at h
    rw [List.map_cons, rn0_flat h.1, rn0s_flat h.2]
theorem rn1_flat {n : Nat} {σ : List Nat} {v : V} (h : ids1 v = []) : rn1 n σ v = v := by
  cases v with
  | agg l => show V.agg _ = _; rw [rn0s_flat (l := l) h]
  | ptr a => exact rn0_flat (v := .ptr a) h
  | slice a e k c f => exact rn0_flat (v := .slice a e k c f) h
  | map a => exact rn0_flat (v := .map a) h
  | _ => rfl
theorem rn1s_flat {n : Nat} {σ : List Nat} : ∀ {l : List V}, l.flatMap ids1 = [] → l.map (rn1 n σ) = l
  | [], _ => rfl
  | v :: l, h => by
    rw [List.flatMap_cons, List.append_eq_nil_iff] at h
    rw [List.map_cons, rn1_flat h.1, rn1s_flat h.2]
theorem rn2_flat {n : Nat} {σ : List Nat} {v : V} (h : ids2 v = []) : rn2 n σ v = v := by
  cases v with
  | tuple l => show V.tuple _ = _; rw [rn1s_flat (l := l) h]
  | agg l => exact rn1_flat (v := .agg l) h
  | ptr a => exact rn1_flat (v := .ptr a) h
  | slice a e k c f => exact rn1_flat (v := .slice a e k c f) h
  | map a => exact rn1_flat (v := .map a) h
  | _ => rfl
theorem auto_flat {base : CallT} {lf g : Nat} {fn : AFunc} {args : List V} {os : List (Option AObj)} {v : V} (hg : goods os.length args = true) (h0 : ids2 v = []) (hk : ok2 v = true)
    (h : ∀ Y, covers (few os) Y → ∃ s1, enterF base lf args (few Y) fn = some (v, s1)) : Vabs.withL base g (lawOf (autoRd base lf fn)) g args (few os) = some (v, few os) := by
  have := auto_call (base := base) (lf := lf) (g := g) (fn := fn) (args := args) (os := os) (new := []) (v := v) hg fun Y hY => by
    obtain ⟨s1, h1⟩ := h Y hY
    exact ⟨s1, v, [], h1, canon_flat h0 hk, by rw [rn2_flat h0]; rfl⟩
  rw [this, List.map_nil, List.append_nil]
theorem flat_ids {l : List V} (h : l.all V.flat = true) : l.flatMap idOf = [] := by
  rw [List.flatMap_eq_nil_iff]
  intro v hv
  have := List.all_eq_true.1 h v hv
  cases v with
  | ptr a => cases a with | none => rfl | some p => cases this
  | slice a e k c f => cases a with | none => rfl | some p => cases this
  | map a => cases a with | none => rfl | some p => cases this
  | _ => rfl
theorem flat_leads {l : List V} (h : l.all V.flat = true) : l.all V.leads = true := by
  rw [List.all_eq_true] at h ⊢
  intro v hv
  have := h v hv
  cases v with
  | ptr a => cases a with | none => rfl | some p => cases this
  | slice a e k c f => cases a with | none => rfl | some p => cases this
  | map a => cases a with | none => rfl | some p => cases this
  | _ => first | rfl | cases this
theorem auto_one {base : CallT} {lf g : Nat} {fn : AFunc} {args : List V} {os : List (Option AObj)} {cs : List V} {F : Nat → V} (hg : goods os.length args = true) (hcs : cs.all V.flat = true)
    (hF : ∀ p, ids2 (F p) = [p] ∧ ok2 (F p) = true ∧ ∀ n, n ≤ p → rn2 n [p] (F p) = F n)
    (h : ∀ Y, covers (few os) Y → ∃ p Y', enterF base lf args (few Y) fn = some (F p, few Y') ∧ os.length ≤ p ∧ (Y'[p]?).join = some (.cells true cs)) :
    Vabs.withL base g (lawOf (autoRd base lf fn)) g args (few os) = some (F os.length, few (os ++ [some (.cells true cs)])) := by
  refine auto_call (base := base) (lf := lf) (g := g) (fn := fn) (args := args) (os := os) (new := [.cells true cs]) (v := F os.length) hg fun Y hY => ?_
  obtain ⟨p, Y', h1, h2, h3⟩ := h Y hY
  obtain ⟨f1, f2, f3⟩ := hF p
  rw [few_next]
  have hget : (few Y').heap.get p = some (.cells true cs) := by rw [few_heap]; exact h3
  refine ⟨few Y', F p, [p], h1, ⟨by simp, fun i hi => ?_, fun i hi => ?_, fun j hj => ?_, f2⟩, ?_⟩
  · rw [List.mem_singleton.1 hi]
    exact .root (by rw [f1]; exact List.mem_singleton.2 rfl) h2
  · rw [f1] at hi; exact .inr hi
  · rw [List.mem_singleton.1 hj]
    refine ⟨_, hget, ?_, fun i hi => ?_⟩
    · show (true && cs.all V.leads) = true
      rw [flat_leads hcs]; rfl
    · have hi : i ∈ cs.flatMap idOf := hi
      rw [flat_ids hcs] at hi; cases hi
  · unfold objsOf
    rw [f3 _ h2, List.map_cons, hget, List.map_nil]
    show _ = ([rnO _ _ (.cells true cs)], _)
    unfold rnO
    dsimp only
    rw [rn0s_flat (flat_ids hcs)]
end Go.Vabs

namespace Go.Vabs.Vc
set_option linter.unusedVariables false
set_option linter.unusedSimpArgs false
set_option maxRecDepth 10000
attribute [local simp] wp_skip wp_ret wp_exit wp_reg wp_seq wp_cond wp_block thenQ_normal thenQ_ret thenQ_exit blockQ_normal blockQ_ret blockQ_exit wpCond_true wpCond_false wpOps_nil wpVal_some wpGuard_true wpGuard_false wpOps_guard wpOps_cons
  put_at put_no ev_c ev_slot posEq_h posEq_o posEq_i posEq_ho posEq_hi posEq_oh posEq_ih posEq_oi posEq_io sel_true sel_false
  okv_some step_mv step_call step_pick pickV_bool step_bin bin_add bin_sub bin_mul bin_eql bin_neq bin_lss bin_leq bin_gtr bin_geq bin_eqb bin_neb bin_eqs bin_nes step_un un_not un_neg step_len len_slice len_str len_const step_extract extractV nth step_convInt conv_int step_convStr step_slice step_idxAddr natOf_nat step_load step_index step_field step_fieldAddr step_build step_minmax
  step_alloc step_bslice bsliceV_some newV_some step_store step_append boolIs_b boolIs_t finQ_ret finQ_normal ressE_nil ressE_cons resE_tmp consO_some initE_nil initE_cons pos_0 pos_1 pos_2 pos_3 pos_4 pos_5 pos_6 pos_7 pos_8 plain_bool plain_int plain_str plain_ptr plain_slice plain_map plain_agg plain_func plain_nilFunc V.undef oneOf_one oneOf_two ble_self
open Go.Vabs.Pk Go.Vabs.Ph Go.Vabs.Sa Go.Vabs.Sb Go.Vabs.Sc Go.Vabs.Sd Go.Vabs.Se Go.Vabs.Sg Go.Vabs.Sh Go.Vabs.Sm Go.Vabs.Sn Go.Vabs.Sp Go.Vabs.Sr Go.Vabs.St Go.Vabs.Su Go.Vabs.L2 Go.Vabs.Na
attribute [local simp] step_nilchk nilchk_ptr step_box cells_int cells_bool cells_str cells_slice cells_ptr cells_agg fieldAddrV natOf_zero fill repN splice over newV step_appendZ
def See (os : List (Option AObj)) (v : V) (bs : List Nat) : Prop := v.good os.length = true ∧ lookB (few os).look v = some bs
theorem See.good {os : List (Option AObj)} {v : V} {bs : List Nat} (h : See os v bs) : v.good os.length = true := h.1
theorem See.at {os : List (Option AObj)} {v : V} {bs : List Nat} (h : See os v bs) : bytesAt (few os) v = some bs := lookB_at h.2
theorem See.lt {os : List (Option AObj)} {v : V} {bs : List Nat} (h : See os v bs) : ∀ b ∈ bs, b < 256 := bytesAt_lt h.at
theorem See.keep {os os' : List (Option AObj)} {v : V} {bs : List Nat} (h : See os v bs) (he : ∀ i, i < os.length → (os'[i]?).join = (os[i]?).join) (hl : os.length ≤ os'.length) : See os' v bs :=
  ⟨V.good_le hl h.1, lookB_mono (sight_keep he hl) h.2⟩
theorem See.grow {os l : List (Option AObj)} {v : V} {bs : List Nat} (h : See os v bs) : See (os ++ l) v bs := h.keep (fun i hi => join_app hi) (by simp)
theorem See.tl {os l : List (Option AObj)} {v : V} {bs : List Nat} (h : See os v bs) : bytesAt (tl os l) v = some bs := h.grow.at
theorem See.cov {os Y : List (Option AObj)} {v : V} {bs : List Nat} (h : See os v bs) (hY : covers (few os) Y) : See Y v bs :=
  ⟨by rw [hY.1, few_next]; exact h.1, lookB_mono hY.2 h.2⟩
theorem See.own {os : List (Option AObj)} {p c : Nat} {bs : List Nat} {f : Bool} (h : (os[p]?).join = some (newBytes bs)) (hb : ∀ b ∈ bs, b < 256) (hc : bs.length ≤ c) : See os (.slice (some (p, 0)) 1 bs.length c f) bs := by
  have hp := join_lt h
  refine ⟨by simp [V.good]; exact hp, lookB_of (own := true) (cs := bytesV bs) (by rw [few_next]; exact hp) (by rw [few_get]; exact h) (flats_good (List.all_eq_true.2 bytesV_flat)) hc (by rw [bytesV_len]; omega) ?_ hb⟩
  rw [List.drop_zero, List.take_of_length_le (by rw [bytesV_len]; exact Nat.le_refl _)]
theorem See.sub {os : List (Option AObj)} {p o w c : Nat} {f own : Bool} {d : List Nat} (h : (os[p]?).join = some (.cells own (bytesV d))) (hd : ∀ b ∈ d, b < 256) (how : o + w ≤ d.length) (hc : w ≤ c) : See os (.slice (some (p, o)) 1 w c f) ((d.drop o).take w) := by
  have hp := join_lt h
  refine ⟨by simp [V.good]; exact hp, lookB_of (own := own) (cs := bytesV d) (by rw [few_next]; exact hp) (by rw [few_get]; exact h) (flats_good (List.all_eq_true.2 bytesV_flat)) hc (by rw [bytesV_len]; omega) ?_ (fun b hb => hd b (List.mem_of_mem_drop (List.mem_of_mem_take hb)))⟩
  rw [bytesV_drop, bytesV_take]
theorem See.nil {os : List (Option AObj)} {e : Nat} {f : Bool} : See os (.slice none e 0 0 f) [] := ⟨rfl, rfl⟩
theorem cov_len {os Y : List (Option AObj)} (hY : covers (few os) Y) : Y.length = os.length := by rw [hY.1, few_next]
theorem cov_obj {os Y : List (Option AObj)} (hY : covers (few os) Y) {i : Nat} {ob : AObj} (h : (os[i]?).join = some ob) (hg : ob.good os.length = true) : ∃ o', (Y[i]?).join = some o' ∧ o'.freeze = ob.freeze := by
  have h1 := look_of (st := few os) (i := i) (o := ob) (by rw [few_next]; exact join_lt h) (by rw [few_get]; exact h) (by rw [few_next]; exact hg)
  obtain ⟨_, o', h2, _, h3⟩ := look_some (hY.2 i _ h1)
  exact ⟨o', by rw [← few_get]; exact h2, h3.symm⟩
theorem cov_cells {os Y : List (Option AObj)} (hY : covers (few os) Y) {i : Nat} {own : Bool} {cs : List V} (h : (os[i]?).join = some (.cells own cs)) (hg : goods os.length cs = true) : ∃ o, (Y[i]?).join = some (.cells o cs) := by
  obtain ⟨o', h1, h2⟩ := cov_obj hY h hg
  cases o' with
  | map => cases h2
  | cells o cs' => cases h2; exact ⟨o, h1⟩
theorem cov_map {os Y : List (Option AObj)} (hY : covers (few os) Y) {i c : Nat} {own : Bool} {es : List (V × V × Nat)} (h : (os[i]?).join = some (.map own es c)) (hg : es.all (entGood os.length) = true) : ∃ o, (Y[i]?).join = some (.map o es c) := by
  obtain ⟨o', h1, h2⟩ := cov_obj hY h hg
  cases o' with
  | cells => cases h2
  | map o es' c' => cases h2; exact ⟨o, h1⟩
theorem ents_mem : ∀ {kvs : List (List Nat × V)} {n : Nat} {e : V × V × Nat}, e ∈ entsF n kvs → ∃ kv ∈ kvs, e.1 = .str kv.1 ∧ e.2.1 = kv.2
  | [], n, e, h => by cases h
  | kv :: kvs, n, e, h => by
    rcases List.mem_cons.1 (show e ∈ (V.str kv.1, kv.2, n) :: entsF (n + 1) kvs from h) with rfl | h
    · exact ⟨kv, List.mem_cons_self .., rfl, rfl⟩
    · obtain ⟨kv', h1, h2⟩ := ents_mem h
      exact ⟨kv', List.mem_cons_of_mem _ h1, h2⟩
structure FontSee (os : List (Option AObj)) (F : Nat) (L : List Itm) : Prop where
  f0 : ∃ o, (os[F]?).join = some (.cells o [tagsV (F + 2 + L.length) L.length, .map (some (F + 1))])
  f1 : ∃ o, (os[F + 1]?).join = some (.map o (entsF 0 (kvsOf L (idsOf' (F + 2) L.length))) L.length)
  ft : ∀ j x, L[j]? = some x → ∃ o, (os[F + 2 + j]?).join = some (.cells o (bytesV x.2))
  fq : L ≠ [] → F + 2 + L.length < os.length
theorem FontMem.see {os : List (Option AObj)} {F : Nat} {L : List Itm} (h : FontMem os F L) : FontSee os F L :=
  ⟨⟨_, h.f0⟩, ⟨_, h.f1⟩, fun j x hx => ⟨_, h.ft j x hx⟩, fun hne => join_lt (h.fq hne)⟩
theorem FontSee.keep {os os' : List (Option AObj)} {F : Nat} {L : List Itm} (h : FontSee os F L) (he : ∀ i, i < os.length → (os'[i]?).join = (os[i]?).join) (hl : os.length ≤ os'.length) : FontSee os' F L := by
  obtain ⟨⟨o1, h1⟩, ⟨o2, h2⟩, h3, h4⟩ := h
  refine ⟨⟨o1, by rw [he _ (join_lt h1)]; exact h1⟩, ⟨o2, by rw [he _ (join_lt h2)]; exact h2⟩, fun j x hx => ?_, fun hne => by have := h4 hne; omega⟩
  obtain ⟨o, ho⟩ := h3 j x hx
  exact ⟨o, by rw [he _ (join_lt ho)]; exact ho⟩
theorem FontSee.grow {os l : List (Option AObj)} {F : Nat} {L : List Itm} (h : FontSee os F L) : FontSee (os ++ l) F L := h.keep (fun i hi => join_app hi) (by simp)
theorem FontSee.lt {os : List (Option AObj)} {F : Nat} {L : List Itm} (h : FontSee os F L) : F + 1 < os.length := by
  obtain ⟨o, h1⟩ := h.f1
  exact join_lt h1
theorem FontSee.cov {os Y : List (Option AObj)} {F : Nat} {L : List Itm} (h : FontSee os F L) (hY : covers (few os) Y) : FontSee Y F L := by
  obtain ⟨⟨o1, h1⟩, ⟨o2, h2⟩, h3, h4⟩ := h
  have l2 := join_lt h2
  refine ⟨cov_cells hY h1 ?_, cov_map hY h2 ?_, fun j x hx => ?_, fun hne => by rw [cov_len hY]; exact h4 hne⟩
  · have hm : (V.map (some (F + 1))).good os.length = true := by simp [V.good]; exact l2
    by_cases hL : L = []
    · subst hL; simp [goods, tagsV, hm, V.good]
      exact l2
    · have := h4 hL
      simp [goods, tagsV, hm, V.good, hL]
      exact ⟨this, l2⟩
  · rw [List.all_eq_true]
    intro e he
    obtain ⟨kv, hkv, h1, h2⟩ := ents_mem he
    obtain ⟨j, hj⟩ := List.mem_iff_getElem?.1 hkv
    unfold kvsOf idsOf' at hj
    rw [List.getElem?_zipWith] at hj
    cases hx : L[j]? with
    | none => rw [hx] at hj; cases hj
    | some x =>
      have hjl := (List.getElem?_eq_some_iff.1 hx).1
      rw [hx, List.getElem?_map, List.getElem?_range hjl] at hj
      cases hj
      obtain ⟨o, ho⟩ := h3 j x hx
      have hlt := join_lt ho
      simp [entGood, h1, h2, V.good]
      exact hlt
  · obtain ⟨o, ho⟩ := h3 j x hx
    exact cov_cells hY ho (flats_good (List.all_eq_true.2 bytesV_flat))
theorem Table_see {call : CallT} {lf nC : Nat} (hC : CloneF call nC) {os : List (Option AObj)} {F M c p k : Nat} {o1 o2 o3 : Bool} {tv : V} {kvs : List (List Nat × V)} {t b : List Nat} (hF : (os[F]?).join = some (.cells o1 [tv, .map (some M)])) (hM : (os[M]?).join = some (.map o2 (entsF 0 kvs) c))
    (hk : kvs[k]? = some (t, .slice (some (p, 0)) 1 b.length b.length false)) (hne : ∀ j, j < k → ∀ kv, kvs[j]? = some kv → kv.1 ≠ t) (hp : (os[p]?).join = some (.cells o3 (bytesV b))) (hs : b.length ≤ 140737488354816) :
    enterF call lf [.ptr (some (F, 0)), .str t] (few os) (Table_c nC) = some (.tuple [(cloneR os b).1, .bool true], (cloneR os b).2) := by
  have h1 := lookup_at (zero := .slice none 0 0 0 true) hM hk hne
  have h2 : loadV (few os) false 1 (.ptr (some (F, 1))) = some (.map (some M)) := (load_few hF).trans rfl
  have h3 := hC.1 os p 0 b.length b.length false o3 (bytesV b) b hp (by rw [bytesV_len]; omega) (by rw [List.drop_zero, ← bytesV_len, List.take_length]) rfl hs
  have h4 : (cloneR os b).1.plain = true := by unfold cloneR; split <;> rfl
  obtain ⟨cv, cs, hcr⟩ : ∃ cv cs, cloneR os b = (cv, cs) := ⟨_, _, rfl⟩
  rw [hcr] at h3 h4 ⊢
  refine enter_eq ?_
  simp [h2, step_lookup, h1, h3, h4]
def TabLF (call : CallT) (g : Nat) : Prop := ∀ os F L t, FontSee os F L → Tame L → call g [.ptr (some (F, 0)), .str t] (few os) = match askL L t with
  | some b => some (.tuple [heldV os.length b, .bool true], few (os ++ [some (newBytes b)]))
  | none => some (.tuple [.slice none 0 0 0 true, .bool false], few os)
theorem TabLF.auto {base : CallT} {g lf nC : Nat} (hC : CloneF base nC) (hN : CloneN base nC) : TabLF (Vabs.withL base g (lawOf (autoRd base lf (Table_c nC)))) g := fun os F L t hF hL => by
  have hg : goods os.length [.ptr (some (F, 0)), .str t] = true := by
    have := hF.lt
    simp [goods, V.good]; omega
  cases ha : askL L t with
  | none =>
    refine auto_flat hg rfl rfl fun Y hY => ?_
    obtain ⟨⟨o1, h1⟩, ⟨o2, h2⟩, h3, h4⟩ := hF.cov hY
    have hno := ask_none ha
    exact ⟨_, Table_no hN h1 h2 fun kv hkv e => hno (by
      rw [← kvs_keys (ps := idsOf' (F + 2) L.length) (by simp [idsOf'])]
      exact List.mem_map.2 ⟨kv, hkv, e⟩)⟩
  | some b =>
    obtain ⟨j, hj⟩ := ask_some ha
    obtain ⟨hb1, hb2⟩ := hL.ask ha
    have hjl := (List.getElem?_eq_some_iff.1 hj).1
    refine auto_one (cs := bytesV b) (F := fun p => .tuple [heldV p b, .bool true]) hg (List.all_eq_true.2 bytesV_flat) (fun p => ⟨rfl, ?_, fun n hn => ?_⟩) fun Y hY => ?_
    · simp [ok2, ok1, heldV, V.leads, V.flat]
    · simp [rn2, rn1, heldV, rn0, rn, Nat.not_lt.2 hn]
    · obtain ⟨⟨o1, h1⟩, ⟨o2, h2⟩, h3, h4⟩ := hF.cov hY
      obtain ⟨o3, hp⟩ := h3 j _ hj
      have hk : (kvsOf L (idsOf' (F + 2) L.length))[j]? = some (t, V.slice (some (F + 2 + j, 0)) 1 b.length b.length false) := by
        unfold kvsOf idsOf'
        rw [List.getElem?_zipWith, hj, List.getElem?_map, List.getElem?_range hjl]
        rfl
      have e := Table_see (lf := lf) hC h1 h2 hk (fun i hi kv hkv he => by
        have hi1 : (L.map (·.1))[i]? = some t := by
          rw [← kvs_keys (ps := idsOf' (F + 2) L.length) (by simp [idsOf']), List.getElem?_map, hkv, ← he]; rfl
        have hi2 : (L.map (·.1))[j]? = some t := by rw [List.getElem?_map, hj]; rfl
        have := nodup_at' hL.nd hi1 hi2
        omega) hp (by omega)
      obtain ⟨p, l, hcl, hpl, hpb⟩ := clone_held (os := Y) (b := b)
      rw [hcl] at e
      exact ⟨p, _, e, by rw [cov_len hY] at hpl; exact hpl, hpb⟩
theorem See.cells {os : List (Option AObj)} {v : V} {bs : List Nat} (h : See os v bs) : v.cells = some [v] := by
  have h := h.2
  unfold lookB at h
  split at h
  · rfl
  · rfl
  · cases h
theorem See.plain {os : List (Option AObj)} {v : V} {bs : List Nat} (h : See os v bs) : v.plain = true := by
  have h := h.2
  unfold lookB at h
  split at h
  · rfl
  · rfl
  · cases h
abbrev FnT := List V → St → Option (V × St)
theorem carryF {P : FnT → Prop} {call : CallT} {n g lf : Nat} {fn : AFunc} (h : P (call n)) (hne : n ≠ g) : P (Vabs.withF call g lf fn n) := by
  have : Vabs.withF call g lf fn n = call n := funext fun a => funext fun s => withF_other hne
  rw [this]; exact h
theorem carryL {P : FnT → Prop} {call : CallT} {n g : Nat} {l : FnT} (h : P (call n)) (hne : n ≠ g) : P (withL call g l n) := by
  have : withL call g l n = call n := funext fun a => funext fun s => withL_other hne
  rw [this]; exact h
end Go.Vabs.Vc

namespace Go.Vabs
set_option linter.unusedVariables false
theorem if_leN {α : Type} {a b : Nat} {x y : α} (h : a ≤ b) : (if a ≤ b then x else y) = x := if_pos h
class LenIs (X : List (Option AObj)) (N : outParam Nat) : Prop where
  eq : X.length = N
class At (X : List (Option AObj)) (i : Nat) (o : outParam AObj) : Prop where
  eq : (X[i]?).join = some o
class Df (n j i : Nat) : Prop where
  ne : n ≠ 0 → j ≠ i
section
variable {X l : List (Option AObj)} {N i j n : Nat} {o : AObj}
instance (priority := low) lenSelf : LenIs X X.length := ⟨rfl⟩
instance lenSet {y : Option AObj} [h : LenIs X N] : LenIs (X.set i y) N := ⟨by rw [List.length_set]; exact h.eq⟩
instance lenSetK [h : LenIs X N] : LenIs (Sp.setK n X i) N := ⟨by rw [Sp.setK_len]; exact h.eq⟩
instance atSet {y : Option AObj} [h : At X i o] [d : Df 1 j i] : At (X.set j y) i o := ⟨by rw [Sb.join_set (d.ne (by decide))]; exact h.eq⟩
instance atSetK [h : At X i o] [d : Df n j i] : At (Sp.setK n X j) i o := ⟨by rw [Sp.setK_at (fun h0 => (d.ne h0).symm)]; exact h.eq⟩
instance atSame {o' : AObj} [h : At X i o'] : At (X.set i (some o)) i o := ⟨by rw [Sb.join_set_same (Sb.join_lt h.eq)]⟩
theorem At.lt [h : At X i o] : i < X.length := Sb.join_lt h.eq
theorem tn_at {k : Nat} [h : LenIs X N] : ((X ++ l)[N + k]?).join = (l[k]?).join := by rw [← h.eq]; exact tl_at
theorem tn_base [h : At X i o] : ((X ++ l)[i]?).join = some o := by rw [Sb.join_app (Sb.join_lt h.eq)]; exact h.eq
theorem tn_alloc {o : AObj} [h : LenIs X N] : (tl X l).alloc o = some (N + l.length, tl X (l ++ [some o])) := by rw [tl_alloc, h.eq]
theorem tn_load {a : Bool} {n k o : Nat} [h : LenIs X N] : loadV (tl X l) a n (.ptr (some (N + k, o))) = loadC a n o (cellsAt l k) := by rw [← h.eq]; exact tl_load
theorem tn_load0 {a : Bool} {n o : Nat} [h : LenIs X N] : loadV (tl X l) a n (.ptr (some (N, o))) = loadC a n o (cellsAt l 0) := tn_load (k := 0)
theorem tn_store {n k o : Nat} {vs : List V} [h : LenIs X N] : storeV (tl X l) n (.ptr (some (N + k, o))) (some vs) = storeT X l n k o vs (ownAt l k) := by rw [← h.eq]; exact tl_store
theorem tn_store0 {n o : Nat} {vs : List V} [h : LenIs X N] : storeV (tl X l) n (.ptr (some (N, o))) (some vs) = storeT X l n 0 o vs (ownAt l 0) := tn_store (k := 0)
theorem tn_first {m e n k o c : Nat} {f : Bool} [h : LenIs X N] : firstN (tl X l) e m (.slice (some (N + k, o)) e n c f) = firstC m e n o (cellsAt l k) := by rw [← h.eq]; exact tl_first
theorem tn_first0 {m e n o c : Nat} {f : Bool} [h : LenIs X N] : firstN (tl X l) e m (.slice (some (N, o)) e n c f) = firstC m e n o (cellsAt l 0) := tn_first (k := 0)
noncomputable def growN (X l : List (Option AObj)) (N e bytes k n m : Nat) (new : List V) : Option (List V) → Option (V × St)
  | some cs => if (2 * (n + (m + 1)) + 1024) * bytes ≤ 281474976710656 ∧ new.length = (m + 1) * e ∧ n * e = cs.length then
      some (.slice (some (N + l.length, 0)) e (n + (m + 1)) (n + (m + 1)) false, tl X (l.set k none ++ [some (.cells true (cs ++ new))])) else none
  | none => none
theorem growN_some {e bytes k n m : Nat} {new cs : List V} : growN X l N e bytes k n m new (some cs) = if (2 * (n + (m + 1)) + 1024) * bytes ≤ 281474976710656 ∧ new.length = (m + 1) * e ∧ n * e = cs.length then
      some (.slice (some (N + l.length, 0)) e (n + (m + 1)) (n + (m + 1)) false, tl X (l.set k none ++ [some (.cells true (cs ++ new))])) else none := rfl
theorem tn_grow_none {e e' bytes m : Nat} {f : Bool} {new : List V} [h : LenIs X N] : appendV (tl X l) e bytes (.slice none e' 0 0 f) (some (m + 1)) (some new) =
    if (2 * (m + 1) + 1024) * bytes ≤ 281474976710656 ∧ new.length = (m + 1) * e then some (.slice (some (N + l.length, 0)) e (m + 1) (m + 1) false, tl X (l ++ [some (.cells true new)])) else none := by rw [tl_grow_none, h.eq]
theorem tn_grow {e bytes k n m : Nat} {new : List V} [h : LenIs X N] : appendV (tl X l) e bytes (.slice (some (N + k, 0)) e n n false) (some (m + 1)) (some new) = growN X l N e bytes k n m new (ownAt l k) := by
  rw [← h.eq, tl_grow]; rfl
theorem tn_grow0 {e bytes n m : Nat} {new : List V} [h : LenIs X N] : appendV (tl X l) e bytes (.slice (some (N, 0)) e n n false) (some (m + 1)) (some new) = growN X l N e bytes 0 n m new (ownAt l 0) := tn_grow (k := 0)
theorem tn_next [h : LenIs X N] : (tl X l).next = N + l.length := by rw [tl_next, h.eq]
theorem tn_alloc_dir {rs ws : List Nat} {ps : List Past} {o : AObj} [h : LenIs X N] : (limited (.dir rs ws) ps (tl X l)).alloc o = some (N + l.length, back (limited (.dir rs ws) ps (tl X l)) (tl X (l ++ [some o]))) := by rw [tl_alloc_dir, h.eq]
theorem bn_load {a : Bool} {n i o : Nat} {own : Bool} {cs : List V} [h : At X i (.cells own cs)] : loadV (tl X l) a n (.ptr (some (i, o))) = loadC a n o (some cs) := by
  rw [tl_eq, load_fewC, cellsAt_eq, tn_base]
theorem bn_first {m e n i o c : Nat} {f own : Bool} {cs : List V} [h : At X i (.cells own cs)] : firstN (tl X l) e m (.slice (some (i, o)) e n c f) = firstC m e n o (some cs) := by
  rw [tl_eq, first_fewC, cellsAt_eq, tn_base]
theorem bn_store {n i o : Nat} {vs cs : List V} [h : At X i (.cells true cs)] : storeV (tl X l) n (.ptr (some (i, o))) (some vs) = if vs.length = n then (match splice o vs cs with | some r => some (V.undef, tl (X.set i (some (.cells true r))) l) | none => none) else none := by
  rw [tl_eq, store_fewC, ownAt_eq, tn_base]
  show (if vs.length = n then (match splice o vs cs with | some r => some (V.undef, few ((X ++ l).set i (some (.cells true r)))) | none => none) else none) = _
  split
  · cases splice o vs cs with
    | none => rfl
    | some r =>
      dsimp only
      rw [List.set_append_left _ _ h.lt]
      rfl
  · rfl
theorem bn_grow {e bytes i n m : Nat} {new cs : List V} [h : At X i (.cells true cs)] [hN : LenIs X N] : appendV (tl X l) e bytes (.slice (some (i, 0)) e n n false) (some (m + 1)) (some new) = if (2 * (n + (m + 1)) + 1024) * bytes ≤ 281474976710656 ∧ new.length = (m + 1) * e ∧ n * e = cs.length then
      some (.slice (some (N + l.length, 0)) e (n + (m + 1)) (n + (m + 1)) false, tl (X.set i none) (l ++ [some (.cells true (cs ++ new))])) else none := by
  rw [tl_eq, grow_some, ownAt_eq, tn_base]
  show growC (X ++ l) e bytes i n m new (some cs) = _
  rw [growC_some, List.set_append_left _ _ h.lt, List.length_append, hN.eq, List.append_assoc]
  rfl
noncomputable def fixN (X l : List (Option AObj)) (N e bytes o n m : Nat) (new : List V) : Option (List V) → Option (V × St)
  | some cs => if (2 * (n + (m + 1)) + 1024) * bytes ≤ 281474976710656 ∧ new.length = (m + 1) * e then
      (match cut o (n * e) cs with | some old => some (.slice (some (N + l.length, 0)) e (n + (m + 1)) (n + (m + 1)) false, tl X (l ++ [some (.cells true (old ++ new))])) | none => none) else none
  | none => none
theorem fixN_some {e bytes o n m : Nat} {new cs : List V} : fixN X l N e bytes o n m new (some cs) = if (2 * (n + (m + 1)) + 1024) * bytes ≤ 281474976710656 ∧ new.length = (m + 1) * e then
      (match cut o (n * e) cs with | some old => some (.slice (some (N + l.length, 0)) e (n + (m + 1)) (n + (m + 1)) false, tl X (l ++ [some (.cells true (old ++ new))])) | none => none) else none := rfl
theorem grow_fixC {os : List (Option AObj)} {e bytes i o n m : Nat} {new : List V} : appendV (few os) e bytes (.slice (some (i, o)) e n n true) (some (m + 1)) (some new) = match cellsAt os i with
    | some cs => if (2 * (n + (m + 1)) + 1024) * bytes ≤ 281474976710656 ∧ new.length = (m + 1) * e then
      (match cut o (n * e) cs with | some old => some (.slice (some (os.length, 0)) e (n + (m + 1)) (n + (m + 1)) false, few (os ++ [some (.cells true (old ++ new))])) | none => none) else none
    | none => none := by
  show valOf (appendOp (few os) e bytes (.slice (some (i, o)) e n n true) (m + 1) new) = _
  unfold appendOp
  dsimp only
  rw [few_get, cellsAt_eq, Nat.beq_refl, sel_true, show Nat.ble (n + (m + 1)) n = false from by
    cases e : Nat.ble (n + (m + 1)) n with
    | false => rfl
    | true => exact absurd (Nat.le_of_ble_eq_true e) (by omega)]
  cases hx : (os[i]?).join with
  | none => dsimp only; cases (Nat.ble ((2 * (n + (m + 1)) + 1024) * bytes) 281474976710656 && Nat.beq new.length ((m + 1) * e)) <;> rfl
  | some ob =>
    cases ob with
    | map own es c => dsimp only; cases (Nat.ble ((2 * (n + (m + 1)) + 1024) * bytes) 281474976710656 && Nat.beq new.length ((m + 1) * e)) <;> rfl
    | cells own cs =>
      dsimp only
      by_cases h : (2 * (n + (m + 1)) + 1024) * bytes ≤ 281474976710656 ∧ new.length = (m + 1) * e
      · rw [if_pos h, ble_t h.1, h.2, Nat.beq_refl]
        cases cut o (n * e) cs with
        | none => rfl
        | some old => dsimp only; rw [few_alloc]; rfl
      · rw [if_neg h]
        have : (Nat.ble ((2 * (n + (m + 1)) + 1024) * bytes) 281474976710656 && Nat.beq new.length ((m + 1) * e)) = false := by
          cases e1 : Nat.ble ((2 * (n + (m + 1)) + 1024) * bytes) 281474976710656 with
          | false => rfl
          | true =>
            cases e2 : Nat.beq new.length ((m + 1) * e) with
            | false => rfl
            | true => exact absurd ⟨Nat.le_of_ble_eq_true e1, Nat.eq_of_beq_eq_true e2⟩ h
        rw [this]
        rfl
theorem tn_fix {e bytes k o n m : Nat} {new : List V} [h : LenIs X N] : appendV (tl X l) e bytes (.slice (some (N + k, o)) e n n true) (some (m + 1)) (some new) = fixN X l N e bytes o n m new (cellsAt l k) := by
  rw [tl_eq, grow_fixC, ← h.eq, tl_cells]
  unfold fixN
  cases cellsAt l k with
  | none => rfl
  | some cs =>
    dsimp only
    rw [List.length_append]
    split
    · cases cut o (n * e) cs with
      | none => rfl
      | some old => dsimp only; rw [List.append_assoc]; rfl
    · rfl
theorem bn_fix {e bytes i o n m : Nat} {own : Bool} {new cs : List V} [h : At X i (.cells own cs)] [hN : LenIs X N] : appendV (tl X l) e bytes (.slice (some (i, o)) e n n true) (some (m + 1)) (some new) = fixN X l N e bytes o n m new (some cs) := by
  rw [tl_eq, grow_fixC, cellsAt_eq, tn_base]
  dsimp only [fixN]
  rw [List.length_append, hN.eq]
  split
  · cases cut o (n * e) cs with
    | none => rfl
    | some old => dsimp only; rw [List.append_assoc]; rfl
  · rfl
theorem tn_fix0 {e bytes o n m : Nat} {new : List V} [h : LenIs X N] : appendV (tl X l) e bytes (.slice (some (N, o)) e n n true) (some (m + 1)) (some new) = fixN X l N e bytes o n m new (cellsAt l 0) := tn_fix (k := 0)
end
end Go.Vabs

namespace Go.Vabs
set_option linter.unusedVariables false
theorem autoP_congr {base : CallT} {lf : Nat} {fn : AFunc} {args : List V} {st st' : St} (h1 : st.next = st'.next) (h2 : st.look = st'.look) : autoP base lf fn args st = autoP base lf fn args st' := by
  funext a
  unfold autoP covers
  rw [h1, h2]
open Classical in
noncomputable def autoF (c : Bool) (Q : List AObj × V → Prop) : Option Ans := if h : c = true ∧ ∃ a, Q a then some (h.2.choose.1, fun _ => h.2.choose.2) else none
theorem autoRd_eq {base : CallT} {lf : Nat} {fn : AFunc} {args : List V} {st : St} : autoRd base lf fn args st = autoF (goods st.next args) (autoP base lf fn args st) := rfl
theorem autoRd_congr {base : CallT} {lf : Nat} {fn : AFunc} {args : List V} {st st' : St} (h1 : st.next = st'.next) (h2 : st.look = st'.look) : autoRd base lf fn args st = autoRd base lf fn args st' := by
  rw [autoRd_eq, autoRd_eq, autoP_congr h1 h2, h1]
theorem limF_back {fr : Bool} {ft : Foot} {ps : List Past} {st : St} : back (limF fr ft ps st) st = limF fr ft ps st := by cases st; cases ft <;> rfl
theorem look_limF {fr : Bool} {ps : List Past} {st : St} (h : ∀ i, hidden ps i = false) : (limF fr .call ps st).look = st.look := by
  cases st with | mk next heap vis wr =>
  funext i
  have hv : (limF fr .call ps ⟨next, heap, vis, wr⟩).vis = vis := by
    funext j
    show (vis j && !hidden ps j) = vis j
    rw [h j]; simp
  have hg : ∀ j, (limF fr .call ps ⟨next, heap, vis, wr⟩).get j = (⟨next, heap, vis, wr⟩ : St).get j := fun j => by
    show sel ((limF fr .call ps ⟨next, heap, vis, wr⟩).vis j) (heap.get j) none = sel (vis j) (heap.get j) none
    rw [hv]
  unfold St.look
  rw [hg]
  rfl
theorem allocL_back {l : St} : ∀ (new : List AObj) {os : List (Option AObj)}, (∀ j, os.length ≤ j → l.vis j = true ∧ l.wr j = true) → allocL new (back l (few os)) = some (back l (few (os ++ new.map some)))
  | [], os, _ => by simp [allocL]
  | o :: new, os, h => by
    show (match (back l (few os)).alloc o with | some (_, s) => allocL new s | none => none) = _
    rw [alloc_back (h _ (Nat.le_refl _)).1 (h _ (Nat.le_refl _)).2]
    dsimp only
    rw [allocL_back new (fun j hj => h j (by rw [List.length_append] at hj; exact Nat.le_trans (Nat.le_add_right ..) hj)), List.append_assoc]
    rfl
theorem auto_lim {base : CallT} {lf g : Nat} {fn : AFunc} {args : List V} {os : List (Option AObj)} {v : V} {s1 : St} {fr : Bool} {ps : List Past} (hp : ∀ i, hidden ps i = false)
    (h : Vabs.withL base g (lawOf (autoRd base lf fn)) g args (few os) = some (v, s1)) : Vabs.withL base g (lawOf (autoRd base lf fn)) g args (limF fr .call ps (few os)) = some (v, back (limF fr .call ps (few os)) s1) := by
  rw [withL_same] at h ⊢
  have h : lawOut (autoRd base lf fn args (few os)) (few os) = some (v, s1) := h
  show lawOut (autoRd base lf fn args (limF fr .call ps (few os))) (limF fr .call ps (few os)) = _
  rw [autoRd_congr (st' := few os) next_limF (look_limF hp)]
  cases hr : autoRd base lf fn args (few os) with
  | none => rw [hr] at h; cases h
  | some r =>
    obtain ⟨new, f⟩ := r
    rw [hr, lawOut_few] at h
    cases h
    show (match allocL new (limF fr .call ps (few os)) with | some st' => some (f (limF fr .call ps (few os)).next, st') | none => none) = _
    have hvw : ∀ j, os.length ≤ j → (limF fr .call ps (few os)).vis j = true ∧ (limF fr .call ps (few os)).wr j = true := fun j hj => by
      constructor
      · show (true && !hidden ps j) = true
        rw [hp]; rfl
      · show (true && (Nat.ble os.length j || (fr && unseen j ps))) = true
        rw [ble_t hj]; rfl
    have e := allocL_back (l := limF fr .call ps (few os)) new hvw
    rw [limF_back] at e
    rw [e, next_limF, few_next]
def InReg (f : (List V → St → Option (V × St))) : Prop := ∀ args (os : List (Option AObj)) v s1 fr ps, (∀ i, hidden ps i = false) → f args (few os) = some (v, s1) → f args (limF fr .call ps (few os)) = some (v, back (limF fr .call ps (few os)) s1)
theorem auto_inReg {base : CallT} {lf g : Nat} {fn : AFunc} : InReg (Vabs.withL base g (lawOf (autoRd base lf fn)) g) := fun args os v s1 fr ps hp h => auto_lim hp h
end Go.Vabs

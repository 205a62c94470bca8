/- Lemmas for this claim, text O. No condition. -/
import Derived.Test.YtcgiiomghmffbaaVabsY
namespace Go.Vabs
set_option linter.unusedSimpArgs false
set_option linter.unusedVariables false
def StepAt (call : CallT) (pa : Nat → Past) (sk : St) (k : Nat) (x : AOper) (inc : List Nat) (f : Frame) (s : St) (f1 : Frame) (s1 : St) : Prop :=
  (wanted f x.guard = some false ∧ f1 = f.put x.dst V.undef ∧ s1 = s) ∨
  (wanted f x.guard = some true ∧ ∃ v r, stepOp call x.op f sk = some (v, r) ∧ s1 = back s r ∧ f1 = f.put x.dst v ∧
    ((inc = [] ∧ sk = s) ∨ (inc ≠ [] ∧ ∃ ps, sk = limF (ahead k inc) (foot x.op f.ev) ps s ∧ (∀ j ∈ inc, j < k → pa j ∈ ps) ∧ okAll ps (foot x.op f.ev) = true ∧ pa k = ⟨s.next, s1.next, foot x.op f.ev⟩)))
theorem nthP_lt : ∀ (l : List Past) (i : Nat), i < l.length → ∃ p, nthP i l = some p
  | [], i, h => by simp at h
  | x :: l, 0, _ => ⟨x, rfl⟩
  | x :: l, i + 1, h => nthP_lt l i (by simpa using h)
theorem pastsOf_mem {past : List Past} {n j : Nat} {p : Past} (hj : j < n) (hp : nthP (n - 1 - j) past = some p) : ∀ inc : List Nat, j ∈ inc → p ∈ pastsOf past n inc
  | [], h => by cases h
  | i :: l, h => by
    show p ∈ sel (Nat.blt i n) (match nthP (n - 1 - i) past with | some p => p :: pastsOf past n l | none => pastsOf past n l) (pastsOf past n l)
    rcases List.mem_cons.1 h with rfl | h
    · rw [blt_iff.2 hj, hp]
      exact List.mem_cons_self ..
    · have ih := pastsOf_mem hj hp l h
      cases Nat.blt i n with
      | false => exact ih
      | true =>
        show p ∈ (match nthP (n - 1 - i) past with | some p => p :: pastsOf past n l | none => pastsOf past n l)
        cases nthP (n - 1 - i) past with
        | none => exact ih
        | some q => exact List.mem_cons_of_mem _ ih
theorem back_self {s r : St} (h : Went s r) : back s r = r := by
  rw [back_eq]
  have h1 := h.vis
  have h2 := h.wr
  cases r
  simp only at h1 h2
  rw [h1, h2]
theorem runD_trace {call : CallT} (hc : CallFramed call) : ∀ (xs : List (AOper × List Nat)) (m : Nat) (past : List Past) (f : Frame) (st : St) (f' : Frame) (st' : St), past.length = m → runD xs call m past f st = some (f', st') →
    ∃ (fs : Nat → Frame) (ss : Nat → St) (pa : Nat → Past) (sk : Nat → St), fs 0 = f ∧ ss 0 = st ∧ fs xs.length = f' ∧ ss xs.length = st' ∧ (∀ j, j < m → nthP (m - 1 - j) past = some (pa j)) ∧
      ∀ i x inc, xs[i]? = some (x, inc) → StepAt call pa (sk i) (m + i) x inc (fs i) (ss i) (fs (i + 1)) (ss (i + 1))
  | [], m, past, f, st, f', st', hl, h => by
    cases h
    refine ⟨fun _ => f, fun _ => st, fun j => (nthP (m - 1 - j) past).getD ⟨0, 0, .call⟩, fun _ => st, rfl, rfl, rfl, rfl, ?_, fun i x inc h => by simp at h⟩
    intro j hj
    obtain ⟨p, hp⟩ := nthP_lt past (m - 1 - j) (by omega)
    simp [hp]
  | (x, inc) :: xs, m, past, f, st, f', st', hl, h => by
    have next : ∀ (p : Past) (f1 : Frame) (s1 : St) (sk0 : St), runD xs call (Nat.succ m) (p :: past) f1 s1 = some (f', st') →
        (∀ pa : Nat → Past, pa m = p → (∀ j, j < m → nthP (m - 1 - j) past = some (pa j)) → StepAt call pa sk0 m x inc f st f1 s1) →
        ∃ (fs : Nat → Frame) (ss : Nat → St) (pa : Nat → Past) (sk : Nat → St), fs 0 = f ∧ ss 0 = st ∧ fs ((x, inc) :: xs).length = f' ∧ ss ((x, inc) :: xs).length = st' ∧ (∀ j, j < m → nthP (m - 1 - j) past = some (pa j)) ∧
          ∀ i y inc', ((x, inc) :: xs)[i]? = some (y, inc') → StepAt call pa (sk i) (m + i) y inc' (fs i) (ss i) (fs (i + 1)) (ss (i + 1)) := by
      intro p f1 s1 sk0 hr hst
      obtain ⟨fs, ss, pa, sk, k1, k2, k3, k4, k5, k6⟩ := runD_trace hc xs (Nat.succ m) (p :: past) f1 s1 f' st' (by simp [hl]) hr
      have hpm : pa m = p := by
        have := k5 m (Nat.lt_succ_self m)
        rw [show Nat.succ m - 1 - m = 0 from by omega] at this
        cases this; rfl
      have hpj : ∀ j, j < m → nthP (m - 1 - j) past = some (pa j) := by
        intro j hj
        have := k5 j (Nat.lt_succ_of_lt hj)
        rw [show Nat.succ m - 1 - j = (m - 1 - j) + 1 from by omega] at this
        exact this
      refine ⟨fun i => Nat.rec f (fun i _ => fs i) i, fun i => Nat.rec st (fun i _ => ss i) i, pa, fun i => Nat.rec sk0 (fun i _ => sk i) i, rfl, rfl, k3, k4, hpj, ?_⟩
      intro i y inc' hi
      cases i with
      | zero =>
        cases hi
        show StepAt call pa sk0 m x inc f st (fs 0) (ss 0)
        rw [k1, k2]
        exact hst pa hpm hpj
      | succ i =>
        have := k6 i y inc' hi
        rw [show Nat.succ m + i = m + (i + 1) from by omega] at this
        exact this
    have h : either (wanted f x.guard)
        (match inc with
        | [] => runDFree x (runD xs) call m past f st
        | _ :: _ => runDLim x (runD xs) call m past f st (pastsOf past m inc) (foot x.op f.ev) (ahead m inc))
        (runD xs call (Nat.succ m) (⟨st.next, st.next, .dir [] []⟩ :: past) (f.put x.dst V.undef) st) = some (f', st') := h
    cases hw : wanted f x.guard with
    | none => rw [hw] at h; cases h
    | some b =>
      rw [hw] at h
      cases b with
      | false => exact next _ _ _ st h fun pa _ _ => .inl ⟨hw, rfl, rfl⟩
      | true =>
        cases inc with
        | nil =>
          have h : (Option.rec none (Prod.rec fun v s => runD xs call (Nat.succ m) (⟨st.next, s.next, .call⟩ :: past) (f.put x.dst v) s) (stepOp call x.op f st) : Option (Frame × St)) = some (f', st') := h
          cases hs : stepOp call x.op f st with
          | none => rw [hs] at h; cases h
          | some q =>
            obtain ⟨v, r⟩ := q
            rw [hs] at h
            exact next _ _ _ st h fun pa _ _ => .inr ⟨hw, v, r, hs, (back_self (step_framed hc _ _ _ _ _ hs).1).symm, rfl, .inl ⟨rfl, rfl⟩⟩
        | cons a inc =>
          have h : sel (okAll (pastsOf past m (a :: inc)) (foot x.op f.ev)) (Option.rec none (Prod.rec fun v s => runD xs call (Nat.succ m) (⟨st.next, s.next, foot x.op f.ev⟩ :: past) (f.put x.dst v) (back st s)) (stepOp call x.op f (limF (ahead m (a :: inc)) (foot x.op f.ev) (pastsOf past m (a :: inc)) st)) : Option (Frame × St)) none = some (f', st') := h
          obtain ⟨hok, h⟩ := sel_some h
          cases hs : stepOp call x.op f (limF (ahead m (a :: inc)) (foot x.op f.ev) (pastsOf past m (a :: inc)) st) with
          | none => rw [hs] at h; cases h
          | some q =>
            obtain ⟨v, r⟩ := q
            rw [hs] at h
            refine next _ _ _ _ h fun pa hpm hpj => .inr ⟨hw, v, r, hs, rfl, rfl, .inr ⟨by simp, _, rfl, ?_, hok, ?_⟩⟩
            · intro j hj hlt
              exact pastsOf_mem hlt (hpj j hlt) _ hj
            · rw [hpm, back_next]
theorem withPartners_get {aops : List AOp} {pr : List Nat} : ∀ (l : List AOper) (m i : Nat) (x : AOper), l[i]? = some x → (withPartners aops pr m l)[i]? = some (x, partners aops pr (m + i) x.op)
  | [], m, i, x, h => by simp at h
  | y :: l, m, 0, x, h => by cases h; rfl
  | y :: l, m, i + 1, x, h => by
    have := withPartners_get (aops := aops) (pr := pr) l (m + 1) i x h
    rw [show m + 1 + i = m + (i + 1) from by omega] at this
    exact this
theorem withPartners_length {aops : List AOp} {pr : List Nat} : ∀ (l : List AOper) (m : Nat), (withPartners aops pr m l).length = l.length
  | [], m => rfl
  | y :: l, m => congrArg (· + 1) (withPartners_length l (m + 1))
structure Run (call : CallT) (pr : List Nat) (l : List AOper) (f : Frame) (st : St) (f' : Frame) (st' : St) (fs : Nat → Frame) (ss : Nat → St) (pa : Nat → Past) (sk : Nat → St) : Prop where
  f0 : fs 0 = f
  s0 : ss 0 = st
  fn : fs l.length = f'
  sn : ss l.length = st'
  step : ∀ k x, l[k]? = some x → StepAt call pa (sk k) k x (partners (l.map (·.op)) pr k x.op) (fs k) (ss k) (fs (k + 1)) (ss (k + 1))
theorem run_of {call : CallT} (hc : CallFramed call) {pr : List Nat} {l : List AOper} {f f' : Frame} {st st' : St} (h : runD (withPartners (l.map (·.op)) pr 0 l) call 0 [] f st = some (f', st')) : ∃ fs ss pa sk, Run call pr l f st f' st' fs ss pa sk := by
  obtain ⟨fs, ss, pa, sk, h1, h2, h3, h4, _, h6⟩ := runD_trace hc _ 0 [] f st f' st' rfl h
  rw [withPartners_length] at h3 h4
  refine ⟨fs, ss, pa, sk, h1, h2, h3, h4, fun k x hx => ?_⟩
  have := h6 k x _ (withPartners_get l 0 k x hx)
  rw [Nat.zero_add] at this
  exact this
theorem comparable_comm (pr : List Nat) (j k : Nat) : comparable pr j k = comparable pr k j := by unfold comparable; rw [Bool.or_comm]
theorem mem_partners {l : List AOper} {pr : List Nat} {k j : Nat} {x y : AOper} (hy : l[j]? = some y) (sx : x.op.still = false) (sy : y.op.still = false) (hne : j ≠ k) (hc : ¬ comparable pr j k = true) : j ∈ partners (l.map (·.op)) pr k x.op := by
  unfold partners
  rw [if_neg (by rw [sx]; simp), List.mem_filter, List.mem_range]
  have hj := (List.getElem?_eq_some_iff.1 hy).1
  refine ⟨by simpa using hj, ?_⟩
  rw [List.getElem?_map, hy]
  have : Nat.beq j k = false := by
    cases hb : Nat.beq j k with
    | false => rfl
    | true => rw [Nat.beq_eq] at hb; exact absurd hb hne
  simp only [Option.map_some, sy, this, Bool.not_false, Bool.true_and, Bool.not_eq_true']
  simpa using hc
theorem mem_of {i : Nat} : ∀ {l : List Nat}, mem i l = true ↔ i ∈ l
  | [] => by simp [mem]
  | j :: l => by
    show sel (Nat.beq i j) true (mem i l) = true ↔ _
    cases hb : Nat.beq i j with
    | true => rw [Nat.beq_eq] at hb; subst hb; simp [sel]
    | false =>
      have : i ≠ j := fun e => by rw [← Nat.beq_eq, hb] at e; cases e
      show mem i l = true ↔ _
      rw [mem_of, List.mem_cons]
      exact ⟨.inr, fun h => h.resolve_left this⟩
theorem anyIn_of {lo hi i : Nat} : ∀ {l : List Nat}, i ∈ l → lo ≤ i → i < hi → anyIn lo hi l = true
  | [], h, _, _ => by cases h
  | j :: l, h, h1, h2 => by
    show sel (Nat.ble lo j && Nat.blt j hi) true (anyIn lo hi l) = true
    rcases List.mem_cons.1 h with rfl | h
    · rw [Nat.ble_eq.mpr h1, blt_iff.2 h2]; rfl
    · have := anyIn_of (hi := hi) h h1 h2
      cases (Nat.ble lo j && Nat.blt j hi) with
      | true => rfl
      | false => exact this
theorem meets_of {i : Nat} : ∀ {l m : List Nat}, i ∈ l → i ∈ m → meets l m = true
  | [], m, h, _ => by cases h
  | j :: l, m, h, hm => by
    show sel (mem j m) true (meets l m) = true
    rcases List.mem_cons.1 h with rfl | h
    · rw [mem_of.2 hm]; rfl
    · have := meets_of h hm
      cases mem j m with
      | true => rfl
      | false => exact this
theorem okAll_mem : ∀ {ps : List Past} {ft : Foot} {p : Past}, okAll ps ft = true → p ∈ ps → okPair p ft = true
  | [], ft, p, _, h => by cases h
  | q :: ps, ft, p, h, hp => by
    simp only [okAll, Bool.and_eq_true] at h
    rcases List.mem_cons.1 hp with rfl | hp
    · exact h.1
    · exact okAll_mem h.2 hp
theorem hidden_of {p : Past} {i : Nat} : ∀ {ps : List Past}, p ∈ ps → p.lo ≤ i → i < p.hi → hidden ps i = true
  | [], h, _, _ => by cases h
  | q :: ps, h, h1, h2 => by
    unfold hidden
    rcases List.mem_cons.1 h with rfl | h
    · rw [Nat.ble_eq.mpr h1, blt_iff.2 h2]; rfl
    · rw [hidden_of h h1 h2, Bool.or_true]
theorem ahead_all {n : Nat} : ∀ {l : List Nat}, ahead n l = true → ∀ q ∈ l, q < n
  | [], _, q, h => by cases h
  | j :: l, h, q, hq => by
    have h : (Nat.blt j n && ahead n l) = true := h
    rw [Bool.and_eq_true] at h
    rcases List.mem_cons.1 hq with rfl | hq
    · exact blt_iff.1 h.1
    · exact ahead_all h.2 q hq
theorem unseen_mem {i : Nat} : ∀ {ps : List Past}, unseen i ps = true → ∀ {p : Past}, p ∈ ps → ∃ rs ws, p.foot = .dir rs ws ∧ ¬ i ∈ rs
  | [], _, p, h => by cases h
  | q :: ps, h, p, hp => by
    have h : ((match q.foot with | .dir rs _ => !mem i rs | .call => false) && unseen i ps) = true := h
    rw [Bool.and_eq_true] at h
    rcases List.mem_cons.1 hp with rfl | hp
    · cases hf : p.foot with
      | call => rw [hf] at h; cases h.1
      | dir rs ws =>
        rw [hf] at h
        refine ⟨rs, ws, rfl, fun hm => ?_⟩
        have h1 : (!mem i rs) = true := h.1
        rw [mem_of.2 hm] at h1; cases h1
    · exact unseen_mem h.2 hp
section
variable {call : CallT} {pr : List Nat} {l : List AOper} {f f' : Frame} {st st' : St} {fs : Nat → Frame} {ss : Nat → St} {pa : Nat → Past} {sk : Nat → St}
def Live (l : List AOper) (fs : Nat → Frame) (k : Nat) : Prop := ∃ x, l[k]? = some x ∧ x.op.still = false ∧ wanted (fs k) x.guard = some true
def Wr (l : List AOper) (fs : Nat → Frame) (ss sk : Nat → St) (k i : Nat) : Prop := Live l fs k ∧ (((ss k).next ≤ i ∧ i < (ss (k + 1)).next) ∨ ((sk k).vis i = true ∧ (sk k).wr i = true ∧ ((ss k).heap.get i).isSome = true))
def Rd (l : List AOper) (fs : Nat → Frame) (sk : Nat → St) (k i : Nat) : Prop := Live l fs k ∧ ((sk k).get i).isSome = true
variable (hc : CallFramed call) (hR : Run call pr l f st f' st' fs ss pa sk)
structure Ran (call : CallT) (x : AOper) (f : Frame) (s sk : St) (f1 : Frame) (s1 : St) (v : V) (r : St) : Prop where
  next : sk.next = s.next
  heap : sk.heap = s.heap
  vis : ∀ i, sk.vis i = true → s.vis i = true
  run : stepOp call x.op f sk = some (v, r)
  rnext : s1.next = r.next
  rheap : s1.heap = r.heap
  put : f1 = f.put x.dst v
include hR in
theorem Run.ran {k : Nat} {x : AOper} (hx : l[k]? = some x) (hw : wanted (fs k) x.guard = some true) : ∃ v r, Ran call x (fs k) (ss k) (sk k) (fs (k + 1)) (ss (k + 1)) v r := by
  rcases hR.step k x hx with ⟨h, _⟩ | ⟨_, v, r, h1, h2, h3, h4⟩
  · rw [hw] at h; cases h
  · refine ⟨v, r, ?_⟩
    have e1 : (ss (k + 1)).next = r.next := by rw [h2, back_eq]
    have e2 : (ss (k + 1)).heap = r.heap := by rw [h2, back_eq]
    rcases h4 with ⟨_, h⟩ | ⟨_, ps, h, _⟩
    · exact ⟨by rw [h], by rw [h], fun i hi => by rw [h] at hi; exact hi, h1, e1, e2, h3⟩
    · refine ⟨by rw [h, limF_eq], by rw [h, limF_eq], fun i hi => ?_, h1, e1, e2, h3⟩
      rw [h, limF_eq] at hi
      simp only [Bool.and_eq_true] at hi
      exact hi.1
theorem stepOp_still {x : AOper} {g : Frame} {s r : St} {v : V} (hs : x.op.still = true) (h : stepOp call x.op g s = some (v, r)) : r = s ∧ ∀ g', stepOp call x.op g g' = some (v, g') := by
  have hh : (Option.rec none (Prod.rec fun r s => afterRes call s r) (execOp x.op g.ev s) : Option (V × St)) = some (v, r) := h
  cases hex : execOp x.op g.ev s with
  | none => rw [hex] at hh; cases hh
  | some p =>
    obtain ⟨q, s1⟩ := p
    rw [hex] at hh
    obtain ⟨u, rfl⟩ := still_val hs hex
    obtain ⟨h1, h2⟩ := still_op hs _ _ _ _ hex
    subst h1
    have hh : some (u, s1) = some (v, r) := hh
    cases hh
    refine ⟨rfl, fun g' => ?_⟩
    show (Option.rec none (Prod.rec fun r s => afterRes call s r) (execOp x.op g.ev g') : Option (V × St)) = _
    rw [h2 g']
    rfl
include hc hR in
theorem Run.next_le {k : Nat} {x : AOper} (hx : l[k]? = some x) : (ss k).next ≤ (ss (k + 1)).next := by
  rcases hR.step k x hx with ⟨_, _, h⟩ | ⟨hw, _⟩
  · rw [h]; exact Nat.le_refl _
  · obtain ⟨v, r, R⟩ := hR.ran hx hw
    rw [R.rnext, ← R.next]
    exact (step_framed hc _ _ _ _ _ R.run).1.next
include hc hR in
theorem Run.mono {j k : Nat} (h : j ≤ k) (hk : k ≤ l.length) : (ss j).next ≤ (ss k).next := by
  obtain ⟨d, rfl⟩ := Nat.le.dest h
  clear h
  induction d with
  | zero => exact Nat.le_refl _
  | succ d ih =>
    have hlt : j + d < l.length := by omega
    exact Nat.le_trans (ih (by omega)) (hR.next_le hc (List.getElem?_eq_getElem hlt))
include hc hR in
theorem Run.keeps {k : Nat} (hk : k < l.length) (i : Nat) (hw : ¬ Wr l fs ss sk k i) : (ss (k + 1)).heap.get i = (ss k).heap.get i := by
  have hx := List.getElem?_eq_getElem hk
  rcases hR.step k _ hx with ⟨_, _, h⟩ | ⟨hwa, _⟩
  · rw [h]
  · obtain ⟨v, r, R⟩ := hR.ran hx hwa
    rw [R.rheap, ← R.heap]
    cases hs : (l[k]).op.still with
    | true => rw [(stepOp_still hs R.run).1]
    | false =>
      have went := (step_framed hc _ _ _ _ _ R.run).1
      by_cases he : r.heap.get i = (sk k).heap.get i
      · exact he
      · refine absurd ⟨⟨_, hx, hs, hwa⟩, ?_⟩ hw
        rcases went.heap i he with ⟨a, b⟩ | ⟨a, b, c⟩
        · exact .inl ⟨by rw [← R.next]; exact a, by rw [R.rnext]; exact b⟩
        · exact .inr ⟨a, b, by rw [← R.heap]; exact c⟩
include hc hR in
theorem Run.neat (h0 : Neat st) : ∀ k, k ≤ l.length → Neat (ss k)
  | 0, _ => by rw [hR.s0]; exact h0
  | k + 1, hk => by
    have ih := Run.neat h0 k (by omega)
    have hlt : k < l.length := hk
    have hx := List.getElem?_eq_getElem hlt
    have hvis : (ss (k + 1)).vis = (ss k).vis := by
      rcases hR.step k _ hx with ⟨_, _, h⟩ | ⟨_, v, r, _, h, _⟩
      · rw [h]
      · rw [h, back_eq]
    intro i hi
    by_cases hv : (ss (k + 1)).vis i = true
    · rw [get_of hv]
      have hle := hR.next_le hc hx
      have hn := ih i (Nat.le_trans hle hi)
      rw [hvis] at hv
      rw [get_of hv] at hn
      rw [hR.keeps hc hlt i, hn]
      rintro ⟨_, ⟨a, b⟩ | ⟨a, b, c⟩⟩
      · omega
      · rw [hn] at c; cases c
    · exact get_none hv
theorem vis_none {s : St} (hn : Neat s) {i : Nat} (hv : s.vis i = true) (hs : (s.heap.get i).isSome = true) : i < s.next := by
  rcases Nat.lt_or_ge i s.next with h | h
  · exact h
  · have := hn i h
    rw [get_of hv] at this
    rw [this] at hs; cases hs
include hc hR in
theorem Run.lim (h0 : Neat st) {k j : Nat} {x : AOper} (hk : k < l.length) (hx : l[k]? = some x) (hw : wanted (fs k) x.guard = some true) (hj : j ∈ partners (l.map (·.op)) pr k x.op) :
    ∃ ft, pa k = ⟨(ss k).next, (ss (k + 1)).next, ft⟩ ∧
      (j < k → okPair (pa j) ft = true ∧ (ft = .call → ∀ i, (sk k).vis i = true → ¬ ((pa j).lo ≤ i ∧ i < (pa j).hi))) ∧
      (∀ i, Rd l fs sk k i → i < (ss k).next ∧ ∀ rs ws, ft = .dir rs ws → i ∈ rs) ∧
      (∀ i, (sk k).vis i = true → (sk k).wr i = true → ((ss k).heap.get i).isSome = true → i < (ss k).next ∧ ((∃ rs ws, ft = .dir rs ws ∧ i ∈ rs ∧ i ∈ ws) ∨ (ft = .call ∧ (∀ q ∈ partners (l.map (·.op)) pr k x.op, q < k) ∧ (j < k → ∃ rs ws, (pa j).foot = .dir rs ws ∧ ¬ i ∈ rs)))) := by
  rcases hR.step k x hx with ⟨h, _⟩ | ⟨_, v, r, _, _, _, ⟨h, _⟩ | ⟨_, ps, h1, h2, h3, h4⟩⟩
  · rw [hw] at h; cases h
  · rw [h] at hj; cases hj
  · have neat := hR.neat hc h0 k (Nat.le_of_lt hk)
    generalize foot x.op (fs k).ev = ft at h1 h3 h4
    have sv : ∀ i, (sk k).vis i = true → (ss k).vis i = true ∧ limVis ft ps (ss k).next i = true := by
      intro i hi
      rw [h1, limF_eq] at hi
      simpa using hi
    have sw : ∀ i, (sk k).wr i = true → limWr (ahead k (partners (l.map (·.op)) pr k x.op)) ft ps (ss k).next i = true := by
      intro i hi
      rw [h1, limF_eq] at hi
      simp only [Bool.and_eq_true] at hi
      exact hi.2
    have dirIn : ∀ rs ws i, ft = .dir rs ws → (sk k).vis i = true → i < (ss k).next → i ∈ rs := by
      intro rs ws i hft hi hlt
      have := (sv i hi).2
      rw [hft] at this
      simp only [limVis, Bool.or_eq_true, Nat.ble_eq] at this
      rcases this with h | h
      · omega
      · exact mem_of.1 h
    refine ⟨ft, h4, ?_, ?_, ?_⟩
    · intro hlt
      have hm := h2 j hj hlt
      refine ⟨okAll_mem h3 hm, ?_⟩
      rintro rfl i hi ⟨a, b⟩
      have := (sv i hi).2
      simp only [limVis, hidden_of hm a b, Bool.not_true] at this
      cases this
    · rintro i ⟨_, hi⟩
      rw [Option.isSome_iff_exists] at hi
      obtain ⟨o, ho⟩ := hi
      have hv := get_vis ho
      have hh := St.get_heap ho
      have hheap : (sk k).heap = (ss k).heap := by rw [h1, limF_eq]
      rw [hheap] at hh
      have hlt := vis_none neat (sv i hv).1 (by rw [hh]; rfl)
      exact ⟨hlt, fun rs ws hft => dirIn rs ws i hft hv hlt⟩
    · intro i hv hwr hs
      have hlt := vis_none neat (sv i hv).1 hs
      refine ⟨hlt, ?_⟩
      have hww := sw i hwr
      cases ft with
      | call =>
        simp only [limWr, Bool.or_eq_true, Bool.and_eq_true, Nat.ble_eq] at hww
        rcases hww with h | ⟨h, h'⟩
        · omega
        · exact .inr ⟨rfl, ahead_all h, fun hlt => unseen_mem h' (h2 j hj hlt)⟩
      | dir rs ws =>
        simp only [limWr, Bool.or_eq_true, Nat.ble_eq] at hww
        rcases hww with h | h
        · omega
        · exact .inl ⟨rs, ws, rfl, dirIn rs ws i rfl hv hlt, mem_of.1 h⟩
include hc hR in
theorem Run.bound (h0 : Neat st) {j k i : Nat} (hjk : j < k) (hk : k < l.length) (h : (Wr l fs ss sk j i ∧ (Wr l fs ss sk k i ∨ Rd l fs sk k i)) ∨ (Rd l fs sk j i ∧ Wr l fs ss sk k i)) : comparable pr j k = true := by
  by_cases hcmp : comparable pr j k = true
  · exact hcmp
  exfalso
  have hlj : Live l fs j := by rcases h with ⟨h, _⟩ | ⟨h, _⟩ <;> exact h.1
  have hlk : Live l fs k := by rcases h with ⟨_, h | h⟩ | ⟨_, h⟩ <;> exact h.1
  obtain ⟨x, hx, sx, wx⟩ := hlj
  obtain ⟨y, hy, sy, wy⟩ := hlk
  have pk : j ∈ partners (l.map (·.op)) pr k y.op := mem_partners hx sy sx (by omega) hcmp
  have pj : k ∈ partners (l.map (·.op)) pr j x.op := mem_partners hy sx sy (by omega) (by rw [comparable_comm]; exact hcmp)
  obtain ⟨fj, j1, _, j3, j4⟩ := hR.lim hc h0 (by omega) hx wx pj
  obtain ⟨fk, k1, k2, k3, k4⟩ := hR.lim hc h0 hk hy wy pk
  obtain ⟨ok, hid⟩ := k2 hjk
  rw [j1] at ok hid
  have hle : (ss (j + 1)).next ≤ (ss k).next := hR.mono hc hjk (Nat.le_of_lt hk)
  have hle0 : (ss j).next ≤ (ss (j + 1)).next := hR.next_le hc hx
  rcases h with ⟨⟨_, hj⟩, hk'⟩ | ⟨hj, ⟨_, hk'⟩⟩
  ·
    have hi : i < (ss k).next := by
      rcases hj with ⟨_, a⟩ | ⟨a, b, c⟩
      · omega
      · have := (j4 i a b c).1; omega
    have hsee : (sk k).vis i = true ∧ ∀ rs ws, fk = .dir rs ws → i ∈ rs := by
      rcases hk' with ⟨_, ⟨a, _⟩ | ⟨a, b, c⟩⟩ | hk'
      · omega
      · obtain ⟨_, ⟨rs, ws, e, hr, _⟩ | ⟨e, _⟩⟩ := k4 i a b c
        · exact ⟨a, fun rs' ws' e' => by rw [e] at e'; cases e'; exact hr⟩
        · exact ⟨a, fun rs' ws' e' => by rw [e] at e'; cases e'⟩
      · have := hk'.2
        rw [Option.isSome_iff_exists] at this
        obtain ⟨o, ho⟩ := this
        exact ⟨get_vis ho, (k3 i hk').2⟩
    cases fk with
    | call =>
      rcases hj with hj | ⟨a, b, c⟩
      · exact hid rfl i hsee.1 hj
      · obtain ⟨_, ⟨rs, ws, e, _, hw⟩ | ⟨_, hq, _⟩⟩ := j4 i a b c
        · rw [e] at ok
          simp only [okPair] at ok
          cases ws with
          | nil => cases hw
          | cons => cases ok
        · have := hq k pj; omega
    | dir rs ws =>
      have hr := hsee.2 rs ws rfl
      simp only [okPair, Bool.and_eq_true, Bool.not_eq_true'] at ok
      rcases hj with ⟨a, b⟩ | ⟨a, b, c⟩
      · have := anyIn_of (hi := (ss (j + 1)).next) hr a b
        rw [this] at ok; cases ok.1
      · obtain ⟨_, ⟨rs', ws', e, _, hw⟩ | ⟨_, hq, _⟩⟩ := j4 i a b c
        · rw [e] at ok
          simp only [Bool.and_eq_true, Bool.not_eq_true'] at ok
          have := meets_of hw hr
          rw [this] at ok; cases ok.2.1
        · have := hq k pj; omega
  ·
    have hi := (j3 i hj).1
    rcases hk' with ⟨a, _⟩ | ⟨a, b, c⟩
    · omega
    · obtain ⟨_, ⟨rs, ws, e, _, hw⟩ | ⟨_, _, hq⟩⟩ := k4 i a b c
      · rw [e] at ok
        simp only [okPair, Bool.and_eq_true, Bool.not_eq_true'] at ok
        cases fj with
        | call =>
          simp only at ok
          cases ws with
          | nil => cases hw
          | cons => cases ok.2
        | dir rs' ws' =>
          have hr := (j3 i hj).2 rs' ws' rfl
          simp only [Bool.and_eq_true, Bool.not_eq_true'] at ok
          have := meets_of hw hr
          rw [this] at ok; cases ok.2.2
      · obtain ⟨rs', ws', e, hn⟩ := hq hjk
        rw [j1] at e
        exact hn ((j3 i hj).2 rs' ws' e)
end
end Go.Vabs

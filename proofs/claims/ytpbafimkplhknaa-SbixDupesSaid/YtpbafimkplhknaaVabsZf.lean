/-
  Operations in a memory that shows a part; laws of flat arguments.
-/
import Derived.Test.YtpbafimkplhknaaVabsZe
namespace Go.Vabs
set_option linter.unusedVariables false
set_option linter.unusedSimpArgs false

theorem back_as {l t : St} : back l t = ⟨t.next, t.heap, l.vis, l.wr⟩ := by cases l; cases t; rfl
theorem back_back {a b t : St} : back a (back b t) = back a t := by rw [back_as, back_as, back_as]
theorem back_few {os os' : List (Option AObj)} : back (few os) (few os') = few os' := rfl
theorem next_back {a t : St} : (back a t).next = t.next := by rw [back_as]
theorem limited_back {ft : Foot} {ps : List Past} {st : St} : back (limited ft ps st) st = limited ft ps st := by cases st; cases ft <;> rfl

section
variable {l : St} {os : List (Option AObj)}
theorem get_back {i : Nat} (h : l.vis i = true) : (back l (few os)).get i = (few os).get i := by
  rw [back_as, St.get_eq, St.get_eq]
  show (if l.vis i = true then _ else none) = if true = true then _ else none
  rw [if_pos h, if_pos rfl]
theorem alloc_back {o : AObj} (h : l.vis os.length = true) (h' : l.wr os.length = true) : (back l (few os)).alloc o = some (os.length, back l (few (os ++ [some o]))) := by
  rw [back_as, back_as]
  show sel (l.vis os.length && l.wr os.length) (some (os.length, (⟨os.length + 1, (heapFrom 0 os .nil).set os.length (some o), l.vis, l.wr⟩ : St))) none = _
  rw [h, h']
  show some (os.length, (⟨os.length + 1, (heapFrom 0 os .nil).set os.length (some o), l.vis, l.wr⟩ : St)) = some (os.length, ⟨(os ++ [some o]).length, heapFrom 0 (os ++ [some o]) .nil, l.vis, l.wr⟩)
  rw [heapFrom_snoc, Nat.zero_add, List.length_append]
  rfl
theorem set_back {i : Nat} {o : Option AObj} {x : AObj} (hx : (os[i]?).join = some x) (h : l.vis i = true) (h' : l.wr i = true) : (back l (few os)).set i o = some (back l (few (os.set i o))) := by
  have hi : i < os.length := by
    cases hx' : os[i]? with
    | none => rw [hx'] at hx; cases hx
    | some y => exact (List.getElem?_eq_some_iff.1 hx').1
  rw [back_as, back_as]
  show sel (l.vis i && l.wr i) (Option.rec none (fun _ => some (⟨os.length, (heapFrom 0 os .nil).set i o, l.vis, l.wr⟩ : St)) ((few os).heap.get i)) none = _
  rw [h, h', few_heap, hx]
  show some (⟨os.length, (heapFrom 0 os .nil).set i o, l.vis, l.wr⟩ : St) = some ⟨(os.set i o).length, heapFrom 0 (os.set i o) .nil, l.vis, l.wr⟩
  have := heapFrom_set os 0 i .nil o hi
  rw [Nat.zero_add] at this
  rw [this, List.length_set]
/-- An answer, in the memory that shows a part. -/
noncomputable def backv (l : St) : Option (V × St) → Option (V × St)
  | some (v, t) => some (v, back l t)
  | none => none
theorem store_back {n i o : Nat} {cs : List V} (h : l.vis i = true) (h' : l.wr i = true) : storeV (back l (few os)) n (.ptr (some (i, o))) (some cs) = backv l (storeV (few os) n (.ptr (some (i, o))) (some cs)) := by
  show sel (Nat.beq cs.length n) (match (back l (few os)).storeN i o cs with | some st' => some (V.undef, st') | none => none) none = backv l (sel (Nat.beq cs.length n) (match (few os).storeN i o cs with | some st' => some (V.undef, st') | none => none) none)
  unfold St.storeN
  rw [get_back h, few_get]
  cases Nat.beq cs.length n with
  | false => rfl
  | true =>
    dsimp only [sel_true]
    cases hx : (os[i]?).join with
    | none => rfl
    | some ob =>
      cases ob with
      | map own es c => rfl
      | cells own xs =>
        cases own with
        | false => rfl
        | true =>
          dsimp only
          cases splice o cs xs with
          | none => rfl
          | some r =>
            dsimp only
            rw [set_back hx h h', few_set hx]
            rfl
end
theorem vis_dir {rs ws : List Nat} {ps : List Past} {os : List (Option AObj)} {i : Nat} (h : i ∈ rs ∨ os.length ≤ i) : (limited (.dir rs ws) ps (few os)).vis i = true := by
  show (true && (Nat.ble os.length i || Vabs.mem i rs)) = true
  rcases h with h | h
  · rw [mem_of.2 h, Bool.or_true, Bool.and_true]
  · rw [ble_t h, Bool.true_or, Bool.and_true]
theorem wr_dir {rs ws : List Nat} {ps : List Past} {os : List (Option AObj)} {i : Nat} (h : i ∈ ws ∨ os.length ≤ i) : (limited (.dir rs ws) ps (few os)).wr i = true := by
  show (true && (Nat.ble os.length i || Vabs.mem i ws)) = true
  rcases h with h | h
  · rw [mem_of.2 h, Bool.or_true, Bool.and_true]
  · rw [ble_t h, Bool.true_or, Bool.and_true]
section
variable {rs ws : List Nat} {ps : List Past} {os : List (Option AObj)}
theorem alloc_dir {o : AObj} : (limited (.dir rs ws) ps (few os)).alloc o = some (os.length, back (limited (.dir rs ws) ps (few os)) (few (os ++ [some o]))) := by
  rw [← limited_back]
  exact (alloc_back (vis_dir (.inr (Nat.le_refl _))) (wr_dir (.inr (Nat.le_refl _)))).trans (by rw [limited_back])
theorem store_dir {n i o : Nat} {cs : List V} : storeV (limited (.dir (idOf (.ptr (some (i, o)))) (idOf (.ptr (some (i, o))))) ps (few os)) n (.ptr (some (i, o))) (some cs) =
    backv (limited (.dir (idOf (.ptr (some (i, o)))) (idOf (.ptr (some (i, o))))) ps (few os)) (storeV (few os) n (.ptr (some (i, o))) (some cs)) := by
  have h : i ∈ idOf (.ptr (some (i, o))) := List.mem_cons_self ..
  have := store_back (l := limited (.dir (idOf (.ptr (some (i, o)))) (idOf (.ptr (some (i, o))))) ps (few os)) (os := os) (n := n) (o := o) (cs := cs) (vis_dir (.inl h)) (wr_dir (.inl h))
  rw [limited_back] at this
  exact this
end
theorem foot_store {s : Env} {n : Nat} {a x : Src} : foot (.store n a x) s.ev = .dir (idOf (s.ev a)) (idOf (s.ev a)) := rfl
theorem foot_alloc {s : Env} {zs : List V} : foot (.alloc zs) s.ev = .dir [] [] := rfl
theorem foot_box {s : Env} {x : Src} : foot (.box x) s.ev = .dir [] [] := rfl
theorem foot_bslice {s : Env} {e n : Nat} {zs : List V} {ps : List (Nat × Nat × Src)} : foot (.bslice e n zs ps) s.ev = .dir [] [] := rfl
theorem foot_append {s : Env} {e b : Nat} {d x : Src} : foot (.append e b d x) s.ev = .dir (idOf (s.ev d) ++ idOf (s.ev x)) (idOf (s.ev d)) := rfl
theorem foot_call {s : Env} {f : Nat} {xs : List Src} : foot (.call f xs) s.ev = .call := rfl
theorem step_box {call : CallT} {s : Env} {st : St} {x : Src} : stepE call (.box x) s st = (match (s.ev x).cells with | some cs => newV (fun j => .ptr (some (j, 0))) (st.alloc (.cells true cs)) | none => none) := by
  show (match ex_box x s.ev st with | some (.val v, st') => _ | some (.enter g args, st') => _ | none => _) = _
  unfold ex_box
  cases (s.ev x).cells with
  | none => rfl
  | some cs => dsimp only; cases st.alloc (.cells true cs) <;> rfl

/- FLAT ARGUMENTS -/
/-- A flat value, or an aggregate of such. -/
def V.flatA : V → Bool
  | .agg cs => cs.all V.flat
  | v => v.flat
theorem flats_R1 {ι ι' : Map} : ∀ {vs : List V} {xs : List Value}, (∀ v ∈ vs, v.flat = true) → All2 (R1 ι) vs xs → All2 (R1 ι') vs xs
  | [], [], _, _ => trivial
  | v :: vs, x :: xs, h, ⟨a, b⟩ => ⟨flat_R1 (h v (List.mem_cons_self ..)) a, flats_R1 (fun u hu => h u (List.mem_cons_of_mem _ hu)) b⟩
  | [], _ :: _, _, h => h.elim
  | _ :: _, [], _, h => h.elim
theorem flatA_R2 {v : V} (h : v.flatA = true) {ι ι' : Map} {x : Value} (hr : R2 ι v x) : R2 ι' v x := by
  cases v with
  | agg cs =>
    obtain ⟨cs', rfl, h1⟩ := hr
    have h : cs.all V.flat = true := h
    exact ⟨cs', rfl, flats_R1 (fun v hv => List.all_eq_true.1 h v hv) h1⟩
  | _ => (dsimp only [V.flatA] at h; exact flat_R2 h hr)
theorem flatA_R {v : V} (h : v.flatA = true) {ι ι' : Map} {x : Value} (hr : R ι v x) : R ι' v x := by
  cases v with
  | agg cs => exact (flatA_R2 (ι' := ι') h hr : R2 ι' (.agg cs) x)
  | _ => (dsimp only [V.flatA] at h; exact flat_R h hr)
/-- Such, or a tuple of such. -/
def V.flatsA : V → Bool
  | .tuple vs => vs.all V.flatA
  | v => v.flatA
theorem flatsA_R {v : V} (h : v.flatsA = true) {ι ι' : Map} {x : Value} (hr : R ι v x) : R ι' v x := by
  cases v with
  | tuple vs =>
    obtain ⟨vs', rfl, h1⟩ := hr
    have h : vs.all V.flatA = true := h
    refine ⟨vs', rfl, ?_⟩
    have key : ∀ (l : List V) (m : List Value), l.all V.flatA = true → All2 (R2 ι) l m → All2 (R2 ι') l m := by
      intro l
      induction l with
      | nil => intro m _ hm; cases m with | nil => trivial | cons => exact hm.elim
      | cons a l ih =>
        intro m ha hm
        cases m with
        | nil => exact hm.elim
        | cons b m =>
          simp only [List.all_cons, Bool.and_eq_true] at ha
          exact ⟨flatA_R2 ha.1 hm.1, ih m ha.2 hm.2⟩
    exact key vs _ h h1
  | _ => (dsimp only [V.flatsA] at h; exact flatA_R h hr)
theorem Left.flatA {τ : Way} {n : Nat} {s0 s1 : St} {v : V} (h : v.flatsA = true) : Left τ n s0 s1 v [] [] v :=
  ⟨fun ι1 ι2 x _ hr => flatsA_R h hr, rfl, (fun j k o h => by cases h), (fun j j' k h => by cases h)⟩
theorem Seen.flatA {st : St} {args : List V} (h : args.all V.flatA = true) : Seen (fun _ => none) args st args (few []) := by
  refine .ofCells ?_ (fun k o hk => by rw [few_heap] at hk; simp at hk) (fun _ _ => rfl) (few_neat _)
  have key : ∀ l : List V, l.all V.flatA = true → All2 (fun a0 a => ∀ ι x, R ι a x → R (via (fun _ => none) ι) a0 x) l l := by
    intro l
    induction l with
    | nil => intro _; trivial
    | cons a l ih =>
      intro ha
      simp only [List.all_cons, Bool.and_eq_true] at ha
      exact ⟨fun ι x hx => flatA_R ha.1 hx, ih ha.2⟩
  exact key args h
/-- A law of a function of flat arguments. -/
noncomputable def flatRd (spec : List V → Option Ans) : List V → St → Option Ans := fun args _ => if args.all V.flatA = true then spec args else none
theorem flatRd_reads (spec : List V → Option Ans) : Reads (flatRd spec) := fun args s s' g a h _ => h
theorem Sound.flat {P : Program} {call : CallT} (hmix : P.follows .mixedOrders = true) (h : Sound P call) {g : Nat} {fn : AFunc} (lf : Nat) (hc : compF P g = some fn) {spec : List V → Option Ans}
    (hrun : ∀ args os f, spec args = some (os, f) → ∃ v0 s1 σ, enterF call lf args (few []) fn = some (v0, s1) ∧ ∀ n, Left (fun _ => none) n (few []) s1 v0 os σ (f n)) : Sound P (Vabs.withL call g (lawOf (flatRd spec))) := by
  refine h.withL (h.withF hmix lf hc) (flatRd_reads _) ?_
  intro args st os f hr
  unfold flatRd at hr
  split at hr
  · rename_i ha
    obtain ⟨v0, s1, σ, e, hl⟩ := hrun args os f hr
    exact ⟨_, _, _, s1, v0, σ, by rw [withF_same]; exact e, Seen.flatA ha, hl st.next⟩
  · cases hr
theorem flat_call {call : CallT} {g : Nat} {spec : List V → Option Ans} {args : List V} {st : St} (ha : args.all V.flatA = true) : withL call g (lawOf (flatRd spec)) g args st = lawOut (spec args) st := by
  rw [withL_same]
  show lawOut (flatRd spec args st) st = _
  unfold flatRd
  rw [if_pos ha]
/-- A new object of flat cells, and the slice of all of it. -/
theorem Left.cells {τ : Way} {n : Nat} {s0 s1 : St} {j e m c : Nat} {f : Bool} {cs : List V} (hf : ∀ v ∈ cs, v.flat = true) (hm : m ≤ c) (hj : s0.next ≤ j) (hg : s1.heap.get j = some (.cells true cs)) :
    Left τ n s0 s1 (.slice (some (j, 0)) e m c f) [.cells true cs] [j] (.slice (some (n, 0)) e m m false) := by
  refine ⟨?_, rfl, ?_, ?_⟩
  · rintro ι1 ι2 x ⟨_, ho⟩ ⟨en, yy, c', e1, e2, e3, e4, e5, e6⟩
    have hn : ι2 n = ι1 j := ho 0 j rfl
    exact ⟨en, yy, c', by rw [hn]; exact e1, e2, Nat.le_refl _, by omega, (fun h => by cases h), e6⟩
  · intro q k o hq ho
    cases q with
    | succ q => simp at hq
    | zero =>
      simp at hq ho
      subst hq ho
      exact ⟨hj, _, hg, rfl, fun ι1 ι2 B B' w e hB _ hor => or_flat hB hf hor⟩
  · intro q q' k h1 h2
    cases q with
    | succ q => simp at h1
    | zero => cases q' with
      | succ q' => simp at h2
      | zero => rfl

/- COMPUTING IN A MEMORY OF FEW OBJECTS -/
noncomputable section
def cellsAt : List (Option AObj) → Nat → Option (List V)
  | [], _ => none
  | o :: _, 0 => match o with | some (.cells _ cs) => some cs | _ => none
  | _ :: l, k + 1 => cellsAt l k
def ownAt : List (Option AObj) → Nat → Option (List V)
  | [], _ => none
  | o :: _, 0 => match o with | some (.cells true cs) => some cs | _ => none
  | _ :: l, k + 1 => ownAt l k
def loadC (a : Bool) (n o : Nat) : Option (List V) → Option V
  | some cs => sel a ((cut o n cs).map V.agg) (nth o cs)
  | none => none
def storeC (os : List (Option AObj)) (n i o : Nat) (vs : List V) : Option (List V) → Option (V × St)
  | some cs => if vs.length = n then (match splice o vs cs with | some r => some (V.undef, few (os.set i (some (.cells true r)))) | none => none) else none
  | none => none
def growC (os : List (Option AObj)) (e bytes i n m : Nat) (new : List V) : Option (List V) → Option (V × St)
  | some cs => if (2 * (n + (m + 1)) + 1024) * bytes ≤ 281474976710656 ∧ new.length = (m + 1) * e ∧ n * e = cs.length then
      some (.slice (some (os.length, 0)) e (n + (m + 1)) (n + (m + 1)) false, few (os.set i none ++ [some (.cells true (cs ++ new))])) else none
  | none => none
end
theorem storeC_some {os : List (Option AObj)} {n i o : Nat} {vs cs : List V} : storeC os n i o vs (some cs) = if vs.length = n then (match splice o vs cs with | some r => some (V.undef, few (os.set i (some (.cells true r)))) | none => none) else none := rfl
theorem growC_some {os : List (Option AObj)} {e bytes i n m : Nat} {new cs : List V} : growC os e bytes i n m new (some cs) = if (2 * (n + (m + 1)) + 1024) * bytes ≤ 281474976710656 ∧ new.length = (m + 1) * e ∧ n * e = cs.length then
      some (.slice (some (os.length, 0)) e (n + (m + 1)) (n + (m + 1)) false, few (os.set i none ++ [some (.cells true (cs ++ new))])) else none := rfl
theorem cellsAt_eq : ∀ {os : List (Option AObj)} {i : Nat}, cellsAt os i = match (os[i]?).join with | some (.cells _ cs) => some cs | _ => none
  | [], i => rfl
  | o :: l, 0 => rfl
  | o :: l, k + 1 => by
    show cellsAt l k = match (l[k]?).join with | some (.cells _ cs) => some cs | _ => none
    exact cellsAt_eq
theorem ownAt_eq : ∀ {os : List (Option AObj)} {i : Nat}, ownAt os i = match (os[i]?).join with | some (.cells true cs) => some cs | _ => none
  | [], i => rfl
  | o :: l, 0 => rfl
  | o :: l, k + 1 => by
    show ownAt l k = match (l[k]?).join with | some (.cells true cs) => some cs | _ => none
    exact ownAt_eq
section
variable {os : List (Option AObj)}
theorem load_fewC {a : Bool} {n i o : Nat} : loadV (few os) a n (.ptr (some (i, o))) = loadC a n o (cellsAt os i) := by
  show sel a (((few os).loadN i o n).map .agg) ((few os).load1 i o) = _
  unfold St.loadN St.load1
  rw [few_get, cellsAt_eq]
  cases (os[i]?).join with
  | none => cases a <;> rfl
  | some ob =>
    cases ob with
    | cells own cs => rfl
    | map own es c => cases a <;> rfl
theorem store_fewC {n i o : Nat} {vs : List V} : storeV (few os) n (.ptr (some (i, o))) (some vs) = storeC os n i o vs (ownAt os i) := by
  show sel (Nat.beq vs.length n) (match (few os).storeN i o vs with | some st' => some (V.undef, st') | none => none) none = _
  unfold St.storeN
  rw [few_get, ownAt_eq]
  have hb : ∀ x : Option (V × St), sel (Nat.beq vs.length n) x none = if vs.length = n then x else none := fun x => by
    by_cases h : vs.length = n
    · rw [if_pos h, h, Nat.beq_refl]; rfl
    · rw [if_neg h]
      cases e : Nat.beq vs.length n with
      | false => rfl
      | true => exact absurd (Nat.eq_of_beq_eq_true e) h
  rw [hb]
  cases hx : (os[i]?).join with
  | none => dsimp only; split <;> rfl
  | some ob =>
    cases ob with
    | map own es c => dsimp only; split <;> rfl
    | cells own cs =>
      cases own with
      | false => dsimp only; split <;> rfl
      | true =>
        show _ = if vs.length = n then (match splice o vs cs with | some r => some (V.undef, few (os.set i (some (.cells true r)))) | none => none) else none
        dsimp only
        cases splice o vs cs with
        | none => rfl
        | some r => dsimp only; rw [few_set hx]
theorem grow_none {e e' bytes m : Nat} {f : Bool} {new : List V} : appendV (few os) e bytes (.slice none e' 0 0 f) (some (m + 1)) (some new) =
    if (2 * (m + 1) + 1024) * bytes ≤ 281474976710656 ∧ new.length = (m + 1) * e then some (.slice (some (os.length, 0)) e (m + 1) (m + 1) false, few (os ++ [some (.cells true new)])) else none := by
  show valOf (appendOp (few os) e bytes (.slice none e' 0 0 f) (m + 1) new) = _
  unfold appendOp
  dsimp only
  rw [Nat.zero_add, few_alloc]
  by_cases h : (2 * (m + 1) + 1024) * bytes ≤ 281474976710656 ∧ new.length = (m + 1) * e
  · rw [if_pos h, ble_t h.1, h.2, Nat.beq_refl]
    rfl
  · rw [if_neg h]
    have : (Nat.ble ((2 * (m + 1) + 1024) * bytes) 281474976710656 && Nat.beq new.length ((m + 1) * e)) = false := by
      cases e1 : Nat.ble ((2 * (m + 1) + 1024) * bytes) 281474976710656 with
      | false => rfl
      | true =>
        cases e2 : Nat.beq new.length ((m + 1) * e) with
        | false => rfl
        | true => exact absurd ⟨Nat.le_of_ble_eq_true e1, Nat.eq_of_beq_eq_true e2⟩ h
    rw [this]
    rfl
theorem grow_some {e bytes i n m : Nat} {new : List V} : appendV (few os) e bytes (.slice (some (i, 0)) e n n false) (some (m + 1)) (some new) = growC os e bytes i n m new (ownAt os i) := by
  show valOf (appendOp (few os) e bytes (.slice (some (i, 0)) e n n false) (m + 1) new) = _
  unfold appendOp
  dsimp only
  rw [few_get, ownAt_eq, Nat.beq_refl, sel_true, show Nat.ble (n + (m + 1)) n = false from by
    cases e : Nat.ble (n + (m + 1)) n with
    | false => rfl
    | true => exact absurd (Nat.le_of_ble_eq_true e) (by omega)]
  cases hx : (os[i]?).join with
  | none => dsimp only; cases (Nat.ble ((2 * (n + (m + 1)) + 1024) * bytes) 281474976710656 && Nat.beq new.length ((m + 1) * e)) <;> rfl
  | some ob =>
    cases ob with
    | map own es c => dsimp only; cases (Nat.ble ((2 * (n + (m + 1)) + 1024) * bytes) 281474976710656 && Nat.beq new.length ((m + 1) * e)) <;> rfl
    | cells own cs =>
      cases own with
      | false => dsimp only; cases (Nat.ble ((2 * (n + (m + 1)) + 1024) * bytes) 281474976710656 && Nat.beq new.length ((m + 1) * e)) <;> rfl
      | true =>
        dsimp only [sel_false, Bool.true_and]
        rw [growC_some, Nat.zero_add]
        by_cases h : (2 * (n + (m + 1)) + 1024) * bytes ≤ 281474976710656 ∧ new.length = (m + 1) * e ∧ n * e = cs.length
        · rw [if_pos h, ble_t h.1, h.2.1, h.2.2, Nat.beq_refl, Nat.beq_refl, cut_of (show 0 + cs.length ≤ cs.length by omega), few_set hx]
          dsimp only [Bool.and_self, sel_true]
          rw [few_alloc, List.length_set, List.drop_zero, List.take_length]
          rfl
        · rw [if_neg h]
          cases e1 : Nat.ble ((2 * (n + (m + 1)) + 1024) * bytes) 281474976710656 with
          | false => rfl
          | true =>
            cases e2 : Nat.beq new.length ((m + 1) * e) with
            | false => rfl
            | true =>
              cases e3 : Nat.beq (n * e) cs.length with
              | false => rfl
              | true => exact absurd ⟨Nat.le_of_ble_eq_true e1, Nat.eq_of_beq_eq_true e2, Nat.eq_of_beq_eq_true e3⟩ h
/- in a memory that shows a part -/
theorem first_back {l : St} {e m : Nat} {x : V} (h : ∀ i ∈ idOf x, l.vis i = true) : firstN (back l (few os)) e m x = firstN (few os) e m x := by
  cases x with
  | slice a e' n c f =>
    cases a with
    | none => rfl
    | some p =>
      obtain ⟨i, o⟩ := p
      show sel (Nat.beq e e' && Nat.ble m n) ((back l (few os)).loadN i o (m * e)) none = sel (Nat.beq e e' && Nat.ble m n) ((few os).loadN i o (m * e)) none
      unfold St.loadN
      rw [get_back (h i (List.mem_cons_self ..))]
  | _ => rfl
theorem append_back {l : St} {e bytes m : Nat} {sv : V} {new : List V} (hn : ∀ j, os.length ≤ j → l.vis j = true ∧ l.wr j = true) (hi : ∀ i ∈ idOf sv, l.vis i = true ∧ l.wr i = true) :
    appendV (back l (few os)) e bytes sv (some m) (some new) = backv l (appendV (few os) e bytes sv (some m) (some new)) := by
  show valOf (appendOp (back l (few os)) e bytes sv m new) = backv l (valOf (appendOp (few os) e bytes sv m new))
  have ha : ∀ (os' : List (Option AObj)) (o : AObj), os.length ≤ os'.length → (back l (few os')).alloc o = some (os'.length, back l (few (os' ++ [some o]))) := fun os' o h => alloc_back (hn _ h).1 (hn _ h).2
  unfold appendOp
  cases sv with
  | slice a e' n c f =>
    cases m with
    | zero => rfl
    | succ m =>
      dsimp only
      cases (Nat.ble ((2 * (n + (m + 1)) + 1024) * bytes) 281474976710656 && Nat.beq new.length ((m + 1) * e)) with
      | false => rfl
      | true =>
        dsimp only [sel_true]
        cases a with
        | none => dsimp only; rw [ha os _ (Nat.le_refl _), few_alloc]; rfl
        | some p =>
          obtain ⟨i, o⟩ := p
          have hv := hi i (List.mem_cons_self ..)
          dsimp only
          rw [get_back hv.1, few_get]
          cases Nat.beq e e' with
          | false => rfl
          | true =>
            dsimp only [sel_true]
            cases hx : (os[i]?).join with
            | none => rfl
            | some ob =>
              cases ob with
              | map own es cl => rfl
              | cells own cs =>
                dsimp only
                cases Nat.ble (n + (m + 1)) c with
                | true =>
                  dsimp only [sel_true]
                  unfold St.storeN
                  rw [get_back hv.1, few_get, hx]
                  cases own with
                  | false => rfl
                  | true =>
                    dsimp only
                    cases splice (o + n * e) new cs with
                    | none => rfl
                    | some r => dsimp only; rw [set_back hx hv.1 hv.2, few_set hx]; rfl
                | false =>
                  dsimp only [sel_false]
                  cases f with
                  | true =>
                    dsimp only [sel_true]
                    cases cut o (n * e) cs with
                    | none => rfl
                    | some old => dsimp only; rw [ha os _ (Nat.le_refl _), few_alloc]; rfl
                  | false =>
                    dsimp only [sel_false]
                    cases (own && Nat.beq (o + n * e) cs.length) with
                    | false => rfl
                    | true =>
                      dsimp only [sel_true]
                      cases cut o (n * e) cs with
                      | none => rfl
                      | some old =>
                        dsimp only
                        rw [set_back hx hv.1 hv.2, few_set hx]
                        dsimp only
                        rw [ha (os.set i none) _ (by rw [List.length_set]; exact Nat.le_refl _), few_alloc]
                        rfl
  | _ => rfl
theorem append_dir {e bytes m : Nat} {sv x : V} {ps : List Past} {new : List V} : appendV (limited (.dir (idOf sv ++ idOf x) (idOf sv)) ps (few os)) e bytes sv (some m) (some new) = backv (limited (.dir (idOf sv ++ idOf x) (idOf sv)) ps (few os)) (appendV (few os) e bytes sv (some m) (some new)) := by
  have := append_back (os := os) (l := limited (.dir (idOf sv ++ idOf x) (idOf sv)) ps (few os)) (e := e) (bytes := bytes) (m := m) (sv := sv) (new := new) (fun j h => ⟨vis_dir (.inr h), wr_dir (.inr h)⟩) (fun i h => ⟨vis_dir (.inl (List.mem_append.2 (.inl h))), wr_dir (.inl h)⟩)
  rw [limited_back] at this
  exact this
theorem first_dir {e m : Nat} {sv x : V} {ps : List Past} {ws : List Nat} : firstN (limited (.dir (idOf sv ++ idOf x) ws) ps (few os)) e m x = firstN (few os) e m x := by
  have := first_back (os := os) (l := limited (.dir (idOf sv ++ idOf x) ws) ps (few os)) (e := e) (m := m) (x := x) (fun i h => vis_dir (.inl (List.mem_append.2 (.inr h))))
  rw [limited_back] at this
  exact this
end
theorem resE_cell {s : Env} {st : St} {t : Pos} {a : Bool} {n : Nat} : resE s st (.cell t a n) = loadV st a n (s t) := by
  show (match s t with | .ptr (some (i, o)) => sel a (match st.loadN i o n with | some l => some (V.agg l) | none => none) (st.load1 i o) | _ => none) = _
  unfold loadV
  cases s t with
  | ptr p =>
    cases p with
    | none => rfl
    | some p =>
      obtain ⟨i, o⟩ := p
      cases a with
      | false => rfl
      | true => dsimp only [sel_true]; cases st.loadN i o n <;> rfl
  | _ => rfl

theorem okPair_dd {lo hi : Nat} {rs ws rs' ws' : List Nat} : okPair ⟨lo, hi, .dir rs' ws'⟩ (.dir rs ws) = (!anyIn lo hi rs && (!meets ws' rs && !meets ws rs')) := rfl
theorem okPair_dc {lo hi : Nat} {rs ws : List Nat} : okPair ⟨lo, hi, .call⟩ (.dir rs ws) = (!anyIn lo hi rs && ws.isEmpty) := rfl
theorem okPair_cd {lo hi : Nat} {rs ws : List Nat} : okPair ⟨lo, hi, .dir rs ws⟩ .call = ws.isEmpty := rfl
theorem okPair_cc {lo hi : Nat} : okPair ⟨lo, hi, .call⟩ .call = true := rfl
theorem anyIn_nil {lo hi : Nat} : anyIn lo hi [] = false := rfl
theorem anyIn_cons {lo hi j : Nat} {l : List Nat} : anyIn lo hi (j :: l) = sel (Nat.ble lo j && Nat.blt j hi) true (anyIn lo hi l) := rfl
theorem meets_cons {i : Nat} {l m : List Nat} : meets (i :: l) m = sel (Vabs.mem i m) true (meets l m) := rfl
theorem mem_nil {i : Nat} : Vabs.mem i [] = false := rfl
theorem mem_cons {i j : Nat} {l : List Nat} : Vabs.mem i (j :: l) = sel (Nat.beq i j) true (Vabs.mem i l) := rfl
theorem nbeq_dec {a b : Nat} : Nat.beq a b = decide (a = b) := by
  by_cases h : a = b
  · subst h; rw [Nat.beq_refl, decide_eq_true rfl]
  · rw [decide_eq_false h]
    cases e : Nat.beq a b with
    | false => rfl
    | true => exact absurd (Nat.eq_of_beq_eq_true e) h
theorem ble_dec {a b : Nat} : Nat.ble a b = decide (a ≤ b) := by
  by_cases h : a ≤ b
  · rw [ble_t h, decide_eq_true h]
  · rw [decide_eq_false h]
    cases e : Nat.ble a b with
    | false => rfl
    | true => exact absurd (Nat.le_of_ble_eq_true e) h
theorem blt_dec {a b : Nat} : Nat.blt a b = decide (a < b) := by
  by_cases h : a < b
  · rw [blt_t h, decide_eq_true h]
  · rw [decide_eq_false h]
    cases e : Nat.blt a b with
    | false => rfl
    | true => exact absurd (Nat.le_of_ble_eq_true e) h
/- the same, where the feet have been reckoned -/
section
variable {ps : List Past} {os : List (Option AObj)} {st : St} {ws : List Nat} {i o j : Nat}
theorem load_d {a : Bool} {n : Nat} : loadV (limited (.dir [i] ws) ps st) a n (.ptr (some (i, o))) = loadV st a n (.ptr (some (i, o))) := load_limited (v := .ptr (some (i, o)))
theorem convStr_d {e n c : Nat} {f : Bool} : convV (limited (.dir [i] ws) ps st) .toStr (.slice (some (i, o)) e n c f) = convV st .toStr (.slice (some (i, o)) e n c f) := convStr_limited (v := .slice (some (i, o)) e n c f)
theorem store_d {n : Nat} {cs : List V} : storeV (limited (.dir [i] [i]) ps (few os)) n (.ptr (some (i, o))) (some cs) = backv (limited (.dir [i] [i]) ps (few os)) (storeV (few os) n (.ptr (some (i, o))) (some cs)) := store_dir
theorem append_d2 {e bytes m e1 n1 c1 : Nat} {f1 : Bool} {new : List V} : appendV (limited (.dir [i, j] [i]) ps (few os)) e bytes (.slice (some (i, o)) e1 n1 c1 f1) (some m) (some new) = backv (limited (.dir [i, j] [i]) ps (few os)) (appendV (few os) e bytes (.slice (some (i, o)) e1 n1 c1 f1) (some m) (some new)) :=
  append_dir (sv := .slice (some (i, o)) e1 n1 c1 f1) (x := .slice (some (j, 0)) 0 0 0 false)
theorem append_d1 {e bytes m e1 n1 c1 : Nat} {f1 : Bool} {new : List V} : appendV (limited (.dir [j] []) ps (few os)) e bytes (.slice none e1 n1 c1 f1) (some m) (some new) = backv (limited (.dir [j] []) ps (few os)) (appendV (few os) e bytes (.slice none e1 n1 c1 f1) (some m) (some new)) :=
  append_dir (sv := .slice none e1 n1 c1 f1) (x := .slice (some (j, 0)) 0 0 0 false)
theorem first_d2 {e m e1 n1 c1 : Nat} {f1 : Bool} : firstN (limited (.dir [i, j] ws) ps (few os)) e m (.slice (some (j, o)) e1 n1 c1 f1) = firstN (few os) e m (.slice (some (j, o)) e1 n1 c1 f1) :=
  first_dir (sv := .slice (some (i, 0)) 0 0 0 false) (x := .slice (some (j, o)) e1 n1 c1 f1)
theorem first_d1 {e m e1 n1 c1 : Nat} {f1 : Bool} : firstN (limited (.dir [j] ws) ps (few os)) e m (.slice (some (j, o)) e1 n1 c1 f1) = firstN (few os) e m (.slice (some (j, o)) e1 n1 c1 f1) :=
  first_dir (sv := .slice none 0 0 0 false) (x := .slice (some (j, o)) e1 n1 c1 f1)
end
/- aggregates held against each other -/
noncomputable section
end
theorem enter_ex {call : CallT} {lf n : Nat} {c : ACode} {rs : List ARes} {args : List V} {st : St} {v : V} (h : wp call lf c (initE args 0 env0) st (finQ rs fun u _ => u = v)) :
    ∃ s1, enterF call lf args st ⟨n, c, rs⟩ = some (v, s1) := by
  obtain ⟨u, s, h1, rfl⟩ := enter_wp (n := n) h
  exact ⟨s, h1⟩
end Go.Vabs

/- Lemmas for this claim, text Ua. No condition. -/
import Derived.Test.YtcgiiomghmffbaaVabsU
import Derived.LoopN
import Derived.RangeFuncRecord
import Derived.RangeFuncCalls
namespace Go.Vabs
set_option linter.unusedSimpArgs false
set_option linter.unusedVariables false
def fenceOf : Option Nat → Fence
  | none => Fence.wide
  | some l => Fence.wide.inRound l
theorem fence_fn {rd : Option Nat} (f : FuncId) : (fenceOf rd).fn f := by cases rd <;> trivial
theorem fence_depth {rd : Option Nat} {n : Nat} : (fenceOf rd).depth.isSome = true → 1 ≤ n := by cases rd <;> (intro h; cases h)
theorem calls_in {rd : Option Nat} {n : Nat} {P : Program} {f : FuncId} {args : Array Value} {w : World} {R : Ending → World → Prop} (h : Calls P f args w R) : CallsIn (fenceOf rd) n P f args w R := by
  have h := (callsIn_wide (n := n)).2 h
  cases rd with
  | none => exact h
  | some l => exact CallsIn.inRound l h
theorem rows_in {rd : Option Nat} {n : Nat} {P : Program} {row : String} {args : Array Value} {w : World} {R : Value → World → Prop} (h : Rows P row args w R) : RowsIn (fenceOf rd) n P row args w R := by
  intro c cs _
  obtain ⟨v, w', hr, hs⟩ := h c cs
  refine ⟨v, w', hr, ?_⟩
  have : StepsIn (Machine.fenced P Fence.wide) P (lone (Frame.ofRow P row args .normal) (c :: cs) w) (lone (c.finish v) cs w') := stepsIn_wide.2 hs
  cases rd with
  | none => exact this
  | some l => exact this
theorem lift_upon {rd : Option Nat} {n : Nat} {P : Program} {o : Oper} {a : Act} {next next' : Act → World → Prop} {Q : Exit → Act → World → Prop} (hn : ∀ a w, next a w → next' a w) {r : Result Next}
    (h : o.upon P a next Q r) : o.uponIn (fenceOf rd) n P a next' Q r := by
  cases r with
  | ok x w' =>
    cases x with
    | value v => exact hn _ _ h
    | skip => exact hn _ _ h
    | defer d => exact hn _ _ h
    | enter f args =>
      refine ⟨fence_depth, (calls_in h).mono ?_⟩
      intro e w'' he
      cases e with
      | returned v => exact hn _ _ he
      | panicked chain => exact he
      | outgrown => exact he
    | row row args => exact ⟨fence_depth, (rows_in h).mono fun v w'' hv => hn _ _ hv⟩
    | _ => exact h.elim
  | halt x w' => cases x <;> first | exact h | exact h.elim
theorem lift_oper {rd : Option Nat} {n : Nat} {P : Program} {o : Oper} {a : Act} {w : World} {next next' : Act → World → Prop} {Q : Exit → Act → World → Prop} (hd : ∀ c, o.op ≠ .defer c) (hn : ∀ a w, next a w → next' a w)
    (h : o.wp P a w next Q) : o.wpIn (fenceOf rd) n P a w next' Q := by
  refine ⟨fun f _ => fence_fn f, ?_⟩
  rw [Oper.semAt_eq _ _ _ hd]
  exact lift_upon hn h
theorem lift_ops {rd : Option Nat} {n : Nat} {P : Program} {ops : Array Oper} {Q : Exit → Act → World → Prop} (hd : ∀ (i : Nat) (o : Oper), ops[i]? = some o → ∀ c, o.op ≠ .defer c) (hQ : ¬ LetsOut Q) :
    ∀ (l : List Nat) (a : Act) (w : World), wpOps P ops Q l a w → wpOpsIn (fenceOf rd) n P ops Q l a w
  | [], a, w, h => h
  | i :: rest, a, w, h => by
    simp only [wpOps] at h
    simp only [wpOpsIn]
    cases ho : ops[i]? with
    | none => rw [ho] at h; exact lift_ops hd hQ rest a w h
    | some o =>
      rw [ho] at h
      dsimp only at h ⊢
      by_cases hw : Region.wanted o (yielded ops a.tmps) = true
      · rw [if_pos hw] at h ⊢
        rcases h with h | ⟨_, h⟩
        · exact lift_oper (hd i o ho) (lift_ops hd hQ rest) h
        · exact absurd h hQ
      · rw [if_neg hw] at h ⊢
        exact ⟨fun f _ => fence_fn f, lift_ops hd hQ rest _ _ h⟩
theorem region_in {rd : Option Nat} {n id : Nat} {P : Program} {ops : Array Oper} {Q : Exit → Act → World → Prop} {a : Act} {w : World} (hd : ∀ (i : Nat) (o : Oper), ops[i]? = some o → ∀ c, o.op ≠ .defer c) (hQ : ¬ LetsOut Q)
    (h : wpList P ops Q ops.toList a w) : (Code.region id ops false).wpIn (fenceOf rd) n P Q a w :=
  wpIn_region (lift_ops hd hQ _ _ _ (by rw [List.range_eq_range', ← Array.length_toList, wpOps_eq_wpList ops.toList 0 (by simp)]; exact h))
theorem draw_in {rd : Option Nat} {n id : Nat} {P : Program} {ops : Array Oper} {Q : Exit → Act → World → Prop} {a : Act} {w : World} (hmix : P.follows .mixedOrders = true) (hd : ∀ (i : Nat) (o : Oper), ops[i]? = some o → ∀ c, o.op ≠ .defer c) (hQ : ¬ LetsOut Q)
    (h : wpAny P .any ops Q ops.size (Array.replicate ops.size false) a { w with drawn := w.drawn + 1 }) : (Code.region id ops true).wpIn (fenceOf rd) n P Q a w :=
  wpIn_region_draw fun t => lift_ops hd hQ _ _ _ (by
    simp only [Region.schedule, hmix, Bool.true_or, if_true]
    exact wpAny_sound ops.size t _ a _ h)
def sure (Q : Exit → Act → World → Prop) : Exit → Act → World → Prop := fun e a w => e ≠ .outgrown ∧ Q e a w
theorem sure_out {Q : Exit → Act → World → Prop} : ¬ LetsOut (sure Q) := fun ⟨_, _, h, _⟩ => h rfl
theorem sure_in {rd : Option Nat} {n : Nat} {P : Program} {c : Code} {Q : Exit → Act → World → Prop} {a : Act} {w : World} (h : c.wpIn (fenceOf rd) n P (sure Q) a w) : c.wpIn (fenceOf rd) n P Q a w := wpIn_mono h fun _ _ _ h => h.2
theorem no_defer {P : Program} {sr : Operand → Option Src} {o : Op} {a : AOp} (h : compOp P sr o = some a) : ∀ c, o ≠ .defer c := by
  rintro c rfl
  cases h
theorem oper_no_defer {P : Program} {drop nt : Nat} {al : Alias} {ops : Array Oper} {o : Oper} {a : AOper} (h : compOper P drop al ops nt o = some a) : ∀ c, o.op ≠ .defer c := by
  unfold compOper at h
  split at h
  · split at h
    · rename_i hop; exact no_defer hop
    · cases h
  · cases h
theorem reg_no_defer {P : Program} {nt drop : Nat} {ops : Array Oper} : ∀ (os : List Oper) (al : Alias) (aos : List AOper), compReg P nt drop ops os al = some aos → ∀ o ∈ os, ∀ c, o.op ≠ .defer c
  | [], _, _, _, o, ho => by cases ho
  | o :: os, al, aos, h, o', ho => by
    simp only [compReg] at h
    split at h
    · rename_i ao hao
      rcases List.mem_cons.1 ho with rfl | hmem
      · exact oper_no_defer hao
      · rcases sel_cases h with ⟨_, h⟩ | ⟨_, h⟩
        · split at h
          · obtain ⟨_, h⟩ := sel_some h
            exact reg_no_defer os _ _ h o' hmem
          · cases h
        · split at h
          · rename_i r hr; exact reg_no_defer os _ _ hr o' hmem
          · cases h
    · cases h
theorem all_no_defer {P : Program} {nt drop : Nat} {ops : Array Oper} : ∀ (os : List Oper) (l : List AOper), optAll (compOper P drop [] ops nt) os = some l → ∀ o ∈ os, ∀ c, o.op ≠ .defer c
  | [], _, _, o, ho => by cases ho
  | o :: os, l, h, o', ho => by
    unfold optAll at h
    split at h
    · rename_i y r h1 h2
      rcases List.mem_cons.1 ho with rfl | hmem
      · exact oper_no_defer h1
      · exact all_no_defer os r h2 o' hmem
    · cases h
theorem at_no_defer {ops : Array Oper} (h : ∀ o ∈ ops.toList, ∀ c, o.op ≠ .defer c) : ∀ (i : Nat) (o : Oper), ops[i]? = some o → ∀ c, o.op ≠ .defer c := fun i o ho =>
  h o (by rw [← Array.getElem?_toList] at ho; exact List.mem_of_getElem? ho)
theorem loop_in {rd : Option Nat} {n : Nat} {P : Program} {c : Code} {Q : Exit → Act → World → Prop} (I : Nat → Act → World → Prop) (hz : ∀ a w, ¬ I 0 a w)
    (hs : ∀ k a w, I (k + 1) a w → c.wpIn (fenceOf rd) n P (Exit.then (I k) Q) a w) {k : Nat} {a : Act} {w : World} (h : I k a w) : (Code.loop c).wpIn (fenceOf rd) n P Q a w := by
  intro b kk cs hro hb hr
  have key : ∀ (k : Nat) (a : Act) (w : World), I k a w →
      ∃ e a' w', Q e a' w' ∧ ArrivesIn (Machine.fenced P (fenceOf rd)) P (lone (b.atR a (.code c :: .inLoop c :: kk)) cs w) b kk cs e a' w' := by
    intro k
    induction k with
    | zero => intro a w h; exact absurd h (hz a w)
    | succ k ih =>
      intro a w h
      obtain ⟨e, a₁, w₁, hq, harr⟩ := hs k a w h b (.inLoop c :: kk) cs hro hb hr
      cases e with
      | normal =>
        obtain ⟨e₂, a₂, w₂, hq₂, harr₂⟩ := ih a₁ w₁ hq
        exact ⟨e₂, a₂, w₂, hq₂, .of_steps (StepsIn.trans harr (.one (fenced_calm hb hr rfl) stepR_inLoop)) harr₂⟩
      | exit id => exact ⟨_, a₁, w₁, hq, .pass (x := .inLoop c) rfl (fun _ _ => .inl (by simp)) harr⟩
      | goto l => exact ⟨_, a₁, w₁, hq, .pass (x := .inLoop c) rfl (fun _ _ => .inl (by simp)) harr⟩
      | ret => exact ⟨_, a₁, w₁, hq, .pass (x := .inLoop c) rfl (fun _ _ => .inl (by simp)) harr⟩
      | panic ch => exact ⟨_, a₁, w₁, hq, .pass (x := .inLoop c) rfl (fun _ _ => .inl (by simp)) harr⟩
      | outgrown => exact ⟨_, a₁, w₁, hq, .pass (x := .inLoop c) rfl (fun _ _ => .inl (by simp)) harr⟩
  obtain ⟨e, a', w', hq, harr⟩ := key k a w h
  exact ⟨e, a', w', hq, .of_steps (.one (fenced_calm hb hr rfl) stepR_loop) harr⟩
theorem Rel.mark {ι : Map} {B : Nat} {h : T AObj} {w w' : World} (hr : Rel ι B h w) (hsz : w.heap.size ≤ w'.heap.size)
    (hw : ∀ (k : Nat), k < w.heap.size → w'.heap[k]? = w.heap[k]? ∨ (B ≤ k ∧ ∃ o, w.heap[k]? = some o ∧ isMark o = true)) : Rel ι B h w' := by
  refine ⟨Nat.le_trans hr.base hsz, fun i o ho => ?_, hr.sep⟩
  obtain ⟨e, h1, h2, h3⟩ := hr.obj i o ho
  refine ⟨e, h1, Nat.lt_of_lt_of_le h2 hsz, h3.keep (Sub.refl _) ?_⟩
  rcases hw e.blk h2 with h4 | ⟨h4, ob, h5, h6⟩
  · exact h4
  · exfalso
    cases o with
    | cells own cs =>
      cases own with
      | true => obtain ⟨_, arr, ty, fz, k1, _⟩ := h3; rw [h5] at k1; cases k1; cases h6
      | false => obtain ⟨k1, _⟩ := h3; omega
    | map own es c =>
      cases own with
      | true => obtain ⟨_, arr, k1, _⟩ := h3; rw [h5] at k1; cases k1; cases h6
      | false => obtain ⟨k1, _⟩ := h3; omega
theorem Rel.put {ι : Map} {B : Nat} {h : T AObj} {w : World} (hr : Rel ι B h w) {l : Nat} {o o' : Obj} (hl : w.heap[l]? = some o) (hm : isMark o = true) (hB : B ≤ l) : Rel ι B h (w.putObj l o') :=
  hr.mark (by simp) fun k hk => by
    by_cases e : k = l
    · subst e; exact .inr ⟨hB, o, hl, hm⟩
    · exact .inl (World.putObj_heap_other e)
def codeOf : AExit → Code
  | .normal => .skip
  | .ret => .ret
  | .exit id => .exit id
def recOf (r : Loop) : Option AExit → Loop
  | none => { r with state := .ready, pending := none }
  | some x => { r with state := .done, pending := some (codeOf x) }
structure BelowX (B l : Nat) (w w' : World) : Prop where
  base : Go.RowKit.Below B w w'
  keep : ∀ (k : Nat) (o : Obj), k ≠ l → w.heap[k]? = some o → isMark o = true → w'.heap[k]? = some o
theorem BelowX.refl (B l : Nat) (w : World) : BelowX B l w w := ⟨.refl _ _, fun _ _ _ h _ => h⟩
theorem BelowX.trans {B l : Nat} {a b c : World} (h : BelowX B l a b) (k : BelowX B l b c) : BelowX B l a c := ⟨h.base.trans k.base, fun i o hi ho hm => k.keep i o hi (h.keep i o hi ho hm) hm⟩
theorem Below.x {B l : Nat} {w w' : World} (h : Below B w w') : BelowX B l w w' := ⟨h.base, fun k o _ ho hm => h.keep k o ho hm⟩
theorem BelowX.put {B l : Nat} {a w : World} (h : BelowX B l a w) (hB : B ≤ l) (o : Obj) : BelowX B l a (w.putObj l o) :=
  ⟨⟨h.base.os, h.base.tape, h.base.output, by simpa using h.base.size, fun k hk => (World.putObj_heap_other (by omega)).trans (h.base.block k hk)⟩, fun k o' hk ho hm => (World.putObj_heap_other hk).trans (h.keep k o' hk ho hm)⟩
structure KeptY (drop : Nat) (ι ι' : Map) (B l nt : Nat) (r : Loop) (st st' : St) (w w' : World) (f' : Frame) (a a' : Act) (p' : Option AExit) : Prop where
  sub : Sub ι ι'
  other : ∀ i, (i < st.next ∨ st'.next ≤ i) → ι' i = ι i
  rel : Rel ι' B st'.heap w'
  below : BelowX B l w w'
  fr : FR drop ι' f' a'.tmps
  size : nt ≤ a'.tmps.size
  defers : a'.defers = a.defers
  record : w'.heap[l]? = some (.loop (recOf r p'))
def HandPost (ι : Map) (B l : Nat) (r : Loop) (st st' : St) (v : V) (p' : Option AExit) (w : World) (e : Ending) (w' : World) : Prop :=
  ∃ x ι', e = .returned x ∧ Sub ι ι' ∧ (∀ i, (i < st.next ∨ st'.next ≤ i) → ι' i = ι i) ∧ Rel ι' B st'.heap w' ∧ BelowX B l w w' ∧ w'.heap[l]? = some (.loop (recOf r p')) ∧ R ι' v x
def Inn (ι0 : Map) (li l : Nat) (ι : Map) : Prop := Sub ι0 ι ∧ ∃ e, ι li = some e ∧ e.blk = l
def HandOK (P : Program) (B l : Nat) (r : Loop) (li : Nat) (ι0 : Map) (hd : Hand) : Prop := ∀ (j : Nat) args st v p' st', hd j args st = some ((v, p'), st') → j = li ∧ args.length = r.params.size ∧ ∀ ι w args', Sub ι0 ι → Neat st → Rel ι B st.heap w →
  (∀ i, st.next ≤ i → i < st'.next → ι i = none) → All2 (R ι) args args'.toList → w.heap[l]? = some (.loop (recOf r none)) →
  ∀ n, RoundIn Fence.wide n P l r.fn ((r.params.zip args').foldl (fun tmps (t, x) => tmps.setIfInBounds t x) r.tmps) r.assign r.body w (HandPost ι B l r st st' v p' w)
section
variable {P : Program} {B l li nt drop n : Nat} {r : Loop} {ι0 : Map} {call : CallT} {hd : Hand}
theorem plainY_some {p p' : Option AExit} {x : Option (V × St)} {v : V} {st : St} (h : plainY p x = some ((v, p'), st)) : p' = p ∧ x = some (v, st) := by
  cases x with
  | none => cases h
  | some q => cases h; exact ⟨rfl, rfl⟩
theorem stepY_some {o : AOp} {f : Frame} {p p' : Option AExit} {st st' : St} {v : V} (h : stepY hd call o f p st = some ((v, p'), st')) :
    (∃ s args i, o = .callv s args ∧ f.ev s = .yield i ∧ p = none ∧ hd i (args.map f.ev) st = some ((v, p'), st')) ∨ (p' = p ∧ stepOp call o f st = some (v, st')) := by
  cases o with
  | callv s args =>
    have h : yieldY hd (args.map f.ev) st (plainY p (stepOp call (.callv s args) f st)) p (f.ev s) = some ((v, p'), st') := h
    cases p with
    | some x => exact .inr (plainY_some h)
    | none =>
      cases hv : f.ev s with
      | yield i => rw [hv] at h; exact .inl ⟨s, args, i, rfl, hv, rfl, h⟩
      | _ => rw [hv] at h; exact .inr (plainY_some h)
  | _ => exact .inr (plainY_some h)
variable (hcall : CallOK P B call) (hfc : CallFramed call) (hh : HandOK P B l r li ι0 hd) (hfh : HandFramed hd) (hB : B ≤ l)
def wpListY (n : Nat) (P : Program) (ops : Array Oper) (Q : Exit → Act → World → Prop) : List Oper → Act → World → Prop
  | [], a, w => Q .normal a w
  | o :: os, a, w => if Region.wanted o (yielded ops a.tmps) then o.wpIn Fence.wide n P a w (wpListY n P ops Q os) Q else wpListY n P ops Q os (a.put o.dst undef) w
theorem wpListY_ops {ops : Array Oper} {Q : Exit → Act → World → Prop} (l : List Oper) : ∀ k, (∀ j, l[j]? = ops[k + j]?) → ∀ a w, wpListY n P ops Q l a w → wpOpsIn Fence.wide n P ops Q (List.range' k l.length) a w := by
  induction l with
  | nil => intro k _ a w h; simpa [wpOpsIn, wpListY] using h
  | cons o l ih =>
    intro k h a w hw
    have h0 : ops[k]? = some o := by simpa using (h 0).symm
    have ih' := ih (k + 1) (fun j => by have := h (j + 1); simpa [Nat.add_assoc, Nat.add_comm 1 j] using this)
    simp only [List.length_cons, List.range'_succ, wpOpsIn, h0]
    rw [wpListY] at hw
    by_cases hwn : Region.wanted o (yielded ops a.tmps) = true
    · rw [if_pos hwn] at hw ⊢
      refine ⟨hw.1, ?_⟩
      have hu := hw.2
      generalize ((o.semAt Fence.wide.round a.eval).run P w) = rr at hu
      cases rr with
      | ok x w' =>
        cases x with
        | value v => exact ih' _ _ hu
        | skip => exact ih' _ _ hu
        | defer d => exact ih' _ _ hu
        | enter f args =>
          refine ⟨hu.1, hu.2.mono ?_⟩
          intro e w'' he
          cases e with
          | returned v => exact ih' _ _ he
          | panicked chain => exact he
          | outgrown => exact he
        | row row args => exact ⟨hu.1, hu.2.mono fun v w'' hv => ih' _ _ hv⟩
        | round l f tmps asg body =>
          refine ⟨hu.1, hu.2.mono ?_⟩
          intro e w'' he
          cases e with
          | returned v => exact ih' _ _ he
          | panicked chain => exact he
          | outgrown => exact he
        | _ => exact hu.elim
      | halt x w' => cases x <;> first | exact hu | exact hu.elim
    · rw [if_neg hwn] at hw ⊢
      exact ⟨fun f _ => trivial, ih' _ _ hw⟩
end
end Go.Vabs

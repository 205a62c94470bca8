/- Lemmas for this claim, text V. No condition. -/
import Derived.Test.YtcgiiomghmffbaaVabsUc
import Derived.LoopN
namespace Go.Vabs
set_option linter.unusedSimpArgs false
set_option linter.unusedVariables false
def Marks (w w' : World) (ds ds' : List Deferred) : Prop := ∃ Ds : List Nat, ds' = Ds.map (fun D => ({ target := .collected D, args := #[] } : Deferred)) ++ ds ∧ Ds.Nodup ∧ ∀ D ∈ Ds, w.heap.size ≤ D ∧ w'.heap[D]? = some (.deferred (some []))
theorem Marks.none {w w' : World} {ds ds' : List Deferred} (h : ds' = ds) : Marks w w' ds ds' := ⟨[], by rw [h]; rfl, List.nodup_nil, fun D h => by cases h⟩
theorem Marks.trans {B : Nat} {w w1 w2 : World} {d d1 d2 : List Deferred} (h : Marks w w1 d d1) (k : Marks w1 w2 d1 d2) (b : Below B w w1) (b2 : Below B w1 w2) : Marks w w2 d d2 := by
  obtain ⟨Ds, h1, h2, h3⟩ := h
  obtain ⟨Es, k1, k2, k3⟩ := k
  refine ⟨Es ++ Ds, by rw [k1, h1, List.map_append, List.append_assoc], List.nodup_append.2 ⟨k2, h2, ?_⟩, ?_⟩
  · rintro x hx y hy rfl
    have h4 := (k3 x hx).1
    have h5 := (Array.getElem?_eq_some_iff.1 (h3 x hy).2).1
    omega
  · intro D hD
    rcases List.mem_append.1 hD with hD | hD
    · exact ⟨Nat.le_trans b.size (k3 D hD).1, (k3 D hD).2⟩
    · exact ⟨(h3 D hD).1, b2.keep _ _ (h3 D hD).2 rfl⟩
structure KeptM (drop : Nat) (ι ι' : Map) (B nt : Nat) (st st' : St) (w w' : World) (f' : Frame) (a a' : Act) : Prop where
  sub : Sub ι ι'
  other : ∀ i, (i < st.next ∨ st'.next ≤ i) → ι' i = ι i
  rel : Rel ι' B st'.heap w'
  below : Below B w w'
  fr : FR drop ι' f' a'.tmps
  size : nt ≤ a'.tmps.size
  defers : Marks w w' a.defers a'.defers
theorem Kept.m {drop B nt : Nat} {ι ι' : Map} {st st' : St} {w w' : World} {f' : Frame} {a a' : Act} (h : Kept drop ι ι' B nt st st' w w' f' a a') : KeptM drop ι ι' B nt st st' w w' f' a a' :=
  ⟨h.sub, h.other, h.rel, h.below, h.fr, h.size, .none h.defers⟩
def ItOK (P : Program) (it : Option (Nat × ACode)) : Prop := ∀ k itc, it = some (k, itc) → ∃ fn c, P.funcs[k]? = some fn ∧ fn.body = some c ∧ comp P none fn.ntmps 0 c = some itc ∧ fn.results = #[] ∧ Callable P k
theorem itNone {P : Program} : ItOK P none := fun k itc h => by cases h
theorem itFind_ok {P : Program} : ∀ (l : List Func) (n : Nat), (∀ j, l[j]? = P.funcs[n + j]?) → ItOK P (itFind P l n)
  | [], n, _ => fun k itc h => by cases h
  | fn :: l, n, hl => by
    intro k itc h
    unfold itFind at h
    rcases sel_cases h with ⟨hi, h⟩ | ⟨_, h⟩
    · unfold isIt at hi
      simp only [Bool.and_eq_true, Bool.not_eq_true', beq_iff_eq] at hi
      split at h
      · rename_i c hc
        simp only [Option.map_eq_some_iff] at h
        obtain ⟨a, ha, he⟩ := h
        cases he
        have hP : P.funcs[n]? = some fn := by simpa using (hl 0).symm
        exact ⟨fn, c, hP, hc, ha, Array.eq_empty_of_size_eq_zero hi.1.1.2, fn, hP, by rw [hc]; rfl, by simpa using hi.2⟩
      · cases h
    · exact itFind_ok l (n + 1) (fun j => by have := hl (j + 1); simpa [Nat.add_assoc, Nat.add_comm 1 j] using this) k itc h
theorem itOf_ok {P : Program} : ItOK P (itOf P) := itFind_ok _ 0 (fun j => by simp)
theorem KeptM.trans {drop B nt : Nat} {ι ι1 ι2 : Map} {st st1 st2 : St} {w w1 w2 : World} {f1 f2 : Frame} {a a1 a2 : Act} (h : KeptM drop ι ι1 B nt st st1 w w1 f1 a a1) (k : KeptM drop ι1 ι2 B nt st1 st2 w1 w2 f2 a1 a2) (n1 : st.next ≤ st1.next) (n2 : st1.next ≤ st2.next) :
    KeptM drop ι ι2 B nt st st2 w w2 f2 a a2 := by
  refine ⟨h.sub.trans k.sub, ?_, k.rel, h.below.trans k.below, k.fr, k.size, h.defers.trans k.defers h.below k.below⟩
  intro i hi
  rw [k.other i, h.other i]
  · rcases hi with hi | hi
    · exact .inl hi
    · exact .inr (Nat.le_trans n2 hi)
  · rcases hi with hi | hi
    · exact .inl (Nat.lt_of_lt_of_le hi n1)
    · exact .inr hi
theorem KeptM.fresh {drop B nt : Nat} {ι ι1 : Map} {st st1 st2 : St} {w w1 : World} {f1 : Frame} {a a1 : Act} (h : KeptM drop ι ι1 B nt st st1 w w1 f1 a a1) (n1 : st.next ≤ st1.next) (hfr : ∀ i, st.next ≤ i → i < st2.next → ι i = none) : ∀ i, st1.next ≤ i → i < st2.next → ι1 i = none := by
  intro i h1 h2
  rw [h.other i (.inr h1)]
  exact hfr i (Nat.le_trans n1 h1) h2
def resRun (tmps : Array Value) : ResultVar → Sem Value
  | .tmp t => pure (tmps.getD t undef)
  | .cell c t => do
    let ad ← asAddr (tmps.getD c undef)
    loadVar t ad
theorem results_eq (fn : Func) (tmps : Array Value) : results fn tmps = (do let vs ← fn.results.mapM (resRun tmps); pure (if h : vs.size = 1 then vs[0] else Value.tuple vs)) := rfl
section
variable {P : Program} {B : Nat} {call : CallT} (hcall : CallOK P B call) (hfc : CallFramed call) (hmix : P.follows .mixedOrders = true)
include hfc in
theorem ev_next {lf : Nat} {c : ACode} {f f' : Frame} {st st' : St} {x : AExit} (h : ev c call lf f st = some (x, f', st')) : st.next ≤ st'.next :=
  (ev_framed hfc lf c f st (x, f') st' (by show assoc (ev c call lf f st) = _; rw [h]; rfl)).1.next
include hfc in
theorem ev_neat {lf : Nat} {c : ACode} {f f' : Frame} {st st' : St} {x : AExit} (h : ev c call lf f st = some (x, f', st')) (hn : Neat st) : Neat st' :=
  (ev_framed hfc lf c f st (x, f') st' (by show assoc (ev c call lf f st) = _; rw [h]; rfl)).1.neat hn
def CodeOK (P : Program) (B : Nat) (call : CallT) (lf nt drop : Nat) (it : Option (Nat × ACode)) (rd : Option Nat) (n : Nat) (c : Code) : Prop := ∀ (ac : ACode) (ι : Map) (st st' : St) (w : World) (a : Act) (f f' : Frame) (x : AExit) (Q : Exit → Act → World → Prop),
  comp P it nt drop c = some ac → ev ac call lf f st = some (x, f', st') → FR drop ι f a.tmps → nt ≤ a.tmps.size → Rel ι B st.heap w → (∀ i, st.next ≤ i → i < st'.next → ι i = none) → Neat st →
  (∀ ι' w' a', KeptM drop ι ι' B nt st st' w w' f' a a' → Q (exitOf x) a' w') → c.wpIn (fenceOf rd) n P Q a w
theorem KeptM.refl {drop B nt : Nat} {ι : Map} {st : St} {w : World} {f : Frame} {a : Act} (hf : FR drop ι f a.tmps) (hsz : nt ≤ a.tmps.size) (hrel : Rel ι B st.heap w) : KeptM drop ι ι B nt st st w w f a a :=
  ⟨Sub.refl _, fun _ _ => rfl, hrel, Below.refl _ _, hf, hsz, .none rfl⟩
theorem andThen_some {r : Out} {k : Frame → St → Out} {x : AExit} {f : Frame} {s : St} (h : andThen r k = some (x, f, s)) :
    (∃ f1 s1, r = some (.normal, f1, s1) ∧ k f1 s1 = some (x, f, s)) ∨ (r = some (x, f, s) ∧ x ≠ .normal) := by
  cases r with
  | none => cases h
  | some p =>
    obtain ⟨y, f1, s1⟩ := p
    cases y with
    | normal => exact .inl ⟨f1, s1, rfl, h⟩
    | ret => cases h; exact .inr ⟨rfl, fun e => by cases e⟩
    | exit id => cases h; exact .inr ⟨rfl, fun e => by cases e⟩
theorem skip_some {s s' : St} {i : Nat} (h : s.skip = some (i, s')) (hn : Neat s) : i = s.next ∧ s'.next = s.next + 1 ∧ ∀ j, s'.heap.get j = s.heap.get j := by
  unfold St.skip at h
  split at h
  · rename_i i1 s1 h1
    obtain ⟨v1, v2, rfl, rfl⟩ := St.alloc_some h1
    split at h
    · rename_i s2 h2
      cases h
      obtain ⟨_, _, _, rfl⟩ := St.set_some h2
      refine ⟨rfl, rfl, fun j => ?_⟩
      show (T.set (T.set s.heap s.next _) s.next none).get j = _
      rw [T.get_set, T.get_set]
      by_cases hj : j = s.next
      · subst hj
        rw [if_pos rfl]
        have := hn _ (Nat.le_refl s.next)
        rw [St.get_eq, if_pos v1] at this
        exact this.symm
      · rw [if_neg hj, if_neg hj]
    · cases h
  · cases h
theorem layAll_len : ∀ {ps : List Pos} {vs : List V} {f fr : Frame}, layAll ps vs f = some fr → vs.length = ps.length
  | [], [], _, _, _ => rfl
  | p :: ps, v :: vs, f, fr, h => congrArg (· + 1) (layAll_len (show layAll ps vs (T.lay p v f) = some fr from h))
  | [], _ :: _, _, _, h => by cases h
  | _ :: _, [], _, _, h => by cases h
theorem lay_ok {drop nt : Nat} {ι : Map} : ∀ {ts : List Nat} {vs : List V} {xs : List Value} {f fr : Frame} {tmps : Array Value}, layAll (ts.map pos) vs f = some fr → All2 (R ι) vs xs → FR drop ι f tmps → parsOk nt drop ts = true → nt ≤ tmps.size →
    FR drop ι fr ((ts.zip xs).foldl (fun tmps (t, x) => tmps.setIfInBounds t x) tmps) ∧ ((ts.zip xs).foldl (fun tmps (t, x) => tmps.setIfInBounds t x) tmps).size = tmps.size
  | [], [], xs, f, fr, tmps, h, ha, hf, hp, hs => by
    cases h
    exact ⟨hf, rfl⟩
  | t :: ts, v :: vs, [], f, fr, tmps, h, ha, hf, hp, hs => ha.elim
  | t :: ts, v :: vs, x :: xs, f, fr, tmps, h, ha, hf, hp, hs => by
    have h : layAll (ts.map pos) vs (T.lay (pos t) v f) = some fr := h
    simp only [parsOk, Bool.and_eq_true] at hp
    have hlt : t < tmps.size := Nat.lt_of_lt_of_le (blt_iff.1 hp.1.1) hs
    have hf2 : FR drop ι (T.lay (pos t) v f) (tmps.setIfInBounds t x) := FR.put (a := { tmps := tmps, defers := [] }) (d := some t) hf (fun n hn => by cases hn; exact hlt) ha.1
    obtain ⟨h1, h2⟩ := lay_ok h ha.2 hf2 hp.2 (by simpa using hs)
    exact ⟨h1, by rw [List.zip_cons_cons, List.foldl_cons]; rw [h2]; simp⟩
  | [], _ :: _, xs, f, fr, tmps, h, ha, hf, hp, hs => by cases h
  | _ :: _, [], xs, f, fr, tmps, h, ha, hf, hp, hs => by cases h
include hcall hfc hmix in
theorem range_sim (lf nt drop : Nat) (g : Operand) (ps : Array Tmp) (asg body : Code) (iha : ∀ (it : Option (Nat × ACode)) (rd : Option Nat) (n : Nat), ItOK P it → (it.isSome = true → rd = none) → CodeOK P B call lf nt drop it rd n asg)
    (ihb : ∀ (it : Option (Nat × ACode)) (rd : Option Nat) (n : Nat), ItOK P it → (it.isSome = true → rd = none) → CodeOK P B call lf nt drop it rd n body) :
    ∀ (it : Option (Nat × ACode)) (rd : Option Nat) (n : Nat), ItOK P it → (it.isSome = true → rd = none) → CodeOK P B call lf nt drop it rd n (.rangeFunc g ps asg body) := by
  intro it rd n hit hrd ac ι st st' w a f f' x Q hc he hf hsz hrel hfr hn hk
  simp only [comp] at hc
  split at hc
  case h_2 => cases hc
  rename_i k itc
  split at hc
  case h_2 => cases hc
  rename_i s aa ab hs ha hb
  obtain ⟨hpar, hc⟩ := sel_some hc
  cases hc
  have hrd : rd = none := hrd rfl
  subst hrd
  obtain ⟨F, fc, hF, hfb, hfcomp, hfres, hcallable⟩ := hit k itc rfl
  have he0 : rangeV (ps.toList.map pos) (ev aa) (ev ab) k itc call lf f st (f.ev s) = some (x, f', st') := he
  clear he
  have hg := good_of hf g s hs
  generalize f.ev s = v at he0 hg
  cases v with
  | func gf fst cap =>
    cases fst with
    | cons _ _ => cases he0
    | nil =>
      have he1 : sel (Nat.beq gf k) (match st.skip with | some (i, st1) => rangeOut f (evY (round (ps.toList.map pos) (ev aa call lf) (ev ab call lf) f i) call lf itc (initFrame (.yield i :: cap) 0 .nil) none st1) | none => none) none = some (x, f', st') := he0
      clear he0
      obtain ⟨hgk, he⟩ := sel_some he1
      clear he1
      rw [Nat.beq_eq] at hgk
      subst hgk
      split at he
      case h_2 => cases he
      rename_i i st1 hsk
      have hfh : HandFramed (round (ps.toList.map pos) (ev aa call lf) (ev ab call lf) f i) := round_framed (ev_framed hfc lf aa) (ev_framed hfc lf ab) _ f i
      cases hy : evY (round (ps.toList.map pos) (ev aa call lf) (ev ab call lf) f i) call lf itc (initFrame (.yield i :: cap) 0 .nil) none st1 with
      | none => rw [hy] at he; cases he
      | some q =>
        obtain ⟨⟨y, fy, p⟩, st2⟩ := q
        rw [hy] at he
        obtain ⟨hff, hst, hyn, hxp⟩ : f' = f ∧ st' = st2 ∧ (y = .normal ∨ y = .ret) ∧ x = p.getD .normal := by
          cases y <;> cases p <;> first | (cases he; done) | (cases he; exact ⟨rfl, rfl, by simp, rfl⟩)
        subst hff hst
        obtain ⟨hi, hnext1, hheap1⟩ := skip_some hsk hn
        subst hi
        obtain ⟨wentS, _⟩ := skip_framed st _ st1 hsk
        obtain ⟨wentY, _⟩ := evY_framed hfh hfc lf itc _ _ st1 _ st' hy
        have hn1 : Neat st1 := wentS.neat hn
        have hnl : st.next < st'.next := by have := wentY.next; omega
        have hnone : ι st.next = none := hfr _ (Nat.le_refl _) hnl
        obtain ⟨a', cap', hev, hfst, hcap⟩ := inv_func hg
        have ha' : a' = #[] := by
          have := hfst.length
          exact Array.eq_empty_of_size_eq_zero (by simpa using this.symm)
        subst ha'
        refine wpIn_rangeFunc ?_
        intro fn _
        obtain ⟨r, hr⟩ : ∃ r : Loop, r = { state := .ready, pending := none, fn, tmps := a.tmps, params := ps, assign := asg, body, defers := w.heap.size } := ⟨_, rfl⟩
        obtain ⟨W1, hW1⟩ : ∃ W1, (w.alloc (.deferred (some []))).alloc (.loop r) = W1 := ⟨_, rfl⟩
        have hsz1 : W1.heap.size = w.heap.size + 2 := by rw [← hW1]; simp
        have hold : ∀ k, k < w.heap.size → W1.heap[k]? = w.heap[k]? := fun k hk => by
          rw [← hW1]
          exact (Go.RowKit.Below.heap_alloc _ _ _ (by simp; omega)).trans (Go.RowKit.Below.heap_alloc w _ k hk)
        have hL : W1.heap[w.heap.size + 1]? = some (.loop (recOf r none)) := by
          rw [← hW1, hr]; have := World.alloc_heap_new (w.alloc (.deferred (some []))) (.loop (recOf r none)); rw [World.size_alloc, hr] at this; exact this
        have hD : W1.heap[w.heap.size]? = some (.deferred (some [])) := by
          rw [← hW1]; exact (Go.RowKit.Below.heap_alloc _ _ _ (by simp)).trans (World.alloc_heap_new w _)
        have hBl : B ≤ w.heap.size + 1 := Nat.le_succ_of_le hrel.base
        have hb1 : Below B w W1 := by
          rw [← hW1]; exact ((Below.refl B w).alloc hrel.base _).alloc (by simp; exact Nat.le_succ_of_le hrel.base) _
        have hsub1 := sub_upd (e := ⟨w.heap.size + 1, 0, 0⟩) hnone
        have hrel1 : Rel (upd ι st.next ⟨w.heap.size + 1, 0, 0⟩) B st1.heap W1 := by
          refine Rel.congr ⟨?_, ?_, ?_⟩ hheap1
          · rw [hsz1]; exact Nat.le_trans hrel.base (by omega)
          · intro j o ho
            obtain ⟨e, k1, k2, k3⟩ := hrel.obj j o ho
            exact ⟨e, hsub1 _ _ k1, by rw [hsz1]; omega, k3.keep hsub1 (hold _ k2)⟩
          · intro i j o o' e e' hi hj ho ho' he he' hb
            refine hrel.sep i j o o' e e' hi hj ho ho' ?_ ?_ hb
            · obtain ⟨e2, k1, _⟩ := hrel.obj i o hi
              rw [hsub1 _ _ k1] at he; cases he; exact k1
            · obtain ⟨e2, k1, _⟩ := hrel.obj j o' hj
              rw [hsub1 _ _ k1] at he'; cases he'; exact k1
        have hfr1 : ∀ i, st1.next ≤ i → i < st'.next → upd ι st.next ⟨w.heap.size + 1, 0, 0⟩ i = none := fun i h1 h2 => by
          rw [upd_other (by omega)]
          exact hfr i (by omega) h2
        refine ⟨w.heap.size + 1, [{ target := .collected w.heap.size, args := #[] }], W1, { target := .fn (.func gf) cap', args := #[.func (.yield (w.heap.size + 1)) #[] #[]] }, W1, gf,
          #[.func (.yield (w.heap.size + 1)) #[] #[]] ++ cap', W1, ?_, ?_, ?_, ?_, fence_depth, ?_⟩
        · rw [← hW1, hr]; exact run_enterLoop_outer _ _ _ _ _
        · simp only [rangeCall, Go.resolve, hev, Deferred.ofValue, Sem.run_bind, Sem.run_pure, Result.andThen_ok]
          simp [Act.eval]
        · intro f' _; exact fence_fn f'
        · simp only [Go.invoke]
          exact run_callFunc hcallable _
        · refine callsIn_of_wp hF hfb (fence_fn _) ?_ rfl
          have hargs1 : All2 (R (upd ι st.next ⟨w.heap.size + 1, 0, 0⟩)) (.yield st.next :: cap) (#[.func (.yield (w.heap.size + 1)) #[] #[]] ++ cap' : Array Value).toList := by
            rw [Array.toList_append]
            exact ⟨⟨_, upd_same _ _ _, rfl⟩, hcap.mono fun _ _ h => R.mono hsub1 h.up⟩
          have hand : HandOK P B (w.heap.size + 1) r st.next (upd ι st.next ⟨w.heap.size + 1, 0, 0⟩) (round (ps.toList.map pos) (ev aa call lf) (ev ab call lf) f' st.next) := by
            intro j args s0 v p' s3 h
            have h : sel (Nat.beq j st.next) (match layAll (ps.toList.map pos) args f' with | some fr => (match ev aa call lf fr s0 with | some (.normal, f1, s1) => roundEnd (ev ab call lf f1 s1) | _ => none) | none => none) none = some ((v, p'), s3) := h
            obtain ⟨hj, h⟩ := sel_some h
            split at h
            case h_2 => cases h
            rename_i fr hlay
            split at h
            case h_2 => cases h
            rename_i f1 s1 e1
            have hlen := layAll_len hlay
            refine ⟨Nat.eq_of_beq_eq_true hj, by rw [hr, hlen]; simp, fun ι' u args' hs0 hn' hrel' hfr' hargs' hrec' m => ?_⟩
            cases e2 : ev ab call lf f1 s1 with
            | none => rw [e2] at h; cases h
            | some q2 =>
              obtain ⟨z, f2, s2⟩ := q2
              rw [e2] at h
              obtain ⟨hs2, hvp⟩ : s3 = s2 ∧ ((z = .normal ∧ v = .bool true ∧ p' = none) ∨ (z ≠ .normal ∧ v = .bool false ∧ p' = some z)) := by
                cases z <;> (cases h; simp)
              subst hs2
              have n1 := ev_next hfc e1
              have n2 := ev_next hfc e2
              obtain ⟨hfl, hsl⟩ := lay_ok (nt := nt) hlay hargs' ((hf.mono hsub1).mono hs0) hpar hsz
              have hfold : ((r.params.zip args').foldl (fun tmps (t, x) => tmps.setIfInBounds t x) r.tmps) = ((ps.toList.zip args'.toList).foldl (fun tmps (t, x) => tmps.setIfInBounds t x) a.tmps) := by
                rw [hr, ← Array.foldl_toList, Array.toList_zip]
              rw [hfold, show r.fn = fn from by rw [hr], show r.assign = asg from by rw [hr], show r.body = body from by rw [hr]]
              refine roundIn_of_wpIn trivial ?_
              refine iha none (some (w.heap.size + 1)) m itNone (fun h => by cases h) aa ι' s0 s1 u _ fr f1 .normal _ ha e1 hfl (by rw [hsl]; exact hsz) hrel' (fun i h1 h2 => hfr' i h1 (Nat.lt_of_lt_of_le h2 n2)) hn' ?_
              intro ι1' w1 b1 k1
              have hrec1 := k1.below.keep _ _ hrec' rfl
              refine ⟨_, run_beginRound hrec1 rfl, ?_⟩
              have hlt1 := (Array.getElem?_eq_some_iff.1 hrec1).1
              refine ihb none (some (w.heap.size + 1)) m itNone (fun h => by cases h) ab ι1' s1 s3 _ b1 f1 f2 z _ hb e2 k1.fr k1.size (k1.rel.put hrec1 rfl hBl) (k1.fresh n1 hfr') (ev_neat hfc e1 hn') ?_
              intro ι2' w3 b3 k3
              have hrec3 := k3.below.keep _ _ (World.putObj_heap_same (o := .loop { recOf r none with state := .busy }) hlt1) rfl
              have hlt3 := (Array.getElem?_eq_some_iff.1 hrec3).1
              have post : ∀ (x : Value) (w4 : World) (o : Obj), w4 = w3.putObj (w.heap.size + 1) o → o = .loop (recOf r p') → R ι2' v x → HandPost ι' B (w.heap.size + 1) r s0 s3 v p' u (.returned x) w4 := by
                intro x w4 o hw4 ho hR
                subst hw4 ho
                refine ⟨x, ι2', rfl, k1.sub.trans k3.sub, ?_, k3.rel.put hrec3 rfl hBl, (((k1.below.x).put hBl _).trans k3.below.x).put hBl _, World.putObj_heap_same hlt3, hR⟩
                intro i hi
                rw [k3.other i, k1.other i]
                · rcases hi with hi | hi
                  · exact .inl hi
                  · exact .inr (Nat.le_trans n2 hi)
                · rcases hi with hi | hi
                  · exact .inl (Nat.lt_of_lt_of_le hi n1)
                  · exact .inr hi
              rcases hvp with ⟨rfl, rfl, rfl⟩ | ⟨hz, rfl, rfl⟩
              · exact ⟨_, _, run_endRound none hrec3, post _ _ _ rfl rfl rfl⟩
              · cases z with
                | normal => exact absurd rfl hz
                | ret => exact ⟨_, _, run_endRound (some .ret) hrec3, post _ _ _ rfl rfl rfl⟩
                | exit id => exact ⟨_, _, run_endRound (some (.exit id)) hrec3, post _ _ _ rfl rfl rfl⟩
          refine codeY_sim (nt := F.ntmps) (drop := 0) (r := r) (l := w.heap.size + 1) (li := st.next) (n := n - 1) hcall hfc hand hfh hmix lf fc itc (upd ι st.next ⟨w.heap.size + 1, 0, 0⟩) st1 st' W1 _ _ fy y none p _ hfcomp hy (FR.init hargs1) (by simp; omega) hrel1 hfr1 hn1 ⟨Sub.refl _, _, upd_same _ _ _, rfl⟩ hL ?_
          intro ι2 w3 b3 k3
          have hnb : (recOf r p).state ≠ .busy := by cases p <;> (intro h; cases h)
          have hlt3 := (Array.getElem?_eq_some_iff.1 k3.record).1
          have kept : KeptM drop ι ι2 B nt st st' w (w3.putObj (w.heap.size + 1) (.loop { recOf r p with state := .exhausted })) f' a { a with defers := [{ target := .collected w.heap.size, args := #[] }] ++ a.defers } := by
            refine ⟨hsub1.trans k3.sub, ?_, k3.rel.put k3.record rfl hBl, ⟨?_, ?_⟩, hf.mono (hsub1.trans k3.sub), hsz, ⟨[w.heap.size], rfl, by simp, ?_⟩⟩
            · intro i hi
              rw [k3.other i (by omega)]
              exact upd_other (by omega)
            · have hx := (BelowX.put (l := w.heap.size + 1) ((hb1.x).trans k3.below) hBl (.loop { recOf r p with state := .exhausted })).base
              exact hx
            · intro k o hk hm
              have h1 := (Array.getElem?_eq_some_iff.1 hk).1
              rw [World.putObj_heap_other (by omega)]
              exact k3.below.keep k o (by omega) (hb1.keep k o hk hm) hm
            · intro D hD
              simp only [List.mem_singleton] at hD
              subst hD
              refine ⟨Nat.le_refl _, ?_⟩
              rw [World.putObj_heap_other (by omega)]
              exact k3.below.keep _ _ (by omega) hD rfl
          have hQ := hk ι2 _ _ kept
          have post : rangePost (fenceOf none) n P (w.heap.size + 1) Q { a with defers := [{ target := .collected w.heap.size, args := #[] }] ++ a.defers } (.returned (.tuple #[])) w3 := by
            refine ⟨_, _, run_endLoop k3.record hnb, ?_⟩
            subst hxp
            cases p with
            | none => exact hQ
            | some x =>
              cases x with
              | normal => exact wpIn_skip hQ
              | ret => exact wpIn_ret hQ
              | exit id => exact wpIn_exit hQ
          have hres : (results F b3.tmps).run P w3 = .ok (.tuple #[]) w3 := by
            rw [results_eq, hfres]
            simp [Sem.run_bind, Sem.run_pure, Result.andThen]
          have hbd : b3.defers = [] := k3.defers
          rcases hyn with rfl | rfl
          · exact ⟨hbd, _, hres, post⟩
          · exact ⟨hbd, _, hres, post⟩
  | _ => cases he0
include hcall hfc hmix in
theorem code_sim (lf nt drop : Nat) : ∀ (c : Code) (it : Option (Nat × ACode)) (rd : Option Nat) (n : Nat), ItOK P it → (it.isSome = true → rd = none) → CodeOK P B call lf nt drop it rd n c := by
  intro c
  induction c with
  | skip =>
    intro it rd n hit hrd ac ι st st' w a f f' x Q hc he hf hsz hrel hfr hn hk
    cases hc; cases he
    exact wpIn_skip (hk ι w a (KeptM.refl hf hsz hrel))
  | label l =>
    intro it rd n hit hrd ac ι st st' w a f f' x Q hc he hf hsz hrel hfr hn hk
    cases hc; cases he
    exact wpIn_label (hk ι w a (KeptM.refl hf hsz hrel))
  | ret =>
    intro it rd n hit hrd ac ι st st' w a f f' x Q hc he hf hsz hrel hfr hn hk
    cases hc; cases he
    exact wpIn_ret (hk ι w a (KeptM.refl hf hsz hrel))
  | exit id =>
    intro it rd n hit hrd ac ι st st' w a f f' x Q hc he hf hsz hrel hfr hn hk
    cases hc; cases he
    exact wpIn_exit (hk ι w a (KeptM.refl hf hsz hrel))
  | region id ops draws =>
    intro it rd n hit hrd ac ι st st' w a f f' x Q hc he hf hsz hrel hfr hn hk
    simp only [comp] at hc
    split at hc
    · rename_i hdr
      subst hdr
      split at hc
      case h_2 => cases hc
      rename_i l hl
      split at hc
      · rename_i hcond
        cases hc
        simp only [Bool.and_eq_true] at hcond
        have he : normalOut (runD (withPartners (l.map (·.op)) (preds ops.toList) 0 l) call 0 [] f st) = some (x, f', st') := he
        cases hr : runD (withPartners (l.map (·.op)) (preds ops.toList) 0 l) call 0 [] f st with
        | none => rw [hr] at he; cases he
        | some p =>
          rw [hr] at he
          cases he
          refine sure_in (draw_in hmix (at_no_defer (all_no_defer _ _ hl)) sure_out ?_)
          exact dreg_sim hcall hfc hl hcond.1.1 hcond.1.2 hcond.2 hr hf hsz hrel hfr hn fun ι' w' a' k => ⟨(fun h => by cases h), hk ι' w' a' k.m⟩
      · cases hc
    · rename_i hdr
      have hdr : draws = false := by simpa using hdr
      subst hdr
      simp only [Option.map_eq_some_iff] at hc
      obtain ⟨l, hl, rfl⟩ := hc
      have he : normalOut (runOps l call f st) = some (x, f', st') := he
      cases hr : runOps l call f st with
      | none => rw [hr] at he; cases he
      | some p =>
        rw [hr] at he
        cases he
        refine sure_in (region_in (at_no_defer (reg_no_defer _ _ _ hl)) sure_out ?_)
        exact reg_sim hcall hfc ops.toList [] l ι st _ w a f _ hl hr hf (fun _ _ _ h => by cases h) hsz hrel hfr hn fun ι' w' a' k => ⟨(fun h => by cases h), hk ι' w' a' k.m⟩
  | seq c1 c2 ih1 ih2 =>
    intro it rd n hit hrd ac ι st st' w a f f' x Q hc he hf hsz hrel hfr hn hk
    simp only [comp] at hc
    split at hc
    case h_2 => cases hc
    rename_i a1 a2 h1 h2
    cases hc
    have he : andThen (ev a1 call lf f st) (ev a2 call lf) = some (x, f', st') := he
    refine wpIn_seq ?_
    rcases andThen_some he with ⟨f1, s1, e1, e2⟩ | ⟨e1, hne⟩
    · have n1 := ev_next hfc e1
      have n2 := ev_next hfc e2
      refine ih1 it rd n hit hrd a1 ι st s1 w a f f1 .normal _ h1 e1 hf hsz hrel (fun i p q => hfr i p (Nat.lt_of_lt_of_le q n2)) hn ?_
      intro ι1 w1 b1 k1
      show c2.wpIn (fenceOf rd) n P Q b1 w1
      refine ih2 it rd n hit hrd a2 ι1 s1 st' w1 b1 f1 f' x Q h2 e2 k1.fr k1.size k1.rel (k1.fresh n1 hfr) (ev_neat hfc e1 hn) ?_
      intro ι2 w2 b2 k2
      exact hk ι2 w2 b2 (k1.trans k2 n1 n2)
    · refine ih1 it rd n hit hrd a1 ι st st' w a f f' x _ h1 e1 hf hsz hrel hfr hn ?_
      intro ι1 w1 b1 k1
      have := hk ι1 w1 b1 k1
      cases x with
      | normal => exact absurd rfl hne
      | ret => exact this
      | exit id => exact this
  | cond o c1 c2 ih1 ih2 =>
    intro it rd n hit hrd ac ι st st' w a f f' x Q hc he hf hsz hrel hfr hn hk
    simp only [comp] at hc
    split at hc
    case h_2 => cases hc
    rename_i s a1 a2 hs h1 h2
    cases hc
    have he : evCondB (ev a1) (ev a2) call lf f st (f.ev s) = some (x, f', st') := he
    have hg := good_of hf o s hs
    generalize f.ev s = v at he hg
    cases v with
    | bool t =>
      have e1 := inv_bool hg
      cases t with
      | true => exact wpIn_cond_true e1 (ih1 it rd n hit hrd a1 ι st st' w a f f' x Q h1 he hf hsz hrel hfr hn hk)
      | false => exact wpIn_cond_false e1 (ih2 it rd n hit hrd a2 ι st st' w a f f' x Q h2 he hf hsz hrel hfr hn hk)
    | _ => cases he
  | block id c ih =>
    intro it rd n hit hrd ac ι st st' w a f f' x Q hc he hf hsz hrel hfr hn hk
    simp only [comp, Option.map_eq_some_iff] at hc
    obtain ⟨a1, h1, rfl⟩ := hc
    have he : (Option.rec none (Prod.rec (blockExit id)) (ev a1 call lf f st) : Out) = some (x, f', st') := he
    refine wpIn_block ?_
    cases hr : ev a1 call lf f st with
    | none => rw [hr] at he; cases he
    | some p =>
      obtain ⟨y, f1, s1⟩ := p
      rw [hr] at he
      cases y with
      | normal =>
        cases he
        exact ih it rd n hit hrd a1 ι st st' w a f f' .normal _ h1 hr hf hsz hrel hfr hn hk
      | ret =>
        cases he
        exact ih it rd n hit hrd a1 ι st st' w a f f' .ret _ h1 hr hf hsz hrel hfr hn hk
      | exit j =>
        have he : sel (Nat.beq j id) (some (AExit.normal, f1, s1)) (some (AExit.exit j, f1, s1)) = some (x, f', st') := he
        cases hj : Nat.beq j id with
        | true =>
          rw [hj] at he
          cases he
          rw [Nat.beq_eq] at hj
          subst hj
          refine ih it rd n hit hrd a1 ι st st' w a f f' (.exit j) _ h1 hr hf hsz hrel hfr hn ?_
          intro ι1 w1 b1 k1
          show (if j = j then Q .normal b1 w1 else _)
          rw [if_pos rfl]
          exact hk ι1 w1 b1 k1
        | false =>
          rw [hj] at he
          cases he
          have hne : j ≠ id := fun e => by rw [← Nat.beq_eq, hj] at e; cases e
          refine ih it rd n hit hrd a1 ι st st' w a f f' (.exit j) _ h1 hr hf hsz hrel hfr hn ?_
          intro ι1 w1 b1 k1
          show (if j = id then Q .normal b1 w1 else Q (.exit j) b1 w1)
          rw [if_neg hne]
          exact hk ι1 w1 b1 k1
  | loop c ih =>
    intro it rd n hit hrd ac ι st st' w a f f' x Q hc he hf hsz hrel hfr hn hk
    simp only [comp, Option.map_eq_some_iff] at hc
    obtain ⟨a1, h1, rfl⟩ := hc
    have he : loopN (ev a1 call lf) lf f st = some (x, f', st') := he
    refine loop_in (fun k b u => ∃ ι1 s1 f1, loopN (ev a1 call lf) k f1 s1 = some (x, f', st') ∧ FR drop ι1 f1 b.tmps ∧ nt ≤ b.tmps.size ∧ Rel ι1 B s1.heap u ∧ (∀ i, s1.next ≤ i → i < st'.next → ι1 i = none) ∧ Neat s1 ∧
      ∀ ι' w' a', KeptM drop ι1 ι' B nt s1 st' u w' f' b a' → Q (exitOf x) a' w') ?_ ?_ (k := lf) ⟨ι, st, f, he, hf, hsz, hrel, hfr, hn, hk⟩
    · rintro b u ⟨_, _, _, h, _⟩
      cases h
    · rintro k b u ⟨ι1, s1, f1, h, hf, hsz, hrel, hfr, hn, hk⟩
      have h : andThen (ev a1 call lf f1 s1) (loopN (ev a1 call lf) k) = some (x, f', st') := h
      rcases andThen_some h with ⟨f2, s2, e1, e2⟩ | ⟨e1, hne⟩
      · have n1 := ev_next hfc e1
        have n2 : s2.next ≤ st'.next := (loop_framed (fun f => ev_framed hfc lf a1 f) k f2 s2 (x, f') st' (by show assoc _ = _; rw [e2]; rfl)).1.next
        refine ih it rd n hit hrd a1 ι1 s1 s2 u b f1 f2 .normal _ h1 e1 hf hsz hrel (fun i p q => hfr i p (Nat.lt_of_lt_of_le q n2)) hn ?_
        intro ι2 w2 b2 k2
        exact ⟨ι2, s2, f2, e2, k2.fr, k2.size, k2.rel, k2.fresh n1 hfr, ev_neat hfc e1 hn, fun ι3 w3 b3 k3 => hk ι3 w3 b3 (k2.trans k3 n1 n2)⟩
      · refine ih it rd n hit hrd a1 ι1 s1 st' u b f1 f' x _ h1 e1 hf hsz hrel hfr hn ?_
        intro ι2 w2 b2 k2
        have := hk ι2 w2 b2 k2
        cases x with
        | normal => exact absurd rfl hne
        | ret => exact this
        | exit id => exact this
  | rangeFunc g ps asg body iha ihb =>
    exact range_sim hcall hfc hmix lf nt drop g ps asg body iha ihb
  | scope => intro it rd n hit hrd ac ι st st' w a f f' x Q hc; cases hc
  | goto => intro it rd n hit hrd ac ι st st' w a f f' x Q hc; cases hc
  | refuse => intro it rd n hit hrd ac ι st st' w a f f' x Q hc; cases hc
end
theorem res_sim {P : Program} {B : Nat} {ι : Map} {st : St} {w : World} {a : Act} {f : Frame} {drop : Nat} {rv : ResultVar} {ar : ARes} {v : V} (hc : compRes P drop rv = some ar) (hf : FR drop ι f a.tmps) (hrel : Rel ι B st.heap w) (hr : resOf f st ar = some v) :
    ∃ x, (resRun a.tmps rv).run P w = .ok x w ∧ R ι v x := by
  cases rv with
  | tmp t =>
    have hh := sel_cases (b := bit drop t) (x := none) hc
    rcases hh with ⟨_, h⟩ | ⟨hb, h⟩
    · cases h
    · cases h
      have hr : some (f.ev (.t (pos t))) = some v := hr
      cases hr
      exact ⟨_, rfl, hf.tmp t hb⟩
  | cell c t =>
    unfold compRes at hc
    dsimp only at hc
    split at hc
    case h_2 => cases hc
    rename_i g n hg hn
    rcases sel_cases (b := bit drop c) (x := none) hc with ⟨_, h⟩ | ⟨hb, h⟩
    · cases h
    · cases h
      unfold resOf at hr
      dsimp only at hr
      have hp := hf.tmp c hb
      split at hr
      case h_2 => cases hr
      rename_i i q hv
      rw [hv] at hp
      obtain ⟨e, e1, e2⟩ := inv_ptr hp
      have e2 : a.tmps.getD c undef = .pointer (some ⟨e.blk, e.off + q, none⟩) := e2
      cases g with
      | true =>
        have hr : (match st.loadN i q n with | some l => some (V.agg l) | none => none) = some v := hr
        split at hr
        · rename_i l hl
          cases hr
          obtain ⟨l', k1, k2, _⟩ := loadN_rel (P := P) hrel hl e1
          refine ⟨.agg ⟨l'⟩, ?_, _, rfl, k2⟩
          simp only [resRun, e2]
          simp [asAddr, loadVar, run_isAgg' hg, run_sizeOf' hn, k1]
        · cases hr
      | false =>
        have hr : st.load1 i q = some v := hr
        obtain ⟨x, k1, k2⟩ := load1_rel hrel hr e1
        refine ⟨x, ?_, k2.up⟩
        simp only [resRun, e2]
        simp [asAddr, loadVar, run_isAgg' hg, k1]
theorem ress_sim {P : Program} {B : Nat} {ι : Map} {st : St} {w : World} {a : Act} {f : Frame} {drop : Nat} (hf : FR drop ι f a.tmps) (hrel : Rel ι B st.heap w) : ∀ (rvs : List ResultVar) (ars : List ARes) (vs : List V), optAll (compRes P drop) rvs = some ars → resultsOf f st ars = some vs →
    ∃ xs : List Value, (rvs.mapM (resRun a.tmps)).run P w = .ok xs w ∧ All2 (R2 ι) vs xs
  | [], ars, vs, h, hr => by cases h; cases hr; exact ⟨[], rfl, trivial⟩
  | rv :: rvs, ars, vs, h, hr => by
    simp only [optAll] at h
    split at h
    case h_2 => cases h
    rename_i ar ars' h1 h2
    cases h
    simp only [resultsOf] at hr
    split at hr
    case h_2 => cases hr
    rename_i v vs' hv hvs
    obtain ⟨hp, hr⟩ := sel_some hr
    cases hr
    obtain ⟨x, k1, k2⟩ := res_sim (P := P) h1 hf hrel hv
    obtain ⟨xs, k3, k4⟩ := ress_sim hf hrel rvs ars' vs' h2 hvs
    refine ⟨x :: xs, ?_, k2.of_plain hp, k4⟩
    simp only [List.mapM_cons, Sem.run_bind, k1, Result.andThen_ok, k3, Sem.run_pure]
theorem results_sim {P : Program} {B : Nat} {ι : Map} {st : St} {w : World} {a : Act} {f : Frame} {drop : Nat} {fn : Func} {ars : List ARes} {vs : List V} (hf : FR drop ι f a.tmps) (hrel : Rel ι B st.heap w) (hc : optAll (compRes P drop) fn.results.toList = some ars) (hr : resultsOf f st ars = some vs) :
    ∃ x, (results fn a.tmps).run P w = .ok x w ∧ R ι (oneOf vs) x := by
  obtain ⟨xs, k1, k2⟩ := ress_sim (P := P) hf hrel _ _ _ hc hr
  have hlen := k2.length
  rw [results_eq, Array.mapM_eq_mapM_toList]
  simp only [Sem.run_bind, Sem.run_map, k1, Result.andThen_ok, Sem.run_pure]
  by_cases h1 : xs.toArray.size = 1
  · rw [dif_pos h1]
    cases xs with
    | nil => simp at h1
    | cons x xs =>
      cases xs with
      | cons => simp at h1
      | nil =>
        cases vs with
        | nil => exact k2.elim
        | cons v vs =>
          cases vs with
          | cons => exact k2.2.elim
          | nil => exact ⟨x, rfl, k2.1.up⟩
  · rw [dif_neg h1]
    refine ⟨_, rfl, ?_⟩
    have : oneOf vs = .tuple vs := by
      cases vs with
      | nil => rfl
      | cons v vs => cases vs with
        | nil => exfalso; simp at hlen; simp [← hlen] at h1
        | cons => rfl
    rw [this]
    exact ⟨_, rfl, k2⟩
theorem initFrame_look : ∀ (vs : List V) (n : Nat) (f : Frame) (k : Nat), (initFrame vs n f).look (pos k) = if n ≤ k ∧ k < n + vs.length then vs[k - n]? else f.look (pos k)
  | [], n, f, k => by rw [if_neg (by simp only [List.length_nil]; omega)]; rfl
  | v :: vs, n, f, k => by
    show (initFrame vs (n + 1) (T.lay (pos n) v f)).look (pos k) = _
    rw [initFrame_look vs (n + 1)]
    by_cases h1 : n + 1 ≤ k ∧ k < n + 1 + vs.length
    · rw [if_pos h1, if_pos (by simp only [List.length_cons]; omega), show k - n = (k - (n + 1)) + 1 from by omega]
      rfl
    · rw [if_neg h1]
      by_cases h2 : k = n
      · subst h2
        rw [T.look_lay_same, if_pos (by simp only [List.length_cons]; omega), Nat.sub_self]
        rfl
      · rw [T.look_lay_other _ _ _ _ (fun e => h2 (pos_inj e)), if_neg (by simp only [List.length_cons]; omega)]
theorem enter_ok {P : Program} {B : Nat} {call : CallT} (hmix : P.follows .mixedOrders = true) (hcall : CallOK P B call) (hfc : CallFramed call) {lf : Nat} {g : Nat} {fn : AFunc} (hcomp : compF P g = some fn) {args : List V} {st st' : St} {v : V} (h : enterF call lf args st fn = some (v, st')) :
    Callable P g ∧ ∀ ι w args', Neat st → Rel ι B st.heap w →
      (∀ i, st.next ≤ i → i < st'.next → ι i = none) → All2 (R ι) args args'.toList → Calls P g args' w (CallPost ι B st st' v w) := by
  unfold compF at hcomp
  split at hcomp
  case h_2 => cases hcomp
  rename_i F hF
  split at hcomp
  case h_2 => cases hcomp
  rename_i body hbody
  split at hcomp
  · cases hcomp
  rename_i hname
  have hcallable : Callable P g := ⟨F, hF, by rw [hbody]; rfl, by simpa using hname⟩
  refine ⟨hcallable, ?_⟩
  obtain ⟨drop, hd⟩ : ∃ drop, compD P F body drop = some fn := by
    split at hcomp
    · rename_i q hq; cases hcomp; exact ⟨_, hq⟩
    · exact ⟨_, hcomp⟩
  unfold compD at hd
  split at hd
  case h_2 => cases hd
  rename_i ac ars hac hars
  cases hd
  intro ι w args' hneat hrel hfr hargs
  have h : (Option.rec none (Prod.rec (finish ars)) (ev ac (call) lf (initFrame args 0 .nil) st) : Option (V × St)) = some (v, st') := h
  cases hev : ev ac (call) lf (initFrame args 0 .nil) st with
  | none => rw [hev] at h; cases h
  | some p =>
    obtain ⟨x, f1, s1⟩ := p
    rw [hev] at h
    have h : finish ars x (f1, s1) = some (v, st') := h
    have hx : x ≠ .normal → x = .ret := by
      intro hne
      cases x with
      | normal => exact absurd rfl hne
      | ret => rfl
      | exit id => cases h
    have hres : ∃ vs, resultsOf f1 s1 ars = some vs ∧ v = oneOf vs ∧ st' = s1 := by
      cases x with
      | exit id => cases h
      | normal =>
        have h : (match resultsOf f1 s1 ars with | some vs => some (oneOf vs, s1) | none => none) = some (v, st') := h
        split at h
        · rename_i vs hvs; cases h; exact ⟨vs, hvs, rfl, rfl⟩
        · cases h
      | ret =>
        have h : (match resultsOf f1 s1 ars with | some vs => some (oneOf vs, s1) | none => none) = some (v, st') := h
        split at h
        · rename_i vs hvs; cases h; exact ⟨vs, hvs, rfl, rfl⟩
        · cases h
    obtain ⟨vs, hvs, rfl, rfl⟩ := hres
    refine callsIn_wide.1 (callsIn_of_wp_marks (F := Fence.wide) (n := 0) hF hbody trivial ?_)
    have hfr0 : FR drop ι (initFrame args 0 .nil) (args' ++ Array.replicate (F.ntmps - args'.size) undef) := by
      intro n u _ hu
      rw [initFrame_look] at hu
      by_cases hn : 0 ≤ n ∧ n < 0 + args.length
      · rw [if_pos hn, Nat.sub_zero] at hu
        obtain ⟨y, hy, hr⟩ := hargs.get hu
        have hlt : n < args'.size := by
          have := (List.getElem?_eq_some_iff.1 hy).1
          simpa using this
        rw [Array.getD_eq_getD_getElem?, Array.getElem?_append_left hlt, ← Array.getElem?_toList, hy]
        exact hr
      · rw [if_neg hn] at hu; cases hu
    refine code_sim hcall hfc hmix lf F.ntmps drop body (itOf P) none 0 itOf_ok (fun _ => rfl) ac ι st st' w _ _ f1 x _ hac hev hfr0 (by simp; omega) hrel hfr hneat ?_
    intro ι' w' a' k
    have leaves : ∀ (Ds : List Nat) (u : World), Rel ι' B st'.heap u → Below B w u → Ds.Nodup → (∀ D ∈ Ds, w.heap.size ≤ D ∧ u.heap[D]? = some (.deferred (some []))) →
        LeavesInM Fence.wide 0 P F a'.tmps (CallPost ι B st st' (oneOf vs) w) (Ds.map fun D => ({ target := .collected D, args := #[] } : Deferred)) .returning u := by
      intro Ds
      induction Ds with
      | nil =>
        intro u hru hbu _ _
        obtain ⟨y, hy1, hy2⟩ := results_sim (P := P) (fn := F) k.fr hru hars hvs
        exact ⟨y, hy1, y, ι', rfl, k.sub, k.other, hru, hbu, hy2⟩
      | cons D Ds ih =>
        intro u hru hbu hnd hall
        obtain ⟨hD1, hD2⟩ := hall D (List.mem_cons_self ..)
        rw [List.nodup_cons] at hnd
        have hBD : B ≤ D := Nat.le_trans hrel.base hD1
        refine ⟨(fun h => by cases h), .inl ⟨D, u.putObj D (.deferred none), rfl, run_takeDeferred hD2, ih _ (hru.put hD2 rfl hBD) ⟨⟨hbu.base.os, hbu.base.tape, hbu.base.output, by simpa using hbu.base.size, fun i hi => ?_⟩, fun i o hi hm => ?_⟩ hnd.2 fun E hE => ?_⟩⟩
        · rw [World.putObj_heap_other (by omega)]
          exact hbu.block i hi
        · have h1 := (Array.getElem?_eq_some_iff.1 hi).1
          rw [World.putObj_heap_other (by omega)]
          exact hbu.keep i o hi hm
        · obtain ⟨hE1, hE2⟩ := hall E (List.mem_cons_of_mem _ hE)
          refine ⟨hE1, ?_⟩
          rw [World.putObj_heap_other (fun e => hnd.1 (by rw [← e]; exact hE))]
          exact hE2
    obtain ⟨Ds, hds, hnd, hall⟩ := k.defers
    have hds : a'.defers = Ds.map fun D => ({ target := .collected D, args := #[] } : Deferred) := by rw [hds]; exact List.append_nil _
    have post := leaves Ds w' k.rel k.below hnd hall
    rw [← hds] at post
    cases x with
    | normal => exact post
    | ret => exact post
    | exit id => cases h
theorem call_ok {P : Program} {B : Nat} {C : T AFunc} (hmix : P.follows .mixedOrders = true) (hC : ∀ g fn, C.get g = some fn → compF P g = some fn) (lf : Nat) : ∀ d, CallOK P B (callF C lf d)
  | 0 => fun g args st v st' h => by cases h
  | d + 1 => by
    intro g args st v st' h
    have h : (Option.rec none (enterF (callF C lf d) lf args st) (T.get C g) : Option (V × St)) = some (v, st') := h
    cases hg : T.get C g with
    | none => rw [hg] at h; cases h
    | some fn =>
      rw [hg] at h
      exact enter_ok hmix (call_ok hmix hC lf d) (callF_framed C lf d) (hC g fn hg) h
end Go.Vabs

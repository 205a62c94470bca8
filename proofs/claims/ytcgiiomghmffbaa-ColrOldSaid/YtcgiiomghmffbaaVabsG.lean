/- Lemmas for this claim, text G. No condition. -/
import Derived.Test.YtcgiiomghmffbaaVabsF
import Derived.ChangeKeysEq
import Derived.Laws.StructEq
namespace Go.Vabs
set_option linter.unusedSimpArgs false
set_option linter.unusedVariables false
section
variable {P : Program} {B : Nat} {ι : Map} {st st' : St} {w : World} {a : Act} {o : Oper} {ρ : Src → V} {sr : Operand → Option Src} {r : Res}
theorem All2.map_eval {l : List Src} {m : List Operand} (h : All2 (fun s x => R ι (ρ s) (a.eval x)) l m) : All2 (R ι) (l.map ρ) (m.map a.eval) := by
  induction l generalizing m with
  | nil => cases m with
    | nil => trivial
    | cons => exact h.elim
  | cons s l ih => cases m with
    | nil => exact h.elim
    | cons x m => exact ⟨h.1, ih h.2⟩
theorem run_mm {mx : Bool} : ∀ (l : List V) (m : List Value) (x z : V) (v : Value), All2 (R ι) l m → R ι x v → mmAll mx x l = some z →
    ∃ u, (List.foldlM (if mx = true then Builtin.max2 else Builtin.min2) v m : Sem Value).run P w = .ok u w ∧ R ι z u := by
  intro l
  induction l with
  | nil => intro m x z v h hx hz; cases m with
    | nil => cases hz; exact ⟨v, rfl, hx⟩
    | cons => exact h.elim
  | cons y l ih => intro m x z v h hx hz; cases m with
    | nil => exact h.elim
    | cons u m =>
      simp only [mmAll] at hz
      split at hz
      · rename_i q hq
        unfold mm2 at hq
        split at hq
        · rename_i k a1 k' b1
          split at hq
          · rename_i hk
            subst hk
            cases hq
            have e1 := inv_int hx
            have e2 := inv_int h.1
            subst e1; subst e2
            cases mx with
            | true =>
              have hrun : (Builtin.max2 (.int k a1) (.int k b1)).run P w = .ok (.int k (if b1 > a1 then b1 else a1)) w := rfl
              have e3 : sel (ltI a1 b1) b1 a1 = if b1 > a1 then b1 else a1 := by
                rw [ltI_eq]; by_cases hh : a1 < b1
                · simp only [hh, decide_true, sel_true, gt_iff_lt, if_true]
                · simp only [hh, decide_false, sel_false, gt_iff_lt, if_false]
              obtain ⟨u', hu, hr⟩ := ih m _ z _ h.2 (show R ι (.int k (sel true (sel (ltI a1 b1) b1 a1) _)) (.int k (if b1 > a1 then b1 else a1)) by rw [sel_true, e3]; rfl) hz
              refine ⟨u', ?_, hr⟩
              simp only [if_true, List.foldlM_cons, Sem.run_bind, hrun, Result.andThen_ok]
              simpa using hu
            | false =>
              have hrun : (Builtin.min2 (.int k a1) (.int k b1)).run P w = .ok (.int k (if b1 < a1 then b1 else a1)) w := rfl
              have e3 : sel (ltI b1 a1) b1 a1 = if b1 < a1 then b1 else a1 := by
                rw [ltI_eq]; by_cases hh : b1 < a1
                · simp only [hh, decide_true, sel_true, if_true]
                · simp only [hh, decide_false, sel_false, if_false]
              obtain ⟨u', hu, hr⟩ := ih m _ z _ h.2 (show R ι (.int k (sel false _ (sel (ltI b1 a1) b1 a1))) (.int k (if b1 < a1 then b1 else a1)) by rw [sel_false, e3]; rfl) hz
              refine ⟨u', ?_, hr⟩
              simp only [Bool.false_eq_true, if_false, List.foldlM_cons, Sem.run_bind, hrun, Result.andThen_ok]
              simpa using hu
          · cases hq
        · cases hq
      · cases hz
theorem sim_minmax {mx : Bool} {x : Operand} {xs : List Operand} {c : Go.Call} (ho : o.op = .call c) (hc : c.callee = .builtin (if mx = true then .max else .min)) (hxs : c.args.toList = x :: xs)
    (hrel : Rel ι B st.heap w) {s : Src} {ss : List Src} (hs : R ι (ρ s) (a.eval x)) (hss : All2 (fun s x => R ι (ρ s) (a.eval x)) ss xs)
    (hx : ex_minmax mx s ss ρ st = some (r, st')) : ∃ ι' w', Sim P B ι st.next st'.next w st'.heap r (Go.execOp a.eval o) ι' w' := by
  unfold ex_minmax at hx
  split at hx
  · rename_i v hv
    cases hx
    obtain ⟨u, hu, hr⟩ := run_mm (P := P) (w := w) _ _ _ _ _ hss.map_eval hs hv
    refine Sim.still (x := u) hrel ?_ hr
    have hargs : (c.args.map a.eval).toList = a.eval x :: xs.map a.eval := by rw [Array.toList_map, hxs]; rfl
    cases mx with
    | true =>
      have h : (Builtin.max_ c.argTypes o.type (c.args.map a.eval)).run P w = .ok u w := by
        simp only [Builtin.max_, hargs]; exact hu
      simp only [Go.execOp, ho, Go.resolve, hc, if_true, Sem.run_bind, Sem.run_pure, Result.andThen_ok, Go.invoke, Go.builtin, h]
    | false =>
      have h : (Builtin.min_ c.argTypes o.type (c.args.map a.eval)).run P w = .ok u w := by
        simp only [Builtin.min_, hargs]; exact hu
      simp only [Go.execOp, ho, Go.resolve, hc, Bool.false_eq_true, if_false, Sem.run_bind, Sem.run_pure, Result.andThen_ok, Go.invoke, Go.builtin, h]
  · cases hx
theorem over_fold : ∀ (cs : List Value) (off j : Nat) (l : Array Value),
    (cs.zipIdx j).foldl (fun (acc : Array Value) (p : Value × Nat) => acc.setIfInBounds (off + p.2) p.1) l = (⟨l.toList.mapIdx fun k x => if off + j ≤ k ∧ k < off + j + cs.length then (cs[k - (off + j)]?).getD x else x⟩ : Array Value)
  | [], off, j, l => by
    simp only [List.zipIdx_nil, List.foldl_nil, List.length_nil, Nat.add_zero]
    apply Array.ext'
    apply List.ext_getElem?
    intro k
    simp only [List.getElem?_mapIdx]
    cases l.toList[k]? with
    | none => rfl
    | some v => simp
  | c :: cs, off, j, l => by
    simp only [List.zipIdx_cons, List.foldl_cons]
    rw [over_fold cs off (j + 1)]
    apply Array.ext'
    apply List.ext_getElem?
    intro k
    simp only [List.getElem?_mapIdx, Array.toList_setIfInBounds, List.getElem?_set, List.length_cons]
    by_cases hk : off + j = k
    · subst hk
      by_cases hl : off + j < l.toList.length
      · simp only [if_true, hl]
        rw [List.getElem?_eq_getElem hl]
        simp only [Option.map_some, Option.some.injEq]
        rw [if_neg (by omega), if_pos (by omega), Nat.sub_self]
        rfl
      · rw [if_pos rfl, if_neg hl, List.getElem?_eq_none (Nat.le_of_not_lt hl)]; rfl
    · rw [if_neg hk]
      cases hv : l.toList[k]? with
      | none => rfl
      | some v =>
        simp only [Option.map_some, Option.some.injEq]
        by_cases h1 : off + (j + 1) ≤ k ∧ k < off + (j + 1) + cs.length
        · rw [if_pos h1, if_pos (by omega)]
          rw [show k - (off + j) = (k - (off + (j + 1))) + 1 from by omega]
          rfl
        · rw [if_neg h1]
          by_cases h2 : off + j ≤ k ∧ k < off + j + (cs.length + 1)
          · omega
          · rw [if_neg h2]
theorem fill_rel {place : Nat → Option (Nat × Nat)} : ∀ (ps : List (Nat × Nat × Src)) (qs : List (Nat × Operand)) (cs r : List V) (l : Array Value),
    All2 (fun (p : Nat × Nat × Src) (q : Nat × Operand) => place q.1 = some (p.1, p.2.1) ∧ R ι (ρ p.2.2) (a.eval q.2)) ps qs → All2 (R1 ι) cs l.toList → fill ρ ps cs = some r →
    ∃ l', Instr.fill place l (qs.map fun q => (q.1, a.eval q.2)) = some l' ∧ All2 (R1 ι) r l'.toList := by
  intro ps
  induction ps with
  | nil => intro qs cs r l h hl hf; cases qs with
    | nil => cases hf; exact ⟨l, rfl, hl⟩
    | cons => exact h.elim
  | cons p ps ih => intro qs cs r l h hl hf; cases qs with
    | nil => exact h.elim
    | cons q qs =>
      obtain ⟨off, n, s⟩ := p
      obtain ⟨i, x⟩ := q
      obtain ⟨⟨hp, hr⟩, hrest⟩ := h
      simp only [fill] at hf
      split at hf
      · rename_i vs hvs
        obtain ⟨hb, hf⟩ := sel_some hf
        rw [Nat.beq_eq] at hb
        split at hf
        · rename_i r1 hr1
          have hc := hr.cells hvs
          have hlen := hc.length
          have hll := hl.length
          obtain ⟨e1, e2, e3⟩ := splice_eq hr1
          have hcl : (a.eval x).cells.toList.length = (a.eval x).cells.size := Array.length_toList
          have hsz : (a.eval x).cells.size = n := by rw [← hb, hlen, Array.length_toList]
          let l1 := (a.eval x).cells.toList.zipIdx.foldl (fun (acc : Array Value) (p : Value × Nat) => acc.setIfInBounds (off + p.2) p.1) l
          have hl1 : All2 (R1 ι) r1 l1.toList := by
            have := over_fold (a.eval x).cells.toList off 0 l
            refine All2.of_get ?_ ?_
            · show r1.length = l1.toList.length
              rw [show l1 = _ from this]
              simp [e1, hll]
            · intro k v hk
              rw [show l1 = _ from this]
              simp only [List.getElem?_mapIdx]
              rw [e3 k] at hk
              have hklt : k < cs.length := by
                have hk2 : r1[k]? = some v := by rw [e3 k]; exact hk
                have := (List.getElem?_eq_some_iff.1 hk2).1
                omega
              have hlk : l.toList[k]? = some (l.toList[k]'(by omega)) := List.getElem?_eq_getElem (by omega)
              rw [hlk]
              simp only [Option.map_some, Option.some.injEq, exists_eq_left', Nat.add_zero]
              split at hk
              · rename_i hin
                obtain ⟨u, hu, hru⟩ := hc.get hk
                rw [if_pos (by omega), hu]
                exact hru
              · rename_i hin
                obtain ⟨u, hu, hru⟩ := hl.get hk
                rw [hlk] at hu; cases hu
                rw [if_neg (by omega)]
                exact hru
          obtain ⟨l', h1, h2⟩ := ih qs r1 r l1 hrest hl1 hf
          refine ⟨l', ?_, h2⟩
          have hover : ¬ (off + (a.eval x).cells.size > l.size) := by
            have : l.toList.length = l.size := Array.length_toList
            omega
          have step : Instr.fill place l (((i, x) :: qs).map fun q => (q.1, a.eval q.2)) = Instr.fill place l1 (qs.map fun q => (q.1, a.eval q.2)) := by
            simp only [List.map_cons, Instr.fill, hp]
            rw [if_neg (by simp [hsz]; omega)]
            congr 1
            rw [← Array.foldl_toList, Array.toList_zipIdx]
          rw [step]; exact h1
        · cases hf
      · cases hf
theorem toV1_rel {v : Value} {x : V} (h : toV1 v = some x) : R1 ι x v := by
  unfold toV1 at h
  split at h
  · cases h; rfl
  · cases h; rfl
  · cases h; exact ⟨_, rfl, rfl⟩
  · cases h; rfl
  · cases h; exact ⟨rfl, rfl, rfl⟩
  · cases h; rfl
  · cases h; rfl
  · split at h
    · rename_i hs
      cases h
      refine ⟨_, _, rfl, ?_, ?_⟩
      · rw [Array.eq_empty_of_size_eq_zero hs.1]; trivial
      · rw [Array.eq_empty_of_size_eq_zero hs.2]; trivial
    · cases h
  · cases h
theorem optAll_rel {α β : Type} {f : α → Option β} {p : β → α → Prop} (hf : ∀ x y, f x = some y → p y x) : ∀ {l : List α} {m : List β}, optAll f l = some m → All2 p m l
  | [], m, h => by cases h; trivial
  | x :: l, m, h => by
    simp only [optAll] at h
    split at h
    · rename_i y r hy hr
      cases h
      exact ⟨hf _ _ hy, optAll_rel hf hr⟩
    · cases h
theorem toV_rel {v : Value} {x : V} (h : toV v = some x) : R ι x v := by
  unfold toV at h
  split at h
  · simp only [Option.map_eq_some_iff] at h
    obtain ⟨l, hl, rfl⟩ := h
    exact ⟨_, rfl, optAll_rel (fun _ _ => toV1_rel) hl⟩
  · simp only [Option.map_eq_some_iff] at h
    obtain ⟨l, hl, rfl⟩ := h
    exact ⟨_, rfl, optAll_rel (fun _ _ hx => (toV1_rel hx).up2) hl⟩
  · exact (toV1_rel h).up
theorem zeroT_rel {t : TypeId} {x : V} (h : zeroT P t = some x) : ∃ v, (zeroValue t).run P w = .ok v w ∧ R ι x v := by
  simp only [zeroT, Option.bind_eq_some_iff] at h
  obtain ⟨i, hi, z, hz, hv⟩ := h
  exact ⟨z, by simp [zeroValue, typeInfo, hi, hz], toV_rel hv⟩
theorem zeroC_rel {t : TypeId} {cs : List V} (h : zeroC P t = some cs) : ∃ v, (zeroValue t).run P w = .ok v w ∧ All2 (R1 ι) cs v.cells.toList ∧ ∃ i, P.info? t = some i ∧ i.zero = some v := by
  simp only [zeroC, zeroT, Option.bind_eq_some_iff] at h
  obtain ⟨x, ⟨i, hi, z, hz, hv⟩, hc⟩ := h
  exact ⟨z, by simp [zeroValue, typeInfo, hi, hz], (toV_rel hv).cells hc, i, hi, hz⟩
theorem partsAt_rel {place : Nat → Option (Nat × Nat)} (hg : Good ι sr ρ a) : ∀ {qs : List (Nat × Operand)} {ps : List (Nat × Nat × Src)}, partsAt sr place qs = some ps →
    All2 (fun (p : Nat × Nat × Src) (q : Nat × Operand) => place q.1 = some (p.1, p.2.1) ∧ R ι (ρ p.2.2) (a.eval q.2)) ps qs
  | [], ps, h => by cases h; trivial
  | (i, x) :: qs, ps, h => by
    simp only [partsAt] at h
    split at h
    · rename_i p s r hp hs hr
      cases h
      exact ⟨⟨hp, hg _ _ hs⟩, partsAt_rel hg hr⟩
    · cases h
theorem sim_build {t : TypeId} {qs : Array (Nat × Operand)} {zs : List V} {ps : List (Nat × Nat × Src)} (ho : o.op = .build t qs) (hrel : Rel ι B st.heap w) (hg : Good ι sr ρ a) (hz : zeroC P t = some zs)
    (hps : (∃ fs places, P.underlying t = some (.struct fs) ∧ fs.toList.mapM (fun f => (P.info? f.type).map fun i => (f.offset, i.size)) = some places ∧ partsAt sr (fun i => places[i]?) qs.toList = some ps) ∨
      (∃ len e n, P.underlying t = some (.array len e) ∧ sizeT P e = some n ∧ partsAt sr (fun i => some (i * n, n)) qs.toList = some ps))
    (hx : ex_build zs ps ρ st = some (r, st')) : ∃ ι' w', Sim P B ι st.next st'.next w st'.heap r (Go.execOp a.eval o) ι' w' := by
  unfold ex_build at hx
  split at hx
  · rename_i cs hcs
    cases hx
    obtain ⟨z, _, hzr, it, hit, hiz⟩ := zeroC_rel (ι := ι) (w := w) hz
    have key : ∃ l', P.built t ((qs.map fun q => (q.1, a.eval q.2)).toList) = some l' ∧ All2 (R1 ι) cs l'.toList := by
      rcases hps with ⟨fs, places, hu, hpl, hpa⟩ | ⟨len, e, n, hu, hn, hpa⟩
      · obtain ⟨l', h1, h2⟩ := fill_rel ps qs.toList zs cs z.cells (partsAt_rel hg hpa) hzr hcs
        refine ⟨l', ?_, h2⟩
        simp only [Program.built, hit, hu, hiz, hpl, Array.toList_map]
        simpa using h1
      · simp only [sizeT, Option.map_eq_some_iff] at hn
        obtain ⟨ie, hie, rfl⟩ := hn
        obtain ⟨l', h1, h2⟩ := fill_rel ps qs.toList zs cs z.cells (partsAt_rel hg hpa) hzr hcs
        refine ⟨l', ?_, h2⟩
        simp only [Program.built, hit, hu, hiz, hie, Array.toList_map]
        exact h1
    obtain ⟨l', h1, h2⟩ := key
    refine Sim.still (x := .agg l') hrel ?_ ⟨l', rfl, h2⟩
    simp only [Go.execOp, ho]
    exact run_v (run_build w t _ _ h1)
  · cases hx
theorem eqParts_run (d : Nat) (ih : ∀ (t : TypeId) (e : EqT) (x y : V) (x' y' : Value) (b : Bool), eqT P d t = some e → R2 ι x x' → R2 ι y y' → eqV e x y = some b → ∀ D, d ≤ D → (Op.equalIn D t x' y').run P w = .ok b w)
    (xs ys : List V) (xs' ys' : Array Value) (hx : All2 (R1 ι) xs xs'.toList) (hy : All2 (R1 ι) ys ys'.toList) (D : Nat) (hD : d ≤ D) : ∀ (fs : List Go.Field) (ps : List (Nat × Nat × Bool × EqT)) (b : Bool),
    optAll (fun f : Go.Field => if f.name = "_" then none else
        match sizeT P f.type, aggT P f.type, eqT P d f.type with
        | some n, some a, some e => some (f.offset, n, a, e)
        | _, _, _ => none) fs = some ps → eqParts ps xs ys = some b → (Op.eqFields D xs' ys' fs).run P w = .ok b w := by
  intro fs
  induction fs with
  | nil => intro ps b h hb; cases h; cases hb; rfl
  | cons f fs ihf =>
    intro ps b h hb
    simp only [optAll] at h
    split at h
    · rename_i p r hp hr
      cases h
      split at hp
      · cases hp
      rename_i hname
      split at hp
      · rename_i n g e hn hg he
        cases hp
        simp only [eqParts] at hb
        split at hb
        · rename_i u v hu hv
          obtain ⟨u', hu1, hu2⟩ := run_part (w := w) hg hn hx hu
          obtain ⟨v', hv1, hv2⟩ := run_part (w := w) hg hn hy hv
          have go : ∀ q, eqV e u v = some q → (Op.eqFields D xs' ys' (f :: fs)).run P w = if q = true then (Op.eqFields D xs' ys' fs).run P w else .ok false w := by
            intro q hq
            have := ih _ _ _ _ _ _ _ he hu2 hv2 hq D hD
            simp only [Op.eqFields, if_pos hname, Sem.run_bind, hu1, hv1, this, Result.andThen_ok]
            cases q <;> rfl
          split at hb
          · rename_i hq
            rw [go _ hq, if_pos rfl]
            exact ihf _ _ hr hb
          · rename_i hq
            cases hb
            rw [go _ hq]; rfl
          · cases hb
        · cases hb
      · cases hp
    · cases h
theorem eqItems_run (d : Nat) (ih : ∀ (t : TypeId) (e : EqT) (x y : V) (x' y' : Value) (b : Bool), eqT P d t = some e → R2 ι x x' → R2 ι y y' → eqV e x y = some b → ∀ D, d ≤ D → (Op.equalIn D t x' y').run P w = .ok b w)
    (xs ys : List V) (xs' ys' : Array Value) (hx : All2 (R1 ι) xs xs'.toList) (hy : All2 (R1 ι) ys ys'.toList) (D : Nat) (hD : d ≤ D) {e : TypeId} {z : Nat} {g : Bool} {q : EqT} (hz : sizeT P e = some z) (hg : aggT P e = some g) (hq : eqT P d e = some q) : ∀ (is : List Nat) (b : Bool),
    eqParts (is.map fun i => (i * z, z, g, q)) xs ys = some b → (Op.eqItems D e z xs' ys' is).run P w = .ok b w := by
  intro is
  induction is with
  | nil => intro b hb; cases hb; rfl
  | cons i is ihi =>
    intro b hb
    simp only [List.map_cons, eqParts] at hb
    split at hb
    · rename_i u v hu hv
      obtain ⟨u', hu1, hu2⟩ := run_part (w := w) hg hz hx hu
      obtain ⟨v', hv1, hv2⟩ := run_part (w := w) hg hz hy hv
      have go : ∀ c, eqV q u v = some c → (Op.eqItems D e z xs' ys' (i :: is)).run P w = if c = true then (Op.eqItems D e z xs' ys' is).run P w else .ok false w := by
        intro c hc
        have := ih _ _ _ _ _ _ _ hq hu2 hv2 hc D hD
        simp only [Op.eqItems, Sem.run_bind, hu1, hv1, this, Result.andThen_ok]
        cases c <;> rfl
      split at hb
      · rename_i hc
        rw [go _ hc, if_pos rfl]
        exact ihi _ hb
      · rename_i hc
        cases hb
        rw [go _ hc]; rfl
      · cases hb
    · cases hb
theorem eqS_toList (a b : ByteArray) : eqS (strV a) (strV b) = (a.toList == b.toList) := by
  rw [eqS_strV, ByteArray.toList_eq, ByteArray.toList_eq, Bool.eq_iff_iff, decide_eq_true_eq, beq_iff_eq]
  exact ⟨fun h => by rw [h], fun h => strV_inj (by unfold strV; rw [h])⟩
theorem eqV_run : ∀ (d : Nat) (t : TypeId) (e : EqT) (x y : V) (x' y' : Value) (b : Bool), eqT P d t = some e → R2 ι x x' → R2 ι y y' → eqV e x y = some b → ∀ D, d ≤ D → (Op.equalIn D t x' y').run P w = .ok b w := by
  intro d
  induction d with
  | zero => intro t e x y x' y' b h; cases h
  | succ d ih =>
    intro t e x y x' y' b h hx hy hb D hD
    obtain ⟨D, rfl⟩ : ∃ m, D = m + 1 := ⟨D - 1, by omega⟩
    simp only [eqT] at h
    split at h
    · rename_i hu
      cases h
      cases x <;> try (cases hb; done)
      cases y <;> try (cases hb; done)
      cases hx; cases hy; cases hb
      exact run_equalIn_bool' w D t _ _ hu
    · rename_i k hu
      cases h
      cases x <;> try (cases hb; done)
      cases y <;> try (cases hb; done)
      cases hx; cases hy
      simp only [eqV] at hb
      split at hb
      · rename_i hk; subst hk; cases hb
        rw [eqI_eq]
        exact run_equalIn_int w D t _ _ _ _ hu
      · cases hb
    · rename_i hu
      cases h
      cases x <;> try (cases hb; done)
      cases y <;> try (cases hb; done)
      obtain ⟨b1, rfl, rfl⟩ := hx
      obtain ⟨b2, rfl, rfl⟩ := hy
      cases hb
      rw [run_equalIn_string w D t _ _ hu, eqS_toList]
    · rename_i fs hu
      split at h
      · cases h
      rename_i hst
      simp only [Option.map_eq_some_iff] at h
      obtain ⟨ps, hps, rfl⟩ := h
      cases x <;> try (cases hb; done)
      cases y <;> try (cases hb; done)
      rename_i xs ys
      obtain ⟨xs', rfl, hxs⟩ := hx
      obtain ⟨ys', rfl, hys⟩ := hy
      have hf : P.fieldsOf t = fs := by simp [Program.fieldsOf, hu]
      rw [run_equalIn_struct w D t xs' ys' (by rw [hf]; exact hu) (by simpa using hst), hf]
      exact eqParts_run d ih xs ys xs' ys' hxs hys D (by omega) _ _ _ hps hb
    · rename_i n el hu
      split at h
      · rename_i z g q hz hg hq
        cases h
        cases x <;> try (cases hb; done)
        cases y <;> try (cases hb; done)
        rename_i xs ys
        obtain ⟨xs', rfl, hxs⟩ := hx
        obtain ⟨ys', rfl, hys⟩ := hy
        have hz' := hz
        simp only [sizeT, Option.map_eq_some_iff] at hz'
        obtain ⟨ie, hie, hsz⟩ := hz'
        have hc : P.cellsOf el = z := by simp [Program.cellsOf, hie, hsz]
        rw [run_equalIn_array w D xs' ys' hu hie, hc]
        exact eqItems_run d ih xs ys xs' ys' hxs hys D (by omega) hz hg hq _ _ hb
      · cases h
    · cases h
def NilK.fits : NilK → TypeDesc → Prop
  | .ptr, .pointer _ => True
  | .slice, .slice _ => True
  | .map, .map _ _ => True
  | .func, .func _ _ _ => True
  | _, _ => False
theorem eqNil_run (D : Nat) {k : NilK} {td : TypeDesc} {t : TypeId} {x y : V} {x' y' : Value} {b : Bool} (hu : P.underlying t = some td) (hk : k.fits td)
    (hx : R ι x x') (hy : R ι y y') (hb : eqNil k x y = some b) : (Op.equalIn (D + 1) t x' y').run P w = .ok b w := by
  simp only [Op.equalIn, Sem.run_bind, run_underlying hu, Result.andThen_ok]
  cases k <;> cases td <;> try exact hk.elim
  · cases x <;> try (cases hb; done)
    rename_i p
    cases p with
    | none =>
      cases y <;> try (cases hb; done)
      rename_i q
      cases hx; cases hb
      cases q with
      | none => cases hy; rfl
      | some q => obtain ⟨e, _, rfl⟩ := inv_ptr (i := q.1) (o := q.2) hy; rfl
    | some p =>
      cases y <;> try (cases hb; done)
      rename_i q
      cases q with
      | none => cases hb; cases hy; obtain ⟨e, _, rfl⟩ := inv_ptr (i := p.1) (o := p.2) hx; rfl
      | some q => cases hb
  · cases x <;> try (cases hb; done)
    rename_i p e1 n1 c1 f1
    cases p with
    | none =>
      cases y <;> try (cases hb; done)
      rename_i q e2 n2 c2 f2
      cases hb
      obtain ⟨rfl, rfl, rfl⟩ := inv_sliceN hx
      cases q with
      | none => obtain ⟨rfl, rfl, rfl⟩ := inv_sliceN hy; rfl
      | some q => obtain ⟨en, z, c', _, rfl, _⟩ := inv_slice (i := q.1) (o := q.2) hy; rfl
    | some p =>
      cases y <;> try (cases hb; done)
      rename_i q e2 n2 c2 f2
      cases q with
      | none =>
        cases hb
        obtain ⟨rfl, rfl, rfl⟩ := inv_sliceN hy
        obtain ⟨en, z, c', _, rfl, _⟩ := inv_slice (i := p.1) (o := p.2) hx
        rfl
      | some q => cases hb
  · cases x <;> try (cases hb; done)
    rename_i p
    cases p with
    | none =>
      cases y <;> try (cases hb; done)
      rename_i q
      cases hx; cases hb
      cases q with
      | none => cases hy; rfl
      | some q => obtain ⟨e, _, rfl⟩ := inv_map hy; rfl
    | some p =>
      cases y <;> try (cases hb; done)
      rename_i q
      cases q with
      | none => cases hb; cases hy; obtain ⟨e, _, rfl⟩ := inv_map hx; rfl
      | some q => cases hb
  · cases x <;> try (cases hb; done)
    · cases y <;> try (cases hb; done)
      cases hb
      obtain ⟨a', b', rfl, _⟩ := inv_func hx
      cases hy
      rfl
    · cases y <;> try (cases hb; done)
      · cases hb
        obtain ⟨a', b', rfl, _⟩ := inv_func hy
        cases hx
        rfl
      · cases hb; cases hx; cases hy; rfl
theorem eqT_array {d n : Nat} {t u : TypeId} {e : EqT} (hu : P.underlying t = some (.array n u)) (h : eqT P (d + 1) t = some e) : e ≠ .bool ∧ e ≠ .int ∧ e ≠ .str := by
  simp only [eqT, hu] at h
  split at h
  · cases h
    exact ⟨(fun h => by cases h), (fun h => by cases h), (fun h => by cases h)⟩
  · cases h
theorem eqT_struct {d : Nat} {t : TypeId} {fs : Array Go.Field} {e : EqT} (hu : P.underlying t = some (.struct fs)) (h : eqT P (d + 1) t = some e) : e ≠ .bool ∧ e ≠ .int ∧ e ≠ .str := by
  simp only [eqT, hu] at h
  split at h
  · cases h
  · simp only [Option.map_eq_some_iff] at h
    obtain ⟨ps, _, rfl⟩ := h
    exact ⟨(fun h => by cases h), (fun h => by cases h), (fun h => by cases h)⟩
def Value.other : Value → Bool
  | .int _ _ | .float _ _ | .complex _ _ _ | .string _ => false
  | _ => true
theorem run_binOp_eql {t : TypeId} {x y : Value} {b : Bool} (hx : Value.other x = true) (h : (Op.equal t x y).run P w = .ok b w) : (Go.binOp .eql t x y).run P w = .ok (.bool b) w := by
  have e : Go.binOp .eql t x y = (do let q ← Op.equal t x y; pure (.bool q)) := by
    cases x <;> first
      | (cases y <;> rfl)
      | cases hx
  rw [e]
  simp only [Sem.run_bind, h, Result.andThen_ok, Sem.run_pure]
theorem run_binOp_neq {t : TypeId} {x y : Value} {b : Bool} (hx : Value.other x = true) (h : (Op.equal t x y).run P w = .ok b w) : (Go.binOp .neq t x y).run P w = .ok (.bool (!b)) w := by
  have e : Go.binOp .neq t x y = (do let q ← Op.equal t x y; pure (.bool (!q))) := by
    cases x <;> first
      | (cases y <;> rfl)
      | cases hx
  rw [e]
  simp only [Sem.run_bind, h, Result.andThen_ok, Sem.run_pure]
theorem sim_bin {op : BinOp} {t t2 : TypeId} {x y : Operand} {ek : EqKind} (ho : o.op = .binOp op t x y t2) (hrel : Rel ι B st.heap w) {s1 s2 : Src} (h1 : R ι (ρ s1) (a.eval x)) (h2 : R ι (ρ s2) (a.eval y))
    (hek : eqKind P t = some ek) (hx : ex_bin op ek s1 s2 ρ st = some (r, st')) : ∃ ι' w', Sim P B ι st.next st'.next w st'.heap r (Go.execOp a.eval o) ι' w' := by
  unfold ex_bin at hx
  have start : ∀ {u : Value}, ((eqGuard op t x y (a.eval x) (a.eval y)).run P w = .ok () w) → (Go.binOp op t (a.eval x) (a.eval y)).run P w = .ok u w → (Go.execOp a.eval o).run P w = .ok (.value u) w := by
    intro u e1 e2
    simp only [Go.execOp, ho]
    exact run_v (by simp only [Sem.run_bind, e1, e2, Result.andThen_ok])
  have guard_of : ∀ {u v : Value}, a.eval x = u → a.eval y = v → (∀ c, u ≠ .agg c) → u ≠ .nilIface → (eqGuard op t x y (a.eval x) (a.eval y)).run P w = .ok () w := by
    intro u v hu hv hna hnn
    rw [hu, hv]
    cases op <;> cases u <;> first
      | rfl
      | exact absurd rfl (hna _)
      | exact absurd rfl hnn
  split at hx
  · rename_i k a1 k' b1 hv1 hv2
    rw [hv1] at h1; rw [hv2] at h2
    have e1 := inv_int h1
    have e2 := inv_int h2
    have hgd := guard_of e1 e2 (by intro c hc; cases hc) (by intro hc; cases hc)
    rw [e1, e2] at start hgd
    split at hx
    · split at hx
      · rename_i q hq
        cases hx
        exact Sim.still (x := .int k q) hrel (start hgd (by simp only [Go.binOp]; exact run_shift w hq)) rfl
      · cases hx
    · split at hx
      · rename_i q hq
        cases hx
        exact Sim.still (x := .int k q) hrel (start hgd (by simp only [Go.binOp]; exact run_shift w hq)) rfl
      · cases hx
    · rename_i hns1 hns2
      split at hx
      · rename_i hk
        subst hk
        split at hx
        · rename_i v hv
          cases hx
          obtain ⟨u, hu, hr⟩ := run_arith (P := P) (t := t) w ⟨fun h => hns1 h, fun h => hns2 h⟩ hv
          exact Sim.still (x := u) hrel (start hgd hu) (hr ι)
        · cases hx
      · cases hx
  · rename_i a1 b1 hv1 hv2
    rw [hv1] at h1; rw [hv2] at h2
    obtain ⟨ba, e1, rfl⟩ := inv_str h1
    obtain ⟨bb, e2, rfl⟩ := inv_str h2
    have hgd := guard_of e1 e2 (by intro c hc; cases hc) (by intro hc; cases hc)
    rw [e1, e2] at start hgd
    split at hx
    · rename_i v hv
      cases hx
      unfold strOp at hv
      split at hv
      · obtain ⟨hb, hv⟩ := sel_some hv
        cases hv
        rw [blt_iff, strV_length, strV_length] at hb
        refine Sim.still (x := .string (ba ++ bb)) hrel (start hgd ?_) ⟨_, rfl, ?_⟩
        · simp only [Go.binOp, Op.stringOp]
          rw [if_neg]
          · rfl
          · have : (IntKind.i64.max : Int) = 9223372036854775807 := rfl
            rw [this]
            unfold w63 at hb
            omega
        · simp only [strV, ByteArray.data_append, Array.toList_append, List.map_append]
      · cases hv
        exact Sim.still (x := .bool (ba.toList == bb.toList)) hrel (start hgd rfl) (by rw [eqS_toList]; rfl)
      · cases hv
        exact Sim.still (x := .bool (!(ba.toList == bb.toList))) hrel (start hgd rfl) (by rw [eqS_toList]; rfl)
      · cases hv
    · cases hx
  · rename_i u v hn1 hn2
    split at hx
    case h_2 => cases hx
    rename_i b hb
    have key : (eqGuard op t x y (a.eval x) (a.eval y)).run P w = .ok () w ∧ (Op.equal t (a.eval x) (a.eval y)).run P w = .ok b w ∧ Value.other (a.eval x) = true := by
      unfold eqKind at hek
      cases ek with
      | val e =>
        have hb : eqV e (ρ s1) (ρ s2) = some b := hb
        split at hek <;> try (cases hek; done)
        · rename_i hu
          cases hek
          generalize ρ s1 = u at h1 hb
          generalize ρ s2 = v at h2 hb
          cases u <;> try (cases hb; done)
          cases v <;> try (cases hb; done)
          cases hb
          have e1 := inv_bool h1
          have e2 := inv_bool h2
          refine ⟨guard_of e1 e2 (by intro c hc; cases hc) (by intro hc; cases hc), ?_, by rw [e1]; rfl⟩
          rw [e1, e2]
          exact run_equalIn_bool' w 9999 t _ _ hu
        · cases hek
          exfalso
          generalize hq1 : ρ s1 = u at hb hn1 hn2
          generalize hq2 : ρ s2 = v at hb hn1 hn2
          cases u <;> try (cases hb; done)
          cases v <;> try (cases hb; done)
          exact hn1 _ _ _ _ rfl rfl
        · cases hek
          exfalso
          generalize hq1 : ρ s1 = u at hb hn1 hn2
          generalize hq2 : ρ s2 = v at hb hn1 hn2
          cases u <;> try (cases hb; done)
          cases v <;> try (cases hb; done)
          exact hn2 _ _ rfl rfl
        · rename_i fs hu
          split at hek
          · cases hek
          rename_i hgt
          simp only [Option.map_eq_some_iff] at hek
          obtain ⟨e', he', heq⟩ := hek
          cases heq
          have hpl : e ≠ .bool ∧ e ≠ .int ∧ e ≠ .str := eqT_struct (d := 39) hu he'
          generalize ρ s1 = u at h1 hb
          generalize ρ s2 = v at h2 hb
          cases e with
          | bool => exact absurd rfl hpl.1
          | int => exact absurd rfl hpl.2.1
          | str => exact absurd rfl hpl.2.2
          | parts ps =>
            cases u <;> try (cases hb; done)
            cases v <;> try (cases hb; done)
            rename_i xs ys
            have hr1 : R2 ι (.agg xs) (a.eval x) := h1
            have hr2 : R2 ι (.agg ys) (a.eval y) := h2
            have hq := eqV_run (P := P) (w := w) 40 t _ _ _ _ _ _ he' hr1 hr2 hb 10000 (by omega)
            obtain ⟨xs', e1, _⟩ := inv_agg h1
            obtain ⟨ys', e2, _⟩ := inv_agg h2
            refine ⟨?_, hq, by rw [e1]; rfl⟩
            rw [e1, e2]
            exact run_eqGuard_agg w op t x y xs' ys' (by simpa using hgt)
        · rename_i n el hu
          split at hek
          · cases hek
          rename_i hgt
          simp only [Option.map_eq_some_iff] at hek
          obtain ⟨e', he', heq⟩ := hek
          cases heq
          have hpl : e ≠ .bool ∧ e ≠ .int ∧ e ≠ .str := eqT_array (d := 39) hu he'
          generalize ρ s1 = u at h1 hb
          generalize ρ s2 = v at h2 hb
          cases e with
          | bool => exact absurd rfl hpl.1
          | int => exact absurd rfl hpl.2.1
          | str => exact absurd rfl hpl.2.2
          | parts ps =>
            cases u <;> try (cases hb; done)
            cases v <;> try (cases hb; done)
            rename_i xs ys
            have hr1 : R2 ι (.agg xs) (a.eval x) := h1
            have hr2 : R2 ι (.agg ys) (a.eval y) := h2
            have hq := eqV_run (P := P) (w := w) 40 t _ _ _ _ _ _ he' hr1 hr2 hb 10000 (by omega)
            obtain ⟨xs', e1, _⟩ := inv_agg h1
            obtain ⟨ys', e2, _⟩ := inv_agg h2
            refine ⟨?_, hq, by rw [e1]; rfl⟩
            rw [e1, e2]
            exact run_eqGuard_agg w op t x y xs' ys' (by simpa using hgt)
      | nils k =>
        have hb : eqNil k (ρ s1) (ρ s2) = some b := hb
        have hfit : ∃ td, P.underlying t = some td ∧ k.fits td := by
          split at hek <;> first
            | (rename_i hu; cases hek; exact ⟨_, hu, trivial⟩)
            | cases hek
            | (split at hek <;> first | cases hek | (simp only [Option.map_eq_some_iff] at hek; obtain ⟨_, _, h⟩ := hek; cases h))
        obtain ⟨td, hu, hk⟩ := hfit
        have hq : (Op.equal t (a.eval x) (a.eval y)).run P w = .ok b w := eqNil_run (P := P) (w := w) 9999 hu hk h1 h2 hb
        have hoth : Value.other (a.eval x) = true ∧ (∀ c, a.eval x ≠ .agg c) ∧ a.eval x ≠ .nilIface := by
          generalize ρ s1 = u at h1 hb
          cases u with
          | ptr p => cases p with
            | none => rw [show a.eval x = .pointer none from h1]; exact ⟨rfl, (fun c h => by cases h), (fun h => by cases h)⟩
            | some p => obtain ⟨e, _, e1⟩ := inv_ptr (i := p.1) (o := p.2) h1; rw [e1]; exact ⟨rfl, (fun c h => by cases h), (fun h => by cases h)⟩
          | slice p e n c f => cases p with
            | none => obtain ⟨_, _, e1⟩ := inv_sliceN h1; rw [e1]; exact ⟨rfl, (fun c h => by cases h), (fun h => by cases h)⟩
            | some p => obtain ⟨en, z, c', _, e1, _⟩ := inv_slice (i := p.1) (o := p.2) h1; rw [e1]; exact ⟨rfl, (fun c h => by cases h), (fun h => by cases h)⟩
          | map p => cases p with
            | none => rw [show a.eval x = .map none from h1]; exact ⟨rfl, (fun c h => by cases h), (fun h => by cases h)⟩
            | some p => obtain ⟨e, _, e1⟩ := inv_map h1; rw [e1]; exact ⟨rfl, (fun c h => by cases h), (fun h => by cases h)⟩
          | func f p q => obtain ⟨a', b', e1, _⟩ := inv_func h1; rw [e1]; exact ⟨rfl, (fun c h => by cases h), (fun h => by cases h)⟩
          | nilFunc => rw [show a.eval x = .nilFunc from h1]; exact ⟨rfl, (fun c h => by cases h), (fun h => by cases h)⟩
          | _ => cases k <;> cases hb
        exact ⟨guard_of rfl rfl hoth.2.1 hoth.2.2, hq, hoth.1⟩
    obtain ⟨k1, k2, k3⟩ := key
    split at hx
    · cases hx
      exact Sim.still (x := .bool b) hrel (start k1 (run_binOp_eql k3 k2)) rfl
    · cases hx
      exact Sim.still (x := .bool (!b)) hrel (start k1 (run_binOp_neq k3 k2)) rfl
    · cases hx
end
end Go.Vabs

/- Lemmas for this claim, text Ub. No condition. -/
import Derived.Test.YtcgiiomghmffbaaVabsUa
namespace Go.Vabs
set_option linter.unusedSimpArgs false
set_option linter.unusedVariables false
theorem comp_callv {P : Program} {sr : Operand → Option Src} {o : Op} {s : Src} {args : List Src} (h : compOp P sr o = some (.callv s args)) :
    ∃ c y, o = .call c ∧ c.callee = .value y ∧ sr y = some s ∧ optAll sr c.args.toList = some args := by
  cases o with
  | call c =>
    refine ⟨c, ?_⟩
    have h : compCall P sr c = some (.callv s args) := h
    unfold compCall at h
    split at h
    · simp only [Option.map_eq_some_iff] at h
      obtain ⟨_, _, h⟩ := h
      cases h
    · rename_i x hx hcal
      split at h
      · rename_i s' a' h1 h2
        cases h
        exact ⟨x, rfl, hcal, h1, h2⟩
      · cases h
    · cases h
    · exfalso
      split at h <;> (repeat' split at h) <;> cases h
  | _ =>
    exfalso
    unfold compOp at h
    first
      | (simp only [Option.map_eq_some_iff] at h; obtain ⟨_, _, h⟩ := h; cases h; done)
      | (cases h; done)
      | ((repeat' split at h) <;> first | contradiction | (cases h; done) | (simp only [Option.map_eq_some_iff] at h; obtain ⟨_, _, h⟩ := h; cases h; done) | (obtain ⟨_, h⟩ := sel_some h; cases h; done))
theorem FR.init {drop ntmps : Nat} {ι : Map} {args : List V} {args' : Array Value} (hargs : All2 (R ι) args args'.toList) : FR drop ι (initFrame args 0 .nil) (args' ++ Array.replicate (ntmps - args'.size) undef) := by
  intro n u _ hu
  have look : ∀ (vs : List V) (n : Nat) (f : Frame) (k : Nat), (initFrame vs n f).look (pos k) = if n ≤ k ∧ k < n + vs.length then vs[k - n]? else f.look (pos k) := by
    intro vs
    induction vs with
    | nil => intro n f k; rw [if_neg (by simp only [List.length_nil]; omega)]; rfl
    | cons v vs ih =>
      intro n f k
      show (initFrame vs (n + 1) (T.lay (pos n) v f)).look (pos k) = _
      rw [ih (n + 1)]
      by_cases h1 : n + 1 ≤ k ∧ k < n + 1 + vs.length
      · rw [if_pos h1, if_pos (by simp only [List.length_cons]; omega), show k - n = (k - (n + 1)) + 1 from by omega]
        rfl
      · rw [if_neg h1]
        by_cases h2 : k = n
        · subst h2
          rw [T.look_lay_same, if_pos (by simp only [List.length_cons]; omega), Nat.sub_self]
          rfl
        · rw [T.look_lay_other _ _ _ _ (fun e => h2 (pos_inj e)), if_neg (by simp only [List.length_cons]; omega)]
  rw [look] at hu
  by_cases hn : 0 ≤ n ∧ n < 0 + args.length
  · rw [if_pos hn, Nat.sub_zero] at hu
    obtain ⟨y, hy, hr⟩ := hargs.get hu
    have hlt : n < args'.size := by
      have := (List.getElem?_eq_some_iff.1 hy).1
      simpa using this
    rw [Array.getD_eq_getD_getElem?, Array.getElem?_append_left hlt, ← Array.getElem?_toList, hy]
    exact hr
  · rw [if_neg hn] at hu; cases hu
section
variable {P : Program} {B l li nt drop n : Nat} {r : Loop} {ι0 : Map} {call : CallT} {hd : Hand}
variable (hcall : CallOK P B call) (hfc : CallFramed call) (hh : HandOK P B l r li ι0 hd) (hfh : HandFramed hd)
include hcall hfc hh in
theorem stepY_sim {ι : Map} {st st' : St} {w : World} {a : Act} {o : Oper} {f : Frame} {sr : Operand → Option Src} {ao : AOp} {v : V} {p p' : Option AExit} {next : Act → World → Prop} {Q : Exit → Act → World → Prop} (hg : Good ι sr f.ev a) (hrel : Rel ι B st.heap w) (hfr : ∀ i, st.next ≤ i → i < st'.next → ι i = none) (hn : Neat st)
    (hli : Inn ι0 li l ι) (hrec : w.heap[l]? = some (.loop (recOf r p))) (hc : compOp P sr o.op = some ao) (hx : stepY hd call ao f p st = some ((v, p'), st'))
    (hk : ∀ ι' w' x, Sub ι ι' → (∀ i, (i < st.next ∨ st'.next ≤ i) → ι' i = ι i) → Rel ι' B st'.heap w' → BelowX B l w w' → w'.heap[l]? = some (.loop (recOf r p')) → R ι' v x → next (a.put o.dst x) w') : o.wpIn Fence.wide n P a w next Q := by
  rcases stepY_some hx with ⟨s, args, i, rfl, hv, rfl, hhd⟩ | ⟨rfl, hst⟩
  · obtain ⟨rfl, hlen, hpost⟩ := hh i _ st v p' st' hhd
    obtain ⟨c, y, hop, hcal, hsy, hsa⟩ := comp_callv hc
    have h1 := hg _ _ hsy
    rw [hv] at h1
    obtain ⟨e, he, hev⟩ : ∃ e, ι i = some e ∧ a.eval y = .func (.yield e.blk) #[] #[] := h1
    obtain ⟨h0, e', he', hel⟩ := hli
    rw [he] at he'; cases he'
    rw [hel] at hev
    have hargs : All2 (R ι) (args.map f.ev) (c.args.map a.eval).toList := by
      rw [Array.toList_map]; exact (optAll_good hg hsa).map_eval
    have hsize : (c.args.map a.eval).size = r.params.size := by
      rw [← hlen, hargs.length]; simp
    refine ⟨fun _ _ => trivial, ?_⟩
    rw [Oper.semAt_eq _ _ _ (no_defer hc)]
    have hrun : (Go.execOp a.eval o).run P w = .ok (.round l r.fn ((r.params.zip (c.args.map a.eval)).foldl (fun tmps (t, x) => tmps.setIfInBounds t x) r.tmps) r.assign r.body) w := by
      simp only [Go.execOp, hop, Go.resolve, hcal, hev, Deferred.ofValue, Sem.run_bind, Sem.run_pure, Result.andThen_ok, Go.invoke]
      simp only [Array.empty_append, Array.append_empty]
      exact run_yield (r := recOf r none) hrec hsize
    rw [hrun]
    refine ⟨(fun h => by cases h), (hpost ι w _ h0 hn hrel hfr hargs hrec (n - 1)).mono ?_⟩
    rintro e w2 ⟨x, ι', rfl, k1, k2, k3, k4, k5, k6⟩
    exact hk ι' w2 x k1 k2 k3 k4 k5 k6
  · exact lift_oper (rd := none) (no_defer hc) (fun _ _ h => h) (step_sim hcall hfc hg hrel hfr hn hc hst fun ι' w' x s1 s2 s3 s4 s5 => hk ι' w' x s1 s2 s3 s4.x (s4.keep _ _ hrec rfl) s5)
theorem li_sub {ι ι' : Map} (h : Inn ι0 li l ι) (hs : Sub ι ι') : Inn ι0 li l ι' := by
  obtain ⟨h0, e, he, hl⟩ := h
  exact ⟨h0.trans hs, e, hs _ _ he, hl⟩
include hcall hfc hh hfh in
theorem regY_sim {ops : Array Oper} {Q : Exit → Act → World → Prop} : ∀ (os : List Oper) (al : Alias) (aos : List AOper) (ι : Map) (st st' : St) (w : World) (a : Act) (f f' : Frame) (p p' : Option AExit),
    compReg P nt drop ops os al = some aos → runY hd call aos f p st = some ((f', p'), st') → FR drop ι f a.tmps → AL ι f a al → nt ≤ a.tmps.size → Rel ι B st.heap w → (∀ i, st.next ≤ i → i < st'.next → ι i = none) → Neat st →
    Inn ι0 li l ι → w.heap[l]? = some (.loop (recOf r p)) →
    (∀ ι' w' a', KeptY drop ι ι' B l nt r st st' w w' f' a a' p' → Q .normal a' w') → wpListY n P ops Q os a w := by
  intro os
  induction os with
  | nil =>
    intro al aos ι st st' w a f f' p p' hc hr hf ha hsz hrel hfr hn hli hrec hk
    cases hc
    cases hr
    exact hk ι w a ⟨Sub.refl _, fun _ _ => rfl, hrel, BelowX.refl _ _ _, hf, hsz, rfl, hrec⟩
  | cons o os ih =>
    intro al aos ι st st' w a f f' p p' hc hr hf ha hsz hrel hfr hn hli hrec hk
    simp only [compReg] at hc
    split at hc
    case h_2 => cases hc
    rename_i ao hao
    unfold compOper at hao
    split at hao
    case h_2 => cases hao
    rename_i g hg
    split at hao
    case h_2 => cases hao
    rename_i op hop
    have hh2 := sel_some hao
    clear hao
    obtain ⟨hdst, hao⟩ := hh2
    cases hao
    rw [Bool.and_eq_true] at hdst
    obtain ⟨hdst, hgo⟩ := hdst
    have hlt := dst_lt hdst hsz
    rcases sel_cases hc with ⟨hdrop, hc⟩ | ⟨hdrop, hc⟩
    ·
      split at hc
      case h_2 => cases hc
      rename_i d x g' hd' hmv hg'
      have hmv : op = .mv x := hmv
      subst hmv
      rw [hg] at hg'; cases hg'
      rw [hd'] at hdrop hc
      have hh3 := sel_some hc
      clear hc
      obtain ⟨hcheck, hc⟩ := hh3
      simp only [Bool.and_eq_true, Bool.not_eq_true'] at hcheck
      obtain ⟨⟨hmove, hsrc⟩, hgd⟩ := hcheck
      have hy : ∃ y, (o.op = .move y ∨ o.op = .assign y) ∧ srcAt drop (aliasOf g al) y = some x := by
        cases ho : o.op <;> rw [ho] at hmove hop <;> first
          | (cases hmove; done)
          | (rename_i y
             refine ⟨y, by simp, ?_⟩
             simp only [compOp, Option.map_eq_some_iff] at hop
             obtain ⟨s, hs, he⟩ := hop
             cases he
             exact hs)
      obtain ⟨y, hy, hsx⟩ := hy
      have hrun : (Go.execOp a.eval o).run P w = .ok (.value (a.eval y)) w := by rcases hy with hy | hy <;> simp [Go.execOp, hy]
      have next : ∀ u, (wanted f (posGuard g) = some true → R ι (f.ev x) u) → wpListY n P ops Q os (a.put o.dst u) w := by
        intro u hu
        rw [hd']
        refine ih _ aos ι st st' w _ f f' p p' hc hr (hf.skip hdrop) ?_ (by rw [put_size]; exact hsz) hrel hfr hn hli hrec ?_
        · intro t s h hm hw
          rcases List.mem_cons.1 hm with e | hm
          · cases e
            have e1 : (a.put (some d) u).eval (.tmp d) = u := by
              simp only [Act.eval, Act.put]
              rw [Array.getD_eq_getD_getElem?, Array.getElem?_setIfInBounds, if_pos rfl, if_pos (hlt d hd')]
              rfl
            rw [e1]
            exact hu hw
          · exact (ha.skip (d := d) (x := u)) t s h hm hw
        · intro ι2 w2 a2 k
          exact hk ι2 w2 a2 ⟨k.sub, k.other, k.rel, k.below, k.fr, k.size, k.defers.trans put_defers, k.record⟩
      rw [wpListY]
      by_cases hreg : Region.wanted o (yielded ops a.tmps) = true
      · rw [if_pos hreg]
        refine lift_oper (rd := none) (no_defer hop) (fun _ _ h => h) ?_
        unfold Oper.wp
        rw [hrun]
        exact next _ fun hw => good_at hf ha hw _ _ hsx
      · rw [if_neg hreg]
        exact next _ fun hw => absurd (wanted_eq hf hg hgo hw) hreg
    · split at hc
      case h_2 => cases hc
      rename_i rest hr1
      cases hc
      have hrun : either (wanted f (posGuard g)) (match stepY hd call op f p st with | some ((v, p1), s) => runY hd call rest (f.put (o.dst.map pos) v) p1 s | none => none) (runY hd call rest (f.put (o.dst.map pos) V.undef) p st) = some ((f', p'), st') := hr
      have alput : ∀ ι' v x, Sub ι ι' → AL ι' (f.put (o.dst.map pos) v) (a.put o.dst x) (match o.dst with | some d => forget d al | none => al) := by
        intro ι' v x hs
        cases hd : o.dst with
        | none => exact (ha.mono hs)
        | some d => exact (ha.mono hs).put
      rcases either_some hrun with ⟨hw, hx⟩ | ⟨hw, hx⟩
      · rw [wpListY, if_pos (wanted_eq hf hg hgo hw)]
        cases hst : stepY hd call op f p st with
        | none => rw [hst] at hx; cases hx
        | some q =>
          obtain ⟨⟨v, p1⟩, st1⟩ := q
          rw [hst] at hx
          have hx : runY hd call rest (f.put (o.dst.map pos) v) p1 st1 = some ((f', p'), st') := hx
          obtain ⟨went1, _⟩ := stepY_framed hfh hfc op f p st _ st1 hst
          obtain ⟨went2, _⟩ := runY_framed hfh hfc rest _ _ st1 _ st' hx
          refine stepY_sim hcall hfc hh (good_at hf ha hw) hrel (fun i h1 h2 => hfr i h1 (Nat.lt_of_lt_of_le h2 went2.next)) hn hli hrec hop hst ?_
          intro ι1 w1 x s1 s2 s3 s4 s5 s6
          refine ih _ rest ι1 st1 st' w1 _ _ f' p1 p' hr1 hx (FR.put (hf.mono s1) hlt s6) (alput ι1 v x s1) (by rw [put_size]; exact hsz) s3 ?_ (went1.neat hn) (li_sub hli s1) s5 ?_
          · intro i h1 h2
            rw [s2 i (.inr h1)]
            exact hfr i (Nat.le_trans went1.next h1) h2
          · intro ι2 w2 a2 k
            refine hk ι2 w2 a2 ⟨s1.trans k.sub, ?_, k.rel, s4.trans k.below, k.fr, k.size, k.defers.trans put_defers, k.record⟩
            intro i hi
            rw [k.other i, s2 i]
            · rcases hi with h | h
              · exact .inl h
              · exact .inr (Nat.le_trans went2.next h)
            · rcases hi with h | h
              · exact .inl (Nat.lt_of_lt_of_le h went1.next)
              · exact .inr h
      · rw [wpListY, if_neg (by rw [wanted_eq hf hg hgo hw]; simp)]
        refine ih _ rest ι st st' w _ _ f' p p' hr1 hx (FR.put hf hlt ⟨#[], rfl, trivial⟩) (alput ι V.undef undef (Sub.refl _)) (by rw [put_size]; exact hsz) hrel hfr hn hli hrec ?_
        intro ι2 w2 a2 k
        exact hk ι2 w2 a2 ⟨k.sub, k.other, k.rel, k.below, k.fr, k.size, k.defers.trans put_defers, k.record⟩
end
end Go.Vabs

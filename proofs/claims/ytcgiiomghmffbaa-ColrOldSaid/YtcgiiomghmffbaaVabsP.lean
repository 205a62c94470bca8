/- Lemmas for this claim, text P. No condition. -/
import Derived.Test.YtcgiiomghmffbaaVabsK
import Derived.Orders
namespace Go.Vabs
set_option linter.unusedSimpArgs false
set_option linter.unusedVariables false
def FR (drop : Nat) (ι : Map) (f : Frame) (tmps : Array Value) : Prop := ∀ n v, bit drop n = false → f.look (pos n) = some v → R ι v (tmps.getD n undef)
theorem FR.mono {drop : Nat} {ι ι' : Map} {f : Frame} {t : Array Value} (h : Sub ι ι') (hf : FR drop ι f t) : FR drop ι' f t := fun n v hd hv => R.mono h (hf n v hd hv)
theorem FR.put {drop : Nat} {ι : Map} {f : Frame} {a : Act} {d : Option Nat} {v : V} {x : Value} (hf : FR drop ι f a.tmps) (hd : ∀ n, d = some n → n < a.tmps.size) (hv : R ι v x) : FR drop ι (f.put (d.map pos) v) (a.put d x).tmps := by
  cases d with
  | none => exact hf
  | some d =>
    intro n u hdn hu
    have hu : T.look (T.lay (pos d) v f) (pos n) = some u := hu
    show R ι u ((a.tmps.setIfInBounds d x).getD n undef)
    by_cases hn : n = d
    · subst hn
      rw [T.look_lay_same] at hu; cases hu
      rw [Array.getD_eq_getD_getElem?, Array.getElem?_setIfInBounds, if_pos rfl, if_pos (hd n rfl)]
      exact hv
    · rw [T.look_lay_other _ _ _ _ (fun h => hn (pos_inj h))] at hu
      have := hf n u hdn hu
      rw [Array.getD_eq_getD_getElem?] at this ⊢
      rw [Array.getElem?_setIfInBounds, if_neg (fun h => hn h.symm)]
      exact this
theorem ev_t {f : Frame} (p : Pos) : f.ev (.t p) = (f.look p).getD .bad := by
  show (Option.rec V.bad (fun v => v) (T.look f p) : V) = _
  cases T.look f p <;> rfl
theorem FR.skip {drop : Nat} {ι : Map} {f : Frame} {a : Act} {d : Nat} {x : Value} (hf : FR drop ι f a.tmps) (hd : bit drop d = true) : FR drop ι f (a.put (some d) x).tmps := by
  intro n u hdn hu
  have hne : d ≠ n := fun e => by rw [e, hdn] at hd; cases hd
  have := hf n u hdn hu
  show R ι u ((a.tmps.setIfInBounds d x).getD n undef)
  rw [Array.getD_eq_getD_getElem?] at this ⊢
  rw [Array.getElem?_setIfInBounds, if_neg hne]
  exact this
theorem FR.tmp {drop : Nat} {ι : Map} {f : Frame} {a : Act} (hf : FR drop ι f a.tmps) (t : Nat) (hd : bit drop t = false) : R ι (f.ev (.t (pos t))) (a.eval (.tmp t)) := by
  rw [ev_t]
  cases h : f.look (pos t) with
  | none => trivial
  | some v => exact hf t v hd h
def AL (ι : Map) (f : Frame) (a : Act) (al : Alias) : Prop := ∀ d s g, (d, s, g) ∈ al → wanted f (posGuard g) = some true → R ι (f.ev s) (a.eval (.tmp d))
theorem sameGuard_eq {g h : Option (Nat × Bool)} (hs : sameGuard g h = true) : g = none ∨ g = h := by
  cases g with
  | none => exact .inl rfl
  | some x => cases h with
    | none => cases hs
    | some y =>
      obtain ⟨t, b⟩ := x
      obtain ⟨t', b'⟩ := y
      simp only [sameGuard, Bool.and_eq_true, Nat.beq_eq, beq_iff_eq] at hs
      exact .inr (by rw [hs.1, hs.2])
theorem aliasOf_mem {g : Option (Nat × Bool)} : ∀ {al : Alias} {t : Nat} {s : Src}, aliasOf g al t = some s → ∃ h, (t, s, h) ∈ al ∧ sameGuard h g = true
  | [], t, s, h => by cases h
  | (d, s', h') :: l, t, s, h => by
    have h : sel (Nat.beq d t) (sel (sameGuard h' g) (some s') none) (aliasOf g l t) = some s := h
    cases hd : Nat.beq d t with
    | true =>
      rw [hd] at h
      have h : sel (sameGuard h' g) (some s') none = some s := h
      obtain ⟨h1, h2⟩ := sel_some h
      cases h2
      rw [Nat.beq_eq] at hd; subst hd
      exact ⟨h', List.mem_cons_self .., h1⟩
    | false =>
      rw [hd] at h
      obtain ⟨x, h1, h2⟩ := aliasOf_mem (show aliasOf g l t = some s from h)
      exact ⟨x, List.mem_cons_of_mem _ h1, h2⟩
theorem good_at {drop : Nat} {ι : Map} {f : Frame} {a : Act} {al : Alias} {g : Option (Nat × Bool)} (hf : FR drop ι f a.tmps) (ha : AL ι f a al) (hw : wanted f (posGuard g) = some true) : Good ι (srcAt drop (aliasOf g al)) f.ev a := by
  intro x s hs
  cases x with
  | tmp t =>
    simp only [srcAt] at hs
    split at hs
    · rename_i s' hal
      cases hs
      obtain ⟨h, hm, hg⟩ := aliasOf_mem hal
      refine ha _ _ _ hm ?_
      rcases sameGuard_eq hg with rfl | rfl
      · rfl
      · exact hw
    · cases hb : bit drop t with
      | true => rw [hb] at hs; cases hs
      | false => rw [hb] at hs; cases hs; exact hf.tmp t hb
  | const v =>
    simp only [srcAt, Option.map_eq_some_iff] at hs
    obtain ⟨c, hc, rfl⟩ := hs
    exact toV_rel hc
  | func g =>
    cases hs
    exact ⟨#[], #[], rfl, trivial, trivial⟩
  | global g => cases hs
theorem good_of {drop : Nat} {ι : Map} {f : Frame} {a : Act} (hf : FR drop ι f a.tmps) : Good ι (srcAt drop fun _ => none) f.ev a := good_at (al := []) (g := none) hf (fun _ _ _ h => by cases h) rfl
theorem wanted_eq {drop : Nat} {ι : Map} {f : Frame} {a : Act} {ops : Array Oper} {o : Oper} {g : Option (Nat × Bool)} {b : Bool} (hf : FR drop ι f a.tmps) (hg : guardOf ops o = some g) (hgo : guardOk drop g = true) (hw : wanted f (posGuard g) = some b) : Region.wanted o (yielded ops a.tmps) = b := by
  unfold guardOf at hg
  split at hg
  · rename_i hn
    cases hg
    cases hw
    simp [Region.wanted, hn]
  · rename_i j c hn
    split at hg
    · rename_i t ht
      cases hg
      have hw : (Option.rec none (boolIs c) (f.look (pos t)) : Option Bool) = some b := hw
      simp only [Region.wanted, hn, yielded, ht, Option.bind_some]
      cases hl : f.look (pos t) with
      | none => rw [hl] at hw; cases hw
      | some v =>
        rw [hl] at hw
        have hr := hf t v (by simpa [guardOk] using hgo) hl
        have hw : boolIs c v = some b := hw
        cases v <;> try (cases hw; done)
        · rename_i q _
          cases hw
          have e1 : a.tmps.getD t undef = .bool q := hr
          rw [Array.getD_eq_getD_getElem?] at e1
          cases hq : a.tmps[t]? with
          | none => rw [hq] at e1; cases e1
          | some u => rw [hq] at e1; cases e1; cases q <;> cases c <;> rfl
        · cases hw
          obtain ⟨vs', e1, _⟩ := inv_tuple hr
          rw [Array.getD_eq_getD_getElem?] at e1
          cases hq : a.tmps[t]? with
          | none => rfl
          | some u => rw [hq] at e1; cases e1; rfl
    · cases hg
theorem wanted_put {f : Frame} {d : Nat} {v : V} {g : Option (Nat × Bool)} (hne : guardIs d g = false) : wanted (f.put (some (pos d)) v) (posGuard g) = wanted f (posGuard g) := by
  cases g with
  | none => rfl
  | some x =>
    obtain ⟨h, b⟩ := x
    have hne : Nat.beq h d = false := hne
    have : h ≠ d := fun e => by rw [← Nat.beq_eq, hne] at e; cases e
    show (Option.rec none (boolIs b) (T.look (T.lay (pos d) v f) (pos h)) : Option Bool) = Option.rec none (boolIs b) (T.look f (pos h))
    rw [T.look_lay_other _ _ _ _ (fun e => this (pos_inj e))]
theorem ev_put {f : Frame} {d : Nat} {v : V} {s : Src} (h : srcIs d s = false) : (f.put (some (pos d)) v).ev s = f.ev s := by
  cases s with
  | c v => rfl
  | t p =>
    rw [ev_t, ev_t]
    show (T.look (T.lay (pos d) v f) p).getD .bad = _
    rw [T.look_lay_other]
    intro e
    have : posEq p (pos d) = false := h
    rw [posEq_iff.2 e] at this
    cases this
theorem eval_put {a : Act} {d t : Nat} {x : Value} (h : t ≠ d) : (a.put (some d) x).eval (.tmp t) = a.eval (.tmp t) := by
  simp only [Act.eval, Act.put]
  rw [Array.getD_eq_getD_getElem?, Array.getD_eq_getD_getElem?, Array.getElem?_setIfInBounds, if_neg (fun e => h e.symm)]
theorem forget_mem {d : Nat} : ∀ {al : Alias} {t : Nat} {s : Src} {g : Option (Nat × Bool)}, (t, s, g) ∈ forget d al → (t, s, g) ∈ al ∧ t ≠ d ∧ srcIs d s = false ∧ guardIs d g = false
  | [], t, s, g, h => by cases h
  | (t', s', g') :: l, t, s, g, h => by
    have h : (t, s, g) ∈ sel (Nat.beq t' d || srcIs d s' || guardIs d g') (forget d l) ((t', s', g') :: forget d l) := h
    cases hb : (Nat.beq t' d || srcIs d s' || guardIs d g') with
    | true =>
      rw [hb] at h
      obtain ⟨h1, h2⟩ := forget_mem (show (t, s, g) ∈ forget d l from h)
      exact ⟨List.mem_cons_of_mem _ h1, h2⟩
    | false =>
      rw [hb] at h
      have h : (t, s, g) ∈ (t', s', g') :: forget d l := h
      rcases List.mem_cons.1 h with e | h
      · cases e
        simp only [Bool.or_eq_false_iff] at hb
        refine ⟨List.mem_cons_self .., ?_, hb.1.2, hb.2⟩
        intro e
        have := hb.1.1
        rw [← Nat.beq_eq, this] at e; cases e
      · obtain ⟨h1, h2⟩ := forget_mem h
        exact ⟨List.mem_cons_of_mem _ h1, h2⟩
theorem AL.put {ι : Map} {f : Frame} {a : Act} {al : Alias} {d : Nat} {v : V} {x : Value} (ha : AL ι f a al) : AL ι (f.put (some (pos d)) v) (a.put (some d) x) (forget d al) := by
  intro t s g hm hw
  obtain ⟨h1, h2, h3, h4⟩ := forget_mem hm
  rw [wanted_put h4] at hw
  rw [ev_put h3, eval_put h2]
  exact ha t s g h1 hw
theorem AL.skip {ι : Map} {f : Frame} {a : Act} {al : Alias} {d : Nat} {x : Value} (ha : AL ι f a al) : AL ι f (a.put (some d) x) (forget d al) := by
  intro t s g hm hw
  obtain ⟨h1, h2, h3, h4⟩ := forget_mem hm
  rw [eval_put h2]
  exact ha t s g h1 hw
theorem AL.mono {ι ι' : Map} {f : Frame} {a : Act} {al : Alias} (h : Sub ι ι') (ha : AL ι f a al) : AL ι' f a al := fun t s g hm hw => R.mono h (ha t s g hm hw)
end Go.Vabs

/-
  Lines go round: plain.
-/
import Derived.Test.YtpjinhofjaapaaaVabsKg
namespace Go.Vabs.Kh
set_option linter.unusedVariables false
set_option linter.unusedSimpArgs false
set_option maxRecDepth 10000
attribute [local simp] wp_skip wp_ret wp_exit wp_reg wp_seq wp_cond wp_block thenQ_normal thenQ_ret thenQ_exit blockQ_normal blockQ_ret blockQ_exit wpCond_true wpCond_false wpOps_nil wpVal_some wpGuard_true wpGuard_false wpOps_guard wpOps_cons
  put_at put_no ev_c ev_slot posEq_h posEq_o posEq_i posEq_ho posEq_hi posEq_oh posEq_ih posEq_oi posEq_io sel_true sel_false
  okv_some step_mv step_call step_pick pickV_bool step_bin bin_add bin_sub bin_mul bin_eql bin_neq bin_lss bin_leq bin_gtr bin_geq bin_eqb bin_neb bin_eqs bin_nes step_un un_not un_neg step_len len_slice len_str len_const step_extract extractV nth step_convInt conv_int step_convStr step_slice step_idxAddr natOf_nat step_load step_index step_field step_fieldAddr step_build step_minmax
  step_alloc step_bslice bsliceV_some newV_some step_store step_append boolIs_b boolIs_t finQ_ret finQ_normal ressE_nil ressE_cons resE_tmp consO_some initE_nil initE_cons pos_0 pos_1 pos_2 pos_3 pos_4 pos_5 pos_6 pos_7 pos_8 plain_bool plain_int plain_str plain_ptr plain_slice plain_map plain_agg plain_func plain_nilFunc V.undef oneOf_one oneOf_two ble_self
open Go.Vabs.Ph Go.Vabs.Fl Go.Vabs.Ka Go.Vabs.Kb Go.Vabs.Kc Go.Vabs.Kd Go.Vabs.Ke Go.Vabs.Kf Go.Vabs.Kg
/- THE PLAIN LAW: LINES GO ROUND -/
/-- Segments one behind the other, from a place to a place. -/
def Ch : Int → Int → List Sg → Int → Int → Prop
  | x, y, [], u, v => x = u ∧ y = v
  | x, y, s :: l, u, v => s.a = x ∧ s.b = y ∧ Ch s.c s.d l u v
theorem Ch.app : ∀ {l l' : List Sg} {x y u v z w : Int}, Ch x y l u v → Ch u v l' z w → Ch x y (l ++ l') z w
  | [], l', x, y, u, v, z, w, ⟨h1, h2⟩, h => by subst h1 h2; exact h
  | s :: l, l', x, y, u, v, z, w, ⟨h1, h2, h3⟩, h => ⟨h1, h2, Ch.app h3 h⟩
theorem bent_8 (a b c : Int) : bentI a b c 8 = c := by unfold bentI; omega
theorem ch_seg (p q : Pl) : Ch p.x p.y [segP p q] q.x q.y := ⟨rfl, rfl, rfl, rfl⟩
theorem ch_curve (a b c : Pl) : Ch a.x a.y (curveP a b c) c.x c.y := by
  refine ⟨bent_0 _ _ _, bent_0 _ _ _, rfl, rfl, rfl, rfl, rfl, rfl, rfl, rfl, rfl, rfl, rfl, rfl, rfl, rfl, ?_, ?_⟩
  · exact bent_8 _ _ _
  · exact bent_8 _ _ _
/-- The last one is on the curve. -/
def EndOn : List Pl → Option Pl → Prop
  | [], o => o = none
  | p :: l, _ => EndOn l (if p.on then none else some p)
def lastP : Pl → List Pl → Pl
  | a, [] => a
  | _, p :: l => lastP p l
def Started (s : List Sg) (p : Pl) : Prop := ∃ q ∈ s, q.a = p.x ∧ q.b = p.y
theorem go_ch : ∀ (l : List Pl) (last : Pl) (over : Option Pl) (out : List Sg) (x y : Int) (P : Pl → Prop), Ch x y out last.x last.y → EndOn l over → (∀ p, P p → Started out p ∨ (p.x = last.x ∧ p.y = last.y)) → (over = none → True) →
    ∃ z : Pl, Ch x y (linesGo l last over out) z.x z.y ∧ (∀ p, P p ∨ (p ∈ l ∧ p.on = true) → Started (linesGo l last over out) p ∨ (p.x = z.x ∧ p.y = z.y)) ∧ (over = none → l = [] → z = last) ∧ (l ≠ [] → z = lastP last l)
  | [], last, over, out, x, y, P, h, he, hp, _ => by
    refine ⟨last, h, fun p hq => ?_, fun _ _ => rfl, fun h => absurd rfl h⟩
    rcases hq with hq | ⟨hq, _⟩
    · exact hp p hq
    · cases hq
  | p :: l, last, some o, out, x, y, P, h, he, hp, _ => by
    obtain ⟨to, hto⟩ : ∃ to, to = (if p.on then p else midP o p) := ⟨_, rfl⟩
    have hch := h.app (ch_curve last o to)
    obtain ⟨z, z1, z2, z3, z4⟩ := go_ch l to (if p.on then none else some p) (out ++ curveP last o to) x y (fun q => P q ∨ (q = p ∧ p.on = true)) hch he (fun q hq => by
      rcases hq with hq | ⟨rfl, hon⟩
      · rcases hp q hq with ⟨s, hs, h1⟩ | h1
        · exact .inl ⟨s, List.mem_append_left _ hs, h1⟩
        · refine .inl ⟨chordP last o to 0, List.mem_append_right _ (List.mem_cons_self ..), ?_, ?_⟩
          · rw [h1.1]; exact bent_0 _ _ _
          · rw [h1.2]; exact bent_0 _ _ _
      · right
        rw [hto, hon]
        exact ⟨rfl, rfl⟩) (fun _ => trivial)
    have e : linesGo (p :: l) last (some o) out = linesGo l to (if p.on then none else some p) (out ++ curveP last o to) := by rw [hto]; rfl
    rw [e]
    refine ⟨z, z1, fun q hq => z2 q ?_, fun h => (by cases h), fun _ => ?_⟩
    · rcases hq with hq | ⟨hq, hon⟩
      · exact .inl (.inl hq)
      · rcases List.mem_cons.1 hq with rfl | hq
        · exact .inl (.inr ⟨rfl, hon⟩)
        · exact .inr ⟨hq, hon⟩
    · cases l with
      | nil =>
        have he : (if p.on then (none : Option Pl) else some p) = none := he
        have hon : p.on = true := by
          cases hh : p.on with
          | true => rfl
          | false => rw [hh] at he; cases he
        have hz := z3 he rfl
        rw [hz, hto, hon]
        rfl
      | cons p' l => exact z4 (by simp)
  | p :: l, last, none, out, x, y, P, h, he, hp, _ => by
    cases hon : p.on with
    | true =>
      have e : linesGo (p :: l) last none out = linesGo l p none (out ++ [segP last p]) := by simp [linesGo, hon]
      have he : EndOn l none := by have := he; simp only [EndOn, hon, if_true] at this; exact this
      obtain ⟨z, z1, z2, z3, z4⟩ := go_ch l p none (out ++ [segP last p]) x y (fun q => P q ∨ q = p) (h.app (ch_seg last p)) he (fun q hq => by
        rcases hq with hq | rfl
        · rcases hp q hq with ⟨s, hs, h1⟩ | h1
          · exact .inl ⟨s, List.mem_append_left _ hs, h1⟩
          · exact .inl ⟨segP last p, List.mem_append_right _ (List.mem_cons_self ..), h1.1.symm, h1.2.symm⟩
        · exact .inr ⟨rfl, rfl⟩) (fun _ => trivial)
      rw [e]
      refine ⟨z, z1, fun q hq => z2 q ?_, fun _ h => (by cases h), fun _ => ?_⟩
      · rcases hq with hq | ⟨hq, hon'⟩
        · exact .inl (.inl hq)
        · rcases List.mem_cons.1 hq with rfl | hq
          · exact .inl (.inr rfl)
          · exact .inr ⟨hq, hon'⟩
      · cases l with
        | nil => exact z3 rfl rfl
        | cons p' l => exact z4 (by simp)
    | false =>
      have e : linesGo (p :: l) last none out = linesGo l last (some p) out := by simp [linesGo, hon]
      have he : EndOn l (some p) := by have := he; simp only [EndOn, hon] at this; exact this
      obtain ⟨z, z1, z2, z3, z4⟩ := go_ch l last (some p) out x y P h he hp (fun _ => trivial)
      rw [e]
      refine ⟨z, z1, fun q hq => z2 q ?_, fun _ h => (by cases h), fun _ => ?_⟩
      · rcases hq with hq | ⟨hq, hon'⟩
        · exact .inl hq
        · rcases List.mem_cons.1 hq with rfl | hq
          · rw [hon] at hon'; cases hon'
          · exact .inr ⟨hq, hon'⟩
      · cases l with
        | nil => cases he
        | cons p' l =>
          have := z4 (by simp)
          rw [this]
          rfl
theorem go_ge : ∀ (l : List Pl) (a : Pl) (o : Option Pl) (out : List Sg), out.length ≤ (linesGo l a o out).length
  | [], a, o, out => by simp [linesGo]
  | p :: l, a, some o, out => by
    have := go_ge l (if p.on then p else midP o p) (if p.on then none else some p) (out ++ curveP a o (if p.on then p else midP o p))
    simp only [linesGo, List.length_append] at this ⊢
    omega
  | p :: l, a, none, out => by
    unfold linesGo
    split
    · have := go_ge l p none (out ++ [segP a p])
      simp only [List.length_append] at this
      omega
    · exact go_ge l a (some p) out
theorem go_over {p : Pl} {l : List Pl} {a o : Pl} {out : List Sg} : out.length + 8 ≤ (linesGo (p :: l) a (some o) out).length := by
  have := go_ge l (if p.on then p else midP o p) (if p.on then none else some p) (out ++ curveP a o (if p.on then p else midP o p))
  have h8 : (curveP a o (if p.on then p else midP o p)).length = 8 := rfl
  simp only [linesGo, List.length_append] at this ⊢
  omega
theorem go_one : ∀ {l : List Pl} {a : Pl} {out : List Sg}, l ≠ [] → EndOn l none → out.length + 1 ≤ (linesGo l a none out).length
  | [], a, out, h, _ => absurd rfl h
  | p :: l, a, out, _, he => by
    cases hon : p.on with
    | true =>
      have e : linesGo (p :: l) a none out = linesGo l p none (out ++ [segP a p]) := by simp [linesGo, hon]
      rw [e]
      have := go_ge l p none (out ++ [segP a p])
      simp at this ⊢
      omega
    | false =>
      have e : linesGo (p :: l) a none out = linesGo l a (some p) out := by simp [linesGo, hon]
      rw [e]
      have he : EndOn l (some p) := by have := he; simp only [EndOn, hon] at this; exact this
      cases l with
      | nil => cases he
      | cons p' l => have := go_over (p := p') (l := l) (a := a) (o := p) (out := out); omega
theorem go_two {p p' : Pl} {l : List Pl} {a : Pl} {out : List Sg} (he : EndOn (p :: p' :: l) none) : out.length + 2 ≤ (linesGo (p :: p' :: l) a none out).length := by
  cases hon : p.on with
  | true =>
    have e : linesGo (p :: p' :: l) a none out = linesGo (p' :: l) p none (out ++ [segP a p]) := by simp [linesGo, hon]
    rw [e]
    have he : EndOn (p' :: l) none := by have := he; simp only [EndOn, hon, if_true] at this; exact this
    have := go_one (l := p' :: l) (a := p) (out := out ++ [segP a p]) (by simp) he
    simp at this ⊢
    omega
  | false =>
    have e : linesGo (p :: p' :: l) a none out = linesGo (p' :: l) a (some p) out := by simp [linesGo, hon]
    rw [e]
    have := go_over (p := p') (l := l) (a := a) (o := p) (out := out)
    omega
theorem endOn_snoc : ∀ (l : List Pl) (o : Option Pl) (z : Pl), z.on = true → EndOn (l ++ [z]) o
  | [], o, z, h => by simp [EndOn, h]
  | p :: l, o, z, h => endOn_snoc l _ z h
theorem lastP_snoc : ∀ (l : List Pl) (a z : Pl), lastP a (l ++ [z]) = z
  | [], a, z => rfl
  | p :: l, a, z => lastP_snoc l p z
theorem firstOn_on : ∀ {c : List Pl} {i : Nat}, firstOn c = some i → ∃ p, c[i]? = some p ∧ p.on = true
  | a :: c, i, h => by
    unfold firstOn at h
    split at h
    · rename_i ha
      cases h
      exact ⟨a, rfl, ha⟩
    · cases hc : firstOn c with
      | none => rw [hc] at h; cases h
      | some k =>
        rw [hc] at h
        cases h
        obtain ⟨p, h1, h2⟩ := firstOn_on hc
        exact ⟨p, by simpa using h1, h2⟩
theorem firstOn_off : ∀ {c : List Pl}, firstOn c = none → ∀ p ∈ c, p.on = false
  | a :: c, h, p, hp => by
    unfold firstOn at h
    split at h
    · cases h
    · rename_i ha
      cases hc : firstOn c with
      | some k => rw [hc] at h; cases h
      | none =>
        rcases List.mem_cons.1 hp with rfl | hp
        · simpa using ha
        · exact firstOn_off hc p hp
/-- A contour that is begun: it ends where it began, on the curve. -/
theorem begun_shape {l : List Pl} (h : 2 ≤ l.length) : ∃ a m, begunP l = a :: (m ++ [a]) ∧ m ≠ [] ∧ a.on = true ∧ ∀ p ∈ l, p.on = true → p = a ∨ p ∈ m := by
  unfold begunP
  split
  · rename_i i hi
    obtain ⟨a, ha, hon⟩ := firstOn_on hi
    have hlt := firstOn_lt hi
    have e1 : l.drop i = a :: l.drop (i + 1) := by
      rw [List.drop_eq_getElem_cons hlt]
      congr 1
      exact (List.getElem?_eq_some_iff.1 ha).2
    have e2 : l.take (i + 1) = l.take i ++ [a] := by rw [List.take_add_one, ha]; rfl
    refine ⟨a, l.drop (i + 1) ++ l.take i, by rw [e1, e2, List.cons_append, List.append_assoc], fun e => ?_, hon, fun p hp _ => ?_⟩
    · have h5 : (l.drop (i + 1) ++ l.take i).length = 0 := by rw [e]; rfl
      rw [List.length_append, List.length_drop, List.length_take] at h5
      omega
    · rw [← List.take_append_drop i l, e1] at hp
      rcases List.mem_append.1 hp with h1 | h1
      · exact .inr (List.mem_append_right _ h1)
      · rcases List.mem_cons.1 h1 with rfl | h1
        · exact .inl rfl
        · exact .inr (List.mem_append_left _ h1)
  · rename_i hno
    split
    · rename_i z a hz ha
      refine ⟨midP z a, l, rfl, fun e => ?_, rfl, fun p hp hon => ?_⟩
      · rw [e] at h; simp at h
      · rw [firstOn_off hno p hp] at hon
        cases hon
    · rename_i hx
      exfalso
      cases l with
      | nil => simp at h
      | cons a l =>
        cases hl : (a :: l).getLast? with
        | none => simp at hl
        | some z => exact hx z a hl rfl
theorem ch_next : ∀ {s : List Sg} {x y u v : Int}, Ch x y s u v → (∀ q, s[0]? = some q → q.a = x ∧ q.b = y) ∧ (∀ i q q', s[i]? = some q → s[i + 1]? = some q' → q'.a = q.c ∧ q'.b = q.d) ∧ (∀ q, s[s.length - 1]? = some q → q.c = u ∧ q.d = v)
  | [], x, y, u, v, _ => ⟨fun q h => by simp at h, fun i q q' h => by simp at h, fun q h => by simp at h⟩
  | s :: l, x, y, u, v, ⟨h1, h2, h3⟩ => by
    obtain ⟨i1, i2, i3⟩ := ch_next h3
    refine ⟨fun q h => by simp at h; subst h; exact ⟨h1, h2⟩, fun i q q' hq hq' => ?_, fun q hq => ?_⟩
    · cases i with
      | zero =>
        simp at hq
        subst hq
        exact i1 q' (by simpa using hq')
      | succ i => exact i2 i q q' (by simpa using hq) (by simpa using hq')
    · cases l with
      | nil =>
        simp at hq
        subst hq
        exact h3
      | cons s' l => exact i3 q (by simpa using hq)
/-- What the law asks of a contour. -/
theorem round_law {m : Aff} {c : List Pl} (h : 2 ≤ c.length) : 2 ≤ (segs1 m c).length ∧ (∀ (i : Nat) (q q' : Sg), (segs1 m c)[i]? = some q → (segs1 m c)[(i + (segs1 m c).length - 1) % (segs1 m c).length]? = some q' → q.a = q'.c ∧ q.b = q'.d) ∧
    ∀ p ∈ c, p.on = true → ∃ q ∈ segs1 m c, q.a = appX m (wholeI p.x) (wholeI p.y) ∧ q.b = appY m (wholeI p.x) (wholeI p.y) := by
  have hs : segs1 m c = linesP (begunP (turnP m c)) := by unfold segs1; rw [if_pos h]
  obtain ⟨a, mm, hb, hm, hon, hall⟩ := begun_shape (l := turnP m c) (by simpa [turnP] using h)
  have hl : linesP (begunP (turnP m c)) = linesGo (mm ++ [a]) a none [] := by rw [hb]; rfl
  rw [hl] at hs
  have he := endOn_snoc mm none a hon
  obtain ⟨z, z1, z2, _, z4⟩ := go_ch (mm ++ [a]) a none [] a.x a.y (fun _ => False) ⟨rfl, rfl⟩ he (fun _ h => h.elim) (fun _ => trivial)
  have hz : z = a := by rw [z4 (by simp), lastP_snoc]
  subst hz
  rw [← hs] at z1 z2
  have hlen : 2 ≤ (segs1 m c).length := by
    rw [hs]
    obtain ⟨p, mm', rfl⟩ : ∃ p mm', mm = p :: mm' := by
      cases mm with
      | nil => exact absurd rfl hm
      | cons p mm' => exact ⟨p, mm', rfl⟩
    cases mm' with
    | nil => exact go_two (out := []) he
    | cons p' mm' => exact go_two (out := []) he
  obtain ⟨n1, n2, n3⟩ := ch_next z1
  refine ⟨hlen, fun i q q' hq hq' => ?_, fun p hp hpon => ?_⟩
  · have hi := (List.getElem?_eq_some_iff.1 hq).1
    cases i with
    | zero =>
      rw [Nat.zero_add, Nat.mod_eq_of_lt (by omega)] at hq'
      obtain ⟨a1, a2⟩ := n1 q hq
      obtain ⟨b1, b2⟩ := n3 q' hq'
      rw [a1, a2, b1, b2]
      exact ⟨rfl, rfl⟩
    | succ i =>
      rw [show i + 1 + (segs1 m c).length - 1 = i + (segs1 m c).length from by omega, Nat.add_mod_right, Nat.mod_eq_of_lt (by omega)] at hq'
      exact n2 i q' q hq' hq
  · have hmem : turn1 m p ∈ turnP m c := List.mem_map_of_mem hp
    have hx : Started (segs1 m c) (turn1 m p) ∨ ((turn1 m p).x = z.x ∧ (turn1 m p).y = z.y) := by
      rcases hall (turn1 m p) hmem hpon with h1 | h1
      · exact .inr ⟨by rw [h1], by rw [h1]⟩
      · exact z2 _ (.inr ⟨List.mem_append_left _ h1, hpon⟩)
    rcases hx with ⟨q, h1, h2⟩ | ⟨h1, h2⟩
    · exact ⟨q, h1, h2⟩
    · obtain ⟨q, hq⟩ : ∃ q, (segs1 m c)[0]? = some q := ⟨_, List.getElem?_eq_getElem (by omega)⟩
      obtain ⟨a1, a2⟩ := n1 q hq
      exact ⟨q, List.mem_of_getElem? hq, by rw [a1, ← h1]; rfl, by rw [a2, ← h2]; rfl⟩

end Go.Vabs.Kh

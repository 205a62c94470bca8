/- Lemmas for this claim, text F. No condition. -/
import Derived.Test.YtcgiiomghmffbaaVabsE
namespace Go.Vabs
set_option linter.unusedSimpArgs false
set_option linter.unusedVariables false
theorem bound_some {x : Option V} {d t n : Nat} (h : bound x d t = some n) : (x = none ∧ n = d) ∨ (∃ v, x = some v ∧ natOf v = some n ∧ n ≤ t) := by
  unfold bound at h
  split at h
  · cases h; exact .inl ⟨rfl, rfl⟩
  · split at h
    · rename_i v _ n' hn
      obtain ⟨hb, h⟩ := sel_some h
      cases h
      rw [Nat.ble_eq] at hb
      exact .inr ⟨v, rfl, hn, hb⟩
    · cases h
section
variable {P : Program} {B : Nat} {ι : Map} {st st' : St} {w : World} {a : Act} {o : Oper} {ρ : Src → V} {sr : Operand → Option Src} {r : Res}
def OptR (ι : Map) (ρ : Src → V) (a : Act) (s : Option Src) (x : Option Operand) : Prop :=
  match s, x with
  | none, none => True
  | some s, some x => R ι (ρ s) (a.eval x)
  | _, _ => False
theorem run_sliceBound' (k : IntKind) {n t : Nat} (h : n ≤ t) (c : BoundsCode) : (Instr.sliceBound (.int k n) t c).run P w = .ok n w := by
  simp [Instr.sliceBound, asIntOf, h]
theorem run_bounds {isS : Bool} {len cap : Nat} {lo hi mx : Option Value} {l h m : Nat}
    (hm : (mx = none ∧ m = cap) ∨ (∃ k, mx = some (.int k m) ∧ m ≤ cap ∧ hi ≠ none)) (hh : (hi = none ∧ h = len) ∨ (∃ k, hi = some (.int k h) ∧ h ≤ m)) (hl : (lo = none ∧ l = 0) ∨ (∃ k, lo = some (.int k l) ∧ l ≤ h)) :
    (Instr.sliceBounds isS len cap lo hi mx).run P w = .ok (l, h, m) w := by
  rcases hm with ⟨rfl, rfl⟩ | ⟨km, rfl, hm, hne⟩ <;> rcases hh with ⟨rfl, rfl⟩ | ⟨kh, rfl, hh⟩ <;> rcases hl with ⟨rfl, rfl⟩ | ⟨kl, rfl, hl⟩ <;>
    first
    | exact absurd rfl hne
    | simp [Instr.sliceBounds, run_sliceBound', *]
theorem opt_bound {s : Option Src} {x : Option Operand} (hr : OptR ι ρ a s x) {d t n : Nat} (h : bound (s.map ρ) d t = some n) :
    (x.map a.eval = none ∧ n = d) ∨ (∃ k, x.map a.eval = some (.int k n) ∧ n ≤ t) := by
  rcases bound_some h with ⟨h1, h2⟩ | ⟨v, h1, h2, h3⟩
  · cases s with
    | none => cases x with
      | none => exact .inl ⟨rfl, h2⟩
      | some x => exact hr.elim
    | some s => cases h1
  · cases s with
    | none => cases h1
    | some s => cases x with
      | none => exact hr.elim
      | some x =>
        cases h1
        obtain ⟨k, hk⟩ := inv_nat hr h2
        exact .inr ⟨k, by simp [hk], h3⟩
theorem opt_none {s : Option Src} {x : Option Operand} (hr : OptR ι ρ a s x) : (s.map ρ).isSome = (x.map a.eval).isSome := by
  cases s <;> cases x <;> first | rfl | exact hr.elim
theorem sim_sliceSlice {t e : TypeId} {x : Operand} {lo hi mx : Option Operand} {z : Nat} (ho : o.op = .slice t x lo hi mx) (hrel : Rel ι B st.heap w) {s : Src} {s1 s2 s3 : Option Src} (hs : R ι (ρ s) (a.eval x))
    (h1 : OptR ι ρ a s1 lo) (h2 : OptR ι ρ a s2 hi) (h3 : OptR ι ρ a s3 mx) (hmh : (s3.isSome && s2.isNone) = false) (ht : P.underlying t = some (.slice e)) (hz : sizeT P e = some z)
    (hx : ex_slice (.slice z) s s1 s2 s3 ρ st = some (r, st')) : ∃ ι' w', Sim P B ι st.next st'.next w st'.heap r (Go.execOp a.eval o) ι' w' := by
  unfold ex_slice at hx
  split at hx
  case h_2 => cases hx
  rename_i v hv
  cases hx
  unfold sliceOp at hv
  split at hv
  case h_1 => rename_i hh _; cases hh
  case h_3 => rename_i hh _; cases hh
  case h_4 => cases hv
  rename_i k x' e1 p e' len cap fix hk hρ
  cases hk
  obtain ⟨he, hv⟩ := sel_some hv
  split at hv
  case h_2 => cases hv
  rename_i m hm
  split at hv
  case h_2 => cases hv
  rename_i h hh
  split at hv
  case h_2 => cases hv
  rename_i l hl
  cases hv
  rw [hρ] at hs
  have hm' := opt_bound h3 hm
  have hl' := opt_bound h1 hl
  have hh' : (hi.map a.eval = none ∧ h = len) ∨ (∃ k, hi.map a.eval = some (.int k h) ∧ h ≤ m) := by
    cases s2 with
    | none => cases hi with
      | none => simp at hh; exact .inl ⟨rfl, hh.symm⟩
      | some y => exact h2.elim
    | some q =>
      rcases opt_bound (d := 0) (t := m) (n := h) (s := some q) h2 (by simpa using hh) with ⟨x1, _⟩ | x1
      · cases hi with
        | none => exact h2.elim
        | some y => simp at x1
      · exact .inr x1
  have hmxhi : mx.map a.eval ≠ none → hi.map a.eval ≠ none := by
    intro hn
    cases mx with
    | none => exact absurd rfl hn
    | some y => cases s3 with
      | none => exact h3.elim
      | some q => cases s2 with
        | none => simp at hmh
        | some q2 => cases hi with
          | none => exact h2.elim
          | some y => simp
  cases p with
  | none =>
    obtain ⟨rfl, rfl, hval⟩ := inv_sliceN hs
    have m0 : m = 0 := by rcases hm' with ⟨_, x⟩ | ⟨_, _, x⟩ <;> omega
    have h0 : h = 0 := by rcases hh' with ⟨_, x⟩ | ⟨_, _, x⟩ <;> omega
    have l0 : l = 0 := by rcases hl' with ⟨_, x⟩ | ⟨_, _, x⟩ <;> omega
    subst m0; subst h0; subst l0
    refine Sim.still (x := .slice none 0 0) hrel ?_ ?_
    · simp only [Go.execOp, ho, hval]
      refine run_v ?_
      have hb := run_bounds (P := P) (w := w) (isS := true) (len := 0) (cap := 0) (lo := lo.map a.eval) (hi := hi.map a.eval) (mx := mx.map a.eval) (l := 0) (h := 0) (m := 0)
        (by rcases hm' with ⟨x1, x2⟩ | ⟨k, x1, x2⟩
            · exact .inl ⟨x1, rfl⟩
            · exact .inr ⟨k, x1, Nat.le_refl _, hmxhi (by rw [x1]; simp)⟩)
        (by rcases hh' with ⟨x1, x2⟩ | ⟨k, x1, x2⟩
            · exact .inl ⟨x1, rfl⟩
            · exact .inr ⟨k, x1, Nat.le_refl _⟩)
        (by rcases hl' with ⟨x1, x2⟩ | ⟨k, x1, x2⟩
            · exact .inl ⟨x1, rfl⟩
            · exact .inr ⟨k, x1, Nat.le_refl _⟩)
      simp [Instr.sliceAt, Instr.slice, run_underlying ht, hb, run_sizeOf' hz]
    · have : sel (Nat.beq 0 0 && (fix || (s3.map ρ).isSome)) (none : Option (Nat × Nat)) (shiftA none (0 * z)) = none := by
        cases (Nat.beq 0 0 && (fix || (s3.map ρ).isSome)) <;> rfl
      rw [this]
      exact ⟨rfl, rfl, rfl⟩
  | some ij =>
    obtain ⟨i, q⟩ := ij
    obtain ⟨en, y, c', g1, g2, g3, g4, g5, g6⟩ := inv_slice hs
    have he' : e' = z := by
      simp at he
      exact (by simpa using he : z = e').symm
    subst he'
    obtain ⟨m', hm1, hm2, hm3, hm4⟩ : ∃ m', ((mx.map a.eval = none ∧ m' = c') ∨ (∃ k, mx.map a.eval = some (.int k m') ∧ m' ≤ c' ∧ hi.map a.eval ≠ none)) ∧ m ≤ m' ∧ ((fix || (s3.map ρ).isSome) = true → m' = m) ∧ m' ≤ c' := by
      rcases hm' with ⟨x1, x2⟩ | ⟨k, x1, x2⟩
      · refine ⟨c', .inl ⟨x1, rfl⟩, by omega, fun hf => ?_, Nat.le_refl _⟩
        have : (s3.map ρ).isSome = false := by rw [opt_none h3, x1]; rfl
        rw [this, Bool.or_false] at hf
        rw [x2]; exact g5 hf
      · exact ⟨m, .inr ⟨k, x1, by omega, hmxhi (by rw [x1]; simp)⟩, Nat.le_refl _, fun _ => rfl, by omega⟩
    have hhm : h ≤ m := by
      rcases hh' with ⟨x1, x2⟩ | ⟨_, _, x2⟩
      · rcases hm' with ⟨y1, y2⟩ | ⟨k, y1, _⟩
        · omega
        · exact absurd x1 (hmxhi (by rw [y1]; simp))
      · exact x2
    have hlh : l ≤ h := by rcases hl' with ⟨_, x⟩ | ⟨_, _, x⟩ <;> omega
    have hb := run_bounds (P := P) (w := w) (isS := true) (len := len) (cap := c') (lo := lo.map a.eval) (hi := hi.map a.eval) (mx := mx.map a.eval) (l := l) (h := h) (m := m') hm1
      (by rcases hh' with ⟨x1, x2⟩ | ⟨k, x1, x2⟩
          · exact .inl ⟨x1, x2⟩
          · exact .inr ⟨k, x1, by omega⟩) hl'
    refine Sim.still (x := .slice (some (if m' = l then y else y.add (l * e'))) (h - l) (m' - l)) hrel ?_ ?_
    · simp only [Go.execOp, ho, g2]
      refine run_v ?_
      simp only [Instr.sliceAt, Sem.run_bind, run_underlying ht, Result.andThen_ok, Instr.slice, hb, run_sizeOf' hz, Sem.run_pure, Option.map_some]
      split <;> rfl
    · obtain ⟨o'', ho''⟩ : ∃ o'', sel (Nat.beq m l && (fix || (s3.map ρ).isSome)) (some (i, q)) (shiftA (some (i, q)) (l * e')) = some (i, o'') ∧ (m' ≠ l → o'' = q + l * e') := by
        by_cases hml : m' = l
        · cases (Nat.beq m l && (fix || (s3.map ρ).isSome))
          · exact ⟨_, rfl, fun hne => absurd hml hne⟩
          · exact ⟨_, rfl, fun hne => absurd hml hne⟩
        · cases hc : (Nat.beq m l && (fix || (s3.map ρ).isSome)) with
          | false => exact ⟨_, rfl, fun _ => rfl⟩
          | true =>
            rw [Bool.and_eq_true, Nat.beq_eq] at hc
            exact absurd ((hm3 hc.2).trans hc.1) hml
      rw [ho''.1]
      refine ⟨en, _, m' - l, g1, rfl, by omega, by omega, (fun hf => by rw [hm3 hf]), ?_⟩
      by_cases hml : m' = l
      · left
        omega
      · right
        rw [if_neg hml, ho''.2 hml]
        have hc0 : c' ≠ 0 := by omega
        obtain ⟨k1, k2⟩ := g6.resolve_left hc0
        refine ⟨by rw [k1, add_eq, Nat.add_assoc], ?_⟩
        have e1 : l * e' + (m' - l) * e' = m' * e' := by rw [← Nat.add_mul]; congr 1; omega
        have e2 : m' * e' ≤ c' * e' := Nat.mul_le_mul_right _ hm4
        omega
theorem sim_sliceArr {t e : TypeId} {x : Operand} {lo hi mx : Option Operand} {n z : Nat} (ho : o.op = .slice t x lo hi mx) (hrel : Rel ι B st.heap w) {s : Src} {s1 s2 s3 : Option Src} (hs : R ι (ρ s) (a.eval x))
    (h1 : OptR ι ρ a s1 lo) (h2 : OptR ι ρ a s2 hi) (h3 : OptR ι ρ a s3 mx) (hmh : (s3.isSome && s2.isNone) = false) (ht : P.underlying t = some (.array n e)) (hz : sizeT P e = some z)
    (hx : ex_sliceArr n z s s1 s2 s3 ρ st = some (r, st')) : ∃ ι' w', Sim P B ι st.next st'.next w st'.heap r (Go.execOp a.eval o) ι' w' := by
  unfold ex_sliceArr at hx
  split at hx
  case h_2 => cases hx
  rename_i i q hρ
  split at hx
  case h_2 => cases hx
  rename_i cs hg
  obtain ⟨hb, hx⟩ := sel_some hx
  have hb : q + n * z ≤ cs.length := Nat.ble_eq.mp hb
  split at hx
  case h_2 => cases hx
  rename_i v hv
  cases hx
  rw [hρ] at hs
  obtain ⟨en, g1, g2⟩ := inv_ptr hs
  obtain ⟨en', k1, k2, k3, arr, ty, fz, k4, k5, k6, _⟩ := hrel.obj _ _ (St.get_heap hg)
  rw [g1] at k1; cases k1
  have hv : (match bound (s3.map ρ) n n with
    | some m => match bound (s2.map ρ) n m with
      | some h => match bound (s1.map ρ) 0 h with
        | some l => some (V.slice (some (i, sel (Nat.beq m l) q (q + l * z))) z (h - l) (m - l) true)
        | none => none
      | none => none
    | none => none) = some v := hv
  split at hv
  case h_2 => cases hv
  rename_i m hm
  split at hv
  case h_2 => cases hv
  rename_i h hh
  split at hv
  case h_2 => cases hv
  rename_i l hl
  cases hv
  have hm' := opt_bound h3 hm
  have hh' := opt_bound h2 hh
  have hl' := opt_bound h1 hl
  have hmxhi : mx.map a.eval ≠ none → hi.map a.eval ≠ none := by
    intro hn
    cases mx with
    | none => exact absurd rfl hn
    | some y => cases s3 with
      | none => exact h3.elim
      | some q => cases s2 with
        | none => simp at hmh
        | some q2 => cases hi with
          | none => exact h2.elim
          | some y => simp
  have hmn : m ≤ n := by rcases hm' with ⟨_, x⟩ | ⟨_, _, x⟩ <;> omega
  have hhm : h ≤ m := by
    rcases hh' with ⟨x1, x2⟩ | ⟨_, _, x2⟩
    · rcases hm' with ⟨y1, y2⟩ | ⟨k, y1, _⟩
      · omega
      · exact absurd x1 (hmxhi (by rw [y1]; simp))
    · exact x2
  have hlh : l ≤ h := by rcases hl' with ⟨_, x⟩ | ⟨_, _, x⟩ <;> omega
  have hbs := run_bounds (P := P) (w := w) (isS := false) (len := n) (cap := n) (lo := lo.map a.eval) (hi := hi.map a.eval) (mx := mx.map a.eval) (l := l) (h := h) (m := m)
    (by rcases hm' with ⟨x1, x2⟩ | ⟨k, x1, x2⟩
        · exact .inl ⟨x1, x2⟩
        · exact .inr ⟨k, x1, x2, hmxhi (by rw [x1]; simp)⟩) hh' hl'
  refine Sim.still (x := .slice (some ⟨en.blk, if m = l then en.off + q else en.off + q + l * z, none⟩) (h - l) (m - l)) hrel ?_ ?_
  · simp only [Go.execOp, ho, g2]
    refine run_v ?_
    simp only [Instr.sliceAt, Sem.run_bind, run_underlying ht, Result.andThen_ok, Instr.sureAddr, hbs, run_sizeOf' hz, Sem.run_pure, add_eq]
    split <;> rfl
  · refine ⟨en, _, m - l, g1, rfl, by omega, Nat.le_refl _, fun _ => rfl, ?_⟩
    by_cases hml : m = l
    · left
      omega
    · right
      have hbeq : Nat.beq m l = false := by
        cases hq : Nat.beq m l with
        | false => rfl
        | true => rw [Nat.beq_eq] at hq; exact absurd hq hml
      rw [if_neg hml, hbeq]
      refine ⟨by rw [Nat.add_assoc]; rfl, ?_⟩
      show q + l * z + (m - l) * z ≤ en.tot
      have e1 : l * z + (m - l) * z = m * z := by rw [← Nat.add_mul]; congr 1; omega
      have e2 : m * z ≤ n * z := Nat.mul_le_mul_right _ hmn
      omega
theorem sim_sliceStr {t : TypeId} {x : Operand} {lo hi mx : Option Operand} (ho : o.op = .slice t x lo hi mx) (hrel : Rel ι B st.heap w) {s : Src} {s1 s2 s3 : Option Src} (hs : R ι (ρ s) (a.eval x))
    (h1 : OptR ι ρ a s1 lo) (h2 : OptR ι ρ a s2 hi) (h3 : OptR ι ρ a s3 mx) (ht : P.underlying t = some .string)
    (hx : ex_slice .str s s1 s2 s3 ρ st = some (r, st')) : ∃ ι' w', Sim P B ι st.next st'.next w st'.heap r (Go.execOp a.eval o) ι' w' := by
  unfold ex_slice at hx
  split at hx
  case h_2 => cases hx
  rename_i v hv
  cases hx
  unfold sliceOp at hv
  split at hv
  case h_2 => rename_i hh _; cases hh
  case h_3 => rename_i hh _; cases hh
  case h_4 => cases hv
  rename_i k x' bs hk hρ
  split at hv
  · cases hv
  rename_i hmx
  split at hv
  case h_2 => cases hv
  rename_i h hh
  split at hv
  case h_2 => cases hv
  rename_i l hl
  cases hv
  rw [hρ] at hs
  obtain ⟨b, g1, g2⟩ := inv_str hs
  have hl' := opt_bound h1 hl
  have hh' := opt_bound h2 hh
  have hlen : bs.length = b.size := by rw [← g2, strV_length]
  have hm0 : mx.map a.eval = none := by
    have := opt_none h3
    rw [hmx] at this
    cases hq : mx.map a.eval with
    | none => rfl
    | some y => rw [hq] at this; cases this
  have hb := run_bounds (P := P) (w := w) (isS := false) (len := b.size) (cap := b.size) (lo := lo.map a.eval) (hi := hi.map a.eval) (mx := none) (l := l) (h := h) (m := b.size) (.inl ⟨rfl, rfl⟩)
    (by rw [← hlen]; exact hh') hl'
  refine Sim.still (x := .string (b.extract l h)) hrel ?_ ?_
  · simp only [Go.execOp, ho, g1]
    refine run_v ?_
    simp only [Instr.sliceAt, Sem.run_bind, run_underlying ht, Result.andThen_ok, Instr.slice, hm0, hb, Sem.run_pure, Option.isSome_none, Bool.false_eq_true, if_false]
  · refine ⟨_, rfl, ?_⟩
    rw [← g2]
    have e3 : (b.extract l h).data.toList = (b.data.toList.drop l).take (h - l) := by
      rw [ByteArray.data_extract, Array.toList_extract, List.extract_eq_take_drop]
    simp only [strV, e3, List.map_take, List.map_drop]
theorem sim_len {t : TypeId} {x : Operand} {c : Go.Call} {k : LenK} {ts : List TypeId} (ho : o.op = .call c) (hc : c.callee = .builtin .len) (hts : c.argTypes.toList = t :: ts) (hxs : c.args.toList = [x])
    (hrel : Rel ι B st.heap w) {s : Src} (hs : R ι (ρ s) (a.eval x))
    (ht : match k with
      | .str => P.underlying t = some .string
      | .slice => ∃ e, P.underlying t = some (.slice e)
      | .map => ∃ u v, P.underlying t = some (.map u v)
      | .const n => (∃ e, P.underlying t = some (.array n e)) ∨ ∃ u e, P.underlying t = some (.pointer u) ∧ P.underlying u = some (.array n e))
    (hx : ex_len k s ρ st = some (r, st')) : ∃ ι' w', Sim P B ι st.next st'.next w st'.heap r (Go.execOp a.eval o) ι' w' := by
  have hat : c.argTypes[0]? = some t := by rw [← Array.getElem?_toList, hts]; rfl
  have hargs : (c.args.map a.eval)[0]? = some (a.eval x) := by
    rw [← Array.getElem?_toList, Array.toList_map, hxs]; rfl
  have main : ∀ (n : Nat) (w0 : World), (Builtin.len_ c.argTypes o.type (c.args.map a.eval)).run P w = .ok (.int .i64 (n : Int)) w →
      (Go.execOp a.eval o).run P w = .ok (.value (.int .i64 (n : Int))) w := by
    intro n w0 h
    simp only [Go.execOp, ho, Go.resolve, hc, Sem.run_bind, Sem.run_pure, Result.andThen_ok, Go.invoke, Go.builtin, h]
  unfold ex_len at hx
  split at hx
  · rename_i bs hv
    cases hx
    rw [hv] at hs
    obtain ⟨b, g1, g2⟩ := inv_str hs
    refine Sim.still (x := .int .i64 (b.size : Int)) hrel (main _ w ?_) (by rw [← g2, strV_length]; rfl)
    simp only [Builtin.len_, hat, hargs, g1, Sem.run_bind, run_underlying ht, Result.andThen_ok]
    rfl
  · rename_i p e n c f hv
    cases hx
    obtain ⟨e, ht⟩ := ht
    rw [hv] at hs
    cases p with
    | none =>
      obtain ⟨rfl, rfl, g⟩ := inv_sliceN hs
      refine Sim.still (x := .int .i64 ((0 : Nat) : Int)) hrel (main _ w ?_) rfl
      simp only [Builtin.len_, hat, hargs, g, Sem.run_bind, run_underlying ht, Result.andThen_ok]
      rfl
    | some q =>
      obtain ⟨en, y, c', _, g, _⟩ := inv_slice (i := q.1) (o := q.2) hs
      refine Sim.still (x := .int .i64 (n : Int)) hrel (main _ w ?_) rfl
      simp only [Builtin.len_, hat, hargs, g, Sem.run_bind, run_underlying ht, Result.andThen_ok]
      rfl
  · rename_i _ _ n
    cases hx
    refine Sim.still (x := .int .i64 (n : Int)) hrel (main _ w ?_) rfl
    rcases ht with ⟨e, ht⟩ | ⟨u, e, ht, hu⟩
    · simp only [Builtin.len_, hat, hargs, Sem.run_bind, run_underlying ht, Result.andThen_ok]
      rfl
    · simp only [Builtin.len_, hat, hargs, Sem.run_bind, run_underlying ht, run_underlying hu, Result.andThen_ok]
      rfl
  · rename_i hv
    cases hx
    obtain ⟨u, v, ht⟩ := ht
    rw [hv] at hs
    have g : a.eval x = .map none := hs
    refine Sim.still (x := .int .i64 ((0 : Nat) : Int)) hrel (main _ w ?_) rfl
    simp only [Builtin.len_, hat, hargs, g, Sem.run_bind, run_underlying ht, Result.andThen_ok]
    rfl
  · rename_i i hv
    obtain ⟨u, v, ht⟩ := ht
    split at hx
    · rename_i own es cl hg
      cases hx
      rw [hv] at hs
      obtain ⟨e, g1, g2⟩ := inv_map hs
      rw [St.get_eq] at hg
      split at hg
      · obtain ⟨e', k1, k2, k3'⟩ := hrel.obj _ _ hg
        rw [g1] at k1; cases k1
        obtain ⟨es', k4, k5⟩ : ∃ es', w.heap[e.blk]? = some (.map es' cl) ∧ All2 (fun (x : V × V × Nat) (y : MapEntry) => R0 ι x.1 y.key ∧ R2 ι x.2.1 y.val ∧ x.2.2 = y.born) es es'.toList := by
          cases own with
          | true => exact k3'.2
          | false => exact k3'.2
        refine Sim.still (x := .int .i64 (es'.size : Int)) hrel (main _ w ?_) ?_
        · simp only [Builtin.len_, hat, hargs, g2, Sem.run_bind, run_underlying ht, Result.andThen_ok]
          simp [getObj, Sem.run, k4]
          rfl
        · rw [show es.length = es'.size from k5.length.trans Array.length_toList]; rfl
      · cases hg
    · cases hx
  · cases hx
theorem sim_cap {t e : TypeId} {x : Operand} {c : Go.Call} {ts : List TypeId} (ho : o.op = .call c) (hc : c.callee = .builtin .cap) (hts : c.argTypes.toList = t :: ts) (hxs : c.args.toList = [x])
    (hrel : Rel ι B st.heap w) {s : Src} (hs : R ι (ρ s) (a.eval x)) (ht : P.underlying t = some (.slice e))
    (hx : ex_capOf s ρ st = some (r, st')) : ∃ ι' w', Sim P B ι st.next st'.next w st'.heap r (Go.execOp a.eval o) ι' w' := by
  have hat : c.argTypes[0]? = some t := by rw [← Array.getElem?_toList, hts]; rfl
  have hargs : (c.args.map a.eval)[0]? = some (a.eval x) := by
    rw [← Array.getElem?_toList, Array.toList_map, hxs]; rfl
  unfold ex_capOf at hx
  split at hx
  · rename_i p e1 n cp hv
    cases hx
    rw [hv] at hs
    have main : ∃ v, a.eval x = .slice v n cp := by
      cases p with
      | none => obtain ⟨rfl, rfl, g⟩ := inv_sliceN hs; exact ⟨_, g⟩
      | some q => obtain ⟨en, y, c', _, g, _, _, h5, _⟩ := inv_slice (i := q.1) (o := q.2) hs; rw [h5 rfl] at g; exact ⟨_, g⟩
    obtain ⟨v, g⟩ := main
    refine Sim.still (x := .int .i64 (cp : Int)) hrel ?_ rfl
    have h : (Builtin.cap_ c.argTypes o.type (c.args.map a.eval)).run P w = .ok (.int .i64 (cp : Int)) w := by
      simp only [Builtin.cap_, hat, hargs, g, Sem.run_bind, run_underlying ht, Result.andThen_ok]
      rfl
    simp only [Go.execOp, ho, Go.resolve, hc, Sem.run_bind, Sem.run_pure, Result.andThen_ok, Go.invoke, Go.builtin, h]
  · cases hx
end
end Go.Vabs

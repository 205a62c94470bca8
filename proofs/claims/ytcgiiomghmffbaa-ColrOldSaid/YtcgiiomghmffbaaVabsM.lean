/- Lemmas for this claim, text M. No condition. -/
import Derived.Test.YtcgiiomghmffbaaVabsJ
import Derived.MapKept
namespace Go.Vabs
set_option linter.unusedSimpArgs false
set_option linter.unusedVariables false
abbrev EntryOK (ι : Map) (x : V × V × Nat) (y : MapEntry) : Prop := R0 ι x.1 y.key ∧ R2 ι x.2.1 y.val ∧ x.2.2 = y.born
section
variable {P : Program} {B : Nat} {ι : Map} {st st' : St} {w : World} {a : Act} {o : Oper} {ρ : Src → V} {sr : Operand → Option Src} {r : Res}
theorem sim_mkmap {t : TypeId} (ho : o.op = .makeMap t none) (hrel : Rel ι B st.heap w) (hfr : ∀ i, st.next ≤ i → i < st'.next → ι i = none) (hx : ex_mkmap ρ st = some (r, st')) :
    ∃ ι' w', Sim P B ι st.next st'.next w st'.heap r (Go.execOp a.eval o) ι' w' := by
  unfold ex_mkmap at hx
  split at hx
  case h_2 => cases hx
  rename_i j st1 hal
  cases hx
  obtain ⟨_, _, rfl, rfl⟩ := St.alloc_some hal
  have hn : ι st.next = none := hfr _ (Nat.le_refl _) (Nat.lt_succ_self _)
  refine ⟨upd ι st.next ⟨w.heap.size, 0, 0⟩, w.alloc (.map #[] 0), sub_upd hn, ?_, ?_, (Below.refl _ _).alloc hrel.base _, .map (some w.heap.size), .inl ?_, _, upd_same _ _ _, rfl⟩
  · intro i hi
    exact upd_other (by simp only at hi; omega)
  · refine hrel.add hn hrel.base ?_ ?_ ?_ ?_ ?_
    · intro i o' e' hi _ he'
      obtain ⟨e2, x1, x2, _⟩ := hrel.obj i o' hi
      rw [he'] at x1; cases x1
      show e'.blk ≠ w.heap.size
      omega
    · intro k _ hk
      exact heap_alloc_old w _ hk
    · simp
    · simp
    · exact ⟨hrel.base, #[], heap_alloc_new w _, trivial⟩
  · simp only [Go.execOp, ho]
    exact run_v (by simp [Instr.makeMap, Result.andThen])
theorem keyT_is {t : TypeId} {q : Option IntKind} (h : keyT P t = some q) {k : V} {v : Value} (hk : keyIs q k = true) (hr : R ι k v) : ∃ d, P.underlying t = some d ∧ MapKept.IsKey d v ∧ R0 ι k v := by
  unfold keyT at h
  split at h
  · rename_i kk hu
    cases h
    cases k <;> first | (cases hk; done) | skip
    rename_i k' n
    have hk : decide (k' = kk) = true := hk
    rw [decide_eq_true_iff] at hk
    have hr := inv_int hr
    subst hr
    exact ⟨_, hu, hk, rfl⟩
  · rename_i hu
    cases h
    cases k <;> first | (cases hk; done) | skip
    obtain ⟨b, rfl, hb⟩ := inv_str hr
    exact ⟨_, hu, trivial, b, rfl, hb⟩
  · cases h
theorem keyEq_rel {k1 k2 : V} {v1 v2 : Value} {b : Bool} {d : TypeDesc} (h1 : R0 ι k1 v1) (h2 : R0 ι k2 v2) (hd : MapKept.IsKey d v2) (h : keyEq k1 k2 = some b) : Instr.sameNow d v2 v1 = some b ∧ (b = true → v1 = v2) := by
  unfold keyEq at h
  split at h
  · rename_i k x k' y
    split at h
    · rename_i hkk
      subst hkk
      cases h
      have h1 : v1 = .int k x := h1
      have h2 : v2 = .int k y := h2
      subst h1; subst h2
      cases d <;> try (exact hd.elim)
      have e : (y == x) = eqI x y := by
        rw [eqI_eq]
        by_cases hxy : x = y
        · subst hxy; simp
        · rw [beq_eq_false_iff_ne.2 (fun e => hxy e.symm)]; simp [hxy]
      refine ⟨by simp [Instr.sameNow, e], fun hb => ?_⟩
      rw [eqI_eq] at hb
      simp at hb
      rw [hb]
    · cases h
  · rename_i x y
    cases h
    obtain ⟨b1, rfl, rfl⟩ := h1
    obtain ⟨b2, rfl, rfl⟩ := h2
    cases d <;> try (exact hd.elim)
    have e : (b2 == b1) = eqS (strV b1) (strV b2) := by
      rw [eqS_strV]
      cases hq : (b2 == b1) with
      | true => have hq := (MapKept.bytes_beq _ _).1 hq; subst hq; simp
      | false =>
        have : b1 ≠ b2 := fun e => by subst e; rw [(MapKept.bytes_beq _ _).2 rfl] at hq; cases hq
        simp [this]
    refine ⟨by simp [Instr.sameNow, e], fun hb => ?_⟩
    rw [eqS_strV, decide_eq_true_iff] at hb
    rw [hb]
  · cases h
theorem findKey_rel {k : V} {kv : Value} {d : TypeDesc} (hk : R0 ι k kv) (hd : MapKept.IsKey d kv) : ∀ {es : List (V × V × Nat)} {l : List MapEntry} {n : Nat} {res : Option (Nat × V × Nat)}, All2 (EntryOK ι) es l → findKey k es n = some res →
    (res = none ∧ Instr.findNow d kv l n = some none) ∨ ∃ i v born y, res = some (i, v, born) ∧ n ≤ i ∧ l[i - n]? = some y ∧ Instr.findNow d kv l n = some (some (i, y.val)) ∧ R2 ι v y.val ∧ born = y.born ∧ y.key = kv
  | [], [], n, res, _, h => by cases h; exact .inl ⟨rfl, rfl⟩
  | (k', v, born) :: es, y :: l, n, res, ⟨⟨h1, h2, h3⟩, hrest⟩, h => by
    unfold findKey at h
    split at h
    · rename_i hq
      cases h
      obtain ⟨e1, e2⟩ := keyEq_rel h1 hk hd hq
      refine .inr ⟨n, v, born, y, rfl, Nat.le_refl _, by simp, ?_, h2, h3, e2 rfl⟩
      simp only [Instr.findNow, e1]
    · rename_i hq
      obtain ⟨e1, _⟩ := keyEq_rel h1 hk hd hq
      rcases findKey_rel hk hd hrest h with ⟨rfl, e⟩ | ⟨i, v', born', y', rfl, hle, hy, e, r2, hb, hkey⟩
      · exact .inl ⟨rfl, by simp only [Instr.findNow, e1, e]⟩
      · refine .inr ⟨i, v', born', y', rfl, by omega, ?_, by simp only [Instr.findNow, e1, e], r2, hb, hkey⟩
        rw [show i - n = (i - (n + 1)) + 1 from by omega]
        exact hy
    · cases h
theorem map_seen (hrel : Rel ι B st.heap w) {i : Nat} {own : Bool} {es : List (V × V × Nat)} {clock : Nat} (hg : st.get i = some (.map own es clock)) {e : Entry} (he : ι i = some e) :
    ∃ arr, w.heap[e.blk]? = some (.map arr clock) ∧ All2 (EntryOK ι) es arr.toList := by
  obtain ⟨e', h1, h2, h3⟩ := get_obj hrel hg
  rw [he] at h1; cases h1
  cases own with
  | true => obtain ⟨_, arr, h4, h5⟩ := h3; exact ⟨arr, h4, h5⟩
  | false => obtain ⟨_, arr, h4, h5⟩ := h3; exact ⟨arr, h4, h5⟩
theorem map_obj (hrel : Rel ι B st.heap w) {i : Nat} {es : List (V × V × Nat)} {clock : Nat} (hg : st.get i = some (.map true es clock)) {e : Entry} (he : ι i = some e) :
    B ≤ e.blk ∧ e.blk < w.heap.size ∧ ∃ arr, w.heap[e.blk]? = some (.map arr clock) ∧ All2 (EntryOK ι) es arr.toList := by
  obtain ⟨e', h1, h2, h3, arr, h4, h5⟩ := get_obj hrel hg
  rw [he] at h1; cases h1
  exact ⟨h3, h2, arr, h4, h5⟩
theorem map_set (hrel : Rel ι B st.heap w) {i : Nat} {es : List (V × V × Nat)} {clock : Nat} (hg : st.get i = some (.map true es clock)) {e : Entry} (he : ι i = some e) {es2 : List (V × V × Nat)} {arr2 : Array MapEntry} {clock2 : Nat} (hall : All2 (EntryOK ι) es2 arr2.toList) :
    Rel ι B (st.heap.set i (some (.map true es2 clock2))) { w with heap := w.heap.setIfInBounds e.blk (.map arr2 clock2) } ∧ Below B w { w with heap := w.heap.setIfInBounds e.blk (.map arr2 clock2) } := by
  obtain ⟨h1, h2, arr, h3, h4⟩ := map_obj hrel hg he
  obtain ⟨s1, s2⟩ := MapKept.heap_set (o' := .map arr2 clock2) h3
  refine ⟨hrel.update (St.get_heap hg) rfl he (fun k hk => s2 k hk) (by simp) ⟨h1, arr2, s1, hall⟩, Below.one ⟨rfl, rfl, rfl, by simp, fun k hk => s2 k (by omega)⟩ h3 rfl fun k hk => s2 k hk⟩
theorem mapOf_rel (hrel : Rel ι B st.heap w) {m : V} {v : Value} (hm : R ι m v) {es : List (V × V × Nat)} (h : mapOf st m = some es) :
    (v = .map none ∧ es = []) ∨ ∃ blk arr clock, v = .map (some blk) ∧ w.heap[blk]? = some (.map arr clock) ∧ All2 (EntryOK ι) es arr.toList := by
  unfold mapOf at h
  split at h
  · cases h; exact .inl ⟨hm, rfl⟩
  · rename_i i
    obtain ⟨e, he, rfl⟩ := inv_map hm
    split at h
    · rename_i es' clock hg
      cases h
      obtain ⟨arr, h3, h4⟩ := map_seen hrel hg he
      exact .inr ⟨_, arr, clock, rfl, h3, h4⟩
    · cases h
  · cases h
theorem sim_lookup {t u e : TypeId} {x y : Operand} {ok : Bool} {q : Option IntKind} {s1 s2 : Src} {zero : V} (ho : o.op = .lookup t x y ok) (hrel : Rel ι B st.heap w) (h1 : R ι (ρ s1) (a.eval x)) (h2 : R ι (ρ s2) (a.eval y))
    (hu : P.underlying t = some (.map u e)) (hq : keyT P u = some q) (hz : zeroT P e = some zero) (hp : zero.plain = true) (hx : ex_lookup q zero s1 s2 ok ρ st = some (r, st')) :
    ∃ ι' w', Sim P B ι st.next st'.next w st'.heap r (Go.execOp a.eval o) ι' w' := by
  unfold ex_lookup at hx
  obtain ⟨hkey, hx⟩ := sel_some hx
  obtain ⟨d, hd, hk1, hk2⟩ := keyT_is hq hkey h2
  split at hx
  case h_2 => cases hx
  rename_i es hes
  obtain ⟨zv, hz1, hz2⟩ := zeroT_rel (ι := ι) (w := w) hz
  have fin : ∀ (l : List MapEntry), All2 (EntryOK ι) es l → (∀ s, Instr.findNow d (a.eval y) l 0 = some s → (Instr.lookup t (a.eval x) (a.eval y) ok).run P w = .ok (match s with
        | some (_, v) => (if ok = true then .tuple #[v, .bool true] else v)
        | none => (if ok = true then .tuple #[zv, .bool false] else zv)) w) → ∃ ι' w', Sim P B ι st.next st'.next w st'.heap r (Go.execOp a.eval o) ι' w' := by
    intro l hall hrun
    split at hx
    · rename_i i v born hf
      cases hx
      rcases findKey_rel hk2 hk1 hall hf with ⟨h, _⟩ | ⟨i', v', born', z, h, _, _, hn, r2, _, _⟩
      · cases h
      · cases h
        have hr := hrun _ hn
        dsimp only at hr
        cases ok with
        | true => exact Sim.still hrel (by simp only [Go.execOp, ho]; exact run_v hr) ⟨#[z.val, .bool true], rfl, r2, rfl, trivial⟩
        | false => exact Sim.still hrel (by simp only [Go.execOp, ho]; exact run_v hr) r2.up
    · rename_i hf
      cases hx
      rcases findKey_rel hk2 hk1 hall hf with ⟨_, hn⟩ | ⟨i', v', born', z, h, _⟩
      · have hr := hrun _ hn
        dsimp only at hr
        cases ok with
        | true => exact Sim.still hrel (by simp only [Go.execOp, ho]; exact run_v hr) ⟨#[zv, .bool false], rfl, hz2.of_plain hp, rfl, trivial⟩
        | false => exact Sim.still hrel (by simp only [Go.execOp, ho]; exact run_v hr) hz2
      · cases h
    · cases hx
  rcases mapOf_rel hrel h1 hes with ⟨hm, rfl⟩ | ⟨blk, arr, clock, hm, hb, hall⟩
  · refine fin [] trivial fun s hs => ?_
    have hf := MapKept.run_findKey (P := P) (w := w) hd hs
    cases hs
    rw [hm]
    cases ok <;> simp [Instr.lookup, run_underlying hu, MapKept.run_checkKey hd hk1, hf, hz1, Result.andThen]
  · refine fin arr.toList hall fun s hs => ?_
    have hf := MapKept.run_findKey (P := P) (w := w) hd hs
    rw [hm]
    cases s with
    | none => cases ok <;> simp [Instr.lookup, run_underlying hu, MapKept.run_getObj_map hb, MapKept.run_checkKey hd hk1, hf, hz1, Result.andThen]
    | some p => obtain ⟨i, v⟩ := p; cases ok <;> simp [Instr.lookup, run_underlying hu, MapKept.run_getObj_map hb, MapKept.run_checkKey hd hk1, hf, hz1, Result.andThen]
theorem sim_mapEntry {t u e : TypeId} {x y : Operand} {q : Option IntKind} {s1 s2 : Src} {zero : V} (ho : o.op = .mapEntry t x y) (hrel : Rel ι B st.heap w) (h1 : R ι (ρ s1) (a.eval x)) (h2 : R ι (ρ s2) (a.eval y))
    (hu : P.underlying t = some (.map u e)) (hq : keyT P u = some q) (hz : zeroT P e = some zero) (hp : zero.plain = true) (hx : ex_mapEntry q zero s1 s2 ρ st = some (r, st')) :
    ∃ ι' w', Sim P B ι st.next st'.next w st'.heap r (Go.execOp a.eval o) ι' w' := by
  unfold ex_mapEntry at hx
  obtain ⟨hkey, hx⟩ := sel_some hx
  obtain ⟨d, hd, hk1, hk2⟩ := keyT_is hq hkey h2
  obtain ⟨zv, hz1, hz2⟩ := zeroT_rel (ι := ι) (w := w) hz
  split at hx
  case h_2 => cases hx
  rename_i i hm
  rw [hm] at h1
  obtain ⟨en, he, hv⟩ := inv_map h1
  split at hx
  case h_2 => cases hx
  rename_i es clock hg
  obtain ⟨hB, hlt, arr, hb, hall⟩ := map_obj hrel hg he
  split at hx
  · rename_i i' v born hf
    cases hx
    rcases findKey_rel hk2 hk1 hall hf with ⟨h, _⟩ | ⟨i2, v2, born2, z, h, _, hzi, hn, r2, hborn, hzk⟩
    · cases h
    · cases h
      have hf' := MapKept.run_findKey (P := P) (w := w) hd hn
      have hzi : arr[i' - 0]? = some z := by rw [← Array.getElem?_toList]; exact hzi
      rw [Nat.sub_zero] at hzi
      have hsame : arr.modify i' (fun e => { e with key := a.eval y }) = arr := by
        apply Array.ext_getElem?
        intro j
        rw [Array.getElem?_modify]
        by_cases hj : i' = j
        · subst hj
          rw [if_pos rfl, hzi, ← hzk]
          rfl
        · rw [if_neg hj]
      obtain ⟨k1, k2⟩ := map_set hrel hg he (clock2 := clock) hall
      refine ⟨ι, _, Sub.refl _, fun _ _ => rfl, k1.congr fun j => ?_, k2, .tuple #[z.val, .int .i64 z.born], .inl ?_, _, rfl, r2, ?_, trivial⟩
      · rw [T.get_set]
        by_cases hj : j = i
        · subst hj; rw [if_pos rfl, St.get_heap hg]
        · rw [if_neg hj]
      · simp only [Go.execOp, ho]
        rw [hv]
        have hst := MapKept.run_keyThatStays (P := P) (w := w) hk1
        exact run_v (by simp [Instr.mapEntry, run_underlying hu, MapKept.run_getObj_map hb, MapKept.run_checkKey hd hk1, hf', hzi, hzk, hst, hsame, MapKept.run_setObj_map _ hb, goInt, Result.andThen])
      · rw [hborn]; rfl
  · rename_i hf
    split at hx
    case h_2 => cases hx
    rename_i st1 hset
    cases hx
    obtain ⟨_, _, _, rfl⟩ := St.set_some hset
    rcases findKey_rel hk2 hk1 hall hf with ⟨_, hn⟩ | ⟨_, _, _, _, h, _⟩
    · have hf' := MapKept.run_findKey (P := P) (w := w) hd hn
      have hall2 : All2 (EntryOK ι) (es ++ [(ρ s2, zero, clock)]) (arr.push { key := a.eval y, val := zv, born := clock }).toList := by
        rw [Array.toList_push]
        exact hall.append ⟨⟨hk2, hz2.of_plain hp, rfl⟩, trivial⟩
      obtain ⟨k1, k2⟩ := map_set hrel hg he (clock2 := clock + 1) hall2
      refine ⟨ι, _, Sub.refl _, fun _ _ => rfl, k1, k2, .tuple #[zv, .int .i64 clock], .inl ?_, _, rfl, hz2.of_plain hp, rfl, trivial⟩
      simp only [Go.execOp, ho]
      rw [hv]
      exact run_v (by simp [Instr.mapEntry, run_underlying hu, MapKept.run_getObj_map hb, MapKept.run_checkKey hd hk1, hf', hz1, MapKept.run_setObj_map _ hb, goInt, Result.andThen])
    · cases h
  · cases hx
theorem setAt_rel {x : V} {xv : Value} {kv : Value} (hx : R2 ι x xv) : ∀ {es : List (V × V × Nat)} {l : List MapEntry} {j : Nat} {y : MapEntry}, All2 (EntryOK ι) es l → l[j]? = some y → y.key = kv → All2 (EntryOK ι) (setAt x j es) (l.modify j fun e => { e with key := kv, val := xv })
  | [], [], j, y, _, h, _ => by simp at h
  | (k, v, b) :: es, z :: l, 0, y, ⟨⟨h1, h2, h3⟩, hrest⟩, h, hk => by
    cases h
    exact ⟨⟨by rw [← hk]; exact h1, hx, h3⟩, hrest⟩
  | (k, v, b) :: es, z :: l, j + 1, y, ⟨h1, hrest⟩, h, hk => ⟨h1, setAt_rel hx hrest h hk⟩
theorem sim_mapSet {t u e : TypeId} {x y z : Operand} {q : Option IntKind} {s1 s2 s3 : Src} (ho : o.op = .mapUpdate t x y z) (hrel : Rel ι B st.heap w) (h1 : R ι (ρ s1) (a.eval x)) (h2 : R ι (ρ s2) (a.eval y)) (h3 : R ι (ρ s3) (a.eval z))
    (hu : P.underlying t = some (.map u e)) (hq : keyT P u = some q) (hx : ex_mapSet q s1 s2 s3 ρ st = some (r, st')) :
    ∃ ι' w', Sim P B ι st.next st'.next w st'.heap r (Go.execOp a.eval o) ι' w' := by
  unfold ex_mapSet at hx
  obtain ⟨hkp, hx⟩ := sel_some hx
  rw [Bool.and_eq_true] at hkp
  obtain ⟨hkey, hpl⟩ := hkp
  obtain ⟨d, hd, hk1, hk2⟩ := keyT_is hq hkey h2
  split at hx
  case h_2 => cases hx
  rename_i i hm
  rw [hm] at h1
  obtain ⟨en, he, hv⟩ := inv_map h1
  split at hx
  case h_2 => cases hx
  rename_i es clock hg
  obtain ⟨hB, hlt, arr, hb, hall⟩ := map_obj hrel hg he
  split at hx
  · rename_i i' v born hf
    split at hx
    case h_2 => cases hx
    rename_i st1 hset
    cases hx
    obtain ⟨_, _, _, rfl⟩ := St.set_some hset
    rcases findKey_rel hk2 hk1 hall hf with ⟨h, _⟩ | ⟨i2, v2, born2, zz, h, _, hzi, hn, r2, hborn, hzk⟩
    · cases h
    · cases h
      have hf' := MapKept.run_findKey (P := P) (w := w) hd hn
      rw [Nat.sub_zero] at hzi
      have hzi' : arr[i']? = some zz := by rw [← Array.getElem?_toList]; exact hzi
      have hall2 : All2 (EntryOK ι) (setAt (ρ s3) i' es) (arr.modify i' fun e => { e with key := a.eval y, val := a.eval z }).toList := by
        rw [Array.toList_modify]; exact setAt_rel (h3.of_plain hpl) hall hzi hzk
      obtain ⟨k1, k2⟩ := map_set hrel hg he (clock2 := clock) hall2
      refine ⟨ι, _, Sub.refl _, fun _ _ => rfl, k1, k2, undef, .inr ⟨?_, rfl⟩, #[], rfl, trivial⟩
      simp only [Go.execOp, ho]
      rw [hv]
      have hst := MapKept.run_keyThatStays (P := P) (w := w) hk1
      simp [Instr.mapUpdate, run_underlying hu, MapKept.run_getObj_map hb, MapKept.run_checkKey hd hk1, hf', hzi', hzk, hst, MapKept.run_setObj_map _ hb, Result.andThen]
  · rename_i hf
    split at hx
    case h_2 => cases hx
    rename_i st1 hset
    cases hx
    obtain ⟨_, _, _, rfl⟩ := St.set_some hset
    rcases findKey_rel hk2 hk1 hall hf with ⟨_, hn⟩ | ⟨_, _, _, _, h, _⟩
    · have hf' := MapKept.run_findKey (P := P) (w := w) hd hn
      have hall2 : All2 (EntryOK ι) (es ++ [(ρ s2, ρ s3, clock)]) (arr.push { key := a.eval y, val := a.eval z, born := clock }).toList := by
        rw [Array.toList_push]
        exact hall.append ⟨⟨hk2, h3.of_plain hpl, rfl⟩, trivial⟩
      obtain ⟨k1, k2⟩ := map_set hrel hg he (clock2 := clock + 1) hall2
      refine ⟨ι, _, Sub.refl _, fun _ _ => rfl, k1, k2, undef, .inr ⟨?_, rfl⟩, #[], rfl, trivial⟩
      simp only [Go.execOp, ho]
      rw [hv]
      simp [Instr.mapUpdate, run_underlying hu, MapKept.run_getObj_map hb, MapKept.run_checkKey hd hk1, hf', MapKept.run_setObj_map _ hb, Result.andThen]
    · cases h
  · cases hx
theorem setBorn_rel {born : Nat} {x : V} {xv : Value} (hx : R2 ι x xv) : ∀ {es es2 : List (V × V × Nat)} {l : List MapEntry}, All2 (EntryOK ι) es l → setBorn born x es = some es2 →
    ∃ i, l.findIdx? (fun e => (e.born : Int) == (born : Int)) = some i ∧ All2 (EntryOK ι) es2 (l.modify i fun e => { e with val := xv })
  | [], es2, [], _, h => by cases h
  | (k, v, b) :: es, es2, y :: l, ⟨⟨h1, h2, h3⟩, hrest⟩, h => by
    unfold setBorn at h
    have h3 : b = y.born := h3
    cases hb : Nat.beq b born with
    | true =>
      rw [hb] at h
      cases h
      rw [Nat.beq_eq] at hb
      subst hb
      refine ⟨0, by simp [List.findIdx?_cons, h3], ?_⟩
      exact ⟨⟨h1, hx, h3⟩, hrest⟩
    | false =>
      rw [hb] at h
      have hne : b ≠ born := fun e => by rw [← Nat.beq_eq, hb] at e; cases e
      have h : (match setBorn born x es with | some r => some ((k, v, b) :: r) | none => none) = some es2 := h
      split at h
      case h_2 => cases h
      rename_i r hr
      cases h
      obtain ⟨i, e1, e2⟩ := setBorn_rel hx hrest hr
      refine ⟨i + 1, ?_, ?_⟩
      · rw [List.findIdx?_cons, if_neg (by rw [← h3]; simp; omega), e1]; rfl
      · exact ⟨⟨h1, h2, h3⟩, e2⟩
theorem sim_entryStore {t : TypeId} {x y z : Operand} {s1 s2 s3 : Src} (ho : o.op = .entryStore t x y z) (hrel : Rel ι B st.heap w) (h1 : R ι (ρ s1) (a.eval x)) (h2 : R ι (ρ s2) (a.eval y)) (h3 : R ι (ρ s3) (a.eval z))
    (hx : ex_entryStore s1 s2 s3 ρ st = some (r, st')) :
    ∃ ι' w', Sim P B ι st.next st'.next w st'.heap r (Go.execOp a.eval o) ι' w' := by
  unfold ex_entryStore at hx
  split at hx
  case h_2 => cases hx
  rename_i i born hm hn
  rw [hm] at h1
  obtain ⟨en, he, hv⟩ := inv_map h1
  obtain ⟨kk, hstamp⟩ := inv_nat h2 hn
  split at hx
  case h_2 => cases hx
  rename_i es clock hg
  obtain ⟨hB, hlt, arr, hb, hall⟩ := map_obj hrel hg he
  split at hx
  case h_2 => cases hx
  rename_i es2 hsb
  obtain ⟨hp, hx⟩ := sel_some hx
  split at hx
  case h_2 => cases hx
  rename_i st1 hset
  cases hx
  obtain ⟨_, _, _, rfl⟩ := St.set_some hset
  obtain ⟨j, e1, e2⟩ := setBorn_rel (h3.of_plain hp) hall hsb
  have e1 : arr.findIdx? (fun e => (e.born : Int) == (born : Int)) = some j := by rw [← List.findIdx?_toArray] at e1; simpa using e1
  have e2 : All2 (EntryOK ι) es2 (arr.modify j fun e => { e with val := a.eval z }).toList := by rw [Array.toList_modify]; exact e2
  obtain ⟨k1, k2⟩ := map_set hrel hg he (clock2 := clock) e2
  refine ⟨ι, _, Sub.refl _, fun _ _ => rfl, k1, k2, undef, .inr ⟨?_, rfl⟩, #[], rfl, trivial⟩
  simp only [Go.execOp, ho]
  rw [hv, hstamp]
  simp [Instr.entryStore, MapKept.run_getObj_map hb, asInt, asIntOf, e1, MapKept.run_setObj_map _ hb, Result.andThen]
end
end Go.Vabs

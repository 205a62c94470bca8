/- Lemmas for this claim, text I. No condition. -/
import Derived.Test.YtcgiiomghmffbaaVabsH
namespace Go.Vabs
set_option linter.unusedSimpArgs false
set_option linter.unusedVariables false
section
variable {P : Program} {B : Nat} {ι : Map} {st st' : St} {w : World} {a : Act} {o : Oper} {ρ : Src → V} {sr : Operand → Option Src} {r : Res}
theorem toArray_eq {α : Type} {l : List α} {x : Array α} (h : x.toList = l) : x = l.toArray := by cases x; cases h; rfl
theorem run_builtin {c : Go.Call} {b : Builtin} {v : Value} {w' : World} (ho : o.op = .call c) (hc : c.callee = .builtin b)
    (h : (Go.builtin b c.argTypes o.type (c.args.map fun | .const _ => true | _ => false) (c.args.map a.eval)).run P w = .ok (.value v) w') : (Go.execOp a.eval o).run P w = .ok (.value v) w' := by
  simp only [Go.execOp, ho, Go.resolve, hc, Sem.run_bind, Sem.run_pure, Result.andThen_ok, Go.invoke]
  exact h
theorem firstN_zero {e : Nat} {x : V} {new : List V} (h : firstN st e 0 x = some new) : new = [] := by
  unfold firstN at h
  split at h
  · cases h; rfl
  · obtain ⟨_, h⟩ := sel_some h
    unfold St.loadN at h
    split at h
    · have := (cut_eq h).1
      exact List.eq_nil_of_length_eq_zero (by simpa using this)
    · cases h
  · cases h; rfl
  · cases h
theorem zero_facts {t : TypeId} {n : Nat} {zs : List V} (hz : zeroC P t = some zs) (hn : sizeT P t = some n) (hl : zs.length = n) : ∃ ti z, P.info? t = some ti ∧ ti.zero = some z ∧ ti.size = n ∧ z.cells.size = n ∧ All2 (R1 ι) zs z.cells.toList := by
  obtain ⟨v, _, h2, ti, h3, h4⟩ := zeroC_rel (ι := ι) (w := default) hz
  simp only [sizeT, h3, Option.map_some, Option.some.injEq] at hn
  refine ⟨ti, v, h3, h4, hn, ?_, h2⟩
  rw [← hl, h2.length, Array.length_toList]
theorem sim_append {sT xT elem : TypeId} {x y : Operand} {c : Go.Call} {zs : List V} {e bytes : Nat} {d : TypeDesc} (ho : o.op = .call c) (hc : c.callee = .builtin .append) (hts : c.argTypes.toList = [sT, xT]) (hxs : c.args.toList = [x, y])
    (hT : P.underlying sT = some (.slice elem)) (hX : P.underlying xT = some d) (hni : ∀ k, d ≠ .int k) (hsz : sizeT P elem = some e) (hbt : bytesT P elem = some bytes) (hz : zeroC P elem = some zs) (hzl : zs.length = e) (he0 : e ≠ 0) (hb0 : bytes ≠ 0)
    (hrel : Rel ι B st.heap w) (hfr : ∀ i, st.next ≤ i → i < st'.next → ι i = none) {s1 s2 : Src} (h1 : R ι (ρ s1) (a.eval x)) (h2 : R ι (ρ s2) (a.eval y))
    (hx : ex_append e bytes s1 s2 ρ st = some (r, st')) : ∃ ι' w', Sim P B ι st.next st'.next w st'.heap r (Go.execOp a.eval o) ι' w' := by
  unfold ex_append at hx
  simp only [appendF_eq] at hx
  split at hx
  case h_2 => cases hx
  rename_i m hm
  split at hx
  case h_2 => cases hx
  rename_i new hnew
  obtain ⟨ti, z, hti, htz, hts2, hzs, _⟩ := zero_facts (ι := ι) hz hsz hzl
  have hb : ti.bytes = bytes := by simpa [bytesT, hti] using hbt
  subst hb
  obtain ⟨ι', w', v, g1, g2, g3, g4, g5, u, rfl, g6⟩ := append_sim (P := P) (sT := sT) (xT := xT) (ty := o.type) (x := a.eval y) hT hti hts2 htz hzs he0 hb0 hrel hfr h1 (fun hm0 => by subst hm0; exact firstN_zero hnew) (by
    intro w1 hw1
    have hrel1 : Rel ι B st.heap w1 := by rcases hw1 with rfl | rfl; exact hrel; exact hrel.drew
    obtain ⟨l, k1, k2⟩ := firstN_sim (P := P) hrel1 h2 hnew (.inl hm)
    exact ⟨l, k2, .inl ⟨d, hX, hni, lenOf_sim h2 hm, k1⟩⟩) hx
  refine ⟨ι', w', g1, g2, g3, g4, v, .inl (run_builtin ho hc ?_), g6⟩
  rw [toArray_eq hts, show c.args.map a.eval = #[a.eval x, a.eval y] from by rw [toArray_eq hxs]; simp]
  simp only [Go.builtin, Sem.run_bind, g5, Result.andThen_ok, Sem.run_pure]
theorem repN_len (zs : List V) : ∀ n, (repN n zs).length = n * zs.length
  | 0 => by simp [repN]
  | n + 1 => by simp only [repN, List.length_append, repN_len zs n, Nat.succ_mul]; omega
theorem repN_get (zs : List V) (hz : zs.length ≠ 0) : ∀ (n k : Nat), k < n * zs.length → (repN n zs)[k]? = zs[k % zs.length]?
  | 0, k, h => by simp at h
  | n + 1, k, h => by
    simp only [repN]
    rcases Nat.lt_or_ge k zs.length with hk | hk
    · rw [List.getElem?_append_left hk, Nat.mod_eq_of_lt hk]
    · rw [List.getElem?_append_right hk, repN_get zs hz n (k - zs.length) (by rw [Nat.succ_mul] at h; omega)]
      congr 1
      conv => rhs; rw [show k = (k - zs.length) + zs.length from by omega]
      rw [Nat.add_mod_right]
theorem repN_rel {zs : List V} {z : Array Value} (h : All2 (R1 ι) zs z.toList) (h0 : zs.length ≠ 0) (n : Nat) :
    All2 (R1 ι) (repN n zs) ((Array.range (n * zs.length)).map fun x => z[x % z.size]!).toList := by
  have hsz : z.size = zs.length := by rw [h.length, Array.length_toList]
  refine All2.of_get (by simp [repN_len]) ?_
  intro k v hk
  have hkl : k < n * zs.length := by
    have := (List.getElem?_eq_some_iff.1 hk).1
    rwa [repN_len] at this
  rw [repN_get zs h0 n k hkl] at hk
  obtain ⟨v', x, y⟩ := h.get hk
  refine ⟨v', ?_, y⟩
  have hlt : k % zs.length < z.size := by rw [hsz]; exact Nat.mod_lt _ (by omega)
  have hz : z[k % z.size]! = v' := by
    rw [hsz, getElem!_pos z _ hlt]
    rw [Array.getElem?_toList, Array.getElem?_eq_getElem hlt] at x
    exact Option.some.inj x
  simp [hkl, hz]
theorem sim_appendZ {sT xT elem : TypeId} {x y : Operand} {c : Go.Call} {zs : List V} {e bytes : Nat} {k : IntKind} (ho : o.op = .call c) (hc : c.callee = .builtin .append) (hts : c.argTypes.toList = [sT, xT]) (hxs : c.args.toList = [x, y])
    (hT : P.underlying sT = some (.slice elem)) (hX : P.underlying xT = some (.int k)) (hsz : sizeT P elem = some e) (hbt : bytesT P elem = some bytes) (hz : zeroC P elem = some zs) (hzl : zs.length = e) (he0 : e ≠ 0) (hb0 : bytes ≠ 0)
    (hrel : Rel ι B st.heap w) (hfr : ∀ i, st.next ≤ i → i < st'.next → ι i = none) {s1 s2 : Src} (h1 : R ι (ρ s1) (a.eval x)) (h2 : R ι (ρ s2) (a.eval y))
    (hx : ex_appendZ e bytes zs s1 s2 ρ st = some (r, st')) : ∃ ι' w', Sim P B ι st.next st'.next w st'.heap r (Go.execOp a.eval o) ι' w' := by
  unfold ex_appendZ at hx
  simp only [appendF_eq] at hx
  split at hx
  case h_2 => cases hx
  rename_i m hm
  obtain ⟨k2, hk2⟩ := inv_nat h2 hm
  obtain ⟨ti, z, hti, htz, hts2, hzs, hzr⟩ := zero_facts (ι := ι) hz hsz hzl
  have hb : ti.bytes = bytes := by simpa [bytesT, hti] using hbt
  subst hb
  have hm0 : m = 0 → repN m zs = [] := by rintro rfl; rfl
  have hroom : m * ti.bytes ≤ 281474976710656 ∧ m < 9223372036854775808 := by
    rcases Nat.eq_zero_or_pos m with rfl | hpos
    · exact ⟨by omega, by omega⟩
    · obtain ⟨m, rfl⟩ : ∃ q, m = q + 1 := ⟨m - 1, by omega⟩
      unfold appendOp at hx
      split at hx
      case h_2 => cases hx
      rename_i p e' n cp fix _
      obtain ⟨hcheck, _⟩ := sel_some hx
      rw [Bool.and_eq_true, Nat.ble_eq] at hcheck
      have h3 : (2 * (n + (m + 1)) + 1024) * ti.bytes ≤ 281474976710656 := hcheck.1
      have h4 : (m + 1) * ti.bytes ≤ (2 * (n + (m + 1)) + 1024) * ti.bytes := Nat.mul_le_mul_right _ (by omega)
      have h5 : (2 * (n + (m + 1)) + 1024) * 1 ≤ (2 * (n + (m + 1)) + 1024) * ti.bytes := Nat.mul_le_mul_left _ (Nat.pos_of_ne_zero hb0)
      exact ⟨by omega, by omega⟩
  obtain ⟨ι', w', v, g1, g2, g3, g4, g5, u, rfl, g6⟩ := append_sim (P := P) (sT := sT) (xT := xT) (ty := o.type) (x := a.eval y) hT hti hts2 htz hzs he0 hb0 hrel hfr h1 hm0 (by
    intro w1 hw1
    have hrr := repN_rel hzr (by rw [hzl]; exact he0) m
    refine ⟨_, hrr, .inr ⟨k, k2, ti, z, hX, hk2, hti, hroom.1, hroom.2, htz, ?_, ?_⟩⟩
    · intro hme
      rw [hzl, hme]; simp
    · intro _
      simp only [Builtin.zeroCells, hzs, hzl]) hx
  refine ⟨ι', w', g1, g2, g3, g4, v, .inl (run_builtin ho hc ?_), g6⟩
  rw [toArray_eq hts, show c.args.map a.eval = #[a.eval x, a.eval y] from by rw [toArray_eq hxs]; simp]
  simp only [Go.builtin, Sem.run_bind, g5, Result.andThen_ok, Sem.run_pure]
theorem sim_mkslice {t elem : TypeId} {x y : Operand} {zs : List V} {e bytes : Nat} (ho : o.op = .makeSlice t x y) (hT : P.underlying t = some (.slice elem)) (hsz : sizeT P elem = some e) (hbt : bytesT P elem = some bytes) (hz : zeroC P elem = some zs) (hzl : zs.length = e) (he0 : e ≠ 0)
    (hrel : Rel ι B st.heap w) (hfr : ∀ i, st.next ≤ i → i < st'.next → ι i = none) {s1 s2 : Src} (h1 : R ι (ρ s1) (a.eval x)) (h2 : R ι (ρ s2) (a.eval y))
    (hx : ex_mkslice e bytes zs s1 s2 ρ st = some (r, st')) : ∃ ι' w', Sim P B ι st.next st'.next w st'.heap r (Go.execOp a.eval o) ι' w' := by
  unfold ex_mkslice at hx
  split at hx
  case h_2 => cases hx
  rename_i l cp hl hcp
  obtain ⟨hcheck, hx⟩ := sel_some hx
  rw [Bool.and_eq_true, Bool.and_eq_true, Nat.ble_eq, Nat.ble_eq, blt_iff] at hcheck
  obtain ⟨⟨hlc, hroom⟩, hbig⟩ := hcheck
  split at hx
  case h_2 => cases hx
  rename_i j st1 hal
  cases hx
  obtain ⟨k1, hk1⟩ := inv_nat h1 hl
  obtain ⟨k2, hk2⟩ := inv_nat h2 hcp
  obtain ⟨ti, z, hti, htz, hts2, hzs, hzr⟩ := zero_facts (ι := ι) hz hsz hzl
  have hb : ti.bytes = bytes := by simpa [bytesT, hti] using hbt
  subst hb
  have hrr := repN_rel hzr (by rw [hzl]; exact he0) cp
  rw [hzl] at hrr
  obtain ⟨g1, g2, g3, g4, rfl⟩ := alloc_sim (w0 := w) (arr := (Array.range (cp * e)).map fun x => z.cells[x % z.cells.size]!) (ty := elem) (fz := (0, 0)) hrel hfr hal (.inl rfl)
    (by rw [hrr.length, Array.length_toList]; exact Nat.le_refl _) (.inl rfl) hrr.arr
  unfold w63 at hbig
  have wl : IntKind.i64.wrap (l : Int) = l := wrap_i64 (by omega) (by omega)
  have wc : IntKind.i64.wrap (cp : Int) = cp := wrap_i64 (by omega) (by omega)
  have p48 : (2 : Int) ^ 48 = 281474976710656 := by decide
  have hbI : ¬ ((ti.bytes : Int) * (cp : Int) > 2 ^ 48) := by
    have := Int.ofNat_le.2 hroom
    rw [Int.natCast_mul] at this
    rw [p48]; omega
  have hrun : (Instr.makeSlice t (.int k1 (l : Int)) (.int k2 (cp : Int))).run P w = .ok (.slice (some ⟨w.heap.size, 0, none⟩) l cp) (w.alloc (.cells ((Array.range (cp * e)).map fun x => z.cells[x % z.cells.size]!) elem)) := by
    have hbad : (decide ((cp : Int) < 0) || decide ((ti.bytes : Int) * (cp : Int) > 2 ^ 48) || decide ((l : Int) < 0) || decide ((l : Int) > cp)) = false := by
      simp only [Bool.or_eq_false_iff, decide_eq_false_iff_not]
      exact ⟨⟨⟨by omega, hbI⟩, by omega⟩, by omega⟩
    have hif : (decide ((cp : Int) < 0) || decide ((ti.bytes : Int) * (cp : Int) > 2 ^ 48) || decide ((l : Int) < 0) || decide ((l : Int) > cp)) ≠ true := by rw [hbad]; simp
    simp only [Instr.makeSlice, Sem.run_bind, run_underlying hT, Result.andThen_ok, asInt, asIntOf, Sem.run_pure, typeInfo, run_program, hti, wl, wc, if_neg hif, Int.toNat_natCast, run_askRoom, run_sizeOf' hsz]
    by_cases h0 : cp * e = 0
    · have harr : ((Array.range (cp * e)).map fun x => (#[] : Array Value)[x % (#[] : Array Value).size]!) = ((Array.range (cp * e)).map fun x => z.cells[x % z.cells.size]!) := by
        rw [h0]; simp
      simp only [if_pos h0, Sem.run_bind, Sem.run_pure, Result.andThen_ok, harr, newRow, run_newObj, World.alloc_eq]
    · simp only [h0, if_false, Sem.run_bind, zeroValue, typeInfo, run_program, hti, htz, Sem.run_pure, Result.andThen_ok, newRow, run_newObj, World.alloc_eq]
  refine ⟨_, _, g1, g2, g3, g4, .slice (some ⟨w.heap.size, 0, none⟩) l cp, .inl ?_, ?_⟩
  · simp only [Go.execOp, ho, hk1, hk2]
    exact run_v hrun
  · refine ⟨_, ⟨w.heap.size, 0, none⟩, cp, upd_same _ _ _, rfl, hlc, Nat.le_refl _, fun _ => rfl, .inr ⟨rfl, ?_⟩⟩
    simp
theorem sim_bslice {t elem : TypeId} {len : Nat} {qs : Array (Nat × Operand)} {zs : List V} {ps : List (Nat × Nat × Src)} {e : Nat} (ho : o.op = .buildSlice t len qs) (hT : P.underlying t = some (.slice elem)) (hsz : sizeT P elem = some e) (hz : zeroC P elem = some zs) (hzl : zs.length = e) (he0 : e ≠ 0)
    (hbig : ¬ (len * e > 2 ^ 24)) (hg : Good ι sr ρ a) (hps : partsAt sr (fun i => some (i * e, e)) qs.toList = some ps)
    (hrel : Rel ι B st.heap w) (hfr : ∀ i, st.next ≤ i → i < st'.next → ι i = none)
    (hx : ex_bslice e len zs ps ρ st = some (r, st')) : ∃ ι' w', Sim P B ι st.next st'.next w st'.heap r (Go.execOp a.eval o) ι' w' := by
  unfold ex_bslice at hx
  split at hx
  case h_2 => cases hx
  rename_i cs hcs
  split at hx
  case h_2 => cases hx
  rename_i j st1 hal
  cases hx
  obtain ⟨ti, z, hti, htz, hts2, hzs, hzr⟩ := zero_facts (ι := ι) hz hsz hzl
  have hrr := repN_rel hzr (by rw [hzl]; exact he0) len
  rw [hzl] at hrr
  obtain ⟨l', hf1, hf2⟩ := fill_rel ps qs.toList _ cs _ (partsAt_rel hg hps) hrr hcs
  have hl'sz : l'.size = len * e := by
    have hlen : cs.length = l'.size := by have h := hf2.length; simpa using h
    have hfl : ∀ (ps : List (Nat × Nat × Src)) (c1 c2 : List V), fill ρ ps c1 = some c2 → c2.length = c1.length := by
      intro ps
      induction ps with
      | nil => intro c1 c2 h; cases h; rfl
      | cons p ps ih =>
        intro c1 c2 h
        obtain ⟨off, n, s⟩ := p
        simp only [fill] at h
        split at h
        · obtain ⟨_, h⟩ := sel_some h
          split at h
          · rename_i r1 hr1
            rw [ih _ _ h, (splice_eq hr1).1]
          · cases h
        · cases h
    rw [← hlen, hfl _ _ _ hcs, repN_len, hzl]
  obtain ⟨g1, g2, g3, g4, rfl⟩ := alloc_sim (w0 := w) (arr := l') (ty := elem) (fz := (0, 0)) hrel hfr hal (.inl rfl)
    (by rw [hf2.length, Array.length_toList]; exact Nat.le_refl _) (.inl rfl) hf2.arr
  have hparts : (qs.map fun q => (q.1, a.eval q.2)).toList = qs.toList.map fun q => (q.1, a.eval q.2) := by simp
  have hrun : (Instr.buildSlice t len (qs.map fun q => (q.1, a.eval q.2))).run P w = .ok (.slice (some ⟨w.heap.size, 0, none⟩) len len) (w.alloc (.cells l' elem)) := by
    simp only [Instr.buildSlice, Sem.run_bind, run_underlying hT, Result.andThen_ok, run_sizeOf' hsz, if_neg hbig]
    by_cases h0 : len * e = 0
    · have harr : ((Array.range (len * e)).map fun x => (#[] : Array Value)[x % (#[] : Array Value).size]!) = ((Array.range (len * e)).map fun x => z.cells[x % z.cells.size]!) := by
        rw [h0]; simp
      simp only [if_pos h0, Sem.run_pure, Result.andThen_ok, harr, hparts, hf1, Sem.run_bind, newRow, run_newObj, World.alloc_eq]
    · simp only [if_neg h0, Sem.run_bind, zeroValue, typeInfo, run_program, hti, htz, Sem.run_pure, Result.andThen_ok, hparts, hf1, newRow, run_newObj, World.alloc_eq]
  refine ⟨_, _, g1, g2, g3, g4, .slice (some ⟨w.heap.size, 0, none⟩) len len, .inl ?_, ?_⟩
  · simp only [Go.execOp, ho]
    exact run_v hrun
  · refine ⟨_, ⟨w.heap.size, 0, none⟩, len, upd_same _ _ _, rfl, Nat.le_refl _, Nat.le_refl _, fun _ => rfl, .inr ⟨rfl, ?_⟩⟩
    simp [hl'sz]
end
end Go.Vabs

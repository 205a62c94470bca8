/- Lemmas for this claim, text H. No condition. -/
import Derived.Test.YtcgiiomghmffbaaVabsG
import Derived.Laws.IdiomCopy
import Derived.Laws.BytesString
import Derived.Laws.CopyRow
namespace Go.Vabs
set_option linter.unusedSimpArgs false
set_option linter.unusedVariables false
theorem setCells_far (g : Nat) : ∀ (vs : List Value) (o : Nat) (w : World) (k : Nat), k ≠ g → (w.setCells g o vs).heap[k]? = w.heap[k]?
  | [], _, _, _, _ => rfl
  | v :: r, o, w, k, h => by rw [World.setCells, setCells_far g r (o + 1) _ k h, heap_setCell_other _ _ _ _ h]
theorem setCells_rest (g : Nat) : ∀ (vs : List Value) (o : Nat) (w : World), (w.setCells g o vs).os = w.os ∧ (w.setCells g o vs).tape = w.tape ∧ (w.setCells g o vs).output = w.output ∧ (w.setCells g o vs).heap.size = w.heap.size
  | [], _, _ => ⟨rfl, rfl, rfl, rfl⟩
  | v :: r, o, w => by
    obtain ⟨h1, h2, h3, h4⟩ := setCells_rest g r (o + 1) (w.setCell ⟨g, o, none⟩ v)
    rw [World.setCells]
    exact ⟨h1, h2, h3, h4.trans (by simp)⟩
theorem heap_setCell_here (w : World) (g i : Nat) (cs : Array Value) (t : TypeId) (fz : Nat × Nat) (v : Value) (h : w.heap[g]? = some (.cells cs t fz)) :
    (w.setCell ⟨g, i, none⟩ v).heap[g]? = some (.cells (cs.setIfInBounds i v) t fz) := by
  simp [World.setCell, Array.getElem?_modify, h]
theorem setCells_here (g : Nat) : ∀ (vs : List Value) (o : Nat) (w : World) (cs : Array Value) (t : TypeId) (fz : Nat × Nat), w.heap[g]? = some (.cells cs t fz) → o + vs.length ≤ cs.size →
    ∃ cs', (w.setCells g o vs).heap[g]? = some (.cells cs' t fz) ∧ cs'.size = cs.size ∧ ∀ k, cs'[k]? = if o ≤ k ∧ k < o + vs.length then vs[k - o]? else cs[k]?
  | [], o, w, cs, t, fz, h, _ => ⟨cs, h, rfl, fun k => by rw [if_neg (by simp only [List.length_nil]; omega)]⟩
  | v :: r, o, w, cs, t, fz, h, hl => by
    simp only [List.length_cons] at hl
    obtain ⟨cs', h1, h2, h3⟩ := setCells_here g r (o + 1) _ _ t fz (heap_setCell_here w g o cs t fz v h) (by simp; omega)
    refine ⟨cs', h1, by simp [h2], fun k => ?_⟩
    rw [h3 k]
    simp only [List.length_cons, Array.getElem?_setIfInBounds]
    by_cases c1 : o + 1 ≤ k ∧ k < o + 1 + r.length
    · rw [if_pos c1, if_pos (by omega), show k - o = (k - (o + 1)) + 1 from by omega]; rfl
    · rw [if_neg c1]
      by_cases c2 : o = k
      · subst c2
        rw [if_pos rfl, if_pos (by omega), if_pos (by omega), Nat.sub_self]; rfl
      · rw [if_neg c2, if_neg (by omega)]
section
variable {P : Program} {B : Nat} {ι : Map} {st st' : St} {w : World} {a : Act} {o : Oper} {ρ : Src → V} {sr : Operand → Option Src} {r : Res}
theorem get_obj (hrel : Rel ι B st.heap w) {i : Nat} {ob : AObj} (h : st.get i = some ob) : ∃ e, ι i = some e ∧ e.blk < w.heap.size ∧ OR ι B w e ob := by
  exact hrel.obj _ _ (St.get_heap h)
theorem cell_obj (hrel : Rel ι B st.heap w) {i : Nat} {own : Bool} {cs : List V} (h : st.get i = some (.cells own cs)) {e : Entry} (he : ι i = some e) :
    ∀ k v, cs[k]? = some v → ∃ v', w.cell? ⟨e.blk, e.off + k, none⟩ = some v' ∧ R1 ι v v' := by
  obtain ⟨e', h1, h2, h3⟩ := get_obj hrel h
  rw [he] at h1; cases h1
  intro k v hk
  cases own with
  | true =>
    obtain ⟨_, arr, ty, fz, g1, _, _, _, g2⟩ := h3
    obtain ⟨v', x, y⟩ := g2 k v hk
    exact ⟨v', by rw [cell_of_row w e.blk (e.off + k) arr ty fz g1]; exact x, y⟩
  | false => exact h3.2 k v hk
theorem loadN_rel (hrel : Rel ι B st.heap w) {i q n : Nat} {l : List V} (h : st.loadN i q n = some l) {e : Entry} (he : ι i = some e) :
    ∃ l', (loadCells ⟨e.blk, e.off + q, none⟩ n).run P w = .ok ⟨l'⟩ w ∧ All2 (R1 ι) l l' ∧ (∀ j v, l'[j]? = some v → w.cell? ((⟨e.blk, e.off + q, none⟩ : Addr).add j) = some v) := by
  unfold St.loadN at h
  split at h
  · rename_i own cs hg
    obtain ⟨h1, h2⟩ := cut_eq h
    have hc := cell_obj hrel hg he
    have ex : ∀ j, j < n → ∃ v v', l[j]? = some v ∧ w.cell? ((⟨e.blk, e.off + q, none⟩ : Addr).add j) = some v' ∧ R1 ι v v' := by
      intro j hj
      have hv : l[j]? = some l[j] := List.getElem?_eq_getElem (by omega)
      have := h2 j hj
      rw [hv] at this
      obtain ⟨v', x, y⟩ := hc (q + j) _ this.symm
      exact ⟨_, v', hv, by rw [add_eq, Nat.add_assoc]; exact x, y⟩
    let f : Nat → Value := fun j => (w.cell? ((⟨e.blk, e.off + q, none⟩ : Addr).add j)).getD undef
    have hf : ∀ j, j < n → w.cell? ((⟨e.blk, e.off + q, none⟩ : Addr).add j) = some (f j) := by
      intro j hj
      obtain ⟨v, v', _, x, _⟩ := ex j hj
      simp only [f, x, Option.getD_some]
    refine ⟨(List.range n).map f, run_loadCells w _ n f hf, All2.of_get (by simp [h1]) ?_, ?_⟩
    · intro k v hk
      have hkn : k < n := by
        have := (List.getElem?_eq_some_iff.1 hk).1; omega
      obtain ⟨v1, v', x1, x2, x3⟩ := ex k hkn
      rw [hk] at x1; cases x1
      refine ⟨f k, by simp [hkn], ?_⟩
      rw [hf k hkn] at x2; cases x2
      exact x3
    · intro j v hj
      have hjn : j < n := by
        have := (List.getElem?_eq_some_iff.1 hj).1; simpa using this
      simp only [List.getElem?_map, List.getElem?_range hjn, Option.map_some, Option.some.injEq] at hj
      rw [hf j hjn, hj]
  · cases h
theorem load1_rel (hrel : Rel ι B st.heap w) {i q : Nat} {v : V} (h : st.load1 i q = some v) {e : Entry} (he : ι i = some e) :
    ∃ v', w.cell? ⟨e.blk, e.off + q, none⟩ = some v' ∧ R1 ι v v' := by
  unfold St.load1 at h
  split at h
  · rename_i own cs hg
    rw [nth_eq] at h
    exact cell_obj hrel hg he q v h
  · cases h
theorem sim_load {t : TypeId} {x : Operand} {g : Bool} {n : Nat} (ho : o.op = .load t x) (hrel : Rel ι B st.heap w) {s : Src} (hs : R ι (ρ s) (a.eval x)) (hg : aggT P t = some g) (hn : sizeT P t = some n)
    (hx : ex_load g n s ρ st = some (r, st')) : ∃ ι' w', Sim P B ι st.next st'.next w st'.heap r (Go.execOp a.eval o) ι' w' := by
  unfold ex_load at hx
  simp only [load1F_eq] at hx
  split at hx
  · rename_i i q hv
    rw [hv] at hs
    obtain ⟨e, g1, g2⟩ := inv_ptr hs
    cases g with
    | true =>
      have hx : (match st.loadN i q n with | some l => some (Res.val (.agg l), st) | none => none) = some (r, st') := hx
      split at hx
      · rename_i l hl
        cases hx
        obtain ⟨l', h1, h2, _⟩ := loadN_rel (P := P) hrel hl g1
        refine Sim.still (x := .agg ⟨l'⟩) hrel ?_ ⟨_, rfl, h2⟩
        simp only [Go.execOp, ho, g2]
        exact run_v (by simp [Instr.loadAt, Instr.sureAddr, loadVar, run_isAgg' hg, run_sizeOf' hn, h1])
      · cases hx
    | false =>
      have hx : (match st.load1 i q with | some v => some (Res.val v, st) | none => none) = some (r, st') := hx
      split at hx
      · rename_i v hl
        cases hx
        obtain ⟨v', h1, h2⟩ := load1_rel hrel hl g1
        refine Sim.still (x := v') hrel ?_ h2.up
        simp only [Go.execOp, ho, g2]
        exact run_v (by simp [Instr.loadAt, Instr.sureAddr, loadVar, run_isAgg' hg, h1])
      · cases hx
  · cases hx
theorem alloc_sim {cs : List V} {j : Nat} {w0 : World} {arr : Array Value} {ty : TypeId} {fz : Nat × Nat} (hrel : Rel ι B st.heap w) (hfr : ∀ i, st.next ≤ i → i < st'.next → ι i = none) (ha : st.alloc (.cells true cs) = some (j, st'))
    (hw0 : w0 = w ∨ w0 = w.drew) (hcs : cs.length ≤ arr.size) (hfz : fzOk arr.size fz) (hr : ∀ (k : Nat) v, cs[k]? = some v → ∃ v', arr[k]? = some v' ∧ R1 ι v v') :
    Sub ι (upd ι j ⟨w.heap.size, 0, arr.size⟩) ∧ (∀ i, (i < st.next ∨ st'.next ≤ i) → upd ι j ⟨w.heap.size, 0, arr.size⟩ i = ι i) ∧ Rel (upd ι j ⟨w.heap.size, 0, arr.size⟩) B st'.heap (w0.alloc (.cells arr ty fz)) ∧
      Below B w (w0.alloc (.cells arr ty fz)) ∧ j = st.next := by
  obtain ⟨_, _, rfl, rfl⟩ := St.alloc_some ha
  have hn : ι st.next = none := hfr _ (Nat.le_refl _) (Nat.lt_succ_self _)
  have hsz : w0.heap = w.heap := by rcases hw0 with rfl | rfl <;> rfl
  have hsub := sub_upd (e := ⟨w.heap.size, 0, arr.size⟩) hn
  have hnew : (w0.alloc (.cells arr ty fz)).heap[w.heap.size]? = some (.cells arr ty fz) := by
    have := heap_alloc_new w0 (.cells arr ty fz)
    rwa [hsz] at this
  refine ⟨hsub, ?_, ?_, ?_, rfl⟩
  · intro i hi
    exact upd_other (by simp only at hi; omega)
  · refine hrel.add hn hrel.base ?_ ?_ ?_ ?_ ?_
    · intro i o' e' hi _ he'
      obtain ⟨e2, x1, x2, _⟩ := hrel.obj i o' hi
      rw [he'] at x1; cases x1
      show e'.blk ≠ w.heap.size
      omega
    · intro k _ hk
      have := heap_alloc_old w0 (.cells arr ty fz) (r := k) (by rw [hsz]; exact hk)
      rw [this, hsz]
    · simp [hsz]
    · simp [hsz]
    · refine ⟨hrel.base, arr, ty, fz, hnew, by simp, by simpa using hcs, hfz, ?_⟩
      intro k v hk
      obtain ⟨v', x, y⟩ := hr k v hk
      exact ⟨v', by simpa using x, R1.mono hsub y⟩
  · have hb : Below B w w0 := by
      rcases hw0 with rfl | rfl
      · exact Below.refl _ _
      · exact (Below.refl _ _).drew
    exact hb.alloc (by rw [hsz]; exact hrel.base) _
theorem All2.arr {cs : List V} {arr : Array Value} (h : All2 (R1 ι) cs arr.toList) : ∀ (k : Nat) v, cs[k]? = some v → ∃ v', arr[k]? = some v' ∧ R1 ι v v' := by
  intro k v hk
  obtain ⟨v', x, y⟩ := h.get hk
  exact ⟨v', by rw [← x, Array.getElem?_toList], y⟩
theorem sim_alloc {t : TypeId} {zs : List V} (ho : o.op = .alloc t) (hrel : Rel ι B st.heap w) (hfr : ∀ i, st.next ≤ i → i < st'.next → ι i = none) (hz : zeroC P t = some zs) (hx : ex_alloc zs ρ st = some (r, st')) :
    ∃ ι' w', Sim P B ι st.next st'.next w st'.heap r (Go.execOp a.eval o) ι' w' := by
  unfold ex_alloc at hx
  split at hx
  · rename_i j st1 hal
    cases hx
    obtain ⟨z, hzr, hza, _⟩ := zeroC_rel (ι := ι) (w := w) hz
    obtain ⟨h1, h2, h3, h4, rfl⟩ := alloc_sim (ty := t) (fz := (0, 0)) hrel hfr hal (.inl rfl) (by rw [hza.length, Array.length_toList]; exact Nat.le_refl _) (.inl rfl) hza.arr
    refine ⟨_, _, h1, h2, h3, h4, .pointer (some ⟨w.heap.size, 0, none⟩), .inl ?_, _, upd_same _ _ _, rfl⟩
    simp only [Go.execOp, ho]
    exact run_v (by simp [Instr.alloc, hzr, newVar, newRow])
  · cases hx
theorem sim_box {t : TypeId} {x : Operand} (ho : o.op = .box t x) (hrel : Rel ι B st.heap w) (hfr : ∀ i, st.next ≤ i → i < st'.next → ι i = none) {s : Src} (hs : R ι (ρ s) (a.eval x)) (hx : ex_box s ρ st = some (r, st')) :
    ∃ ι' w', Sim P B ι st.next st'.next w st'.heap r (Go.execOp a.eval o) ι' w' := by
  unfold ex_box at hx
  split at hx
  · rename_i cs hcs
    split at hx
    · rename_i j st1 hal
      cases hx
      have hza := hs.cells hcs
      obtain ⟨h1, h2, h3, h4, rfl⟩ := alloc_sim (ty := t) (fz := (0, 0)) hrel hfr hal (.inl rfl) (by rw [hza.length, Array.length_toList]; exact Nat.le_refl _) (.inl rfl) hza.arr
      refine ⟨_, _, h1, h2, h3, h4, .pointer (some ⟨w.heap.size, 0, none⟩), .inl ?_, _, upd_same _ _ _, rfl⟩
      simp only [Go.execOp, ho]
      exact run_v (by simp [Instr.box, newVar, newRow])
    · cases hx
  · cases hx
theorem storeN_sim (hrel : Rel ι B st.heap w) {i q : Nat} {vs : List V} (hst : st.storeN i q vs = some st') {e : Entry} (he : ι i = some e) {vs' : List Value} (hv : All2 (R1 ι) vs vs') :
    ∃ w', (storeCells ⟨e.blk, e.off + q, none⟩ vs' 0).run P w = .ok () w' ∧ Rel ι B st'.heap w' ∧ Below B w w' ∧ st'.next = st.next := by
  unfold St.storeN at hst
  split at hst
  · rename_i cs hg
    split at hst
    · rename_i r hr
      obtain ⟨e1, e2, e3⟩ := splice_eq hr
      obtain ⟨_, _, ⟨ob, hob⟩, rfl⟩ := St.set_some hst
      have hgh := St.get_heap hg
      obtain ⟨e', h1, h2, h3⟩ := hrel.obj i _ hgh
      rw [he] at h1; cases h1
      obtain ⟨hB, arr, ty, fz, k1, k2, k3, k4, k5⟩ := h3
      have hlen := hv.length
      have hfits : e.off + q + vs'.length ≤ arr.size := by omega
      have hcells : ∀ j, j < vs'.length → (w.cell? ⟨e.blk, e.off + q + 0 + j, none⟩).isSome = true := by
        intro j hj
        rw [cell_of_row w e.blk _ arr ty fz k1, Array.getElem?_eq_getElem (by omega)]
        rfl
      have hfroz : ∀ j, j < vs'.length → w.frozen? ⟨e.blk, e.off + q + 0 + j, none⟩ = false := by
        intro j hj
        have hf : w.frozen? ⟨e.blk, e.off + q + 0 + j, none⟩ = (decide (fz.1 ≤ e.off + q + 0 + j) && decide (e.off + q + 0 + j < fz.2)) := by
          unfold World.frozen?; rw [k1]
        rw [hf, Bool.eq_false_iff]
        intro hh
        rw [Bool.and_eq_true, decide_eq_true_eq, decide_eq_true_eq] at hh
        have := k4.out _ hh.1 hh.2
        omega
      have hone : ∀ v ∈ vs', v.oneCell' = true := by
        intro v hmem
        obtain ⟨k, hk⟩ := List.getElem?_of_mem hmem
        have hkl : k < vs.length := by rw [hlen]; exact (List.getElem?_eq_some_iff.1 hk).1
        obtain ⟨v', x, y⟩ := hv.get (List.getElem?_eq_getElem hkl)
        rw [hk] at x; cases x
        exact y.one
      have hrun := run_storeCells_cells (P := P) e.blk (e.off + q) vs' 0 w hcells hfroz hone
      obtain ⟨cs', g1, g2, g3⟩ := setCells_here e.blk vs' (e.off + q + 0) w arr ty fz k1 (by omega)
      obtain ⟨r1, r2, r3, r4⟩ := setCells_rest e.blk vs' (e.off + q + 0) w
      refine ⟨_, hrun, ?_, ?_, rfl⟩
      · refine hrel.update hgh rfl he (fun k hk => setCells_far e.blk vs' _ w k hk) r4 ?_
        refine ⟨hB, cs', ty, fz, g1, by omega, by omega, by rw [g2]; exact k4, ?_⟩
        intro k v hk
        rw [e3 k] at hk
        rw [g3]
        split at hk
        · rename_i hin
          obtain ⟨v', x, y⟩ := hv.get hk
          rw [if_pos (by omega), show e.off + k - (e.off + q + 0) = k - q from by omega]
          exact ⟨v', x, y⟩
        · rename_i hin
          obtain ⟨v', x, y⟩ := k5 k v hk
          rw [if_neg (by omega)]
          exact ⟨v', x, y⟩
      · exact Below.one ⟨r1, r2, r3, by omega, fun k hk => setCells_far e.blk vs' _ w k (by omega)⟩ k1 rfl fun k hk => setCells_far e.blk vs' _ w k hk
    · cases hst
  · cases hst
theorem sim_store {t : TypeId} {x y : Operand} {n : Nat} (ho : o.op = .store t x y) (hrel : Rel ι B st.heap w) {s1 s2 : Src} (h1 : R ι (ρ s1) (a.eval x)) (h2 : R ι (ρ s2) (a.eval y)) (hn : sizeT P t = some n)
    (hx : ex_store n s1 s2 ρ st = some (r, st')) : ∃ ι' w', Sim P B ι st.next st'.next w st'.heap r (Go.execOp a.eval o) ι' w' := by
  unfold ex_store at hx
  split at hx
  · rename_i i q hv
    split at hx
    · rename_i cs hcs
      obtain ⟨hb, hx⟩ := sel_some hx
      rw [Nat.beq_eq] at hb
      split at hx
      · rename_i st1 hst
        cases hx
        rw [hv] at h1
        obtain ⟨e, g1, g2⟩ := inv_ptr h1
        have hc := h2.cells hcs
        obtain ⟨w', k1, k2, k3, k4⟩ := storeN_sim (P := P) hrel hst g1 hc
        refine ⟨ι, w', Sub.refl _, fun _ _ => rfl, k2, k3, undef, .inr ⟨?_, rfl⟩, ⟨#[], rfl, trivial⟩⟩
        have hsz : (a.eval y).cells.size = n := by rw [← hb, hc.length, Array.length_toList]
        simp only [Go.execOp, ho, g2]
        have : (Instr.storeAt t (.pointer (some ⟨e.blk, e.off + q, none⟩)) (a.eval y)).run P w = .ok () w' := by
          simp [Instr.storeAt, Instr.sureAddr, storeVar, run_sizeOf' hn, hsz, k1]
        simp [this]
      · cases hx
    · cases hx
  · cases hx
theorem firstN_sim (hrel : Rel ι B st.heap w) {e n : Nat} {x : V} {v : Value} (hx : R ι x v) {cs : List V} (h : firstN st e n x = some cs) (hn : lenOf x = some n ∨ ∀ m, lenOf x = some m → n ≤ m) :
    ∃ l, (Builtin.firstCells e n v).run P w = .ok ⟨l⟩ w ∧ All2 (R1 ι) cs l := by
  unfold firstN at h
  split at h
  · cases h
    obtain ⟨_, _, rfl⟩ := inv_sliceN hx
    exact ⟨[], rfl, trivial⟩
  · rename_i i q e' len c f
    have hh := sel_some h
    clear h
    obtain ⟨hb, h⟩ := hh
    rw [Bool.and_eq_true, Nat.beq_eq, Nat.ble_eq] at hb
    obtain ⟨rfl, hle⟩ := hb
    obtain ⟨en, y, c', g1, rfl, g3, g4, _, g5⟩ := inv_slice hx
    rcases Nat.eq_zero_or_pos c' with hc | hc
    · have : n = 0 := by omega
      subst this
      have hz : cs = [] := by
        unfold St.loadN at h
        split at h
        · have := (cut_eq h).1
          exact List.eq_nil_of_length_eq_zero (by simpa using this)
        · cases h
      subst hz
      refine ⟨[], ?_, trivial⟩
      simp [Builtin.firstCells, loadCells, loadCellsFrom]
    · obtain ⟨hy, _⟩ := g5.resolve_left (by omega)
      subst hy
      obtain ⟨l', h1, h2, _⟩ := loadN_rel (P := P) hrel h g1
      exact ⟨l', by simpa [Builtin.firstCells] using h1, h2⟩
  · rename_i s
    cases h
    obtain ⟨b, rfl, rfl⟩ := inv_str hx
    refine ⟨(b.data.toList.take n).map fun c => .int .u8 (c.toNat : Int), ?_, ?_⟩
    · simp only [Builtin.firstCells, Sem.run_pure]
      congr 1
      apply Array.ext'
      rw [Array.toList_map, ByteArray.data_extract, Array.toList_extract, List.extract_eq_take_drop]
      simp
    · refine All2.of_get (by simp [strV]) ?_
      intro k v hk
      simp only [strV, List.getElem?_map, List.getElem?_take] at hk
      split at hk
      · simp only [List.getElem?_map, Option.map_map, Option.map_eq_some_iff] at hk
        obtain ⟨c, hc, rfl⟩ := hk
        rename_i hlt
        exact ⟨.int .u8 (c.toNat : Int), by simp [List.getElem?_take, hlt, hc], rfl⟩
      · simp at hk
  · cases h
theorem lenOf_sim {x : V} {v : Value} (hx : R ι x v) {n : Nat} (h : lenOf x = some n) : (Builtin.lenOf v).run P w = .ok n w := by
  unfold lenOf at h
  split at h
  · rename_i p e n' c f
    cases h
    cases p with
    | none => obtain ⟨rfl, rfl, rfl⟩ := inv_sliceN hx; rfl
    | some q => obtain ⟨en, y, c', _, rfl, _⟩ := inv_slice (i := q.1) (o := q.2) hx; rfl
  · cases h
    obtain ⟨b, rfl, rfl⟩ := inv_str hx
    rw [strV_length]; rfl
  · cases h
def Appends (P : Program) (xT elem : TypeId) (x : Value) (m e : Nat) (w w1 : World) (l : List Value) : Prop :=
  (∃ d, P.underlying xT = some d ∧ (∀ k, d ≠ .int k) ∧ (Builtin.lenOf x).run P w = .ok m w ∧ (Builtin.firstCells e m x).run P w1 = .ok ⟨l⟩ w1) ∨
  (∃ k k2 ti z, P.underlying xT = some (.int k) ∧ x = .int k2 (m : Int) ∧ P.info? elem = some ti ∧ m * ti.bytes ≤ 281474976710656 ∧ m < 9223372036854775808 ∧ ti.zero = some z ∧ (m * e = 0 → l = []) ∧ (m * e ≠ 0 → (Builtin.zeroCells z.cells m).toList = l))
theorem run_append_fit {sT xT ty elem : TypeId} {base : Option Addr} {n c' m e : Nat} {x : Value} {new : List Value} {w' : World} (hT : P.underlying sT = some (.slice elem)) (hsz : sizeT P elem = some e)
    (hx : Appends P xT elem x m e w w new) (hfit : n + m ≤ c') (hst : match base with | none => w' = w | some ad => (storeCells (ad.add (n * e)) new).run P w = .ok () w') :
    (Builtin.append_ #[sT, xT] ty #[.slice base n c', x]).run P w = .ok (.slice base (n + m) c') w' := by
  rcases hx with ⟨d, hd, hni, hlen, hfc⟩ | ⟨k, k2, ti, z, hd, rfl, hti, hbm, hm, hz, h0, h1⟩
  · have hz : (match d with | .int _ => true | _ => false) = false := by
      cases d <;> first | rfl | exact absurd rfl (hni _)
    cases base with
    | none =>
      cases hst
      simp [Builtin.append_, run_underlying hT, run_underlying hd, run_sizeOf' hsz, hz, hlen, hfc, hfit]
    | some ad =>
      simp [Builtin.append_, run_underlying hT, run_underlying hd, run_sizeOf' hsz, hz, hlen, hfc, hfit, hst]
  · have hw : IntKind.i64.wrap (m : Int) = m := wrap_i64 (by omega) (by omega)
    have hn : ¬ ((m : Int) < 0) := by omega
    have hb : ¬ ((m : Int) * (ti.bytes : Int) > 2 ^ 48) := by
      have h2 := Int.ofNat_le.2 hbm
      have p48 : (2 : Int) ^ 48 = 281474976710656 := by decide
      rw [Int.natCast_mul] at h2
      rw [p48]
      omega
    have hnew : ∀ w1 : World, (if m * e = 0 then (pure #[] : Sem (Array Value)) else do let q ← zeroValue elem; pure (Builtin.zeroCells q.cells m)).run P w1 = .ok ⟨new⟩ w1 := by
      intro w1
      by_cases hz0 : m * e = 0
      · rw [if_pos hz0, h0 hz0]; rfl
      · rw [if_neg hz0]
        have hq : Builtin.zeroCells z.cells m = ⟨new⟩ := Array.ext' (h1 hz0)
        simp [zeroValue, typeInfo, hti, hz, hq]
    cases base with
    | none =>
      cases hst
      simp only [Builtin.append_, List.getElem?_toArray, List.getElem?_cons_zero, List.getElem?_cons_succ, Sem.run_bind, run_underlying hT, run_underlying hd, Result.andThen_ok, run_sizeOf' hsz, Sem.run_pure, asInt, asIntOf, if_true, hw, if_neg hn, typeInfo, run_program, hti, if_neg hb, Int.toNat_natCast, if_pos hfit, Bool.not_true, Bool.false_eq_true, if_false, hnew]
    | some ad =>
      simp only [Builtin.append_, List.getElem?_toArray, List.getElem?_cons_zero, List.getElem?_cons_succ, Sem.run_bind, run_underlying hT, run_underlying hd, Result.andThen_ok, run_sizeOf' hsz, Sem.run_pure, asInt, asIntOf, if_true, hw, if_neg hn, typeInfo, run_program, hti, if_neg hb, Int.toNat_natCast, if_pos hfit, Bool.not_true, Bool.false_eq_true, if_false, hnew, hst]
theorem run_append_new {sT xT ty elem : TypeId} {ti : TypeInfo} {z : Value} {base : Option Addr} {n c' m e : Nat} {x : Value} {old new : List Value} (hT : P.underlying sT = some (.slice elem)) (hti : P.info? elem = some ti) (hsz : ti.size = e) (hz : ti.zero = some z)
    (hx : Appends P xT elem x m e w w.drew new) (hgrow : c' < n + m) (hroom : (2 * (n + m) + 1024) * ti.bytes ≤ 281474976710656) (hb0 : ti.bytes ≠ 0)
    (hold : (Builtin.firstCells e n (.slice base n c')).run P w.drew = .ok ⟨old⟩ w.drew) :
    (Builtin.append_ #[sT, xT] ty #[.slice base n c', x]).run P w = .ok (.slice (some ⟨w.heap.size, 0, none⟩) (n + m) (grownCap w (n + m) c' elem))
      (w.drew.alloc (.cells ((⟨old⟩ : Array Value) ++ ⟨new⟩ ++ Builtin.zeroCells z.cells (grownCap w (n + m) c' elem - (n + m))) elem)) := by
  have hcap : ¬ (Builtin.nextslicecap (n + m) c' * ti.bytes > 2 ^ 48) := by
    have p48 : (2 : Nat) ^ 48 = 281474976710656 := by decide
    rw [p48]
    have h1 : Builtin.nextslicecap (n + m) c' * ti.bytes ≤ (2 * (n + m) + 1024) * ti.bytes := Nat.mul_le_mul_right _ (Nat.le_trans (nextslicecap_le hgrow) (by omega))
    omega
  have hneed : n + m ≤ 281474976710656 := by
    have : (2 * (n + m) + 1024) * 1 ≤ (2 * (n + m) + 1024) * ti.bytes := Nat.mul_le_mul_left _ (Nat.pos_of_ne_zero hb0)
    omega
  have hmax : (IntKind.i64.max : Int) = 9223372036854775807 := rfl
  have hbig : ¬ (((n + m : Nat) : Int) > IntKind.i64.max) := by rw [hmax]; omega
  have hszT : sizeT P elem = some e := by simp [sizeT, hti, hsz]
  rcases hx with ⟨d, hd, hni, hlen, hfc⟩ | ⟨k, k2, ti', z', hd, rfl, hti', hbm, hm, hz', h0, h1⟩
  · have hzz : (match d with | .int _ => true | _ => false) = false := by
      cases d <;> first | rfl | exact absurd rfl (hni _)
    have hmatch : (∀ {α : Type} (f g : α), (match d with | .int _ => f | _ => g) = g) := by
      intro α f g
      cases d <;> first | rfl | exact absurd rfl (hni _)
    simp only [Builtin.append_, List.getElem?_toArray, List.getElem?_cons_zero, List.getElem?_cons_succ, Sem.run_bind, run_underlying hT, run_underlying hd, Result.andThen_ok, run_sizeOf' hszT, Sem.run_pure, hmatch, Bool.false_eq_true, if_false, hlen, if_neg (Nat.not_le.2 hgrow), typeInfo, run_program, hti, false_or, Bool.not_false, if_true,
      if_neg hcap, if_neg hbig, hb0, or_false, and_false]
    simp only [run_choose, Question.forced, Bool.false_eq_true, if_false, Result.andThen_ok, World.drew_eq, Sem.run_bind, run_askRoom, hold, hfc, zeroValue, typeInfo, run_program, hti, hz, Sem.run_pure, newRow, run_newObj, World.alloc_eq, grownCap]
    rfl
  · have hw : IntKind.i64.wrap (m : Int) = m := wrap_i64 (by omega) (by omega)
    have hn : ¬ ((m : Int) < 0) := by omega
    rw [hti] at hti'; cases hti'
    rw [hz] at hz'; cases hz'
    have hb : ¬ ((m : Int) * (ti.bytes : Int) > 2 ^ 48) := by
      have h2 := Int.ofNat_le.2 hbm
      have p48 : (2 : Int) ^ 48 = 281474976710656 := by decide
      rw [Int.natCast_mul] at h2
      rw [p48]
      omega
    have hbig' : ¬ ((((n + m : Nat) : Int) > IntKind.i64.max) ∧ (True ∨ ti.bytes = 0)) := fun h => hbig h.1
    have hnew : (if m * e = 0 then (pure #[] : Sem (Array Value)) else do let q ← zeroValue elem; pure (Builtin.zeroCells q.cells m)).run P w.drew = .ok ⟨new⟩ w.drew := by
      by_cases hz0 : m * e = 0
      · rw [if_pos hz0, h0 hz0]; rfl
      · rw [if_neg hz0]
        have hq : Builtin.zeroCells z.cells m = ⟨new⟩ := Array.ext' (h1 hz0)
        simp [zeroValue, typeInfo, hti, hz, hq]
    simp only [Builtin.append_, List.getElem?_toArray, List.getElem?_cons_zero, List.getElem?_cons_succ, Sem.run_bind, run_underlying hT, run_underlying hd, Result.andThen_ok, run_sizeOf' hszT, Sem.run_pure, asInt, asIntOf, if_true, hw, if_neg hn, typeInfo, run_program, hti, if_neg hb, Int.toNat_natCast, if_neg (Nat.not_le.2 hgrow), Bool.not_true, Bool.false_eq_true, if_false, if_neg hbig', if_neg hcap]
    have hz' : (zeroValue elem).run P w.drew = .ok z w.drew := by simp [zeroValue, typeInfo, hti, hz]
    simp only [run_choose, Question.forced, Bool.false_eq_true, if_false, Result.andThen_ok, World.drew_eq, Sem.run_bind, typeInfo, run_program, hti, Sem.run_pure, run_askRoom, hold, hnew, hz', newRow, run_newObj, World.alloc_eq, grownCap]
    rfl
theorem zeroCells_size (z : Array Value) (n : Nat) : (Builtin.zeroCells z n).size = n * z.size := by simp [Builtin.zeroCells]
theorem grownCap_le (w : World) (need old : Nat) (t : TypeId) : need ≤ grownCap w need old t := by
  unfold grownCap Question.cut
  exact Nat.le_add_right _ _
theorem cut_len {q n : Nat} {l r : List V} (h : cut q n l = some r) : r.length = n := (cut_eq h).1
theorem grown_sim {z : Value} {e n m cap' : Nat} {olds news : List V} {lo ln : List Value} {j : Nat} (hrel : Rel ι B st.heap w) (hfr : ∀ i, st.next ≤ i → i < st'.next → ι i = none)
    (ha : st.alloc (.cells true (olds ++ news)) = some (j, st')) (ho : All2 (R1 ι) olds lo) (hn : All2 (R1 ι) news ln) (hol : olds.length = n * e) (hnl : news.length = m * e) (hz : z.cells.size = e) (hc : n + m ≤ cap') (arr : Array Value)
    (harr : arr = (⟨lo⟩ : Array Value) ++ ⟨ln⟩ ++ Builtin.zeroCells z.cells (cap' - (n + m))) (ty : TypeId) :
    ∃ ι', Sub ι ι' ∧ (∀ i, (i < st.next ∨ st'.next ≤ i) → ι' i = ι i) ∧ Rel ι' B st'.heap (w.drew.alloc (.cells arr ty)) ∧ Below B w (w.drew.alloc (.cells arr ty)) ∧
      R ι' (.slice (some (j, 0)) e (n + m) (n + m) false) (.slice (some ⟨w.heap.size, 0, none⟩) (n + m) cap') := by
  have hsz : arr.size = cap' * e := by
    rw [harr]
    simp only [Array.size_append, zeroCells_size, hz, List.size_toArray]
    rw [← ho.length, ← hn.length, hol, hnl, ← Nat.add_mul, ← Nat.add_mul]
    congr 1; omega
  have hcs : All2 (R1 ι) (olds ++ news) (lo ++ ln) := ho.append hn
  have hget : ∀ (k : Nat) v, (olds ++ news)[k]? = some v → ∃ v', arr[k]? = some v' ∧ R1 ι v v' := by
    intro k v hk
    obtain ⟨v', x, y⟩ := hcs.get hk
    refine ⟨v', ?_, y⟩
    have hlt := (List.getElem?_eq_some_iff.1 x).1
    rw [harr, ← Array.getElem?_toList]
    simp only [Array.toList_append]
    rw [List.getElem?_append_left hlt]
    exact x
  have hle : (olds ++ news).length ≤ arr.size := by
    rw [hsz, List.length_append, hol, hnl, ← Nat.add_mul]
    exact Nat.mul_le_mul_right _ hc
  obtain ⟨h1, h2, h3, h4, rfl⟩ := alloc_sim (w0 := w.drew) (arr := arr) (ty := ty) (fz := (0, 0)) hrel hfr ha (.inr rfl) hle (.inl rfl) hget
  refine ⟨_, h1, h2, h3, h4, _, ⟨w.heap.size, 0, none⟩, cap', upd_same _ _ _, rfl, Nat.le_refl _, hc, (fun h => by cases h), ?_⟩
  right
  exact ⟨rfl, by simp [hsz]⟩
theorem All2.left_nil {l : List Value} (h : All2 (R1 ι) [] l) : l = [] := by
  cases l with
  | nil => rfl
  | cons => exact h.elim
theorem append_sim {sT xT ty elem : TypeId} {s x : Value} {sv : V} {ti : TypeInfo} {z : Value} {m e : Nat} {new : List V} (hT : P.underlying sT = some (.slice elem)) (hti : P.info? elem = some ti) (hsz : ti.size = e) (hz : ti.zero = some z) (hzs : z.cells.size = e) (he0 : e ≠ 0) (hb0 : ti.bytes ≠ 0)
    (hrel : Rel ι B st.heap w) (hfr : ∀ i, st.next ≤ i → i < st'.next → ι i = none) (hs : R ι sv s) (h0 : m = 0 → new = [])
    (hx : ∀ w1, w1 = w ∨ w1 = w.drew → ∃ l, All2 (R1 ι) new l ∧ Appends P xT elem x m e w w1 l)
    (hap : appendOp st e ti.bytes sv m new = some (r, st')) :
    ∃ ι' w' v, Sub ι ι' ∧ (∀ i, (i < st.next ∨ st'.next ≤ i) → ι' i = ι i) ∧ Rel ι' B st'.heap w' ∧ Below B w w' ∧ (Builtin.append_ #[sT, xT] ty #[s, x]).run P w = .ok v w' ∧ ∃ u, r = .val u ∧ R ι' u v := by
  have hszT : sizeT P elem = some e := by simp [sizeT, hti, hsz]
  unfold appendOp at hap
  split at hap
  case h_2 => cases hap
  rename_i p e' n c fix
  split at hap
  ·
    cases hap
    obtain ⟨l, hl, happ⟩ := hx w (.inl rfl)
    rw [h0 rfl] at hl
    have hl := hl.left_nil
    subst hl
    have key : ∃ base c', s = .slice base n c' ∧ n ≤ c' := by
      cases p with
      | none => obtain ⟨rfl, rfl, rfl⟩ := inv_sliceN hs; exact ⟨_, _, rfl, Nat.le_refl _⟩
      | some q => obtain ⟨en, y, c', _, rfl, h3, h4, _⟩ := inv_slice (i := q.1) (o := q.2) hs; exact ⟨_, _, rfl, by omega⟩
    obtain ⟨base, c', rfl, hle⟩ := key
    refine ⟨ι, w, _, Sub.refl _, fun _ _ => rfl, hrel, Below.refl _ _, run_append_fit (w' := w) hT hszT happ (by omega) ?_, _, rfl, hs⟩
    cases base with
    | none => rfl
    | some ad => rfl
  · rename_i m
    have hh := sel_some hap
    clear hap
    obtain ⟨hcheck, hap⟩ := hh
    rw [Bool.and_eq_true, Nat.ble_eq, Nat.beq_eq] at hcheck
    obtain ⟨hroom, hnl⟩ := hcheck
    cases p with
    | none =>
      dsimp only at hap
      obtain ⟨rfl, rfl, rfl⟩ := inv_sliceN hs
      split at hap
      · rename_i j st1 hal
        cases hap
        obtain ⟨l, hl, happ⟩ := hx w.drew (.inr rfl)
        have hrun := run_append_new (P := P) (w := w) (sT := sT) (xT := xT) (ty := ty) (base := none) (n := 0) (c' := 0) (old := []) hT hti hsz hz happ (by omega) hroom hb0 (by simp [Builtin.firstCells])
        obtain ⟨ι', g1, g2, g3, g4, g5⟩ := grown_sim (e := e) (n := 0) (m := m + 1) (olds := []) (news := new) (lo := []) (ln := l) (cap' := grownCap w (0 + (m + 1)) 0 elem) hrel hfr hal trivial hl (by simp) hnl hzs (grownCap_le _ _ _ _) _ rfl elem
        exact ⟨ι', _, _, g1, g2, g3, g4, hrun, _, rfl, g5⟩
      · cases hap
    | some iq =>
      obtain ⟨i, q⟩ := iq
      dsimp only at hap
      have hh := sel_some hap
      clear hap
      obtain ⟨hee, hap⟩ := hh
      rw [Nat.beq_eq] at hee
      subst hee
      obtain ⟨en, y, c', k1, rfl, k3, k4, k5, k6⟩ := inv_slice hs
      split at hap
      case h_2 => cases hap
      rename_i own cs hget
      have hgh := St.get_heap hget
      obtain ⟨en', x1, x2, x3⟩ := hrel.obj _ _ hgh
      rw [k1] at x1; cases x1
      have hload : ∀ old, cut q (n * e) cs = some old → ∃ lo, (Builtin.firstCells e n (.slice (some y) n c')).run P w.drew = .ok ⟨lo⟩ w.drew ∧ All2 (R1 ι) old lo := by
        intro old hold
        have hln : st.loadN i q (n * e) = some old := by simp only [St.loadN, hget, hold]
        exact firstN_sim (P := P) (st := st) hrel.drew (x := .slice (some (i, q)) e n c fix) hs (by
          show sel (Nat.beq e e && Nat.ble n n) (st.loadN i q (n * e)) none = some old
          rw [show (Nat.beq e e && Nat.ble n n) = true from by rw [Bool.and_eq_true, Nat.beq_eq, Nat.ble_eq]; exact ⟨rfl, Nat.le_refl _⟩]
          exact hln) (.inl rfl)
      have hsel : ∀ {b : Bool} {X Y : Option (Res × St)} {R' : Res × St}, sel b X Y = some R' → (b = true ∧ X = some R') ∨ (b = false ∧ Y = some R') := by
        intro b X Y R' h
        cases b
        · exact .inr ⟨rfl, h⟩
        · exact .inl ⟨rfl, h⟩
      have hh1 := hsel hap
      clear hap
      rcases hh1 with ⟨hfit, hap⟩ | ⟨hfit, hap⟩
      ·
        rw [Nat.ble_eq] at hfit
        split at hap
        · rename_i st1 hst
          cases hap
          obtain ⟨hy, _⟩ := k6.resolve_left (by omega)
          obtain ⟨l, hl, happ⟩ := hx w (.inl rfl)
          obtain ⟨w', g1, g2, g3, _⟩ := storeN_sim (P := P) hrel hst k1 hl
          refine ⟨ι, w', _, Sub.refl _, fun _ _ => rfl, g2, g3, run_append_fit (w' := w') hT hszT happ (by omega) ?_, _, rfl, ?_⟩
          · show (storeCells (y.add (n * e)) l).run P w = .ok () w'
            rw [hy, add_eq, Nat.add_assoc]
            exact g1
          · exact ⟨en, y, c', k1, rfl, hfit, k4, k5, k6⟩
        · cases hap
      · have hfit' : c < n + (m + 1) := by
          rcases Nat.lt_or_ge c (n + (m + 1)) with h | h
          · exact h
          · have h2 : Nat.ble (n + (m + 1)) c = true := by rw [Nat.ble_eq]; exact h
            rw [show Nat.ble (n + (m + 1)) c = false from hfit] at h2; cases h2
        have hh2 := hsel hap
        clear hap
        rcases hh2 with ⟨hfix, hap⟩ | ⟨hfix, hap⟩
        ·
          have hcc := k5 hfix
          split at hap
          · rename_i old hold
            split at hap
            · rename_i j st1 hal
              cases hap
              obtain ⟨lo, hlo, hro⟩ := hload old hold
              obtain ⟨l, hl, happ⟩ := hx w.drew (.inr rfl)
              have hrun := run_append_new (P := P) (w := w) (sT := sT) (xT := xT) (ty := ty) hT hti hsz hz happ (by omega) hroom hb0 hlo
              obtain ⟨ι', g1, g2, g3, g4, g5⟩ := grown_sim (cap' := grownCap w (n + (m + 1)) c' elem) hrel hfr hal hro hl (cut_len hold) hnl hzs (grownCap_le _ _ _ _) _ rfl elem
              exact ⟨ι', _, _, g1, g2, g3, g4, hrun, _, rfl, g5⟩
            · cases hap
          · cases hap
        ·
          have hh := sel_some hap
          clear hap
          obtain ⟨hown, hap⟩ := hh
          rw [Bool.and_eq_true, Nat.beq_eq] at hown
          obtain ⟨hown, hend⟩ := hown
          subst hown
          split at hap
          case h_2 => cases hap
          rename_i old hold
          split at hap
          case h_2 => cases hap
          rename_i st1 hset
          split at hap
          case h_2 => cases hap
          rename_i j st2 hal
          cases hap
          obtain ⟨_, _, _, rfl⟩ := St.set_some hset
          obtain ⟨lo, hlo, hro⟩ := hload old hold
          have hkill := hrel.kill (j := i)
          by_cases hroom2 : n + (m + 1) ≤ c'
          · obtain ⟨hy, htot⟩ := k6.resolve_left (by omega)
            obtain ⟨l, hl, happ⟩ := hx w (.inl rfl)
            obtain ⟨hB, arr, ty', fz, o1, o2, o3, o4, o5⟩ := x3
            have hlen := hl.length
            have hnl' : new.length = (m + 1) * e := hnl
            have hmul : (n + (m + 1)) * e ≤ c' * e := Nat.mul_le_mul_right _ hroom2
            rw [Nat.add_mul] at hmul
            have hfits : en.off + q + n * e + l.length ≤ arr.size := by omega
            have hcells : ∀ k, k < l.length → (w.cell? ⟨en.blk, en.off + q + n * e + 0 + k, none⟩).isSome = true := by
              intro k hk
              rw [cell_of_row w en.blk _ arr ty' fz o1, Array.getElem?_eq_getElem (by omega)]
              rfl
            have hfroz : ∀ k, k < l.length → w.frozen? ⟨en.blk, en.off + q + n * e + 0 + k, none⟩ = false := by
              intro k hk
              have hf : w.frozen? ⟨en.blk, en.off + q + n * e + 0 + k, none⟩ = (decide (fz.1 ≤ en.off + q + n * e + 0 + k) && decide (en.off + q + n * e + 0 + k < fz.2)) := by
                unfold World.frozen?; rw [o1]
              rw [hf, Bool.eq_false_iff]
              intro hh
              rw [Bool.and_eq_true, decide_eq_true_eq, decide_eq_true_eq] at hh
              have := o4.out _ hh.1 hh.2
              omega
            have hone : ∀ v ∈ l, v.oneCell' = true := by
              intro v hmem
              obtain ⟨k, hk⟩ := List.getElem?_of_mem hmem
              have hkl : k < new.length := by rw [hlen]; exact (List.getElem?_eq_some_iff.1 hk).1
              obtain ⟨v', z1, z2⟩ := hl.get (List.getElem?_eq_getElem hkl)
              rw [hk] at z1; cases z1
              exact z2.one
            have hst := run_storeCells_cells (P := P) en.blk (en.off + q + n * e) l 0 w hcells hfroz hone
            obtain ⟨cs', g1, g2, g3⟩ := setCells_here en.blk l (en.off + q + n * e + 0) w arr ty' fz o1 (by omega)
            obtain ⟨r1, r2, r3, r4⟩ := setCells_rest en.blk l (en.off + q + n * e + 0) w
            obtain ⟨_, _, hj, hst2⟩ := St.alloc_some hal
            have hj : j = st.next := hj
            subst hst2
            subst hj
            have hnone : ι st.next = none := hfr _ (Nat.le_refl _) (Nat.lt_succ_self _)
            have hsub := sub_upd (e := ⟨en.blk, en.off + q, en.tot - q⟩) hnone
            refine ⟨upd ι st.next ⟨en.blk, en.off + q, en.tot - q⟩, w.setCells en.blk (en.off + q + n * e + 0) l, .slice (some y) (n + (m + 1)) c', hsub, ?_, ?_, ?_, run_append_fit hT hszT happ hroom2 ?_, _, rfl, ?_⟩
            · intro k hk
              refine upd_other ?_
              simp only at hk
              omega
            · refine hkill.add hnone hB ?_ ?_ (by rw [r4]; exact Nat.le_refl _) (by rw [r4]; exact x2) ?_
              · intro i2 o2' e2' hi2 ho2 he2
                rw [T.get_set] at hi2
                by_cases hii : i2 = i
                · rw [if_pos hii] at hi2; cases hi2
                · rw [if_neg hii] at hi2
                  intro hbb
                  exact hii (hrel.sep i2 i o2' _ e2' en hi2 hgh ho2 rfl he2 k1 hbb)
              · intro k hk _
                exact setCells_far en.blk l _ w k hk
              · refine ⟨hB, cs', ty', fz, g1, ?_, ?_, by rw [g2]; exact o4, ?_⟩
                · show cs'.size = en.off + q + (en.tot - q)
                  omega
                · show (old ++ new).length ≤ en.tot - q
                  rw [List.length_append, cut_len hold, hnl]
                  omega
                · intro k v hk
                  show ∃ v', cs'[en.off + q + k]? = some v' ∧ _
                  rw [g3]
                  by_cases hkn : k < n * e
                  · rw [List.getElem?_append_left (by rw [cut_len hold]; exact hkn)] at hk
                    rw [(cut_eq hold).2 k hkn] at hk
                    obtain ⟨v', z1, z2⟩ := o5 _ _ hk
                    rw [if_neg (by omega)]
                    exact ⟨v', by rw [Nat.add_assoc]; exact z1, R1.mono hsub z2⟩
                  · rw [List.getElem?_append_right (by rw [cut_len hold]; omega), cut_len hold] at hk
                    obtain ⟨v', z1, z2⟩ := hl.get hk
                    have hkl := (List.getElem?_eq_some_iff.1 z1).1
                    rw [if_pos (by omega), show en.off + q + k - (en.off + q + n * e + 0) = k - n * e from by omega]
                    exact ⟨v', z1, R1.mono hsub z2⟩
            · exact Below.one ⟨r1, r2, r3, by omega, fun k hk => setCells_far en.blk l _ w k (by omega)⟩ o1 rfl fun k hk => setCells_far en.blk l _ w k hk
            · show (storeCells (y.add (n * e)) l).run P w = .ok () _
              rw [hy, add_eq]
              exact hst
            · refine ⟨⟨en.blk, en.off + q, en.tot - q⟩, y, c', upd_same _ _ _, rfl, Nat.le_refl _, hroom2, (fun h => by cases h), .inr ⟨by rw [hy]; rfl, ?_⟩⟩
              show 0 + c' * e ≤ en.tot - q
              omega
          · obtain ⟨l, hl, happ⟩ := hx w.drew (.inr rfl)
            have hrun := run_append_new (P := P) (w := w) (sT := sT) (xT := xT) (ty := ty) hT hti hsz hz happ (by omega) hroom hb0 hlo
            obtain ⟨ι', g1, g2, g3, g4, g5⟩ := grown_sim (st := { next := st.next, heap := st.heap.set i none, vis := st.vis, wr := st.wr }) (cap' := grownCap w (n + (m + 1)) c' elem) hkill hfr hal hro hl (cut_len hold) hnl hzs (grownCap_le _ _ _ _) _ rfl elem
            exact ⟨ι', _, _, g1, g2, g3, g4, hrun, _, rfl, g5⟩
end
end Go.Vabs

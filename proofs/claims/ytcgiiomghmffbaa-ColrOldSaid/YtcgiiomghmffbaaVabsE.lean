/- Lemmas for this claim, text E. No condition. -/
import Derived.Test.YtcgiiomghmffbaaVabsD
import Derived.Test.YtcgiiomghmffbaaVabsN
namespace Go.Vabs
set_option linter.unusedSimpArgs false
set_option linter.unusedVariables false
def Good (ι : Map) (sr : Operand → Option Src) (ρ : Src → V) (a : Act) : Prop := ∀ x s, sr x = some s → R ι (ρ s) (a.eval x)
theorem run_v {P : Program} {w w' : World} {s : Sem Value} {x : Value} (h : s.run P w = .ok x w') : (do let y ← s; pure (Next.value y) : Sem Next).run P w = .ok (.value x) w' := by
  simp [h]
theorem inv_bool {ι : Map} {b : Bool} {v : Value} (h : R ι (.bool b) v) : v = .bool b := h
theorem inv_int {ι : Map} {k : IntKind} {n : Int} {v : Value} (h : R ι (.int k n) v) : v = .int k n := h
theorem inv_str {ι : Map} {s : List Nat} {v : Value} (h : R ι (.str s) v) : ∃ b, v = .string b ∧ strV b = s := h
theorem inv_ptr {ι : Map} {i o : Nat} {v : Value} (h : R ι (.ptr (some (i, o))) v) : ∃ e, ι i = some e ∧ v = .pointer (some ⟨e.blk, e.off + o, none⟩) := h
theorem inv_slice {ι : Map} {i o e n c : Nat} {f : Bool} {v : Value} (h : R ι (.slice (some (i, o)) e n c f) v) :
    ∃ en x c', ι i = some en ∧ v = .slice (some x) n c' ∧ n ≤ c ∧ c ≤ c' ∧ (f = true → c' = c) ∧ (c' = 0 ∨ (x = ⟨en.blk, en.off + o, none⟩ ∧ o + c' * e ≤ en.tot)) := h
theorem inv_sliceN {ι : Map} {e n c : Nat} {f : Bool} {v : Value} (h : R ι (.slice none e n c f) v) : n = 0 ∧ c = 0 ∧ v = .slice none 0 0 := h
theorem inv_agg {ι : Map} {cs : List V} {v : Value} (h : R ι (.agg cs) v) : ∃ cs', v = .agg cs' ∧ All2 (R1 ι) cs cs'.toList := h
theorem inv_tuple {ι : Map} {cs : List V} {v : Value} (h : R ι (.tuple cs) v) : ∃ cs', v = .tuple cs' ∧ All2 (R2 ι) cs cs'.toList := h
theorem inv_map {ι : Map} {i : Nat} {v : Value} (h : R ι (.map (some i)) v) : ∃ e, ι i = some e ∧ v = .map (some e.blk) := h
theorem inv_func {ι : Map} {f : Nat} {x y : List V} {v : Value} (h : R ι (.func f x y) v) : ∃ a' b', v = .func (.func f) a' b' ∧ All2 (R0 ι) x a'.toList ∧ All2 (R0 ι) y b'.toList := h
theorem inv_nat {ι : Map} {x : V} {n : Nat} {v : Value} (h : R ι x v) (hn : natOf x = some n) : ∃ k, v = .int k n := by
  unfold natOf at hn
  split at hn
  · cases hn; exact ⟨_, h⟩
  · cases hn
section
variable {P : Program} {B : Nat} {ι : Map} {st st' : St} {w : World} {a : Act} {o : Oper} {ρ : Src → V} {sr : Operand → Option Src} {r : Res}
theorem sim_mv {x : Operand} (ho : o.op = .move x ∨ o.op = .assign x) (hrel : Rel ι B st.heap w) {s : Src} (hs : R ι (ρ s) (a.eval x)) (hx : ex_mv s ρ st = some (r, st')) :
    ∃ ι' w', Sim P B ι st.next st'.next w st'.heap r (Go.execOp a.eval o) ι' w' := by
  cases hx
  exact Sim.still (x := a.eval x) hrel (by rcases ho with ho | ho <;> simp [Go.execOp, ho]) hs
theorem sim_pick {x y z : Operand} (ho : o.op = .pick x y z) (hrel : Rel ι B st.heap w) {s1 s2 s3 : Src} (h1 : R ι (ρ s1) (a.eval x)) (h2 : R ι (ρ s2) (a.eval y)) (h3 : R ι (ρ s3) (a.eval z))
    (hx : ex_pick s1 s2 s3 ρ st = some (r, st')) : ∃ ι' w', Sim P B ι st.next st'.next w st'.heap r (Go.execOp a.eval o) ι' w' := by
  unfold ex_pick at hx
  split at hx
  · rename_i t ht
    cases hx
    rw [ht] at h1
    have e1 := inv_bool h1
    refine Sim.still (x := if t = true then a.eval y else a.eval z) hrel ?_ ?_
    · simp [Go.execOp, ho, e1, asBool]
    · cases t
      · exact h3
      · exact h2
  · cases hx
theorem sim_nilchk {x : Operand} (ho : o.op = .nilCheck x) (hrel : Rel ι B st.heap w) {s : Src} (hs : R ι (ρ s) (a.eval x)) (hx : ex_nilchk s ρ st = some (r, st')) :
    ∃ ι' w', Sim P B ι st.next st'.next w st'.heap r (Go.execOp a.eval o) ι' w' := by
  unfold ex_nilchk at hx
  generalize hv : ρ s = v at hx hs
  cases v with
  | nilFunc => cases hx
  | bad => cases hx
  | yield i => cases hx
  | ptr p =>
    cases p with
    | none => cases hx
    | some q => cases hx; obtain ⟨e, h1, h2⟩ := inv_ptr hs; exact Sim.still (x := a.eval x) hrel (by simp [Go.execOp, ho, h2]) hs
  | bool b => cases hx; exact Sim.still (x := a.eval x) hrel (by simp [Go.execOp, ho, inv_bool hs]) hs
  | int k n => cases hx; exact Sim.still (x := a.eval x) hrel (by simp [Go.execOp, ho, inv_int hs]) hs
  | str q => cases hx; obtain ⟨b, h1, h2⟩ := inv_str hs; exact Sim.still (x := a.eval x) hrel (by simp [Go.execOp, ho, h1]) hs
  | slice q e n c f =>
    cases hx
    cases q with
    | none => exact Sim.still (x := a.eval x) hrel (by simp [Go.execOp, ho, (inv_sliceN hs).2.2]) hs
    | some q => obtain ⟨en, y, c', h1, h2, _⟩ := inv_slice hs; exact Sim.still (x := a.eval x) hrel (by simp [Go.execOp, ho, h2]) hs
  | map q =>
    cases hx
    cases q with
    | none => have e1 : a.eval x = .map none := hs; exact Sim.still (x := a.eval x) hrel (by simp [Go.execOp, ho, e1]) hs
    | some q => obtain ⟨e, h1, h2⟩ := inv_map hs; exact Sim.still (x := a.eval x) hrel (by simp [Go.execOp, ho, h2]) hs
  | func f y z => cases hx; obtain ⟨a', b', h1, _⟩ := inv_func hs; exact Sim.still (x := a.eval x) hrel (by simp [Go.execOp, ho, h1]) hs
  | agg cs => cases hx; obtain ⟨cs', h1, _⟩ := inv_agg hs; exact Sim.still (x := a.eval x) hrel (by simp [Go.execOp, ho, h1]) hs
  | tuple cs => cases hx; obtain ⟨cs', h1, _⟩ := inv_tuple hs; exact Sim.still (x := a.eval x) hrel (by simp [Go.execOp, ho, h1]) hs
theorem sim_un {op : UnOp} {t : TypeId} {x : Operand} (ho : o.op = .unOp op t x) (hrel : Rel ι B st.heap w) {s : Src} (hs : R ι (ρ s) (a.eval x)) (hx : ex_un op s ρ st = some (r, st')) :
    ∃ ι' w', Sim P B ι st.next st'.next w st'.heap r (Go.execOp a.eval o) ι' w' := by
  unfold ex_un at hx
  split at hx
  · rename_i k n hv
    cases hx
    rw [hv] at hs
    refine Sim.still (x := .int k (k.wrap (0 - n))) hrel ?_ (by rw [wrapV_eq]; rfl)
    simp only [Go.execOp, ho, inv_int hs]
    exact run_v (by simp only [Op.unary, Op.intArith]; rfl)
  · rename_i k n hv
    split at hx
    · rename_i q hq
      cases hx
      rw [hv] at hs
      refine Sim.still (x := .int k q) hrel ?_ rfl
      simp only [Go.execOp, ho, inv_int hs]
      exact run_v (by simp only [Op.unary]; exact run_intBits w hq)
    · cases hx
  · rename_i b hv
    cases hx
    rw [hv] at hs
    refine Sim.still (x := .bool (!b)) hrel ?_ rfl
    simp only [Go.execOp, ho, inv_bool hs]
    exact run_v (by simp only [Op.unary]; rfl)
  · cases hx
theorem sim_mkfn {f : Nat} {xs ys : Array Operand} (ho : o.op = .makeFunc (.func f) xs ys) (hrel : Rel ι B st.heap w) {s1 s2 : List Src} (h1 : All2 (fun s x => R ι (ρ s) (a.eval x)) s1 xs.toList)
    (h2 : All2 (fun s x => R ι (ρ s) (a.eval x)) s2 ys.toList) (hx : ex_mkfn f s1 s2 ρ st = some (r, st')) :
    ∃ ι' w', Sim P B ι st.next st'.next w st'.heap r (Go.execOp a.eval o) ι' w' := by
  unfold ex_mkfn at hx
  obtain ⟨hb, hx⟩ := sel_some hx
  cases hx
  rw [Bool.and_eq_true] at hb
  have conv : ∀ (l : List Src) (m : List Operand), All2 (fun s x => R ι (ρ s) (a.eval x)) l m → allB V.base (l.map ρ) = true → All2 (R0 ι) (l.map ρ) (m.map a.eval) := by
    intro l
    induction l with
    | nil => intro m h _; cases m with
      | nil => trivial
      | cons => exact h.elim
    | cons s l ih => intro m h hb; cases m with
      | nil => exact h.elim
      | cons x m =>
        have : sel (V.base (ρ s)) (allB V.base (l.map ρ)) false = true := hb
        cases hbs : V.base (ρ s) with
        | false => rw [hbs] at this; cases this
        | true => rw [hbs] at this; exact ⟨h.1.of_base hbs, ih m h.2 this⟩
  refine Sim.still (x := .func (.func f) (xs.map a.eval) (ys.map a.eval)) hrel ?_ ?_
  · simp only [Go.execOp, ho]; exact run_v (by simp [Instr.makeFunc])
  · exact ⟨_, _, rfl, by simpa using conv _ _ h1 hb.1, by simpa using conv _ _ h2 hb.2⟩
theorem sim_fieldAddr {t : TypeId} {x : Operand} {i : Nat} {fs : Array Go.Field} {f : Go.Field} {n : Nat} (ho : o.op = .fieldAddr t x i) (hrel : Rel ι B st.heap w) {s : Src} (hs : R ι (ρ s) (a.eval x))
    (ht : P.underlying t = some (.struct fs)) (hf : fs[i]? = some f) (hn : sizeT P f.type = some (n + 1)) (hx : ex_fieldAddr f.offset s ρ st = some (r, st')) :
    ∃ ι' w', Sim P B ι st.next st'.next w st'.heap r (Go.execOp a.eval o) ι' w' := by
  unfold ex_fieldAddr at hx
  split at hx
  · rename_i j q hv
    cases hx
    rw [hv] at hs
    obtain ⟨e, h1, h2⟩ := inv_ptr hs
    simp only [sizeT, Option.map_eq_some_iff] at hn
    obtain ⟨ti, hti, hsz⟩ := hn
    refine Sim.still (x := .pointer (some ⟨e.blk, e.off + (q + f.offset), none⟩)) hrel ?_ ⟨e, h1, rfl⟩
    simp only [Go.execOp, ho, h2]
    refine run_v ?_
    have hadd : (⟨e.blk, e.off + q, none⟩ : Addr).add f.offset = ⟨e.blk, e.off + (q + f.offset), none⟩ := by
      unfold Addr.add; split
      · rename_i h0; simp [h0]
      · simp [Nat.add_assoc]
    simp [Instr.fieldAt, run_underlying ht, hf, Instr.sureAddr, fieldPlace, Go.sizeOf, typeInfo, hti, hsz, hadd]
  · cases hx
theorem part_eq {agg : Bool} {n off : Nat} {cs : List V} {v : V} (h : part agg n off cs = some v) :
    (agg = true ∧ ∃ l, v = .agg l ∧ cut off n cs = some l) ∨ (agg = false ∧ cs[off]? = some v) := by
  unfold part at h
  cases agg with
  | true =>
    have h : (match cut off n cs with | some l => some (V.agg l) | none => none) = some v := h
    split at h
    · rename_i l hl; cases h; exact .inl ⟨rfl, l, rfl, hl⟩
    · cases h
  | false =>
    have h : nth off cs = some v := h
    rw [nth_eq] at h
    exact .inr ⟨rfl, h⟩
theorem run_isAgg' {t : TypeId} {b : Bool} (h : aggT P t = some b) : (isAgg t).run P w = .ok b w := by
  unfold aggT at h
  cases hd : P.underlying t with
  | none => rw [hd] at h; cases h
  | some d => rw [hd] at h; simp only [isAgg, Sem.run_bind, run_underlying hd, Result.andThen_ok]; cases d <;> cases h <;> rfl
theorem run_sizeOf' {t : TypeId} {n : Nat} (h : sizeT P t = some n) : (Go.sizeOf t).run P w = .ok n w := by
  simp only [sizeT, Option.map_eq_some_iff] at h
  obtain ⟨ti, hti, hsz⟩ := h
  simp [Go.sizeOf, typeInfo, hti, hsz]
theorem run_part {t : TypeId} {g : Bool} {n off : Nat} {cs : List V} {cs' : Array Value} {v : V} (hg : aggT P t = some g) (hn : sizeT P t = some n) (hcs : All2 (R1 ι) cs cs'.toList)
    (hp : part g n off cs = some v) : ∃ u, (Go.part t cs' off).run P w = .ok u w ∧ R2 ι v u := by
  rcases part_eq hp with ⟨rfl, l, rfl, hl⟩ | ⟨rfl, hv⟩
  · refine ⟨.agg (cs'.extract off (off + n)), ?_, _, rfl, ?_⟩
    · simp [Go.part, run_isAgg' hg, run_sizeOf' hn]
    · obtain ⟨h1, h2⟩ := cut_eq hl
      have hlen := hcs.length
      refine All2.of_get ?_ ?_
      · have : ∀ k, k < n → k + off < cs.length := by
          intro k hk
          have := h2 k hk
          rcases Nat.lt_or_ge (k + off) cs.length with h | h
          · exact h
          · rw [show off + k = k + off from Nat.add_comm _ _, List.getElem?_eq_none h] at this
            rw [List.getElem?_eq_none_iff] at this; omega
        rcases Nat.eq_zero_or_pos n with hn0 | hn0
        · subst hn0; simp [h1]
        · have := this (n - 1) (by omega)
          simp at hlen
          simp [h1]; omega
      · intro k x hk
        have hkn : k < n := by
          rcases Nat.lt_or_ge k n with h | h
          · exact h
          · rw [List.getElem?_eq_none (by omega)] at hk; cases hk
        rw [h2 k hkn] at hk
        obtain ⟨b, hb, hr⟩ := hcs.get hk
        refine ⟨b, ?_, hr⟩
        rw [Array.toList_extract, List.extract_eq_take_drop, List.getElem?_take_of_lt (by omega), List.getElem?_drop]
        exact hb
  · obtain ⟨b, hb, hr⟩ := hcs.get hv
    refine ⟨b, ?_, hr.up2⟩
    have : cs'[off]? = some b := by rw [← hb, Array.getElem?_toList]
    simp [Go.part, run_isAgg' hg, this]
theorem sim_field {t : TypeId} {x : Operand} {i : Nat} {fs : Array Go.Field} {f : Go.Field} {g : Bool} {n : Nat} (ho : o.op = .field t x i) (hrel : Rel ι B st.heap w) {s : Src} (hs : R ι (ρ s) (a.eval x))
    (ht : P.underlying t = some (.struct fs)) (hf : fs[i]? = some f) (hg : aggT P f.type = some g) (hn : sizeT P f.type = some n) (hx : ex_field g n f.offset s ρ st = some (r, st')) :
    ∃ ι' w', Sim P B ι st.next st'.next w st'.heap r (Go.execOp a.eval o) ι' w' := by
  unfold ex_field at hx
  split at hx
  · rename_i cs hv
    split at hx
    · rename_i v hp
      cases hx
      rw [hv] at hs
      obtain ⟨cs', h1, h2⟩ := inv_agg hs
      obtain ⟨u, hu, hr⟩ := run_part (w := w) hg hn h2 hp
      refine Sim.still (x := u) hrel ?_ hr.up
      simp only [Go.execOp, ho, h1]
      exact run_v (by simp [Instr.field, run_underlying ht, hf, asAgg, hu])
    · cases hx
  · cases hx
theorem add_eq (b x k : Nat) : (⟨b, x, none⟩ : Addr).add k = ⟨b, x + k, none⟩ := by
  unfold Addr.add; split
  · rename_i h0; simp [h0]
  · rfl
theorem sim_idxSlice {t e : TypeId} {x y : Operand} {z : Nat} (ho : o.op = .indexAddr t x y) (hrel : Rel ι B st.heap w) {s1 s2 : Src} (h1 : R ι (ρ s1) (a.eval x)) (h2 : R ι (ρ s2) (a.eval y))
    (ht : P.underlying t = some (.slice e)) (hz : sizeT P e = some z) (hx : ex_idxAddr (.slice z) s1 s2 ρ st = some (r, st')) :
    ∃ ι' w', Sim P B ι st.next st'.next w st'.heap r (Go.execOp a.eval o) ι' w' := by
  unfold ex_idxAddr at hx
  split at hx
  · rename_i i hi
    obtain ⟨k, hk⟩ := inv_nat h2 hi
    split at hx
    · rename_i hh _; cases hh
    · rename_i hh1 hv
      cases hh1
      obtain ⟨hb, hx⟩ := sel_some hx
      cases hx
      rw [Bool.and_eq_true, blt_iff, Nat.beq_eq] at hb
      obtain ⟨hlt, rfl⟩ := hb
      rw [hv] at h1
      obtain ⟨en, q, c', g1, g2, g3, g4, _, g5⟩ := inv_slice h1
      have hq : q = ⟨en.blk, en.off + _, none⟩ := (g5.resolve_left (by omega)).1
      refine Sim.still (x := .pointer (some ⟨en.blk, en.off + (_ + i * _), none⟩)) hrel ?_ ⟨en, g1, rfl⟩
      simp only [Go.execOp, ho, g2, hk]
      refine run_v ?_
      have hi' : (i : Int) < (_ : Nat) := Int.ofNat_lt.2 hlt
      simp [Instr.indexAt, asIntOf, run_underlying ht, hlt, run_sizeOf' hz, add_eq, hq, Nat.add_assoc]
    · cases hx
  · cases hx
theorem sim_idxArr {t e : TypeId} {x y : Operand} {n z : Nat} {g : Bool} (ho : o.op = .indexAddr t x y) (hrel : Rel ι B st.heap w) {s1 s2 : Src} (h1 : R ι (ρ s1) (a.eval x)) (h2 : R ι (ρ s2) (a.eval y))
    (ht : P.underlying t = some (.array n e)) (hz : sizeT P e = some z) (hx : ex_idxAddr (.arr n g z) s1 s2 ρ st = some (r, st')) :
    ∃ ι' w', Sim P B ι st.next st'.next w st'.heap r (Go.execOp a.eval o) ι' w' := by
  unfold ex_idxAddr at hx
  split at hx
  · rename_i i hi
    obtain ⟨k, hk⟩ := inv_nat h2 hi
    split at hx
    · rename_i hh hv
      cases hh
      obtain ⟨hb, hx⟩ := sel_some hx
      cases hx
      rw [blt_iff] at hb
      rw [hv] at h1
      obtain ⟨en, g1, g2⟩ := inv_ptr h1
      refine Sim.still (x := .pointer (some ⟨en.blk, en.off + (_ + i * _), none⟩)) hrel ?_ ⟨en, g1, rfl⟩
      simp only [Go.execOp, ho, g2, hk]
      refine run_v ?_
      have hi' : (i : Int) < (_ : Nat) := Int.ofNat_lt.2 hb
      simp [Instr.indexAt, asIntOf, run_underlying ht, Instr.sureAddr, hb, run_sizeOf' hz, add_eq, Nat.add_assoc]
    · rename_i hh _; cases hh
    · cases hx
  · cases hx
theorem sim_indexArr {t e : TypeId} {x y : Operand} {n z : Nat} {g : Bool} (ho : o.op = .index t x y) (hrel : Rel ι B st.heap w) {s1 s2 : Src} (h1 : R ι (ρ s1) (a.eval x)) (h2 : R ι (ρ s2) (a.eval y))
    (ht : P.underlying t = some (.array n e)) (hg : aggT P e = some g) (hz : sizeT P e = some z) (hx : ex_index (.arr n g z) s1 s2 ρ st = some (r, st')) :
    ∃ ι' w', Sim P B ι st.next st'.next w st'.heap r (Go.execOp a.eval o) ι' w' := by
  unfold ex_index at hx
  split at hx
  · rename_i i hi
    obtain ⟨k, hk⟩ := inv_nat h2 hi
    split at hx
    · rename_i hh hv
      cases hh
      obtain ⟨hb, hx⟩ := sel_some hx
      rw [blt_iff] at hb
      split at hx
      · rename_i v hp
        cases hx
        rw [hv] at h1
        obtain ⟨cs', g1, g2⟩ := inv_agg h1
        obtain ⟨u, hu, hr⟩ := run_part (w := w) hg hz g2 hp
        refine Sim.still (x := u) hrel ?_ hr.up
        simp only [Go.execOp, ho, g1, hk]
        refine run_v ?_
        have hi' : (i : Int) < (_ : Nat) := Int.ofNat_lt.2 hb
        simp [Instr.index, asIntOf, run_underlying ht, hb, run_sizeOf' hz, hu]
      · cases hx
    · rename_i hh _; cases hh
    · cases hx
  · cases hx
theorem sim_indexStr {t : TypeId} {x y : Operand} (ho : o.op = .index t x y) (hrel : Rel ι B st.heap w) {s1 s2 : Src} (h1 : R ι (ρ s1) (a.eval x)) (h2 : R ι (ρ s2) (a.eval y))
    (ht : P.underlying t = some .string) (hx : ex_index .str s1 s2 ρ st = some (r, st')) :
    ∃ ι' w', Sim P B ι st.next st'.next w st'.heap r (Go.execOp a.eval o) ι' w' := by
  unfold ex_index at hx
  split at hx
  · rename_i i hi
    obtain ⟨k, hk⟩ := inv_nat h2 hi
    split at hx
    · rename_i hh _; cases hh
    · rename_i hv
      split at hx
      · rename_i b hb
        cases hx
        rw [hv] at h1
        obtain ⟨bs, g1, g2⟩ := inv_str h1
        rw [← g2] at hb
        simp only [strV, List.getElem?_map, Option.map_eq_some_iff] at hb
        obtain ⟨c, hc, rfl⟩ := hb
        have hlt : i < bs.size := by
          have := (List.getElem?_eq_some_iff.1 hc).1
          rw [Array.length_toList] at this
          exact this
        refine Sim.still (x := .int .u8 (c.toNat : Int)) hrel ?_ rfl
        simp only [Go.execOp, ho, g1, hk]
        refine run_v ?_
        have hget : bs[i]? = some c := by
          rw [getElem?_pos bs i hlt]
          obtain ⟨h3, h4⟩ := List.getElem?_eq_some_iff.1 hc
          rw [← h4]; rfl
        simp [Instr.index, asIntOf, run_underlying ht, hget]
      · cases hx
    · cases hx
  · cases hx
theorem sim_extract {x : Operand} {n : Nat} (ho : o.op = .extract x n) (hrel : Rel ι B st.heap w) {s : Src} (hs : R ι (ρ s) (a.eval x)) (hx : ex_extract s n ρ st = some (r, st')) :
    ∃ ι' w', Sim P B ι st.next st'.next w st'.heap r (Go.execOp a.eval o) ι' w' := by
  unfold ex_extract at hx
  split at hx
  · rename_i vs hv
    split at hx
    · rename_i v hn
      cases hx
      rw [hv] at hs
      obtain ⟨cs', g1, g2⟩ := inv_tuple hs
      rw [nth_eq] at hn
      obtain ⟨b, hb, hr⟩ := g2.get hn
      refine Sim.still (x := b) hrel ?_ hr.up
      have : cs'[n]? = some b := by rw [← hb, Array.getElem?_toList]
      simp only [Go.execOp, ho, g1]
      exact run_v (by simp [Instr.extract, this])
    · cases hx
  · cases hx
end
end Go.Vabs

/- Lemmas for this claim, text J. No condition. -/
import Derived.Test.YtcgiiomghmffbaaVabsI
namespace Go.Vabs
set_option linter.unusedSimpArgs false
set_option linter.unusedVariables false
section
variable {P : Program} {B : Nat} {ι : Map} {st st' : St} {w : World} {a : Act} {o : Oper} {ρ : Src → V} {sr : Operand → Option Src} {r : Res}
theorem sim_copy {dT elem : TypeId} {x y : Operand} {c : Go.Call} {ts : List TypeId} {e : Nat} (ho : o.op = .call c) (hc : c.callee = .builtin .copy) (hts : c.argTypes.toList = dT :: ts) (hxs : c.args.toList = [x, y])
    (hT : P.underlying dT = some (.slice elem)) (hsz : sizeT P elem = some e) (he0 : e ≠ 0)
    (hrel : Rel ι B st.heap w) {s1 s2 : Src} (h1 : R ι (ρ s1) (a.eval x)) (h2 : R ι (ρ s2) (a.eval y))
    (hx : ex_copy e s1 s2 ρ st = some (r, st')) : ∃ ι' w', Sim P B ι st.next st'.next w st'.heap r (Go.execOp a.eval o) ι' w' := by
  unfold ex_copy at hx
  split at hx
  case h_2 => cases hx
  rename_i p e' dl cp fix sl hd hsl
  dsimp only at hx
  have hmin : sel (Nat.ble sl dl) sl dl = sl.min dl := by
    rw [ble_eq]
    by_cases hh : sl ≤ dl
    · simp only [hh, decide_true, sel_true]; exact (Nat.min_eq_left hh).symm
    · simp only [hh, decide_false, sel_false]; exact (Nat.min_eq_right (by omega)).symm
  rw [hmin] at hx
  split at hx
  case h_2 => cases hx
  rename_i cs hcs
  rw [hd] at h1
  obtain ⟨l, k1, k2⟩ := firstN_sim (P := P) hrel h2 hcs (.inr fun m hm => by rw [hsl] at hm; cases hm; exact Nat.min_le_left _ _)
  have hlen := lenOf_sim (P := P) (w := w) h2 hsl
  have hargs : c.args.map a.eval = #[a.eval x, a.eval y] := by rw [toArray_eq hxs]; simp
  have hty : c.argTypes[0]? = some dT := by rw [← Array.getElem?_toList, hts]; rfl
  have hmain : ∀ (base : Option Addr) (c' : Nat) (w' : World), a.eval x = .slice base dl c' → (match base with | none => w' = w | some ad => (storeCells ad l).run P w = .ok () w') →
      (Builtin.copy_ c.argTypes o.type (c.args.map a.eval)).run P w = .ok (.int .i64 ((sl.min dl : Nat) : Int)) w' := by
    intro base c' w' hev hst
    rw [hargs]
    cases base with
    | none =>
      cases hst
      simp [Builtin.copy_, hty, run_underlying hT, hev, hlen, run_sizeOf' hsz, k1, goInt]
    | some ad =>
      simp [Builtin.copy_, hty, run_underlying hT, hev, hlen, run_sizeOf' hsz, k1, goInt, hst]
  split at hx
  · cases hx
    obtain ⟨rfl, rfl, hev⟩ := inv_sliceN h1
    refine Sim.still (x := .int .i64 ((sl.min 0 : Nat) : Int)) hrel (run_builtin ho hc ?_) rfl
    simp only [Go.builtin, Sem.run_bind, hmain none 0 w hev rfl, Result.andThen_ok, Sem.run_pure]
  · rename_i i q
    have hh := sel_some hx
    clear hx
    obtain ⟨hcheck, hx⟩ := hh
    rw [Bool.and_eq_true, Nat.beq_eq, Nat.ble_eq] at hcheck
    obtain ⟨rfl, hdl⟩ := hcheck
    split at hx
    case h_2 => cases hx
    rename_i st1 hst
    cases hx
    obtain ⟨en, z, c', g1, hev, g3, g4, g5, g6⟩ := inv_slice h1
    obtain ⟨w', q1, q2, q3, q4⟩ := storeN_sim (P := P) hrel hst g1 k2
    refine ⟨ι, w', Sub.refl _, fun _ _ => rfl, q2, q3, .int .i64 ((sl.min dl : Nat) : Int), .inl (run_builtin ho hc ?_), rfl⟩
    have hst2 : (storeCells z l).run P w = .ok () w' := by
      rcases Nat.eq_zero_or_pos c' with h0 | h0
      · have hdl0 : dl = 0 := by omega
        have hl0 : l = [] := by
          have hn0 : sl.min dl = 0 := by rw [hdl0]; exact Nat.min_zero _
          rw [hn0] at hcs
          have := firstN_zero hcs
          rw [this] at k2
          exact k2.left_nil
        subst hl0
        have : w' = w := by
          have hq : (storeCells ⟨en.blk, en.off + q, none⟩ [] 0).run P w = .ok () w := rfl
          rw [hq] at q1
          cases q1; rfl
        rw [this]; rfl
      · obtain ⟨hz, _⟩ := g6.resolve_left (by omega)
        rw [hz]; exact q1
    simp only [Go.builtin, Sem.run_bind, hmain (some z) c' w' hev hst2, Result.andThen_ok, Sem.run_pure]
theorem strV_foldl : ∀ (ns : List Nat) (s : ByteArray), strV ((ns.map fun n => (Int.ofNat n)).foldl (fun r n => r.push (UInt8.ofNat n.toNat)) s) = strV s ++ ns.map (· % 256)
  | [], s => by simp
  | n :: ns, s => by
    simp only [List.map_cons, List.foldl_cons]
    rw [strV_foldl ns]
    have : strV (s.push (UInt8.ofNat (Int.ofNat n).toNat)) = strV s ++ [n % 256] := by
      simp only [strV, ByteArray.push, Array.toList_push, List.map_append, List.map_cons, List.map_nil]
      simp
    rw [this]; simp
theorem bytesOf_rel : ∀ {cs : List V} {s : List Nat} {l : List Value}, bytesOf cs = some s → All2 (R1 ι) cs l → ∃ ns : List Nat, l = (ns.map fun n => Int.ofNat n).map (Value.int .u8) ∧ s = ns.map (· % 256)
  | [], s, l, h, hr => by
    cases h
    cases l with
    | nil => exact ⟨[], rfl, rfl⟩
    | cons => exact hr.elim
  | c :: cs, s, l, h, hr => by
    cases l with
    | nil => exact hr.elim
    | cons v l =>
      unfold bytesOf at h
      split at h
      · rename_i heq; cases heq
      · rename_i n l' heq
        cases heq
        split at h
        · rename_i s' hs'
          cases h
          obtain ⟨ns, rfl, rfl⟩ := bytesOf_rel hs' hr.2
          have hv : v = .int .u8 (Int.ofNat n) := hr.1
          exact ⟨n :: ns, by rw [hv]; rfl, rfl⟩
        · cases h
      · cases h
theorem sim_toStr' {src dst e : TypeId} {x : Operand} (ho : o.op = .convert src dst x) (hrel : Rel ι B st.heap w) {s : Src} (hs : R ι (ρ s) (a.eval x))
    (h1 : P.underlying src = some (.slice e)) (h2 : P.underlying dst = some .string) (h3 : P.underlying e = some (.int .u8)) (hx : ex_conv .toStr s ρ st = some (r, st')) :
    ∃ ι' w', Sim P B ι st.next st'.next w st'.heap r (Go.execOp a.eval o) ι' w' := by
  unfold ex_conv at hx
  split at hx
  · rename_i hh _; cases hh
  · rename_i hh _; cases hh
  · rename_i hh _; cases hh
  · rename_i e1 n c f hv
    cases hx
    rw [hv] at hs
    obtain ⟨rfl, rfl, hev⟩ := inv_sliceN hs
    refine Sim.still (x := .string ByteArray.empty) hrel ?_ ⟨_, rfl, rfl⟩
    simp only [Go.execOp, ho, hev]
    refine run_v ?_
    rw [run_convert_bytes_string w src dst e none 0 0 h1 h3 h2]
    rfl
  · rename_i i q e1 n c f _ hv
    have hh := sel_some hx
    clear hx
    obtain ⟨he, hx⟩ := hh
    split at hx
    case h_2 => cases hx
    rename_i cs hcs
    split at hx
    case h_2 => cases hx
    rename_i bs hbs
    cases hx
    rw [hv] at hs
    obtain ⟨en, y, c', g1, hev, g3, g4, g5, g6⟩ := inv_slice hs
    have key : ∃ l, (loadCells y n).run P w = .ok ⟨l⟩ w ∧ All2 (R1 ι) cs l := by
      rcases Nat.eq_zero_or_pos c' with h0 | h0
      · have hn : n = 0 := by omega
        subst hn
        have hz : cs = [] := by
          unfold St.loadN at hcs
          split at hcs
          · exact List.eq_nil_of_length_eq_zero (cut_eq hcs).1
          · cases hcs
        subst hz
        exact ⟨[], by simp [loadCells, loadCellsFrom], trivial⟩
      · obtain ⟨hy, _⟩ := g6.resolve_left (by omega)
        subst hy
        obtain ⟨l', q1, q2, _⟩ := loadN_rel (P := P) hrel hcs g1
        exact ⟨l', q1, q2⟩
    obtain ⟨l, q1, q2⟩ := key
    obtain ⟨ns, rfl, rfl⟩ := bytesOf_rel hbs q2
    refine Sim.still (x := .string ((ns.map fun n => Int.ofNat n).foldl (fun r n => r.push (UInt8.ofNat n.toNat)) ByteArray.empty)) hrel ?_ ⟨_, rfl, ?_⟩
    · simp only [Go.execOp, ho, hev]
      refine run_v ?_
      rw [run_convert_bytes_string w src dst e _ _ _ h1 h3 h2]
      exact run_bytesToString w _ n c' _ q1
    · rw [strV_foldl]; rfl
  · rename_i hh _; cases hh
  · cases hx
theorem sim_convInt {src dst : TypeId} {k0 k : IntKind} {x : Operand} (ho : o.op = .convert src dst x) (hrel : Rel ι B st.heap w) {s : Src} (hs : R ι (ρ s) (a.eval x))
    (h1 : P.underlying src = some (.int k0)) (h2 : P.underlying dst = some (.int k)) (hx : ex_conv (.int k) s ρ st = some (r, st')) :
    ∃ ι' w', Sim P B ι st.next st'.next w st'.heap r (Go.execOp a.eval o) ι' w' := by
  unfold ex_conv at hx
  split at hx
  · rename_i k1 k2 n hk hv
    cases hk
    cases hx
    rw [hv] at hs
    have e1 := inv_int hs
    refine Sim.still (x := .int k (k.wrap n)) hrel ?_ (by rw [wrapV_eq]; rfl)
    simp only [Go.execOp, ho, e1]
    refine run_v ?_
    simp only [Go.convert, Sem.run_bind, run_underlying h1, run_underlying h2, Result.andThen_ok]
    rfl
  · rename_i hh _; cases hh
  · rename_i hh _; cases hh
  · rename_i hh _; cases hh
  · rename_i hh _; cases hh
  · rename_i hh _; cases hh
  · cases hx
theorem sim_convStr {src dst : TypeId} {x : Operand} (ho : o.op = .convert src dst x) (hrel : Rel ι B st.heap w) {s : Src} (hs : R ι (ρ s) (a.eval x))
    (h1 : P.underlying src = some .string) (h2 : P.underlying dst = some .string) (hx : ex_conv .str s ρ st = some (r, st')) :
    ∃ ι' w', Sim P B ι st.next st'.next w st'.heap r (Go.execOp a.eval o) ι' w' := by
  unfold ex_conv at hx
  split at hx
  · rename_i hh _; cases hh
  · rename_i q hk hv
    cases hx
    rw [hv] at hs
    obtain ⟨b, e1, e2⟩ := inv_str hs
    refine Sim.still (x := .string b) hrel ?_ ⟨b, rfl, e2⟩
    simp only [Go.execOp, ho, e1]
    refine run_v ?_
    simp only [Go.convert, Sem.run_bind, run_underlying h1, run_underlying h2, Result.andThen_ok]
    rfl
  · rename_i hh _; cases hh
  · rename_i hh _; cases hh
  · rename_i hh _; cases hh
  · rename_i hh _; cases hh
  · cases hx
theorem sim_toBytes {src dst e : TypeId} {x : Operand} (ho : o.op = .convert src dst x) (hrel : Rel ι B st.heap w) (hfr : ∀ i, st.next ≤ i → i < st'.next → ι i = none) {s : Src} (hs : R ι (ρ s) (a.eval x))
    (h1 : P.underlying src = some .string) (h2 : P.underlying dst = some (.slice e)) (h3 : P.underlying e = some (.int .u8)) (hx : ex_conv .toBytes s ρ st = some (r, st')) :
    ∃ ι' w', Sim P B ι st.next st'.next w st'.heap r (Go.execOp a.eval o) ι' w' := by
  unfold ex_conv at hx
  split at hx
  · rename_i hh _; cases hh
  · rename_i hh _; cases hh
  · rename_i q hk hv
    split at hx
    case h_2 => cases hx
    rename_i j st1 hal
    cases hx
    rw [hv] at hs
    obtain ⟨b, e1, e2⟩ := inv_str hs
    have hcap := grownCap_le w b.size 0 e
    have hsz : (bytesRow b (grownCap w b.size 0 e)).size = grownCap w b.size 0 e := by
      have : b.data.size = b.size := rfl
      simp [bytesRow]; omega
    have hrel2 : ∀ (k : Nat) v, (q.map fun b => V.int .u8 (.ofNat b))[k]? = some v → ∃ v', (bytesRow b (grownCap w b.size 0 e))[k]? = some v' ∧ R1 ι v v' := by
      intro k v hk
      rw [← e2] at hk
      simp only [strV, List.map_map, List.getElem?_map, Option.map_eq_some_iff] at hk
      obtain ⟨c, hc, rfl⟩ := hk
      refine ⟨.int .u8 (c.toNat : Int), ?_, rfl⟩
      have hkl : k < b.data.size := by
        have := (List.getElem?_eq_some_iff.1 hc).1
        simpa using this
      rw [← Array.getElem?_toList]
      simp only [bytesRow, Array.toList_append, Array.toList_map]
      rw [List.getElem?_append_left (by simpa using hkl)]
      simp only [List.getElem?_map, hc, Option.map_some]
    obtain ⟨g1, g2, g3, g4, rfl⟩ := alloc_sim (w0 := w.drew) (arr := bytesRow b (grownCap w b.size 0 e)) (ty := e) (fz := ((bytesRow b (grownCap w b.size 0 e)).size, (bytesRow b (grownCap w b.size 0 e)).size + 1)) hrel hfr hal (.inr rfl)
      (by rw [List.length_map, ← e2, strV_length, hsz]; exact hcap) (.inr (Nat.le_refl _)) hrel2
    refine ⟨_, _, g1, g2, g3, g4, .slice (some ⟨w.heap.size, 0, none⟩) b.size (grownCap w b.size 0 e), .inl ?_, ?_⟩
    · simp only [Go.execOp, ho, e1]
      exact run_v (run_bytes_of_string w src dst e b h1 h2 h3)
    · have hl : q.length = b.size := by rw [← e2, strV_length]
      rw [hl]
      refine ⟨_, ⟨w.heap.size, 0, none⟩, _, upd_same _ _ _, rfl, Nat.le_refl _, hcap, (fun h => by cases h), .inr ⟨rfl, ?_⟩⟩
      simp [hsz]
  · rename_i hh _; cases hh
  · rename_i hh _; cases hh
  · rename_i hh _; cases hh
  · cases hx
theorem sim_convSame {src dst e0 e : TypeId} {x : Operand} (ho : o.op = .convert src dst x) (hrel : Rel ι B st.heap w) {s : Src} (hs : R ι (ρ s) (a.eval x)) (hsd : src = dst)
    (h1 : P.underlying src = some (.slice e0)) (h2 : P.underlying dst = some (.slice e)) (h3 : P.underlying e = some (.int .u8)) (hx : ex_conv .same s ρ st = some (r, st')) :
    ∃ ι' w', Sim P B ι st.next st'.next w st'.heap r (Go.execOp a.eval o) ι' w' := by
  unfold ex_conv at hx
  split at hx
  · rename_i hh _; cases hh
  · rename_i hh _; cases hh
  · rename_i hh _; cases hh
  · rename_i hh _; cases hh
  · rename_i hh _; cases hh
  · rename_i i q e' n c f _ hv
    split at hx
    case h_2 => cases hx
    rename_i cs hg
    cases hx
    have hs0 := hs
    rw [hv] at hs
    obtain ⟨en, y, c', g1, hev, _, hc1, _, hyb⟩ := inv_slice hs
    have hyb : y.block = en.blk := by
      rcases hyb with h | ⟨h, _⟩
      · omega
      · rw [h]
    obtain ⟨en', k1, k2, hB, arr, ty, fz, k3, k4, k5, k6, k7⟩ := get_obj hrel hg
    rw [g1] at k1; cases k1
    have hshape : w.shape? en.blk = some (ty, arr.size) := by simp [World.shape?, k3]
    have hheap : ∀ k, (w.freeze ⟨en.blk, arr.size, none⟩ 1).heap[k]? = if k = en.blk then some (.cells arr ty (if fz.1 == fz.2 then (arr.size, arr.size + 1) else (min fz.1 arr.size, max fz.2 (arr.size + 1)))) else w.heap[k]? := by
      intro k
      show (w.heap.modify en.blk _)[k]? = _
      rw [Array.getElem?_modify]
      by_cases hk : en.blk = k
      · subst hk
        rw [if_pos rfl, if_pos rfl, k3]
        rfl
      · rw [if_neg hk, if_neg (fun e => hk e.symm)]
    have hsz : (w.freeze ⟨en.blk, arr.size, none⟩ 1).heap.size = w.heap.size := by
      show (w.heap.modify en.blk _).size = _
      rw [Array.size_modify]
    have hfz : fzOk arr.size (if fz.1 == fz.2 then (arr.size, arr.size + 1) else (min fz.1 arr.size, max fz.2 (arr.size + 1))) := by
      split
      · exact .inr (Nat.le_refl _)
      · rename_i hne
        rcases k6 with h | h
        · simp [h] at hne
        · right
          show arr.size ≤ min fz.1 arr.size
          omega
    have hup := hrel.update (w' := w.freeze ⟨en.blk, arr.size, none⟩ 1) (o' := .cells true cs) (St.get_heap hg) rfl g1 (fun k hk => by rw [hheap, if_neg hk]) hsz ⟨hB, arr, ty, _, by rw [hheap, if_pos rfl], k4, k5, hfz, k7⟩
    refine ⟨ι, w.freeze ⟨en.blk, arr.size, none⟩ 1, Sub.refl _, fun _ _ => rfl, hup.congr fun j => ?_, Below.one ⟨rfl, rfl, rfl, by rw [hsz]; exact Nat.le_refl _, fun k hk => by rw [hheap, if_neg (by omega)]⟩ k3 rfl (fun k hk => by rw [hheap, if_neg hk]), a.eval x, .inl ?_, by rw [← hv]; exact hs0⟩
    · rw [T.get_set]
      by_cases hj : j = i
      · subst hj; rw [if_pos rfl, St.get_heap hg]
      · rw [if_neg hj]
    · simp only [Go.execOp, ho]
      refine run_v ?_
      rw [hev]
      subst hsd
      simp [Go.convert, run_underlying h2, run_underlying h3, markStringish, hyb, hshape, Result.andThen]
  · cases hx
def Callable (P : Program) (g : Nat) : Prop := ∃ fn, P.funcs[g]? = some fn ∧ fn.body.isSome = true ∧ (fn.name == "runtime.NumGoroutine") = false
theorem run_callFunc {g : Nat} (hc : Callable P g) (args : Array Value) : (Go.callFunc g args).run P w = .ok (.enter g args) w := by
  obtain ⟨fn, h1, h2, h3⟩ := hc
  have h4 : ¬ (fn.body.isNone = true) := by cases hb : fn.body <;> simp_all
  simp only [Go.callFunc, Sem.run_bind, run_program, Result.andThen_ok, h1, h3, Bool.false_eq_true, if_false, if_neg h4, Sem.run_pure]
theorem sim_call {g : Nat} {c : Go.Call} {ss : List Src} (ho : o.op = .call c) (hc : c.callee = .value (.func g)) (hss : All2 (fun s x => R ι (ρ s) (a.eval x)) ss c.args.toList) (hrel : Rel ι B st.heap w) (hcall : Callable P g)
    (hx : ex_call g ss ρ st = some (r, st')) : ∃ ι' w', Sim P B ι st.next st'.next w st'.heap r (Go.execOp a.eval o) ι' w' := by
  cases hx
  refine ⟨ι, w, Sub.refl _, fun _ _ => rfl, hrel, Below.refl _ _, c.args.map a.eval, ?_, ?_⟩
  · simp only [Go.execOp, ho, Go.resolve, hc, Act.eval, Deferred.ofValue, Sem.run_bind, Sem.run_pure, Result.andThen_ok, Go.invoke]
    rw [run_callFunc hcall]
    simp
  · rw [Array.toList_map]; exact hss.map_eval
theorem sim_callv {y : Operand} {c : Go.Call} {s : Src} {ss : List Src} (ho : o.op = .call c) (hc : c.callee = .value y) (hs : R ι (ρ s) (a.eval y)) (hss : All2 (fun s x => R ι (ρ s) (a.eval x)) ss c.args.toList) (hrel : Rel ι B st.heap w)
    (hx : ex_callv s ss ρ st = some (r, st')) (hcall : ∀ g args, r = .enter g args → Callable P g) : ∃ ι' w', Sim P B ι st.next st'.next w st'.heap r (Go.execOp a.eval o) ι' w' := by
  unfold ex_callv at hx
  split at hx
  · rename_i g p q hv
    cases hx
    rw [hv] at hs
    obtain ⟨a', b', e1, e2, e3⟩ := inv_func hs
    refine ⟨ι, w, Sub.refl _, fun _ _ => rfl, hrel, Below.refl _ _, a' ++ c.args.map a.eval ++ b', ?_, ?_⟩
    · simp only [Go.execOp, ho, Go.resolve, hc, e1, Deferred.ofValue, Sem.run_bind, Sem.run_pure, Result.andThen_ok, Go.invoke]
      exact run_callFunc (hcall _ _ rfl) _
    · simp only [Array.toList_append, Array.toList_map]
      exact ((e2.mono fun _ _ h => h.up).append hss.map_eval).append (e3.mono fun _ _ h => h.up)
  · cases hx
end
end Go.Vabs

/-
  Arrays of whole numbers as parameters; laws of a slice of whole numbers ahead of them.
-/
import Derived.Test.YtpbafimkplhknaaVabsZg
import Derived.OpenShut
namespace Go.Vabs
set_option linter.unusedVariables false
set_option linter.unusedSimpArgs false
section
variable {H : Type} {enc : TypeId × Value → H} {P : Program} {w : World} {base : Nat} {spare : Nat → Bool} {held : Bool}
/-- An array of whole numbers, opened. -/
theorem open_nums {n : Nat} {t e : TypeId} {k : IntKind} {r : Reach} {b0 : Nat} {v : Value} {d : DataW H} {ps : List MemPlace} (ht : P.underlying t = some (.array n e)) (he : P.underlying e = some (.int k)) (hc : P.cellsOf e = 1) (hct : P.cellsOf t = n)
    (hval : Value.okWide P w r b0 t v) (hd : DataW.Trod enc P w base spare held t v d ps) : ∃ ns : List Int, v = .agg (ns.map (Value.int k)).toArray ∧ ns.length = n ∧ ∀ x ∈ ns, (Lit.int k x).wf = true := by
  unfold Value.okWide at hval
  rw [ht] at hval
  obtain ⟨cs, rfl, hsz, _⟩ := hval
  obtain ⟨fuel, hf⟩ := hd
  obtain ⟨xs, m, _, _, hl, hxl, hx⟩ := DataW.trod_array ht hf
  have hcells : (Value.agg cs).cells.toList = cs.toList := rfl
  rw [hcells] at hl hx
  have hat : ∀ i, i < n → ∃ x, cs.toList[i]? = some (.int k x) ∧ (Lit.int k x).wf = true := fun i hi => by
    have h1 := hx i hi
    rw [List.getElem?_eq_getElem (by omega)] at h1
    obtain ⟨x, h2, _, h3⟩ := DataW.trod_int he h1
    rw [hc, Nat.mul_one] at h2
    refine ⟨x, ?_, h3⟩
    have h4 : ((cs.toList.drop i).take 1)[0]? = some (.int k x) := by rw [h2]; rfl
    rw [List.getElem?_take_of_lt (by omega), List.getElem?_drop, Nat.add_zero] at h4
    exact h4
  have hlen : cs.toList.length = n := by rw [hl, hct]
  let ns : List Int := cs.toList.map fun v => match v with | .int _ x => x | _ => 0
  have hns : cs.toList = ns.map (Value.int k) := by
    refine List.ext_getElem? fun i => ?_
    by_cases hi : i < n
    · obtain ⟨x, h1, _⟩ := hat i hi
      simp only [ns, List.map_map, List.getElem?_map, h1]
      rfl
    · rw [List.getElem?_eq_none (by omega), List.getElem?_eq_none (by simp only [ns, List.length_map]; omega)]
  refine ⟨ns, ?_, by simp only [ns, List.length_map]; exact hlen, fun x hm => ?_⟩
  · rw [← hns]
  · obtain ⟨i, hi, hxi⟩ := List.mem_iff_getElem.1 hm
    have hi' : i < n := by simp only [ns, List.length_map] at hi; omega
    obtain ⟨y, h1, h2⟩ := hat i hi'
    have h3 : ns[i]? = some y := by simp only [ns, List.getElem?_map, h1]; rfl
    rw [List.getElem?_eq_getElem hi, hxi] at h3
    cases h3
    exact h2
end
/-- Flat values, aggregates of such. -/
theorem flatA_args {ι ι' : Map} : ∀ {vs : List V} {xs : List Value}, vs.all V.flatA = true → All2 (R ι) vs xs → All2 (R ι') vs xs
  | [], [], _, _ => trivial
  | v :: vs, x :: xs, h, ⟨a, b⟩ => by
    simp only [List.all_cons, Bool.and_eq_true] at h
    exact ⟨flatA_R h.1 a, flatA_args h.2 b⟩
  | [], _ :: _, _, h => h.elim
  | _ :: _, [], _, h => h.elim
/-- A law of a slice of whole numbers ahead of arguments that lead nowhere. -/
theorem Sound.law_row {P : Program} {call : CallT} (h : Sound P call) {g : Nat} {W : World} {k : IntKind} {a : Option Addr} {len cap : Nat} {zs : List Int} (hrow : IsRow k W a len cap zs) {rest : List V} {rest' : List Value}
    (hr : rest.all V.flatA = true) (hargs : All2 (R fun _ => none) rest rest')
    (hrun : ∀ nil ns, (nil = true → ns = []) → (∀ n ∈ ns, (Lit.int k n).wf = true) → ns.length = len → ∃ s1, call g (slAt nil 0 len :: rest) (few [objOf nil (intsV k ns)]) = some (.bool true, s1)) :
    Calls P g (Value.slice a len cap :: rest').toArray W fun e W' => e = .returned (.bool true) ∧ Go.RowKit.Below W.heap.size W W' := by
  obtain ⟨nil, ns, e, l1, n1, w1, b1, r1⟩ := row_obj hrow
  obtain ⟨s1, hs⟩ := hrun nil ns n1 w1 l1
  let ι : Map := fun i => if i = 0 then (if nil then none else some e) else none
  refine h.law hs (few_neat _) (ι := ι) ⟨Nat.le_refl _, ?_, ?_⟩ (fun i hi => ?_) ⟨r1 ι 0 (fun hn => by show (if (0 : Nat) = 0 then _ else _) = _; rw [if_pos rfl, hn]; rfl), flatA_args hr hargs⟩
  · intro i o hi
    rw [few_heap] at hi
    match i, hi with
    | 0, hi =>
      cases nil with
      | true => cases hi
      | false =>
        cases hi
        refine ⟨e, rfl, (b1 rfl).1, (b1 rfl).1, fun j v hv => ?_⟩
        rw [intsV_at, Option.map_eq_some_iff] at hv
        obtain ⟨n, hn, rfl⟩ := hv
        exact ⟨_, (b1 rfl).2 j n hn, rfl⟩
    | i + 1, hi => simp at hi
  · intro i j o o' e1 e2 hi hj ho
    exfalso
    rw [few_heap] at hi
    match i, hi with
    | 0, hi => cases nil <;> cases hi; cases ho
    | i + 1, hi => simp at hi
  · have hi : 1 ≤ i := hi
    show (if i = 0 then _ else none) = none
    rw [if_neg (by omega)]
end Go.Vabs

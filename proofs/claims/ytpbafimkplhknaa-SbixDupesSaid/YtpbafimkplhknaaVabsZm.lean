/-
  Arrays of whole numbers as parameters; laws of a slice of whole numbers ahead of them.
-/
import Derived.Test.YtpbafimkplhknaaVabsZg
import Derived.OpenShut
namespace Go.Vabs
set_option linter.unusedVariables false
set_option linter.unusedSimpArgs false
section
variable {H : Type} {enc : TypeId × Value → H} {P : Program} {w : World} {base : Nat} {spare : Nat → Bool} {held : Bool}
/-- An array of whole numbers, opened. -/
theorem open_nums {n : Nat} {t e : TypeId} {k : IntKind} {r : Reach} {b0 : Nat} {v : Value} {d : DataW H} {ps : List MemPlace} (ht : P.underlying t = some (.array n e)) (he : P.underlying e = some (.int k)) (hc : P.cellsOf e = 1) (hct : P.cellsOf t = n)
    (hval : Value.okWide P w r b0 t v) (hd : DataW.Trod enc P w base spare held t v d ps) : ∃ ns : List Int, v = .agg (ns.map (Value.int k)).toArray ∧ ns.length = n ∧ ∀ x ∈ ns, (Lit.int k x).wf = true := by
  unfold Value.okWide at hval
  rw [ht] at hval
  obtain ⟨cs, rfl, hsz, _⟩ := hval
  obtain ⟨fuel, hf⟩ := hd
  obtain ⟨xs, m, _, _, hl, hxl, hx⟩ := DataW.trod_array ht hf
  have hcells : (Value.agg cs).cells.toList = cs.toList := rfl
  rw [hcells] at hl hx
  have hat : ∀ i, i < n → ∃ x, cs.toList[i]? = some (.int k x) ∧ (Lit.int k x).wf = true := fun i hi => by
    have h1 := hx i hi
    rw [List.getElem?_eq_getElem (by omega)] at h1
    obtain ⟨x, h2, _, h3⟩ := DataW.trod_int he h1
    rw [hc, Nat.mul_one] at h2
    refine ⟨x, ?_, h3⟩
    have h4 : ((cs.toList.drop i).take 1)[0]? = some (.int k x) := by rw [h2]; rfl
    rw [List.getElem?_take_of_lt (by omega), List.getElem?_drop, Nat.add_zero] at h4
    exact h4
  have hlen : cs.toList.length = n := by rw [hl, hct]
  let ns : List Int := cs.toList.map fun v => match v with | .int _ x => x | _ => 0
  have hns : cs.toList = ns.map (Value.int k) := by
    refine List.ext_getElem? fun i => ?_
    by_cases hi : i < n
    · obtain ⟨x, h1, _⟩ := hat i hi
      simp only [ns, List.map_map, List.getElem?_map, h1]
      rfl
    · rw [List.getElem?_eq_none (by omega), List.getElem?_eq_none (by simp only [ns, List.length_map]; omega)]
  refine ⟨ns, ?_, by simp only [ns, List.length_map]; exact hlen, fun x hm => ?_⟩
  · rw [← hns]
  · obtain ⟨i, hi, hxi⟩ := List.mem_iff_getElem.1 hm
    have hi' : i < n := by simp only [ns, List.length_map] at hi; omega
    obtain ⟨y, h1, h2⟩ := hat i hi'
    have h3 : ns[i]? = some y := by simp only [ns, List.getElem?_map, h1]; rfl
    rw [List.getElem?_eq_getElem hi, hxi] at h3
    cases h3
    exact h2
end
end Go.Vabs

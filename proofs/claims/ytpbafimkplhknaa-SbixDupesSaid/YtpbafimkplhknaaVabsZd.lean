/-
  From the arguments of a call to the small memory: a law's last step.
-/
import Derived.Test.YtpbafimkplhknaaVabsZc
import Derived.WideShapes
import Derived.SizedLaws
import Derived.ChangeSlices
namespace Go.Vabs
set_option linter.unusedVariables false
set_option linter.unusedSimpArgs false

theorem addr_of_okWide {P : Program} {w : World} {r : Reach} {base : Nat} {t e : TypeId} {a : Addr} {len cap : Nat} (ht : P.underlying t = some (.slice e)) (h : Value.okWide P w r base t (.slice (some a) len cap)) : a.spot = none ∧ a.block < w.heap.size := by
  simp only [Value.okWide, ht, Cell.okWide, Cell.ok] at h
  obtain ⟨_, _, _, h2, row, cells, h3, _⟩ := h
  refine ⟨h2, ?_⟩
  unfold World.shape? at h3
  split at h3
  · rename_i hx
    exact (Array.getElem?_eq_some_iff.1 hx).1
  · cases h3

open Go.ChangeShapes Go.WideShapes in
theorem u8_of_wf {n : Int} (h : (Lit.int .u8 n).wf = true) : 0 ≤ n ∧ n < 256 := by
  have h' : IntKind.u8.min ≤ n ∧ n ≤ IntKind.u8.max := by
    simpa [Lit.wf] using h
  have h1 : (IntKind.u8.min : Int) = 0 := rfl
  have h2 : (IntKind.u8.max : Int) = 255 := rfl
  omega

theorem Sound.law {P : Program} {call : CallT} (h : Sound P call) {g : Nat} {args0 : List V} {s0 s1 : St} (hrun : call g args0 s0 = some (.bool true, s1)) (hn : Neat s0) {W : World} {args' : Array Value} {ι : Map} (hrel : Rel ι W.heap.size s0.heap W)
    (hfr : ∀ i, s0.next ≤ i → ι i = none) (hargs : All2 (R ι) args0 args'.toList) : Calls P g args' W fun e W' => e = .returned (.bool true) ∧ Go.RowKit.Below W.heap.size W W' := by
  obtain ⟨_, hc⟩ := h.ok W.heap.size g args0 s0 _ s1 hrun
  refine (hc ι W args' hn hrel (fun i h1 _ => hfr i h1) hargs).mono ?_
  rintro e W' ⟨x, ι', rfl, _, _, _, hb, hr⟩
  exact ⟨by rw [inv_bool hr], hb.base⟩

end Go.Vabs

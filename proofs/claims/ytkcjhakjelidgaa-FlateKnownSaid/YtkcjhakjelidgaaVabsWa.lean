/-
  A closed sentence over a table of functions that were compiled ahead.
-/
import Derived.Test.YtkcjhakjelidgaaVabsW
namespace Go.Vabs
noncomputable section
/-- A move; a number that is told. -/
def mvO (d s : Nat) : AOper := AOper.mk (some (pos d)) (.mv (.t (pos s))) none
def nC (n : Nat) : Src := .c (.int .i64 (.ofNat n))
def sP (n : Nat) : Src := .t (pos n)
def tabOf : List (Nat × AFunc) → T AFunc
  | [] => .nil
  | p :: l => (tabOf l).set p.1 (some p.2)
end
def AllComp (P : Program) : List (Nat × AFunc) → Prop
  | [] => True
  | p :: l => compF P p.1 = some p.2 ∧ AllComp P l
theorem tabOf_ok {P : Program} : ∀ {l : List (Nat × AFunc)}, AllComp P l → ∀ (g : Nat) (fn : AFunc), (tabOf l).get g = some fn → compF P g = some fn
  | [], _, g, fn, h => by cases h
  | p :: l, hl, g, fn, h => by
    have h : T.get (T.set (tabOf l) p.1 (some p.2)) g = some fn := h
    rw [T.get_set] at h
    by_cases hg : g = p.1
    · rw [if_pos hg] at h; cases h; rw [hg]; exact hl.1
    · rw [if_neg hg] at h; exact tabOf_ok hl.2 g fn h
theorem closed_tab {P : Program} (hmix : P.follows .mixedOrders = true) {l : List (Nat × AFunc)} (hl : AllComp P l) {lf d f : Nat} (h : isTrue (callF (tabOf l) lf d f [] st0) = true) (W : World) :
    Calls P f #[] W fun e W' => e = .returned (.bool true) ∧ Go.RowKit.Below W.heap.size W W' := by
  obtain ⟨s, hs⟩ := isTrue_some h
  obtain ⟨_, hc⟩ := call_ok (B := W.heap.size) hmix (tabOf_ok hl) lf d f [] st0 _ s hs
  refine (hc (fun _ => none) W #[] (fun i _ => by show T.get .nil i = none; rfl) (rel_nil _ W) (fun _ _ _ => rfl) trivial).mono ?_
  rintro e W' ⟨x, ι', rfl, _, _, _, hb, hr⟩
  exact ⟨by rw [inv_bool hr], hb.base⟩
end Go.Vabs

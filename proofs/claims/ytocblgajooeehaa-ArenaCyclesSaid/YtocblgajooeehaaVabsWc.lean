/-
  A run whose arguments are numbers that are picked of a few: past a Pick with an unknown; a case for each.
-/
import Derived.Test.YtocblgajooeehaaVabsWb
import Derived.Test.YtocblgajooeehaaVabsZf
import Derived.Test.YtocblgajooeehaaVabsPh
namespace Go.Vabs
open Go.Vabs.Ph
set_option linter.unusedVariables false
noncomputable section
/-- What is still to be done on the way down to a part of a function's code; ns: rounds left of the loops on that way. -/
def pathK : ACode → List Nat → List Nat → List Kt → List Kt
  | .seq a b, 0 :: p, ns, ks => pathK a p ns (.seq b :: ks)
  | .seq _ b, _ :: p, ns, ks => pathK b p ns ks
  | .cond _ a _, 0 :: p, ns, ks => pathK a p ns ks
  | .cond _ _ b, _ :: p, ns, ks => pathK b p ns ks
  | .block id a, _ :: p, ns, ks => pathK a p ns (.blk id :: ks)
  | .loop a, _ :: p, n :: ns, ks => pathK a p ns (.loop a n :: ks)
  | _, _, _, ks => ks
/-- One value in several slots. -/
def atV (v : V) : List Nat → List (Nat × V)
  | [] => []
  | n :: l => (n, v) :: atV v l
end
theorem Sound.tab {P : Program} (hmix : P.follows .mixedOrders = true) {l : List (Nat × AFunc)} (hl : AllComp P l) (lf d : Nat) : Sound P (callF (tabOf l) lf d) := ⟨fun B => call_ok hmix (tabOf_ok hl) lf d, callF_framed _ _ _⟩
theorem call_on {C : T AFunc} {lf d : Nat} {ks : List Kt} {o : AOper} {os : List AOper} {f : Frame} {st st1 st2 : St} {g : Nat} {args : List V} {v : V}
    (hw : wanted f o.guard = some true) (hx : execOp o.op f.ev st = some (.enter g args, st1)) (hc : callF C lf d g args st1 = some (v, st2)) :
    denC C lf (.ops d ks (o :: os) f st) = denC C lf (.ops d ks os (f.put o.dst v) st2) := by
  show den C lf d ks (normalOut (either (wanted f o.guard) (Option.rec none (Prod.rec fun v st' => runOps os (callF C lf d) (f.put o.dst v) st') (Option.rec none (Prod.rec fun r st' => afterRes (callF C lf d) st' r) (execOp o.op f.ev st))) (runOps os (callF C lf d) (f.put o.dst V.undef) st))) = _
  rw [hw, hx]
  show den C lf d ks (normalOut (Option.rec none (Prod.rec fun v st' => runOps os (callF C lf d) (f.put o.dst v) st') (callF C lf d g args st1))) = _
  rw [hc]
  rfl
/-- Past a Pick. -/
theorem pick_on {C : T AFunc} {lf d g : Nat} {fn : AFunc} {ks : List Kt} {dst : Pos} {a b : Src} {os os' : List AOper} {f : Frame} {st : St} {x m : Int}
    (hos : os = ⟨some dst, .call g [a, b], none⟩ :: os') (hg : T.get C g = some fn) (hfn : fn = Pick_c) (hv : (f.ev a, f.ev b) = (.int .i64 x, .int .i64 m)) (h : 0 < m) (hm : m < 4611686018427387904) :
    denC C lf (.ops (d + 1) ks os f st) = denC C lf (.ops (d + 1) ks os' (f.put (some dst) (.int .i64 (pickI x m))) st) := by
  subst hos
  obtain ⟨ha, hb⟩ := Prod.mk.inj hv
  refine call_on (o := ⟨some dst, .call g [a, b], none⟩) (g := g) (args := [.int .i64 x, .int .i64 m]) (st1 := st) rfl ?_ ?_
  · show some (Res.enter g [f.ev a, f.ev b], st) = _
    rw [ha, hb]
  · show (Option.rec none (enterF (callF C lf d) lf [.int .i64 x, .int .i64 m] st) (T.get C g) : Option (V × St)) = _
    rw [hg, hfn]
    exact Pick_run h hm
theorem pickI_nat (x : Int) {m : Nat} (h : 0 < (m : Int)) : ∃ n, n < m ∧ pickI x m = .ofNat n := by
  have h1 := Int.tmod_lt_of_pos x h
  have h2 := Int.lt_tmod_of_pos x h
  refine ⟨(pickI x m).toNat, ?_, ?_⟩
  · unfold pickI
    split <;> omega
  · unfold pickI
    split <;> (show _ = ((Int.toNat _ : Nat) : Int); omega)
end Go.Vabs

/-
  Slices of whole numbers as parameters; more steps.
-/
import Derived.Test.YtpbafimkplhknaaVabsZf
import Derived.Test.YtpbafimkplhknaaVabsZd
namespace Go.Vabs
set_option linter.unusedVariables false
set_option linter.unusedSimpArgs false

noncomputable def nilchkV : V → Option V
  | .ptr none | .nilFunc | .bad | .yield _ => none
  | v => some v
theorem step_nilchk {call : CallT} {s : Env} {st : St} {x : Src} : stepE call (.nilchk x) s st = okv (nilchkV (s.ev x)) st := by
  refine step_of ?_
  show ex_nilchk x s.ev st = _
  unfold ex_nilchk nilchkV
  generalize s.ev x = u
  cases u <;> try rfl
  rename_i a
  cases a <;> rfl
theorem nilchk_ptr {p : Nat × Nat} : nilchkV (.ptr (some p)) = some (.ptr (some p)) := rfl
theorem bin_eqptr {p : Nat × Nat} : binV .eql (.nils .ptr) (.ptr (some p)) (.ptr none) = some (.bool false) := by simp only [binV, eqAny, eqNil]

noncomputable section
/-- Whole numbers as cells. -/
def intsV (k : IntKind) (ns : List Int) : List V := ns.map (V.int k)
/-- A parameter's object, in the small memory's place i; its slice. -/
def objOf (nil : Bool) (cs : List V) : Option AObj := if nil then none else some (.cells false cs)
def slAt (nil : Bool) (i n : Nat) : V := .slice (if nil then none else some (i, 0)) 1 n n false
end
theorem intsV_len {k : IntKind} {ns : List Int} : (intsV k ns).length = ns.length := by simp [intsV]
theorem intsV_at {k : IntKind} {ns : List Int} {i : Nat} : (intsV k ns)[i]? = (ns[i]?).map (V.int k) := by simp [intsV]

/-- A parameter that is a slice of whole numbers, from the small memory. -/
theorem row_obj {k : IntKind} {W : World} {a : Option Addr} {len cap : Nat} {zs : List Int} (h : IsRow k W a len cap zs) : ∃ (nil : Bool) (ns : List Int) (e : Entry), ns.length = len ∧ (nil = true → ns = []) ∧ (∀ n ∈ ns, (Lit.int k n).wf = true) ∧
    (nil = false → e.blk < W.heap.size ∧ ∀ (j : Nat) (n : Int), ns[j]? = some n → W.cell? ⟨e.blk, e.off + j, none⟩ = some (.int k n)) ∧ ∀ (ι : Map) (i : Nat), (nil = false → ι i = some e) → R ι (slAt nil i len) (.slice a len cap) := by
  rcases h with ⟨rfl, rfl, rfl, rfl⟩ | ⟨x, rfl, hs, hx, h1, h2, h3, h4, h5⟩
  · exact ⟨true, [], ⟨0, 0, 0⟩, rfl, fun _ => rfl, (fun n hn => by cases hn), (fun h => by cases h), fun ι i _ => ⟨rfl, rfl, rfl⟩⟩
  · refine ⟨false, zs.take len, ⟨x.block, x.off, cap⟩, by simp; omega, (fun h => by cases h), fun n hn => h5 n (List.mem_of_mem_take hn), fun _ => ⟨hx, fun j n hn => ?_⟩, fun ι i hι => ?_⟩
    · have hj : j < len := by
        have := (List.getElem?_eq_some_iff.1 hn).1
        rw [List.length_take] at this; omega
      rw [List.getElem?_take_of_lt hj] at hn
      have hc := h4 j (List.getElem?_eq_some_iff.1 hn).1
      rw [show zs.getD j 0 = n from by rw [List.getD_eq_getElem?_getD, hn]; rfl] at hc
      have ha : x.add j = ⟨x.block, x.off + j, none⟩ := by
        cases x with
        | mk b o s =>
          cases hs
          unfold Addr.add
          split
          · rename_i e; subst e; rfl
          · rfl
      rw [ha] at hc
      exact hc
    · refine ⟨⟨x.block, x.off, cap⟩, ⟨x.block, x.off, none⟩, cap, hι rfl, ?_, Nat.le_refl _, h1, (fun h => by cases h), .inr ⟨rfl, by show 0 + cap * 1 ≤ cap; omega⟩⟩
      cases x with | mk b o s => cases hs; rfl

/-- A law of two slices of whole numbers ahead of flat arguments. -/
theorem Sound.law_two {P : Program} {call : CallT} (h : Sound P call) {g : Nat} {W : World} {k k' : IntKind} {a a' : Option Addr} {len len' cap cap' : Nat} {zs zs' : List Int} (hrow : IsRow k W a len cap zs) (hrow' : IsRow k' W a' len' cap' zs') {rest : List V} {rest' : List Value}
    (hr : rest.all V.flat = true) (hargs : All2 (R fun _ => none) rest rest')
    (hrun : ∀ nil nil' ns ns', (nil = true → ns = []) → (nil' = true → ns' = []) → (∀ n ∈ ns, (Lit.int k n).wf = true) → (∀ n ∈ ns', (Lit.int k' n).wf = true) → ns.length = len → ns'.length = len' →
      ∃ s1, call g (slAt nil 0 len :: slAt nil' 1 len' :: rest) (few [objOf nil (intsV k ns), objOf nil' (intsV k' ns')]) = some (.bool true, s1)) :
    Calls P g (Value.slice a len cap :: Value.slice a' len' cap' :: rest').toArray W fun e W' => e = .returned (.bool true) ∧ Go.RowKit.Below W.heap.size W W' := by
  obtain ⟨nil, ns, e, l1, n1, w1, b1, r1⟩ := row_obj hrow
  obtain ⟨nil', ns', e', l2, n2, w2, b2, r2⟩ := row_obj hrow'
  obtain ⟨s1, hs⟩ := hrun nil nil' ns ns' n1 n2 w1 w2 l1 l2
  let ι : Map := fun i => if i = 0 then (if nil then none else some e) else if i = 1 then (if nil' then none else some e') else none
  refine h.law hs (few_neat _) (ι := ι) ⟨Nat.le_refl _, ?_, ?_⟩ (fun i hi => ?_) ⟨r1 ι 0 (fun hn => by show (if (0 : Nat) = 0 then _ else _) = _; rw [if_pos rfl, hn]; rfl), r2 ι 1 (fun hn => by show (if (1 : Nat) = 0 then _ else if (1 : Nat) = 1 then _ else _) = _; rw [if_neg (by decide), if_pos rfl, hn]; rfl), flat_args hr hargs⟩
  · intro i o hi
    rw [few_heap] at hi
    match i, hi with
    | 0, hi =>
      cases nil with
      | true => cases hi
      | false =>
        cases hi
        refine ⟨e, rfl, (b1 rfl).1, (b1 rfl).1, fun j v hv => ?_⟩
        rw [intsV_at, Option.map_eq_some_iff] at hv
        obtain ⟨n, hn, rfl⟩ := hv
        exact ⟨_, (b1 rfl).2 j n hn, rfl⟩
    | 1, hi =>
      cases nil' with
      | true => cases hi
      | false =>
        cases hi
        refine ⟨e', rfl, (b2 rfl).1, (b2 rfl).1, fun j v hv => ?_⟩
        rw [intsV_at, Option.map_eq_some_iff] at hv
        obtain ⟨n, hn, rfl⟩ := hv
        exact ⟨_, (b2 rfl).2 j n hn, rfl⟩
    | i + 2, hi => simp at hi
  · intro i j o o' e1 e2 hi hj ho
    exfalso
    rw [few_heap] at hi
    match i, hi with
    | 0, hi => cases nil <;> cases hi; cases ho
    | 1, hi => cases nil' <;> cases hi; cases ho
    | i + 2, hi => simp at hi
  · have hi : 2 ≤ i := hi
    show (if i = 0 then _ else if i = 1 then _ else none) = none
    rw [if_neg (by omega), if_neg (by omega)]

/- shifts, bits -/
theorem shrI {eq : EqKind} {k k' : IntKind} {x n : Int} (h0 : 0 ≤ n) (h1 : n ≤ bitsOf k) : binV .shr eq (.int k x) (.int k' n) = some (.int k (x / ((2 ^ n.toNat : Nat) : Int))) := by
  obtain ⟨m, rfl⟩ := Int.eq_ofNat_of_zero_le h0
  have e : binV .shr eq (.int k x) (.int k' (m : Int)) = _ := bin_shr (n := m)
  rw [e, show Nat.ble m (bitsOf k) = true from ble_t (by omega), sel_true, Int.fdiv_eq_ediv_of_nonneg _ (Int.natCast_nonneg _), Int.toNat_natCast]
theorem and_1 {eq : EqKind} {x : Int} (h0 : 0 ≤ x) (h1 : x < 9223372036854775808) : binV .and eq (.int .i64 x) (.int .i64 1) = some (.int .i64 (x % 2)) := by
  obtain ⟨m, rfl⟩ := Int.eq_ofNat_of_zero_le h0
  simp only [binV, if_true, arith]
  show (match sel (Nat.blt m 9223372036854775808 && Nat.blt 1 9223372036854775808) (some (Int.ofNat (Nat.land m 1))) _ with | some r => some (V.int .i64 r) | none => none) = _
  rw [blt_t (show m < 9223372036854775808 by omega), blt_t (show 1 < 9223372036854775808 by omega)]
  rw [show Nat.land m 1 = m % 2 from Nat.and_one_is_mod m]
  rfl

end Go.Vabs

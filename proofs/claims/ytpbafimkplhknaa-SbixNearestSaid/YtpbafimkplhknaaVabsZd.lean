/-
  From the arguments of a call to the small memory: a law's last step.
-/
import Derived.Test.YtpbafimkplhknaaVabsZc
import Derived.WideShapes
import Derived.SizedLaws
import Derived.ChangeSlices
namespace Go.Vabs
set_option linter.unusedVariables false
set_option linter.unusedSimpArgs false

/-- A row of whole numbers. -/
def IsRow (k : IntKind) (w : World) (a : Option Addr) (len cap : Nat) (zs : List Int) : Prop :=
  (a = none ∧ len = 0 ∧ cap = 0 ∧ zs = []) ∨
  ∃ x, a = some x ∧ x.spot = none ∧ x.block < w.heap.size ∧ len ≤ cap ∧ cap ≤ maxLen ∧ zs.length = cap ∧ (∀ i, i < zs.length → w.cell? (x.add i) = some (.int k (zs.getD i 0))) ∧ ∀ n ∈ zs, (Lit.int k n).wf = true

theorem addr_of_okWide {P : Program} {w : World} {r : Reach} {base : Nat} {t e : TypeId} {a : Addr} {len cap : Nat} (ht : P.underlying t = some (.slice e)) (h : Value.okWide P w r base t (.slice (some a) len cap)) : a.spot = none ∧ a.block < w.heap.size := by
  simp only [Value.okWide, ht, Cell.okWide, Cell.ok] at h
  obtain ⟨_, _, _, h2, row, cells, h3, _⟩ := h
  refine ⟨h2, ?_⟩
  unfold World.shape? at h3
  split at h3
  · rename_i hx
    exact (Array.getElem?_eq_some_iff.1 hx).1
  · cases h3

open Go.ChangeShapes Go.WideShapes in
/-- A parameter that is a slice of whole numbers. -/
theorem row_ints {H : Type} {enc : TypeId × Value → H} {P : Program} {W : World} {r : Reach} {b0 base : Nat} {held : Bool} {t e : TypeId} {k : IntKind} {v : Value} {d : DataW H} {ps : List MemPlace} {ts : List TypeId} {ds : List (DataW H)} {j : Nat}
    (hsz : (DataW.weightsEach P ts ds).all (· ≤ reachBytes) = true) (ht : ts[j]? = some t) (hd : ds[j]? = some d) (hu : P.underlying t = some (.slice e)) (he : P.underlying e = some (.int k)) (hc : P.cellsOf e = 1) {B : Nat} (hB : P.bytesOf e = B)
    (hval : Value.okWide P W r b0 t v) (h : DataW.Trod enc P W base (fun _ => true) held t v d ps) : ∃ a len cap zs, v = .slice a len cap ∧ IsRow k W a len cap zs ∧ len * B ≤ 140737488351232 := by
  obtain ⟨a, len, cap, rfl⟩ := okWide_slice hu hval
  obtain ⟨fuel, hf⟩ := h
  rcases open_ints hu he hc hf with ⟨hcs, _⟩ | ⟨x, l, c, zs, hcs, _, hl, hm, hz, hx, hcell, hwz⟩
  · simp [Value.cells] at hcs
    obtain ⟨rfl, rfl, rfl⟩ := hcs
    exact ⟨_, _, _, [], rfl, .inl ⟨rfl, rfl, rfl, rfl⟩, by simp⟩
  · simp [Value.cells] at hcs
    obtain ⟨rfl, rfl, rfl⟩ := hcs
    obtain ⟨q1, q2⟩ := addr_of_okWide hu hval
    obtain ⟨hx, _⟩ := Prod.mk.inj hx
    subst hx
    have hz : zs.length = cap := by simpa using hz
    refine ⟨_, _, _, zs, rfl, .inr ⟨x, rfl, q1, q2, hl, hm, hz, hcell, hwz⟩, ?_⟩
    have z := sized_slice hsz ht hd hu
    rw [hB] at z
    have h1 : (lits (H := H) k (zs.take len)).length + (lits (H := H) k (zs.drop len)).length = zs.length := by
      simp [lits]
      omega
    rw [h1] at z
    exact Nat.le_trans (Nat.mul_le_mul_right _ (by omega)) z
theorem int_of_wf {k : IntKind} {n : Int} (h : (Lit.int k n).wf = true) : k.min ≤ n ∧ n ≤ k.max := by
  simpa [Lit.wf] using h
theorem i64_of_wf {n : Int} (h : (Lit.int .i64 n).wf = true) : -9223372036854775808 ≤ n ∧ n < 9223372036854775808 := by
  have h' := int_of_wf h
  have h1 : (IntKind.i64.min : Int) = -9223372036854775808 := rfl
  have h2 : (IntKind.i64.max : Int) = 9223372036854775807 := rfl
  omega

theorem u8_of_wf {n : Int} (h : (Lit.int .u8 n).wf = true) : 0 ≤ n ∧ n < 256 := by
  have h' : IntKind.u8.min ≤ n ∧ n ≤ IntKind.u8.max := by
    simpa [Lit.wf] using h
  have h1 : (IntKind.u8.min : Int) = 0 := rfl
  have h2 : (IntKind.u8.max : Int) = 255 := rfl
  omega

theorem Sound.law {P : Program} {call : CallT} (h : Sound P call) {g : Nat} {args0 : List V} {s0 s1 : St} (hrun : call g args0 s0 = some (.bool true, s1)) (hn : Neat s0) {W : World} {args' : Array Value} {ι : Map} (hrel : Rel ι W.heap.size s0.heap W)
    (hfr : ∀ i, s0.next ≤ i → ι i = none) (hargs : All2 (R ι) args0 args'.toList) : Calls P g args' W fun e W' => e = .returned (.bool true) ∧ Go.RowKit.Below W.heap.size W W' := by
  obtain ⟨_, hc⟩ := h.ok W.heap.size g args0 s0 _ s1 hrun
  refine (hc ι W args' hn hrel (fun i h1 _ => hfr i h1) hargs).mono ?_
  rintro e W' ⟨x, ι', rfl, _, _, _, hb, hr⟩
  exact ⟨by rw [inv_bool hr], hb.base⟩

theorem flat_args {ι ι' : Map} : ∀ {vs : List V} {xs : List Value}, vs.all V.flat = true → All2 (R ι) vs xs → All2 (R ι') vs xs
  | [], [], _, _ => trivial
  | v :: vs, x :: xs, h, ⟨a, b⟩ => by
    simp only [List.all_cons, Bool.and_eq_true] at h
    exact ⟨flat_R h.1 a, flat_args h.2 b⟩
  | [], _ :: _, _, h => h.elim
  | _ :: _, [], _, h => h.elim

/-- A law of a slice of bytes and flat arguments. -/
theorem Sound.law_bytes {P : Program} {call : CallT} (h : Sound P call) {g : Nat} {W : World} {a : Option Addr} {len cap : Nat} {zs : List Int} (hrow : IsRow .u8 W a len cap zs) {rest : List V} {rest' : List Value} (hr : rest.all V.flat = true) (hargs : All2 (R fun _ => none) rest rest')
    (hrun : ∀ nil bs, (nil = true → bs = []) → (∀ b ∈ bs, b < 256) → bs.length = len → ∃ s1, call g (slOf nil bs :: rest) (memOf nil bs) = some (.bool true, s1)) :
    Calls P g (Value.slice a len cap :: rest').toArray W fun e W' => e = .returned (.bool true) ∧ Go.RowKit.Below W.heap.size W W' := by
  rcases hrow with ⟨rfl, rfl, rfl, rfl⟩ | ⟨x, rfl, hs, hx, h1, h2, h3, h4, h5⟩
  · obtain ⟨s1, e⟩ := hrun true [] (fun _ => rfl) (fun b hb => by cases hb) rfl
    exact h.law e (few_neat _) (ι := fun _ => none) (rel_nil _ W) (fun _ _ => rfl) ⟨⟨rfl, rfl, rfl⟩, hargs⟩
  · have hlen : ((zs.take len).map Int.toNat).length = len := by simp; omega
    obtain ⟨s1, e⟩ := hrun false ((zs.take len).map Int.toNat) (fun h => by cases h) (fun b hb => by
      simp only [List.mem_map] at hb
      obtain ⟨n, hn, rfl⟩ := hb
      have := u8_of_wf (h5 n (List.mem_of_mem_take hn))
      omega) hlen
    refine h.law e (few_neat _) (ι := fun k => if k = 0 then some ⟨x.block, x.off, cap⟩ else none) ⟨Nat.le_refl _, ?_, ?_⟩ (fun i hi => if_neg (by have hi : 1 ≤ i := hi; omega)) ⟨?_, flat_args hr hargs⟩
    · intro i o hi
      rw [show memOf false ((zs.take len).map Int.toNat) = few [some (.cells false (bytesV ((zs.take len).map Int.toNat)))] from rfl, few_heap] at hi
      cases i with
      | succ i => simp at hi
      | zero =>
        simp at hi
        subst hi
        refine ⟨⟨x.block, x.off, cap⟩, rfl, hx, hx, fun k v hv => ?_⟩
        rw [← List.map_take] at hv
        rw [bytesV_at] at hv
        simp only [Option.map_eq_some_iff] at hv
        obtain ⟨b, hb, rfl⟩ := hv
        rw [List.getElem?_map, Option.map_eq_some_iff] at hb
        obtain ⟨n, hn, rfl⟩ := hb
        have hk : k < len := by
          have := (List.getElem?_eq_some_iff.1 hn).1
          rw [List.length_take] at this; omega
        rw [List.getElem?_take_of_lt hk] at hn
        have hk' : k < zs.length := (List.getElem?_eq_some_iff.1 hn).1
        have hw := u8_of_wf (h5 n (List.mem_of_getElem? hn))
        refine ⟨_, ?_, rfl⟩
        have hc := h4 k hk'
        rw [show zs.getD k 0 = n from by rw [List.getD_eq_getElem?_getD, hn]; rfl] at hc
        have ha : x.add k = ⟨x.block, x.off + k, none⟩ := by
          cases x with
          | mk b o s =>
            cases hs
            unfold Addr.add
            split
            · rename_i e; subst e; rfl
            · rfl
        rw [ha] at hc
        rw [hc]
        congr 2
        omega
    · intro i j o o' e e' hi hj ho
      exfalso
      rw [show memOf false ((zs.take len).map Int.toNat) = few [some (.cells false (bytesV ((zs.take len).map Int.toNat)))] from rfl, few_heap] at hi
      cases i with
      | succ i => simp at hi
      | zero => simp at hi; subst hi; cases ho
    · refine ⟨⟨x.block, x.off, cap⟩, ⟨x.block, x.off, none⟩, cap, rfl, ?_, by rw [hlen]; exact Nat.le_refl _, by rw [hlen]; exact h1, (fun h => by cases h), .inr ⟨rfl, by show 0 + cap * 1 ≤ cap; omega⟩⟩
      rw [hlen]
      cases x with | mk b o s => cases hs; rfl

end Go.Vabs

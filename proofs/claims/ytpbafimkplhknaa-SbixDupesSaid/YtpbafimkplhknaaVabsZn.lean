/-
  Arguments that lead to slices that lead to slices: opened into a small memory, whatever they are made of.
-/
import Derived.Test.YtpbafimkplhknaaVabsZm
import Derived.Test.YtpbafimkplhknaaVabsGa
import Derived.ChangeArms
import Derived.SizedLaws
namespace Go.Vabs
set_option linter.unusedVariables false
set_option linter.unusedSimpArgs false
/-- What is in the small memory is so in the world. -/
structure Mem (W : World) (os : List (Option AObj)) (ι : Map) : Prop where
  obj : ∀ i o, (os[i]?).join = some o → ∃ cs e, o = .cells false cs ∧ ι i = some e ∧ e.blk < W.heap.size ∧ ∀ k v, cs[k]? = some v → ∃ v', W.cell? ⟨e.blk, e.off + k, none⟩ = some v' ∧ R1 ι v v'
  new : ∀ i, os.length ≤ i → ι i = none
/-- One memory more. -/
structure More (os os' : List (Option AObj)) : Prop where
  le : os.length ≤ os'.length
  obj : ∀ i, i < os.length → (os'[i]?).join = (os[i]?).join
theorem More.refl (os : List (Option AObj)) : More os os := ⟨Nat.le_refl _, fun _ _ => rfl⟩
theorem More.trans {a b c : List (Option AObj)} (h : More a b) (k : More b c) : More a c := ⟨Nat.le_trans h.le k.le, fun i hi => by rw [k.obj i (by have := h.le; omega), h.obj i hi]⟩
theorem More.snoc (os : List (Option AObj)) (o : Option AObj) : More os (os ++ [o]) := ⟨by simp, fun i hi => joinApp hi⟩
theorem Mem.nil (W : World) : Mem W [] (fun _ => none) := ⟨fun i o h => by simp at h, fun _ _ => rfl⟩
/-- An object more. -/
theorem Mem.add {W : World} {os : List (Option AObj)} {ι : Map} (h : Mem W os ι) {cs : List V} {e : Entry} (hb : e.blk < W.heap.size) (hc : ∀ k v, cs[k]? = some v → ∃ v', W.cell? ⟨e.blk, e.off + k, none⟩ = some v' ∧ R1 ι v v') :
    Mem W (os ++ [some (.cells false cs)]) (upd ι os.length e) ∧ Sub ι (upd ι os.length e) := by
  have hs : Sub ι (upd ι os.length e) := sub_upd (h.new _ (Nat.le_refl _))
  refine ⟨⟨fun i o hi => ?_, fun i hi => ?_⟩, hs⟩
  · by_cases hl : i < os.length
    · rw [joinApp hl] at hi
      obtain ⟨cs', e', h1, h2, h3, h4⟩ := h.obj i o hi
      refine ⟨cs', e', h1, hs _ _ h2, h3, fun k v hk => ?_⟩
      obtain ⟨v', h5, h6⟩ := h4 k v hk
      exact ⟨v', h5, h6.mono hs⟩
    · have hi' := joinLt hi
      simp only [List.length_append, List.length_cons, List.length_nil] at hi'
      have e1 : i = os.length := by omega
      subst e1
      rw [joinEnd] at hi
      cases hi
      refine ⟨cs, e, rfl, upd_same _ _ _, hb, fun k v hk => ?_⟩
      obtain ⟨v', h5, h6⟩ := hc k v hk
      exact ⟨v', h5, h6.mono hs⟩
  · simp only [List.length_append, List.length_cons, List.length_nil] at hi
    rw [upd_other (by omega)]
    exact h.new i (by omega)
theorem Sound.law_mem {P : Program} {call : CallT} (h : Sound P call) {g : Nat} {W : World} {os : List (Option AObj)} {ι : Map} (hm : Mem W os ι) {args : List V} {args' : List Value} (hargs : All2 (R ι) args args')
    (hrun : ∃ s1, call g args (few os) = some (.bool true, s1)) : Calls P g args'.toArray W fun e W' => e = .returned (.bool true) ∧ Go.RowKit.Below W.heap.size W W' := by
  obtain ⟨s1, hs⟩ := hrun
  refine h.law hs (few_neat _) (ι := ι) ⟨Nat.le_refl _, fun i o hi => ?_, fun i j o o' e1 e2 hi hj ho => ?_⟩ (fun i hi => hm.new i hi) hargs
  · rw [few_heap] at hi
    obtain ⟨cs, e, rfl, h2, h3, h4⟩ := hm.obj i o hi
    exact ⟨e, h2, h3, h3, h4⟩
  · rw [few_heap] at hi
    obtain ⟨cs, e, rfl, _⟩ := hm.obj i o hi
    cases ho
/-- How data stand in cells. -/
structure Codec (α : Type) where
  w : Nat
  shows : List (Option AObj) → List V → α → Prop
  ok : α → Prop
  len : ∀ {os us a}, shows os us a → us.length = w
  mono : ∀ {os os' us a}, More os os' → shows os us a → shows os' us a
def cInt (k : IntKind) : Codec Int := ⟨1, fun _ us n => us = [.int k n], fun n => (Lit.int k n).wf = true, fun h => by rw [h]; rfl, fun _ h => h⟩
def cBool : Codec Bool := ⟨1, fun _ us b => us = [.bool b], fun _ => True, fun h => by rw [h]; rfl, fun _ h => h⟩
def cPair {α β : Type} (c : Codec α) (d : Codec β) : Codec (α × β) :=
  ⟨c.w + d.w, fun os us x => ∃ u1 u2, us = u1 ++ u2 ∧ c.shows os u1 x.1 ∧ d.shows os u2 x.2, fun x => c.ok x.1 ∧ d.ok x.2, fun ⟨u1, u2, h, h1, h2⟩ => by rw [h, List.length_append, c.len h1, d.len h2], fun he ⟨u1, u2, h, h1, h2⟩ => ⟨u1, u2, h, c.mono he h1, d.mono he h2⟩⟩
/-- A slice of them. -/
def ShowsRow {α : Type} (c : Codec α) (os : List (Option AObj)) (v : V) (l : List α) : Prop :=
  (l = [] ∧ v = .slice none c.w 0 0 false) ∨
  (∃ i cs, v = .slice (some (i, 0)) c.w l.length l.length false ∧ (os[i]?).join = some (.cells false cs) ∧ cs.length = l.length * c.w ∧ ∀ (j : Nat) (a : α), l[j]? = some a → c.shows os ((cs.drop (j * c.w)).take c.w) a)
theorem ShowsRow.mono {α : Type} {c : Codec α} {os os' : List (Option AObj)} {v : V} {l : List α} (he : More os os') (h : ShowsRow c os v l) : ShowsRow c os' v l := by
  rcases h with h | ⟨i, cs, h2, h3, h4, h5⟩
  · exact .inl h
  · exact .inr ⟨i, cs, h2, by rw [he.obj i (joinLt h3)]; exact h3, h4, fun j a hj => c.mono he (h5 j a hj)⟩
def cRow {α : Type} (c : Codec α) (B : Nat) : Codec (List α) :=
  ⟨1, fun os us l => ∃ v, us = [v] ∧ ShowsRow c os v l, fun l => (∀ a ∈ l, c.ok a) ∧ l.length * B ≤ 140737488351232, fun ⟨v, h, _⟩ => by rw [h]; rfl, fun he ⟨v, h, k⟩ => ⟨v, h, k.mono he⟩⟩
/-- Data of a type are opened. -/
def Opens {α : Type} (P : Program) (t : TypeId) (c : Codec α) : Prop :=
  ∀ {H : Type} {enc : TypeId × Value → H} {W : World} {base : Nat} {held : Bool} {fuel : Nat} {cs : List Value} {x : DataW H × List MemPlace}, DataW.trod enc P W base (fun _ => true) held fuel t cs = some x → (x.1.weights P t).all (· ≤ reachBytes) = true → 0 < W.heap.size →
    ∀ {os : List (Option AObj)} {ι : Map}, Mem W os ι → ∃ os' ι' us a, Mem W os' ι' ∧ Sub ι ι' ∧ More os os' ∧ All2 (R1 ι') us cs ∧ c.shows os' us a ∧ c.ok a
theorem opens_int {P : Program} {t : TypeId} {k : IntKind} (ht : P.underlying t = some (.int k)) : Opens P t (cInt k) := by
  intro H enc W base held fuel cs x h _ _ os ι hm
  obtain ⟨n, rfl, _, h2⟩ := DataW.trod_int ht h
  exact ⟨os, ι, [.int k n], n, hm, Sub.refl _, More.refl _, ⟨rfl, trivial⟩, rfl, h2⟩
theorem opens_bool {P : Program} {t : TypeId} (ht : P.underlying t = some .bool) : Opens P t cBool := by
  intro H enc W base held fuel cs x h _ _ os ι hm
  obtain ⟨n, rfl, _⟩ := DataW.trod_bool ht h
  exact ⟨os, ι, [.bool n], n, hm, Sub.refl _, More.refl _, ⟨rfl, trivial⟩, rfl, trivial⟩
theorem weights_all {H : Type} {P : Program} {e : TypeId} {l : List (DataW H)} (h : (DataW.weightsAll P e l).all (· ≤ reachBytes) = true) : ∀ d ∈ l, (d.weights P e).all (· ≤ reachBytes) = true := by
  induction l with
  | nil => intro d hd; cases hd
  | cons a l ih =>
    simp only [DataW.weightsAll, List.all_append, Bool.and_eq_true] at h
    intro d hd
    rcases List.mem_cons.1 hd with rfl | hd
    · exact h.1
    · exact ih h.2 d hd
theorem cells_at {w : World} {base n k m : Nat} {a : Addr} (hs : a.spot = none) {cs : List Value} (h : w.cells? base (a.add m) n = some cs) (hk : k < n) : w.cell? ⟨a.block, a.off + (m + k), none⟩ = cs[k]? := by
  have h1 := (World.cells?_some h).2.2 k hk
  rw [← h1]
  congr 1
  cases a with
  | mk b o s =>
    cases hs
    unfold Addr.add
    by_cases hm : m = 0
    · subst hm
      by_cases hk0 : k = 0
      · subst hk0; simp
      · simp [hk0]
    · by_cases hk0 : k = 0
      · subst hk0; simp [hm]
      · simp [hm, hk0, Nat.add_assoc]
theorem cells_spot {w : World} {base n m : Nat} {a : Addr} {cs : List Value} (h : w.cells? base a n = some cs) (hn : 0 < n) : a.spot = none ∧ a.block < w.heap.size := by
  obtain ⟨_, h1, h2⟩ := World.cells?_some h
  have h3 := h2 0 hn
  rw [List.getElem?_eq_getElem (by omega)] at h3
  have e : a.add 0 = a := rfl
  rw [e] at h3
  unfold World.cell? at h3
  split at h3
  · rename_i hb
    split at h3
    · cases h3
    · rename_i hs
      refine ⟨?_, (Array.getElem?_eq_some_iff.1 hb).1⟩
      cases hsp : a.spot with
      | none => rfl
      | some s => rw [hsp] at hs; simp at hs
  · cases h3
theorem drop_take_append {α : Type} {l l' : List α} {j w : Nat} (h : j + w ≤ l.length) : ((l ++ l').drop j).take w = (l.drop j).take w := by
  rw [List.drop_append_of_le_length (by omega), List.take_append_of_le_length (by rw [List.length_drop]; omega)]
theorem opens_row {P : Program} {t e : TypeId} {α : Type} {c : Codec α} {B : Nat} (ht : P.underlying t = some (.slice e)) (hw : P.cellsOf e = c.w) (hB : P.bytesOf e = B) (hpos : 0 < c.w) (he : Opens P e c) : Opens P t (cRow c B) := by
  intro H enc W base held fuel cs x h hsz hz os ι hm
  rcases DataW.trod_slice ht h with ⟨rfl, _⟩ | ⟨a, len, cap, elems, rest, n, _, rfl, hx, hb, hl, hmx, hlen, hel, hsp, _⟩
  · exact ⟨os, ι, [.slice none c.w 0 0 false], [], hm, Sub.refl _, More.refl _, ⟨⟨rfl, rfl, rfl⟩, trivial⟩, ⟨_, rfl, .inl ⟨rfl, rfl⟩⟩, (fun a ha => by cases ha), by simp⟩
  · obtain ⟨hr1, hr2⟩ := hsp rfl
    rw [hx] at hsz
    simp only [DataW.weights, ht, List.all_cons, List.all_append, Bool.and_eq_true] at hsz
    obtain ⟨hs1, hs2, _⟩ := hsz
    have hs2 := weights_all hs2
    have hs1 : (elems.length + rest.length) * P.bytesOf e ≤ reachBytes := by simpa using hs1
    rw [hB, hlen] at hs1
    have hbound : len * B ≤ 140737488351232 := Nat.le_trans (Nat.mul_le_mul_right _ (by omega)) (Nat.le_trans hs1 (by decide))
    rw [hw] at hel hr2
    -- where it lies
    have hspot : cap ≠ 0 → a.spot = none ∧ a.block < W.heap.size := by
      intro hc
      by_cases h0 : 0 < len
      · have h1 := hel 0 h0
        rw [List.getElem?_eq_getElem (by omega)] at h1
        obtain ⟨cs0, h2, _⟩ := Option.bind_eq_some_iff.1 h1
        rw [Nat.zero_mul] at h2
        exact cells_spot (m := 0) h2 hpos
      · have h1 := hr2 0 (by omega)
        rw [List.getElem?_eq_getElem (by omega)] at h1
        obtain ⟨cs0, h2, _⟩ := Option.bind_eq_some_iff.1 h1
        have e0 : (len + 0) * c.w = 0 := by rw [show len + 0 = 0 from by omega, Nat.zero_mul]
        rw [e0] at h2
        exact cells_spot (m := 0) h2 hpos
    by_cases h0 : len = 0
    · obtain ⟨e0, he0, hbl⟩ : ∃ e0 : Entry, (cap = 0 ∨ (a = ⟨e0.blk, e0.off + 0, none⟩ ∧ 0 + cap * c.w ≤ e0.tot)) ∧ e0.blk < W.heap.size := by
        by_cases hc : cap = 0
        · exact ⟨⟨0, 0, 0⟩, .inl hc, hz⟩
        · obtain ⟨hs, hb⟩ := hspot hc
          refine ⟨⟨a.block, a.off, cap * c.w⟩, .inr ⟨?_, by show 0 + cap * c.w ≤ cap * c.w; omega⟩, hb⟩
          cases a with | mk b o s => cases hs; rfl
      obtain ⟨h1, h2⟩ := hm.add (cs := []) hbl (fun k v hk => by simp at hk)
      refine ⟨_, _, [.slice (some (os.length, 0)) c.w 0 0 false], [], h1, h2, More.snoc _ _, ⟨?_, trivial⟩, ⟨_, rfl, .inr ⟨os.length, [], rfl, joinEnd, by simp, fun j b hj => by simp at hj⟩⟩, (fun a ha => by cases ha), by simp⟩
      exact ⟨e0, a, cap, upd_same _ _ _, by rw [h0], Nat.le_refl _, Nat.zero_le _, (fun h => by cases h), he0⟩
    · obtain ⟨hs, hblk⟩ := hspot (by omega)
      -- one element behind the other
      have main : ∀ j, j ≤ len → ∃ os' ι', ∃ us : List V, ∃ l : List α, Mem W os' ι' ∧ Sub ι ι' ∧ More os os' ∧ us.length = j * c.w ∧ l.length = j ∧ (∀ k v, us[k]? = some v → ∃ v', W.cell? ⟨a.block, a.off + k, none⟩ = some v' ∧ R1 ι' v v') ∧
          (∀ (i : Nat) (d : α), l[i]? = some d → c.shows os' ((us.drop (i * c.w)).take c.w) d) ∧ ∀ d ∈ l, c.ok d := by
        intro j
        induction j with
        | zero => intro _; exact ⟨os, ι, [], [], hm, Sub.refl _, More.refl _, by simp, rfl, (fun k v hk => by simp at hk), (fun i d hi => by simp at hi), fun d hd => by cases hd⟩
        | succ j ih =>
          intro hj
          obtain ⟨os1, ι1, us, l, m1, s1, x1, u1, l1, c1, d1, k1⟩ := ih (by omega)
          have h1 := hel j (by omega)
          rw [List.getElem?_eq_getElem (by omega)] at h1
          obtain ⟨cs0, h2, h3⟩ := Option.bind_eq_some_iff.1 h1
          obtain ⟨os2, ι2, us2, d, m2, s2, x2, r2, sh2, ok2⟩ := he h3 (hs2 _ (List.mem_map.2 ⟨_, List.getElem_mem (by omega), rfl⟩)) hz m1
          have hu2 := c.len sh2
          refine ⟨os2, ι2, us ++ us2, l ++ [d], m2, s1.trans s2, x1.trans x2, by rw [List.length_append, u1, hu2, Nat.succ_mul], by simp [l1], fun k v hk => ?_, fun i b hi => ?_, fun b hb => ?_⟩
          · by_cases hk1 : k < us.length
            · rw [List.getElem?_append_left hk1] at hk
              obtain ⟨v', h4, h5⟩ := c1 k v hk
              exact ⟨v', h4, h5.mono s2⟩
            · rw [List.getElem?_append_right (by omega)] at hk
              obtain ⟨v', h4, h5⟩ := r2.get hk
              have hlt : k - us.length < c.w := by
                have := (List.getElem?_eq_some_iff.1 hk).1
                omega
              refine ⟨v', ?_, h5⟩
              rw [← h4, ← cells_at hs h2 hlt]
              congr 2
              omega
          · by_cases hi1 : i < l.length
            · rw [List.getElem?_append_left hi1] at hi
              have hle : i * c.w + c.w ≤ us.length := by
                rw [u1, ← Nat.succ_mul]
                exact Nat.mul_le_mul_right _ (by omega)
              rw [drop_take_append hle]
              exact c.mono x2 (d1 i b hi)
            · have hi2 : i = l.length := by
                have := (List.getElem?_eq_some_iff.1 hi).1
                simp at this
                omega
              subst hi2
              rw [List.getElem?_append_right (Nat.le_refl _), Nat.sub_self] at hi
              have hi : some d = some b := hi
              cases hi
              rw [l1, ← u1, List.drop_left, List.take_of_length_le (by omega)]
              exact sh2
          · rcases List.mem_append.1 hb with hb | hb
            · exact k1 b hb
            · rw [List.mem_singleton] at hb
              rw [hb]
              exact ok2
      obtain ⟨os1, ι1, us, l, m1, s1, x1, u1, l1, c1, d1, k1⟩ := main len (Nat.le_refl _)
      obtain ⟨m2, s2⟩ := m1.add (cs := us) (e := ⟨a.block, a.off, cap * c.w⟩) hblk c1
      refine ⟨_, _, [.slice (some (os1.length, 0)) c.w len len false], l, m2, s1.trans s2, x1.trans (More.snoc _ _), ⟨?_, trivial⟩, ⟨_, rfl, .inr ⟨os1.length, us, by rw [l1], joinEnd, by rw [u1, l1], fun j b hj => c.mono (More.snoc _ _) (d1 j b hj)⟩⟩, k1, by rw [l1]; exact hbound⟩
      · refine ⟨⟨a.block, a.off, cap * c.w⟩, a, cap, upd_same _ _ _, rfl, Nat.le_refl _, hl, (fun h => by cases h), .inr ⟨?_, by show 0 + cap * c.w ≤ cap * c.w; omega⟩⟩
        cases a with | mk b o s => cases hs; rfl
/-- A struct's fields, from a place on. -/
def OpensF {α : Type} (P : Program) (at_ : Nat) (fs : List (TypeId × Nat)) (c : Codec α) : Prop :=
  ∀ {H : Type} {enc : TypeId × Value → H} {W : World} {base : Nat} {held : Bool} {fuel : Nat} {cs : List Value} {xs : List (DataW H × List MemPlace)}, (∀ (i : Nat) (f : TypeId × Nat), fs[i]? = some f → DataW.trod enc P W base (fun _ => true) held fuel f.1 ((cs.drop f.2).take (P.cellsOf f.1)) = xs[i]?) → xs.length = fs.length →
    at_ + c.w ≤ cs.length → (DataW.weightsEach P (fs.map (·.1)) (xs.map (·.1))).all (· ≤ reachBytes) = true → 0 < W.heap.size →
    ∀ {os : List (Option AObj)} {ι : Map}, Mem W os ι → ∃ os' ι' us a, Mem W os' ι' ∧ Sub ι ι' ∧ More os os' ∧ All2 (R1 ι') us ((cs.drop at_).take c.w) ∧ c.shows os' us a ∧ c.ok a
theorem opensF_one {α : Type} {P : Program} {t : TypeId} {o : Nat} {c : Codec α} (h : Opens P t c) (hw : P.cellsOf t = c.w) : OpensF P o [(t, o)] c := by
  intro H enc W base held fuel cs xs hx hl hle hsz hz os ι hm
  match xs, hl with
  | [x], _ =>
    have h1 := hx 0 (t, o) rfl
    have h2 : (DataW.weights P t x.1).all (· ≤ reachBytes) = true := by
      simp only [List.map_cons, List.map_nil, DataW.weightsEach, List.append_nil] at hsz
      exact hsz
    rw [← hw]
    exact h h1 h2 hz hm
theorem opensF_cons {α β : Type} {P : Program} {t : TypeId} {o o' : Nat} {c : Codec α} {d : Codec β} {fs : List (TypeId × Nat)} (h : Opens P t c) (hw : P.cellsOf t = c.w) (ho : o' = o + c.w) (hf : OpensF P o' fs d) : OpensF P o ((t, o) :: fs) (cPair c d) := by
  intro H enc W base held fuel cs xs hx hl hle hsz hz os ι hm
  have hle : o + (c.w + d.w) ≤ cs.length := hle
  match xs, hl with
  | x :: xs, hl =>
    have h1 := hx 0 (t, o) rfl
    simp only [List.map_cons, DataW.weightsEach, List.all_append, Bool.and_eq_true] at hsz
    obtain ⟨os1, ι1, us1, a, m1, s1, x1, r1, sh1, k1⟩ := h h1 hsz.1 hz hm
    obtain ⟨os2, ι2, us2, b, m2, s2, x2, r2, sh2, k2⟩ := hf (fun i f hi => hx (i + 1) f hi) (by simpa using hl) (by omega) hsz.2 hz m1
    refine ⟨os2, ι2, us1 ++ us2, (a, b), m2, s1.trans s2, x1.trans x2, ?_, ⟨us1, us2, rfl, c.mono x2 sh1, sh2⟩, k1, k2⟩
    have e : (cs.drop o).take (cPair c d).w = (cs.drop o).take (P.cellsOf t) ++ (cs.drop o').take d.w := by
      show (cs.drop o).take (c.w + d.w) = _
      rw [List.take_add, hw, List.drop_drop, ho]
    rw [e]
    exact (r1.mono fun _ _ => R1.mono s2).append r2
theorem opens_struct {α : Type} {P : Program} {t : TypeId} {fs : Array Field} {l : List (TypeId × Nat)} {c : Codec α} (ht : P.underlying t = some (.struct fs)) (hl : fs.toList.map (fun f => (f.type, f.offset)) = l) (hc : P.cellsOf t = c.w) (h : OpensF P 0 l c) : Opens P t c := by
  intro H enc W base held fuel cs x hx hsz hz os ι hm
  obtain ⟨xs, n, _, rfl, hlen, hxl, hat⟩ := DataW.trod_struct ht hx
  have hsz' : (DataW.weightsEach P (l.map (·.1)) (xs.map (·.1))).all (· ≤ reachBytes) = true := by
    simp only [DataW.weights, ht] at hsz
    rw [← hl, List.map_map]
    exact hsz
  obtain ⟨os1, ι1, us, a, m1, s1, x1, r1, sh, k⟩ := h (cs := cs) (xs := xs) (fun i f hi => by
    rw [← hl, List.getElem?_map, Option.map_eq_some_iff] at hi
    obtain ⟨g, hg, rfl⟩ := hi
    exact hat i g (by rw [← Array.getElem?_toList]; exact hg)) (by rw [← hl]; simp [hxl]) (by omega) hsz' hz hm
  refine ⟨os1, ι1, us, a, m1, s1, x1, ?_, sh, k⟩
  rw [List.drop_zero, List.take_of_length_le (by omega)] at r1
  exact r1
/-- A parameter that is a slice. -/
theorem param_slice {α : Type} {B : Nat} {H : Type} {enc : TypeId × Value → H} {P : Program} {W : World} {r : Reach} {b0 base : Nat} {held : Bool} {t e : TypeId} {c : Codec α} {v : Value} {d : DataW H} {ps : List MemPlace} {ts : List TypeId} {ds : List (DataW H)} {j : Nat} (ho : Opens P t (cRow c B)) (hu : P.underlying t = some (.slice e))
    (hval : Value.okWide P W r b0 t v) (h : DataW.Trod enc P W base (fun _ => true) held t v d ps) (hsz : (DataW.weightsEach P ts ds).all (· ≤ reachBytes) = true) (ht : ts[j]? = some t) (hd : ds[j]? = some d) {os : List (Option AObj)} {ι : Map} (hm : Mem W os ι) :
    ∃ os' ι' u a, Mem W os' ι' ∧ Sub ι ι' ∧ More os os' ∧ R ι' u v ∧ ShowsRow c os' u a ∧ (∀ x ∈ a, c.ok x) ∧ a.length * B ≤ 140737488351232 := by
  have hval0 := hval
  obtain ⟨aa, len, cap, rfl⟩ := Go.WideShapes.okWide_slice hu hval
  obtain ⟨fuel, hf⟩ := h
  cases aa with
  | none =>
    rcases DataW.trod_slice hu hf with ⟨hcs, _⟩ | ⟨_, _, _, _, _, _, _, hcs, _⟩
    · simp [Value.cells] at hcs
      obtain ⟨rfl, rfl⟩ := hcs
      exact ⟨os, ι, .slice none c.w 0 0 false, [], hm, Sub.refl _, More.refl _, ⟨rfl, rfl, rfl⟩, .inl ⟨rfl, rfl⟩, (fun a ha => by cases ha), by simp⟩
    · simp [Value.cells] at hcs
  | some aa =>
  have hz : 0 < W.heap.size := Nat.lt_of_le_of_lt (Nat.zero_le _) (addr_of_okWide hu hval0).2
  obtain ⟨os1, ι1, us, a, m1, s1, x1, r1, sh, k⟩ := ho hf (List.all_eq_true.2 fun y hy => List.all_eq_true.1 hsz y (DataW.weights_mem_each ht hd y hy)) hz hm
  obtain ⟨u, rfl, sh⟩ := sh
  exact ⟨os1, ι1, u, a, m1, s1, x1, r1.1.up, sh, k⟩
end Go.Vabs

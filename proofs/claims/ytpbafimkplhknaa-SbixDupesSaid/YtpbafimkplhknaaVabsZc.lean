/-
  Slices of bytes: what they hold, where they lie in a small memory.
-/
import Derived.Test.YtpbafimkplhknaaVabsZb
namespace Go.Vabs
set_option linter.unusedVariables false
set_option linter.unusedSimpArgs false

theorem ble_t {a b : Nat} (h : a ≤ b) : Nat.ble a b = true := Nat.ble_eq_true_of_le h
theorem blt_t {a b : Nat} (h : a < b) : Nat.blt a b = true := Nat.ble_eq_true_of_le (Nat.succ_le_of_lt h)
theorem wrap_i {x : Int} (h1 : -9223372036854775808 ≤ x) (h2 : x < 9223372036854775808) : wrapV .i64 x = x := by
  cases x with
  | ofNat m =>
    show sel (Nat.blt m 9223372036854775808) _ _ = _
    rw [blt_t (by simp only [Int.ofNat_eq_natCast] at h2; omega)]
    rfl
  | negSucc m =>
    show sel (Nat.blt m 9223372036854775808) _ _ = _
    rw [blt_t (by simp only [Int.negSucc_eq] at h1; omega)]
    rfl
theorem wrap_u8 {m : Nat} (h : m < 256) : wrapV .u8 (m : Int) = m := by
  show (Int.ofNat (m % 256) : Int) = m
  rw [Nat.mod_eq_of_lt h]
  rfl
theorem wrap_u64 {m : Nat} (h : m < 18446744073709551616) : wrapV .u64 (m : Int) = m := by
  show (Int.ofNat (m % 18446744073709551616) : Int) = m
  rw [Nat.mod_eq_of_lt h]
  rfl
theorem natOf_nat {k : IntKind} {n : Nat} : natOf (.int k (n : Int)) = some n := rfl
theorem natOf_zero {k : IntKind} : natOf (.int k 0) = some 0 := rfl

theorem takeN_of : ∀ {n : Nat} {l : List V}, n ≤ l.length → takeN n l = some (l.take n)
  | 0, l, _ => by cases l <;> rfl
  | n + 1, [], h => by simp at h
  | n + 1, x :: l, h => by
    simp only [takeN, takeN_of (show n ≤ l.length by simpa using h), List.take_succ_cons]
theorem cut_of : ∀ {o n : Nat} {l : List V}, o + n ≤ l.length → cut o n l = some ((l.drop o).take n)
  | 0, n, l, h => by
    rw [show cut 0 n l = takeN n l from by cases n <;> rfl, List.drop_zero]
    exact takeN_of (by omega)
  | o + 1, 0, l, h => by simp [cut]
  | o + 1, n + 1, [], h => by simp at h
  | o + 1, n + 1, x :: l, h => by
    simp only [cut, List.drop_succ_cons]
    exact cut_of (by simp only [List.length_cons] at h; omega)

noncomputable section
/-- Bytes as cells. -/
def bytesV (bs : List Nat) : List V := bs.map fun (b : Nat) => V.int .u8 (b : Int)
def byteOf : V → Option Nat
  | .int .u8 (.ofNat n) => if n < 256 then some n else none
  | _ => none
def bytesL : List V → Option (List Nat)
  | [] => some []
  | v :: l => match byteOf v, bytesL l with | some b, some bs => some (b :: bs) | _, _ => none
/-- What a slice of bytes holds. -/
def bytesAt (st : St) : V → Option (List Nat)
  | .slice none _ 0 0 _ => some []
  | .slice (some (i, o)) 1 n c _ => if n ≤ c then match st.get i with | some (.cells _ cs) => (match cut o n cs with | some l => bytesL l | none => none) | _ => none else none
  | _ => none
end
theorem bytesV_len {bs : List Nat} : (bytesV bs).length = bs.length := by simp [bytesV]
theorem bytesV_nil : bytesV [] = [] := rfl
theorem bytesV_at {bs : List Nat} {k : Nat} : (bytesV bs)[k]? = (bs[k]?).map fun (b : Nat) => V.int .u8 (b : Int) := by simp [bytesV]
theorem bytesV_flat {bs : List Nat} : ∀ v ∈ bytesV bs, v.flat = true := by
  intro v hv
  simp only [bytesV, List.mem_map] at hv
  obtain ⟨b, _, rfl⟩ := hv
  rfl
theorem bytesV_drop {bs : List Nat} {k : Nat} : (bytesV bs).drop k = bytesV (bs.drop k) := by simp [bytesV]
theorem bytesV_take {bs : List Nat} {k : Nat} : (bytesV bs).take k = bytesV (bs.take k) := by simp [bytesV]
theorem bytesL_some : ∀ {l : List V} {bs : List Nat}, bytesL l = some bs → l = bytesV bs ∧ ∀ b ∈ bs, b < 256
  | [], bs, h => by cases h; exact ⟨rfl, fun b hb => by cases hb⟩
  | v :: l, bs, h => by
    simp only [bytesL] at h
    split at h
    · rename_i b bs' hb hl
      cases h
      obtain ⟨h1, h2⟩ := bytesL_some hl
      unfold byteOf at hb
      split at hb
      · rename_i n
        split at hb
        · rename_i hn
          cases hb
          exact ⟨by rw [h1]; rfl, fun x hx => by rcases List.mem_cons.1 hx with e | e; (· rw [e]; exact hn); (· exact h2 x e)⟩
        · cases hb
      · cases hb
    · cases h
theorem bytesL_of : ∀ {bs : List Nat}, (∀ b ∈ bs, b < 256) → bytesL (bytesV bs) = some bs
  | [], _ => rfl
  | b :: bs, h => by
    show (match byteOf (.int .u8 (b : Int)), bytesL (bytesV bs) with | some b, some bs => some (b :: bs) | _, _ => none) = _
    rw [bytesL_of (fun x hx => h x (List.mem_cons_of_mem _ hx))]
    have : byteOf (.int .u8 (b : Int)) = some b := by
      show (if b < 256 then some b else none) = some b
      rw [if_pos (h b (List.mem_cons_self ..))]
    rw [this]
theorem bytesOf_of : ∀ {bs : List Nat}, (∀ b ∈ bs, b < 256) → bytesOf (bytesV bs) = some bs
  | [], _ => rfl
  | b :: bs, h => by
    show (match bytesOf (bytesV bs) with | some r => some ((b % 256) :: r) | none => none) = _
    rw [bytesOf_of (fun x hx => h x (List.mem_cons_of_mem _ hx)), Nat.mod_eq_of_lt (h b (List.mem_cons_self ..))]

/-- The small memory's object of bytes, and the slice of all of it. -/
theorem bytesAt_ext {v : V} {s s' g : St} {bs : List Nat} (h : bytesAt s v = some bs) (he : Ext s s' g) : bytesAt g v = some bs := by
  unfold bytesAt at h ⊢
  split at h
  · exact h
  · split at h
    · rename_i hc
      split at h
      · rename_i own cs hg
        rw [he.get _ _ hg]
        rw [if_pos hc]
        exact h
      · cases h
    · cases h
  · cases h
theorem bytesAt_lt {v : V} {s : St} {bs : List Nat} (h : bytesAt s v = some bs) : ∀ b ∈ bs, b < 256 := by
  unfold bytesAt at h
  split at h
  · cases h; intro b hb; cases hb
  · split at h
    · split at h
      · split at h
        · exact (bytesL_some h).2
        · cases h
      · cases h
    · cases h
  · cases h

noncomputable section
/-- The small memory of one slice of bytes: nil, or the bytes. -/
def slOf (nil : Bool) (bs : List Nat) : V := .slice (if nil then none else some (0, 0)) 1 bs.length bs.length false
def memOf (nil : Bool) (bs : List Nat) : St := if nil then few [] else few [some (.cells false (bytesV bs))]
end

/-- A slice of bytes and arguments that lead nowhere, seen from the small memory. -/
theorem seen_bytes {st : St} {v : V} {bs : List Nat} {rest : List V} (h : bytesAt st v = some bs) (hr : ∀ v ∈ rest, v.flat = true) :
    ∃ τ nil, (nil = true → bs = []) ∧ Seen τ (v :: rest) st (slOf nil bs :: rest) (memOf nil bs) := by
  have hrest : ∀ (τ : Way) (l : List V), (∀ v ∈ l, v.flat = true) → All2 (fun a0 a => ∀ ι x, R ι a x → R (via τ ι) a0 x) l l := by
    intro τ l
    induction l with
    | nil => intro _; trivial
    | cons a l ih => intro h; exact ⟨fun ι x hx => flat_R (h a (List.mem_cons_self ..)) hx, ih fun u hu => h u (List.mem_cons_of_mem _ hu)⟩
  unfold bytesAt at h
  split at h
  · rename_i f
    cases h
    refine ⟨fun _ => none, true, fun _ => rfl, .ofCells ⟨fun ι x hx => ?_, hrest _ _ hr⟩ ?_ (fun _ _ => rfl) (few_neat _)⟩
    · exact hx
    · intro k o hk
      rw [show memOf true [] = few [] from rfl, few_heap] at hk
      simp at hk
  · rename_i i o n c f
    split at h
    · rename_i hc
      split at h
      · rename_i own cs hg
        split at h
        · rename_i l hl
          obtain ⟨h1, h2⟩ := bytesL_some h
          obtain ⟨l1, l2⟩ := cut_eq hl
          have hlen : bs.length = n := by rw [← l1, h1, bytesV_len]
          refine ⟨fun k => if k = 0 then some (i, o) else none, false, (fun e => by cases e), .ofCells ⟨fun ι x hx => ?_, hrest _ _ hr⟩ ?_ ?_ (few_neat _)⟩
          · obtain ⟨en, y, c', e1, e2, e3, e4, e5, e6⟩ := hx
            refine ⟨en.at o, y, c', by simp only [via, if_pos, e1, Option.map_some], by rw [hlen]; exact e2, by omega, by omega, (fun h => by cases h), ?_⟩
            rcases e6 with e6 | ⟨e6, e7⟩
            · exact .inl e6
            · exact .inr ⟨by rw [e6]; rfl, by show 0 + c' * 1 ≤ en.tot - o; omega⟩
          · intro k ob hk
            rw [show memOf false bs = few [some (.cells false (bytesV bs))] from rfl, few_heap] at hk
            cases k with
            | succ k => simp at hk
            | zero =>
              simp at hk
              subst hk
              refine ⟨i, o, own, cs, bytesV bs, rfl, rfl, hg, fun p v hv => ?_⟩
              have hp : p < n := by
                have := (List.getElem?_eq_some_iff.1 hv).1
                rw [bytesV_len] at this; omega
              refine ⟨v, by rw [← l2 p hp, h1]; exact hv, fun ι x hx => flat_R1 (bytesV_flat v (List.mem_of_getElem? hv)) hx⟩
          · intro k hk
            have hk : 1 ≤ k := hk
            exact if_neg (by omega)
        · cases h
      · cases h
    · cases h
  · cases h

/-- A law of a function of a slice of bytes and flat arguments, that makes nothing. -/
noncomputable def bytesRd (spec : List Nat → List V → Option V) : List V → St → Option Ans := fun args st =>
  match args with
  | v :: rest => if rest.all V.flat = true then match bytesAt st v with
    | some bs => match spec bs rest with | some u => if u.flats = true then some ([], fun _ => u) else none | none => none
    | none => none else none
  | [] => none
theorem bytesRd_reads (spec : List Nat → List V → Option V) : Reads (bytesRd spec) := by
  intro args s s' g a h he
  unfold bytesRd at h ⊢
  split at h
  · split at h
    · rename_i hr
      split at h
      · rename_i bs hb
        rw [if_pos hr, bytesAt_ext hb he]
        exact h
      · cases h
    · cases h
  · cases h
theorem bytesRd_holds {call0 : CallT} {g : Nat} {spec : List Nat → List V → Option V}
    (h : ∀ nil bs rest u, (nil = true → bs = []) → (∀ b ∈ bs, b < 256) → spec bs rest = some u → ∃ s1, call0 g (slOf nil bs :: rest) (memOf nil bs) = some (u, s1)) : Holds call0 g (bytesRd spec) := by
  intro args st os f hr
  unfold bytesRd at hr
  split at hr
  · split at hr
    · rename_i hrest
      split at hr
      · rename_i bs hb
        split at hr
        · rename_i u hu
          split at hr
          · rename_i hfl
            cases hr
            obtain ⟨τ, nil, hn, hseen⟩ := seen_bytes hb (fun v hv => List.all_eq_true.1 hrest v hv)
            obtain ⟨s1, h1⟩ := h nil bs _ u hn (bytesAt_lt hb) hu
            exact ⟨τ, _, _, s1, u, [], h1, hseen, Left.flat hfl⟩
          · cases hr
        · cases hr
      · cases hr
    · cases hr
  · cases hr

section
variable {a : Option (Nat × Nat)} {e n c l h : Nat}
/- comparisons that the hypotheses decide (their conditions: for omega) -/
theorem dlt_t {a b : Int} (h : a < b) : decide (a < b) = true := decide_eq_true h
theorem dlt_f {a b : Int} (h : b ≤ a) : decide (a < b) = false := decide_eq_false (by omega)
theorem dle_t {a b : Int} (h : a ≤ b) : decide (a ≤ b) = true := decide_eq_true h
theorem dle_f {a b : Int} (h : b < a) : decide (a ≤ b) = false := decide_eq_false (by omega)
theorem deq_t {a b : Int} (h : a = b) : decide (a = b) = true := decide_eq_true h
theorem deq_f {a b : Int} (h : a ≠ b) : decide (a = b) = false := decide_eq_false h
theorem dltn_t {a b : Nat} (h : a < b) : decide (a < b) = true := decide_eq_true h
theorem dltn_f {a b : Nat} (h : b ≤ a) : decide (a < b) = false := decide_eq_false (by omega)
theorem dlen_t {a b : Nat} (h : a ≤ b) : decide (a ≤ b) = true := decide_eq_true h
theorem dlen_f {a b : Nat} (h : b < a) : decide (a ≤ b) = false := decide_eq_false (by omega)
theorem deqn_t {a b : Nat} (h : a = b) : decide (a = b) = true := decide_eq_true h
theorem deqn_f {a b : Nat} (h : a ≠ b) : decide (a = b) = false := decide_eq_false h
theorem natOf_int {k : IntKind} {x : Int} (h : 0 ≤ x) : natOf (.int k x) = some x.toNat := by
  obtain ⟨m, rfl⟩ := Int.eq_ofNat_of_zero_le h
  rfl
section
variable {l h : Int} {k k' : IntKind}
theorem slice_lohiI (h0 : 0 ≤ l) (h1 : l ≤ h) (h2 : h ≤ c) : sliceOp (.slice e) (.slice a e n c false) (some (.int k l)) (some (.int k' h)) none = some (.slice (shiftA a (l.toNat * e)) e (h.toNat - l.toNat) (c - l.toNat) false) := by
  obtain ⟨l, rfl⟩ := Int.eq_ofNat_of_zero_le h0
  obtain ⟨h, rfl⟩ := Int.eq_ofNat_of_zero_le (show 0 ≤ h by omega)
  simp only [sliceOp, bound, natOf_nat, Nat.beq_refl, Bool.true_or, sel_true, ble_t (show l ≤ h by omega), ble_t (show h ≤ c by omega), Option.isSome_none, Bool.or_self, Bool.and_false, sel_false, Int.toNat_natCast]
theorem slice_loI (h0 : 0 ≤ l) (h1 : l ≤ n) : sliceOp (.slice e) (.slice a e n c false) (some (.int k l)) none none = some (.slice (shiftA a (l.toNat * e)) e (n - l.toNat) (c - l.toNat) false) := by
  obtain ⟨l, rfl⟩ := Int.eq_ofNat_of_zero_le h0
  simp only [sliceOp, bound, natOf_nat, Nat.beq_refl, Bool.true_or, sel_true, ble_t (show l ≤ n by omega), Option.isSome_none, Bool.or_self, Bool.and_false, sel_false, Int.toNat_natCast]
theorem slice_hiI (h0 : 0 ≤ h) (h2 : h ≤ c) : sliceOp (.slice e) (.slice a e n c false) none (some (.int k h)) none = some (.slice (shiftA a 0) e h.toNat c false) := by
  obtain ⟨h, rfl⟩ := Int.eq_ofNat_of_zero_le h0
  simp only [sliceOp, bound, natOf_nat, Nat.beq_refl, Bool.true_or, sel_true, ble_t (show h ≤ c by omega), Option.isSome_none, Bool.or_self, Bool.and_false, sel_false, Nat.zero_mul, Nat.sub_zero, Int.toNat_natCast]
end
theorem shiftA_some {i o k : Nat} : shiftA (some (i, o)) k = some (i, o + k) := rfl
theorem shiftA_none {k : Nat} : shiftA none k = none := rfl
theorem idxAddr_slice {i o k : Nat} {f : Bool} (h : k < n) : idxAddrV (.slice e) (.slice (some (i, o)) e n c f) (some k) = some (.ptr (some (i, o + k * e))) := by
  simp only [idxAddrV, blt_t h, Nat.beq_refl, Bool.and_self, sel_true]
theorem load_few {os : List (Option AObj)} {i o : Nat} {own : Bool} {cs : List V} (h : (os[i]?).join = some (.cells own cs)) : loadV (few os) false 1 (.ptr (some (i, o))) = cs[o]? := by
  show (few os).load1 i o = _
  unfold St.load1
  rw [few_get, h]
  exact nth_eq
theorem loadN_few {os : List (Option AObj)} {i o m : Nat} {own : Bool} {cs : List V} (h : (os[i]?).join = some (.cells own cs)) (hm : o + m ≤ cs.length) : (few os).loadN i o m = some ((cs.drop o).take m) := by
  unfold St.loadN
  rw [few_get, h]
  exact cut_of hm
end


/- ONE FUNCTION MORE, BY WHAT ITS CODE DOES IN THE SMALL MEMORY -/
theorem Sound.bytes {P : Program} {call : CallT} (hmix : P.follows .mixedOrders = true) (h : Sound P call) {g : Nat} {fn : AFunc} (lf : Nat) (hc : compF P g = some fn) {spec : List Nat → List V → Option V}
    (hrun : ∀ nil bs rest u, (nil = true → bs = []) → (∀ b ∈ bs, b < 256) → spec bs rest = some u → ∃ s1, enterF call lf (slOf nil bs :: rest) (memOf nil bs) fn = some (u, s1)) : Sound P (Vabs.withL call g (lawOf (bytesRd spec))) :=
  h.withL (h.withF hmix lf hc) (bytesRd_reads _) (bytesRd_holds fun nil bs rest u h1 h2 h3 => by
    obtain ⟨s1, e⟩ := hrun nil bs rest u h1 h2 h3
    exact ⟨s1, by rw [withF_same]; exact e⟩)
theorem Sound.closed {P : Program} {call call0 : CallT} (h : Sound P call) (h0 : Sound P call0) {g : Nat} {v : V} {s1 : St} (hrun : call0 g [] st0 = some (v, s1)) (hv : v.flats = true) : Sound P (Vabs.withL call g (lawOf (closedRd v))) :=
  h.withL h0 (closed_reads v) (closed_holds hrun hv)
theorem closed_call {call : CallT} {g : Nat} {v : V} {st : St} : withL call g (lawOf (closedRd v)) g [] st = some (v, st) := by rw [withL_same]; rfl
theorem bytes_call {call : CallT} {g : Nat} {spec : List Nat → List V → Option V} {v : V} {rest : List V} {st : St} {bs : List Nat} {u : V} (hb : bytesAt st v = some bs) (hr : rest.all V.flat = true) (hs : spec bs rest = some u) (hu : u.flats = true) :
    withL call g (lawOf (bytesRd spec)) g (v :: rest) st = some (u, st) := by
  rw [withL_same]
  show lawOut (bytesRd spec (v :: rest) st) st = _
  unfold bytesRd
  dsimp only
  rw [if_pos hr, hb]
  dsimp only
  rw [hs]
  dsimp only
  rw [if_pos hu]
  rfl
theorem bytesAt_few {os : List (Option AObj)} {i o n c : Nat} {f own : Bool} {cs : List V} {bs : List Nat} (h : (os[i]?).join = some (.cells own cs)) (hn : n ≤ c) (hm : o + n ≤ cs.length) (hcs : (cs.drop o).take n = bytesV bs) (hb : ∀ b ∈ bs, b < 256) :
    bytesAt (few os) (.slice (some (i, o)) 1 n c f) = some bs := by
  show (if n ≤ c then match (few os).get i with | some (.cells _ cs) => (match cut o n cs with | some l => bytesL l | none => none) | _ => none else none) = _
  rw [if_pos hn, few_get, h]
  dsimp only
  rw [cut_of hm]
  dsimp only
  rw [hcs]
  exact bytesL_of hb
theorem bytesAt_mem {nil : Bool} {bs : List Nat} (hnil : nil = true → bs = []) (hb : ∀ b ∈ bs, b < 256) : bytesAt (memOf nil bs) (slOf nil bs) = some bs := by
  cases nil with
  | true => rw [hnil rfl]; rfl
  | false => exact bytesAt_few (os := [some (.cells false (bytesV bs))]) rfl (Nat.le_refl _) (by simp [bytesV_len]) (by rw [List.drop_zero, bytesV_take, List.take_length]) hb

/-- A new object of bytes. -/
noncomputable def newBytes (bs : List Nat) : AObj := .cells true (bytesV bs)
theorem Left.bytesOk {τ : Way} {n : Nat} {s0 s1 : St} {j c : Nat} {f b : Bool} {bs : List Nat} (hj : s0.next ≤ j) (hg : s1.heap.get j = some (newBytes bs)) :
    Left τ n s0 s1 (.tuple [.slice (some (j, 0)) 1 bs.length c f, .bool b]) [newBytes bs] [j] (.tuple [.slice (some (n, 0)) 1 bs.length bs.length false, .bool b]) := by
  refine ⟨?_, rfl, ?_, ?_⟩
  · rintro ι1 ι2 x ⟨_, ho⟩ ⟨vs', rfl, h1⟩
    refine ⟨vs', rfl, ?_⟩
    have hn : ι2 n = ι1 j := ho 0 j rfl
    match vs'.toList, h1 with
    | x :: y :: [], ⟨⟨en, yy, c', e1, e2, e3, e4, e5, e6⟩, h3, _⟩ =>
      refine ⟨⟨en, yy, c', by rw [hn]; exact e1, e2, Nat.le_refl _, by omega, (fun h => by cases h), e6⟩, h3, trivial⟩
  · intro q k o hq ho
    cases q with
    | succ q => simp at hq
    | zero =>
      simp at hq ho
      subst hq ho
      exact ⟨hj, _, hg, rfl, fun ι1 ι2 B B' w e hB _ hor => or_flat hB bytesV_flat hor⟩
  · intro q q' k h1 h2
    cases q with
    | succ q => simp at h1
    | zero => cases q' with
      | succ q' => simp at h2
      | zero => rfl
/-- The same, the slice alone. -/
theorem Left.bytes {τ : Way} {n : Nat} {s0 s1 : St} {j c : Nat} {f : Bool} {bs : List Nat} (hj : s0.next ≤ j) (hg : s1.heap.get j = some (newBytes bs)) :
    Left τ n s0 s1 (.slice (some (j, 0)) 1 bs.length c f) [newBytes bs] [j] (.slice (some (n, 0)) 1 bs.length bs.length false) := by
  refine ⟨?_, rfl, ?_, ?_⟩
  · rintro ι1 ι2 x ⟨_, ho⟩ ⟨en, yy, c', e1, e2, e3, e4, e5, e6⟩
    have hn : ι2 n = ι1 j := ho 0 j rfl
    exact ⟨en, yy, c', by rw [hn]; exact e1, e2, Nat.le_refl _, by omega, (fun h => by cases h), e6⟩
  · intro q k o hq ho
    cases q with
    | succ q => simp at hq
    | zero =>
      simp at hq ho
      subst hq ho
      exact ⟨hj, _, hg, rfl, fun ι1 ι2 B B' w e hB _ hor => or_flat hB bytesV_flat hor⟩
  · intro q q' k h1 h2
    cases q with
    | succ q => simp at h1
    | zero => cases q' with
      | succ q' => simp at h2
      | zero => rfl

/-- A law of a function of a slice of bytes and flat arguments, told with whether the slice is nil. -/
noncomputable def isNil : V → Bool
  | .slice none _ _ _ _ => true
  | _ => false
noncomputable def bytesRdA (spec : Bool → List Nat → List V → Option Ans) : List V → St → Option Ans := fun args st =>
  match args with
  | v :: rest => if rest.all V.flat = true then match bytesAt st v with | some bs => spec (isNil v) bs rest | none => none else none
  | [] => none
theorem bytesRdA_reads (spec : Bool → List Nat → List V → Option Ans) : Reads (bytesRdA spec) := by
  intro args s s' g a h he
  unfold bytesRdA at h ⊢
  split at h
  · split at h
    · rename_i hr
      split at h
      · rename_i bs hb
        rw [if_pos hr, bytesAt_ext hb he]
        exact h
      · cases h
    · cases h
  · cases h
theorem seen_bytesN {st : St} {v : V} {bs : List Nat} {rest : List V} (h : bytesAt st v = some bs) (hr : ∀ v ∈ rest, v.flat = true) :
    ∃ τ, (isNil v = true → bs = []) ∧ Seen τ (v :: rest) st (slOf (isNil v) bs :: rest) (memOf (isNil v) bs) := by
  obtain ⟨τ, nil, h1, h2⟩ := seen_bytes h hr
  have e : nil = isNil v := by
    have hx := h2.args.1
    unfold bytesAt at h
    split at h
    · cases h
      cases nil with
      | true => rfl
      | false =>
        exfalso
        obtain ⟨en, y, c', e1, _⟩ := hx (fun _ => none) (.slice none 0 0) ⟨rfl, rfl, rfl⟩
        unfold via at e1
        split at e1 <;> cases e1
    · rename_i i o n c f
      cases nil with
      | false => rfl
      | true =>
        exfalso
        have hb := h1 rfl
        subst hb
        split at h
        · rename_i hc
          have key : R (via τ (fun _ => some ⟨0, 0, o + c⟩)) (slOf true []) (.slice (some ⟨0, o, none⟩) n c) :=
            hx (fun _ => some ⟨0, 0, o + c⟩) (.slice (some ⟨0, o, none⟩) n c) ⟨⟨0, 0, o + c⟩, ⟨0, o, none⟩, c, rfl, rfl, hc, Nat.le_refl _, fun _ => rfl, .inr ⟨by rw [Nat.zero_add], by show o + c * 1 ≤ o + c; omega⟩⟩
          obtain ⟨_, _, e3⟩ := key
          cases e3
        · cases h
    · cases h
  subst e
  exact ⟨τ, h1, h2⟩
theorem Sound.bytesA {P : Program} {call : CallT} (hmix : P.follows .mixedOrders = true) (h : Sound P call) {g : Nat} {fn : AFunc} (lf : Nat) (hc : compF P g = some fn) {spec : Bool → List Nat → List V → Option Ans}
    (hrun : ∀ nil bs rest os f, (nil = true → bs = []) → (∀ b ∈ bs, b < 256) → spec nil bs rest = some (os, f) →
      ∃ v0 s1 σ, enterF call lf (slOf nil bs :: rest) (memOf nil bs) fn = some (v0, s1) ∧ ∀ τ n, Left τ n (memOf nil bs) s1 v0 os σ (f n)) : Sound P (Vabs.withL call g (lawOf (bytesRdA spec))) := by
  refine h.withL (h.withF hmix lf hc) (bytesRdA_reads _) ?_
  intro args st os f hr
  unfold bytesRdA at hr
  split at hr
  · split at hr
    · rename_i hrest
      split at hr
      · rename_i bs hb
        obtain ⟨τ, hn, hseen⟩ := seen_bytesN hb (fun v hv => List.all_eq_true.1 hrest v hv)
        obtain ⟨v0, s1, σ, e, hl⟩ := hrun _ bs _ os f hn (bytesAt_lt hb) hr
        exact ⟨τ, _, _, s1, v0, σ, by rw [withF_same]; exact e, hseen, hl τ st.next⟩
      · cases hr
    · cases hr
  · cases hr
theorem bytesA_call {call : CallT} {g : Nat} {spec : Bool → List Nat → List V → Option Ans} {v : V} {rest : List V} {st : St} {bs : List Nat} (hb : bytesAt st v = some bs) (hr : rest.all V.flat = true) :
    withL call g (lawOf (bytesRdA spec)) g (v :: rest) st = lawOut (spec (isNil v) bs rest) st := by
  rw [withL_same]
  show lawOut (bytesRdA spec (v :: rest) st) st = _
  unfold bytesRdA
  dsimp only
  rw [if_pos hr, hb]
theorem lawOut_nil {f : Nat → V} {st : St} : lawOut (some ([], f)) st = some (f st.next, st) := rfl
theorem lawOut_one {f : Nat → V} {os : List (Option AObj)} {o : AObj} : lawOut (some ([o], f)) (few os) = some (f os.length, few (os ++ [some o])) := by
  show (match allocL [o] (few os) with | some st' => some (f (few os).next, st') | none => none) = _
  simp only [allocL, few_alloc]
  rfl

/-- Joined to an empty slice of one's own. -/
theorem append_none {os : List (Option AObj)} {j : Nat} : appendV (few os) 1 1 (.slice (some (j, 0)) 1 0 0 true) (some 0) (some []) = some (.slice (some (j, 0)) 1 0 0 true, few os) := rfl
theorem append_new {os : List (Option AObj)} {j n : Nat} {new : List V} (hj : (os[j]?).join = some (.cells true [])) (hn : 0 < n) (hl : new.length = n) (hs : n ≤ 140737488354816) :
    appendV (few os) 1 1 (.slice (some (j, 0)) 1 0 0 true) (some n) (some new) = some (.slice (some (os.length, 0)) 1 n n false, few (os ++ [some (.cells true new)])) := by
  obtain ⟨m, rfl⟩ : ∃ m, n = m + 1 := ⟨n - 1, by omega⟩
  show valOf (appendOp (few os) 1 1 (.slice (some (j, 0)) 1 0 0 true) (m + 1) new) = _
  unfold appendOp
  dsimp only
  rw [ble_t (show (2 * (0 + (m + 1)) + 1024) * 1 ≤ 281474976710656 by omega), show Nat.beq new.length ((m + 1) * 1) = true from by rw [hl, Nat.mul_one]; exact Nat.beq_refl _, few_get, hj]
  dsimp only [Bool.and_self, sel_true, Nat.beq_refl]
  rw [show Nat.ble (0 + (m + 1)) 0 = false from by rw [Nat.zero_add]; rfl]
  dsimp only [sel_false, sel_true]
  rw [show cut 0 (0 * 1) ([] : List V) = some [] from rfl]
  dsimp only
  rw [few_alloc, Nat.zero_add]
  rfl

end Go.Vabs

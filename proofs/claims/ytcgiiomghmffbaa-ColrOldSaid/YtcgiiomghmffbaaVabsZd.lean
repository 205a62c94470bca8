/- Lemmas for this claim, text Zd. No condition. -/
import Derived.Test.YtcgiiomghmffbaaVabsZ
import Derived.WideShapes
import Derived.SizedLaws
import Derived.ChangeSlices
namespace Go.Vabs
set_option linter.unusedVariables false
set_option linter.unusedSimpArgs false
theorem addr_of_okWide {P : Program} {w : World} {r : Reach} {base : Nat} {t e : TypeId} {a : Addr} {len cap : Nat} (ht : P.underlying t = some (.slice e)) (h : Value.okWide P w r base t (.slice (some a) len cap)) : a.spot = none ∧ a.block < w.heap.size := by
  simp only [Value.okWide, ht, Cell.okWide, Cell.ok] at h
  obtain ⟨_, _, _, h2, row, cells, h3, _⟩ := h
  refine ⟨h2, ?_⟩
  unfold World.shape? at h3
  split at h3
  · rename_i hx
    exact (Array.getElem?_eq_some_iff.1 hx).1
  · cases h3
open Go.ChangeShapes Go.WideShapes in
theorem int_of_wf {k : IntKind} {n : Int} (h : (Lit.int k n).wf = true) : k.min ≤ n ∧ n ≤ k.max := by
  simpa [Lit.wf] using h
theorem i64_of_wf {n : Int} (h : (Lit.int .i64 n).wf = true) : -9223372036854775808 ≤ n ∧ n < 9223372036854775808 := by
  have h' := int_of_wf h
  have h1 : (IntKind.i64.min : Int) = -9223372036854775808 := rfl
  have h2 : (IntKind.i64.max : Int) = 9223372036854775807 := rfl
  omega
theorem Sound.law {P : Program} {call : CallT} (h : Sound P call) {g : Nat} {args0 : List V} {s0 s1 : St} (hrun : call g args0 s0 = some (.bool true, s1)) (hn : Neat s0) {W : World} {args' : Array Value} {ι : Map} (hrel : Rel ι W.heap.size s0.heap W)
    (hfr : ∀ i, s0.next ≤ i → ι i = none) (hargs : All2 (R ι) args0 args'.toList) : Calls P g args' W fun e W' => e = .returned (.bool true) ∧ Go.RowKit.Below W.heap.size W W' := by
  obtain ⟨_, hc⟩ := h.ok W.heap.size g args0 s0 _ s1 hrun
  refine (hc ι W args' hn hrel (fun i h1 _ => hfr i h1) hargs).mono ?_
  rintro e W' ⟨x, ι', rfl, _, _, _, hb, hr⟩
  exact ⟨by rw [inv_bool hr], hb.base⟩
end Go.Vabs

namespace Go.Vabs
set_option linter.unusedVariables false
set_option linter.unusedSimpArgs false
namespace T
variable {α : Type}
theorem put_fuel (x : Option α) : ∀ (f g : Nat) (t : T α) (n : Nat), n < f → n < g → put f t n x = put g t n x := by
  intro f
  induction f with
  | zero => intro g t n h; omega
  | succ f ih =>
    intro g t n h1 h2
    obtain ⟨g, rfl⟩ : ∃ k, g = k + 1 := ⟨g - 1, by omega⟩
    cases n with
    | zero => rw [put_zero, put_zero]
    | succ m =>
      cases t with
      | nil => rw [put_succ_nil, put_succ_nil]; split <;> rw [ih g _ _ (by omega) (by omega)]
      | node l v r => rw [put_succ_node, put_succ_node]; split <;> rw [ih g _ _ (by omega) (by omega)]
theorem put_same (x y : Option α) : ∀ (f : Nat) (t : T α) (n : Nat), n < f → put f (put f t n x) n y = put f t n y := by
  intro f
  induction f with
  | zero => intro t n h; omega
  | succ f ih =>
    intro t n h
    cases n with
    | zero => rw [put_zero, put_zero, put_zero]; cases t <;> rfl
    | succ m =>
      cases t with
      | nil =>
        rw [put_succ_nil, put_succ_nil]
        split <;> rename_i hm <;> rw [put_succ_node] <;> simp only [hm, if_true, if_false] <;> rw [ih _ _ (by omega)]
      | node l v r =>
        rw [put_succ_node, put_succ_node]
        split <;> rename_i hm <;> rw [put_succ_node] <;> simp only [hm, if_true, if_false] <;> rw [ih _ _ (by omega)]
theorem put_comm (x y : Option α) : ∀ (f : Nat) (t : T α) (n m : Nat), n < f → m < f → n ≠ m → put f (put f t n x) m y = put f (put f t m y) n x := by
  intro f
  induction f with
  | zero => intro t n m h; omega
  | succ f ih =>
    intro t n m hn hm hne
    cases n with
    | zero =>
      cases m with
      | zero => exact absurd rfl hne
      | succ m =>
        cases t <;> by_cases h : m % 2 = 0 <;> simp only [put_zero, put_succ_nil, put_succ_node, h, if_true, if_false]
    | succ n =>
      cases m with
      | zero =>
        cases t <;> by_cases h : n % 2 = 0 <;> simp only [put_zero, put_succ_nil, put_succ_node, h, if_true, if_false]
      | succ m =>
        have key : ∀ t : T α, n % 2 = m % 2 → put f (put f t (n / 2) x) (m / 2) y = put f (put f t (m / 2) y) (n / 2) x := fun t h => ih t (n / 2) (m / 2) (by omega) (by omega) (by omega)
        cases t with
        | nil =>
          by_cases h1 : n % 2 = 0 <;> by_cases h2 : m % 2 = 0 <;> simp only [put_succ_nil, put_succ_node, h1, h2, if_true, if_false]
          · rw [key _ (by omega)]
          · rw [key _ (by omega)]
        | node l v r =>
          by_cases h1 : n % 2 = 0 <;> by_cases h2 : m % 2 = 0 <;> simp only [put_succ_node, h1, h2, if_true, if_false]
          · rw [key _ (by omega)]
          · rw [key _ (by omega)]
theorem set_same (t : T α) (n : Nat) (x y : Option α) : (t.set n x).set n y = t.set n y := put_same x y (n + 1) t n (Nat.lt_succ_self n)
theorem set_comm (t : T α) {n m : Nat} (x y : Option α) (h : n ≠ m) : (t.set n x).set m y = (t.set m y).set n x := by
  show put (m + 1) (put (n + 1) t n x) m y = put (n + 1) (put (m + 1) t m y) n x
  rw [put_fuel x (n + 1) (n + m + 1) t n (by omega) (by omega), put_fuel y (m + 1) (n + m + 1) _ m (by omega) (by omega), put_fuel y (m + 1) (n + m + 1) t m (by omega) (by omega), put_fuel x (n + 1) (n + m + 1) _ n (by omega) (by omega)]
  exact put_comm x y _ t n m (by omega) (by omega) h
end T
theorem heapFrom_over : ∀ (l : List (Option AObj)) (n k : Nat) (t : T AObj) (o : Option AObj), k < n → (heapFrom n l t).set k o = heapFrom n l (t.set k o)
  | [], n, k, t, o, h => rfl
  | a :: l, n, k, t, o, h => by
    show (heapFrom (n + 1) l (t.set n a)).set k o = heapFrom (n + 1) l ((t.set k o).set n a)
    rw [heapFrom_over l (n + 1) k _ o (by omega), T.set_comm t a o (by omega)]
theorem heapFrom_set : ∀ (l : List (Option AObj)) (n k : Nat) (t : T AObj) (o : Option AObj), k < l.length → (heapFrom n l t).set (n + k) o = heapFrom n (l.set k o) t
  | [], n, k, t, o, h => by simp at h
  | a :: l, n, 0, t, o, h => by
    show (heapFrom (n + 1) l (t.set n a)).set n o = heapFrom (n + 1) l (t.set n o)
    rw [heapFrom_over l (n + 1) n _ o (by omega), T.set_same]
  | a :: l, n, k + 1, t, o, h => by
    show (heapFrom (n + 1) l (t.set n a)).set (n + (k + 1)) o = heapFrom (n + 1) (l.set k o) (t.set n a)
    rw [show n + (k + 1) = n + 1 + k from by omega]
    exact heapFrom_set l (n + 1) k _ o (by simpa using h)
theorem few_set {os : List (Option AObj)} {i : Nat} {o : Option AObj} {x : AObj} (h : (os[i]?).join = some x) : (few os).set i o = some (few (os.set i o)) := by
  have hi : i < os.length := by
    cases hx : os[i]? with
    | none => rw [hx] at h; cases h
    | some y => exact (List.getElem?_eq_some_iff.1 hx).1
  show sel (true && true) (Option.rec none (fun _ => some (⟨os.length, (heapFrom 0 os .nil).set i o, fun _ => true, fun _ => true⟩ : St)) ((few os).heap.get i)) none = _
  rw [few_heap, h]
  show some (⟨os.length, (heapFrom 0 os .nil).set i o, fun _ => true, fun _ => true⟩ : St) = some ⟨(os.set i o).length, heapFrom 0 (os.set i o) .nil, fun _ => true, fun _ => true⟩
  have := heapFrom_set os 0 i .nil o hi
  rw [Nat.zero_add] at this
  rw [this, List.length_set]
theorem over_of : ∀ {vs l : List V}, vs.length ≤ l.length → over vs l = some (vs ++ l.drop vs.length)
  | [], l, _ => rfl
  | _ :: _, [], h => by simp at h
  | v :: vs, x :: l, h => by
    simp only [over, over_of (show vs.length ≤ l.length by simpa using h)]
    rfl
theorem splice_of : ∀ {o : Nat} {vs l : List V}, o + vs.length ≤ l.length → splice o vs l = some (l.take o ++ vs ++ l.drop (o + vs.length))
  | 0, vs, l, h => by
    rw [show splice 0 vs l = over vs l from by cases vs <;> rfl, over_of (by omega)]
    simp
  | o + 1, vs, [], h => by simp at h
  | o + 1, vs, x :: l, h => by
    simp only [splice, splice_of (show o + vs.length ≤ l.length by simp at h; omega)]
    simp [show o + 1 + vs.length = (o + vs.length) + 1 from by omega]
theorem splice_one {o : Nat} {v : V} {l : List V} (h : o < l.length) : splice o [v] l = some (l.set o v) := by
  rw [splice_of (show o + [v].length ≤ l.length from h), List.set_eq_take_append_cons_drop, if_pos h]
  simp
theorem store_few {os : List (Option AObj)} {i o : Nat} {cs : List V} {v : V} (h : (os[i]?).join = some (.cells true cs)) (ho : o < cs.length) :
    storeV (few os) 1 (.ptr (some (i, o))) (some [v]) = some (V.undef, few (os.set i (some (.cells true (cs.set o v))))) := by
  show sel (Nat.beq 1 1) (match (few os).storeN i o [v] with | some st' => some (V.undef, st') | none => none) none = _
  unfold St.storeN
  rw [few_get, h]
  dsimp only
  rw [splice_one ho]
  dsimp only
  rw [few_set h]
  rfl
theorem cells_int {k : IntKind} {n : Int} : (V.int k n).cells = some [.int k n] := rfl
theorem cells_bool {b : Bool} : (V.bool b).cells = some [.bool b] := rfl
theorem cells_str {s : List Nat} : (V.str s).cells = some [.str s] := rfl
theorem cells_slice {a : Option (Nat × Nat)} {e n c : Nat} {f : Bool} : (V.slice a e n c f).cells = some [.slice a e n c f] := rfl
theorem cells_ptr {a : Option (Nat × Nat)} : (V.ptr a).cells = some [.ptr a] := rfl
theorem cells_agg {cs : List V} : (V.agg cs).cells = some cs := rfl
section
variable {call : CallT} {lf : Nat} {s : Env} {st : St} {Q : Goal}
def wpDVal (call : CallT) (d : Option Pos) (os : List (AOper × List Nat)) (n : Nat) (past : List Past) (s : Env) (st : St) (ft : Foot) (lim : Bool) (Q : Goal) : Option (V × St) → Prop
  | some (v, st') => wpDs call os (n + 1) (⟨st.next, st'.next, ft⟩ :: past) (s.put d v) (if lim = true then back st st' else st') Q
  | none => False
def wpDLim (call : CallT) (d : Option Pos) (op : AOp) (os : List (AOper × List Nat)) (n : Nat) (past : List Past) (s : Env) (st : St) (ps : List Past) (ft : Foot) (fr : Bool) (Q : Goal) : Bool → Prop
  | true => wpDVal call d os n past s st ft true Q (stepE call op s (limF fr ft ps st))
  | false => False
def wpDGuard (call : CallT) (d : Option Pos) (op : AOp) (inc : List Nat) (os : List (AOper × List Nat)) (n : Nat) (past : List Past) (s : Env) (st : St) (Q : Goal) : Option Bool → Prop
  | some true => match inc with
    | [] => wpDVal call d os n past s st .call false Q (stepE call op s st)
    | _ :: _ => wpDLim call d op os n past s st (pastsOf past n inc) (foot op s.ev) (ahead n inc) Q (okAll (pastsOf past n inc) (foot op s.ev))
  | some false => wpDs call os (n + 1) (⟨st.next, st.next, .dir [] []⟩ :: past) (s.put d V.undef) st Q
  | none => False
theorem wpDs_nil {n : Nat} {past : List Past} : wpDs call [] n past s st Q ↔ Q .normal s st := ⟨fun ⟨s', st', h, k⟩ => by cases h; exact k, fun h => ⟨_, _, rfl, h⟩⟩
theorem wpDs_cons {d : Option Pos} {op : AOp} {g : Option (Pos × Bool)} {inc : List Nat} {os : List (AOper × List Nat)} {n : Nat} {past : List Past} :
    wpDs call ((⟨d, op, g⟩, inc) :: os) n past s st Q ↔ wpDGuard call d op inc os n past s st Q (wantedE s g) := by
  unfold wpDs
  simp only [runDE]
  cases wantedE s g with
  | none => exact ⟨(fun ⟨_, _, h, _⟩ => by cases h), fun h => h.elim⟩
  | some b =>
    cases b with
    | false => exact Iff.rfl
    | true =>
      simp only [wpDGuard]
      cases inc with
      | nil =>
        dsimp only
        cases stepE call op s st with
        | none => exact ⟨(fun ⟨_, _, h, _⟩ => by cases h), fun h => h.elim⟩
        | some p => exact Iff.rfl
      | cons a l =>
        dsimp only
        cases okAll (pastsOf past n (a :: l)) (foot op s.ev) with
        | false => exact ⟨(fun ⟨_, _, h, _⟩ => by cases h), fun h => h.elim⟩
        | true =>
          dsimp only [wpDLim]
          cases stepE call op s (limF (ahead n (a :: l)) (foot op s.ev) (pastsOf past n (a :: l)) st) with
          | none => exact ⟨(fun ⟨_, _, h, _⟩ => by cases h), fun h => h.elim⟩
          | some p => exact Iff.rfl
theorem wantedE_none : wantedE s none = some true := rfl
theorem wantedE_some {g : Pos × Bool} : wantedE s (some g) = boolIs g.2 (s g.1) := rfl
theorem wpDGuard_true {d : Option Pos} {op : AOp} {os : List (AOper × List Nat)} {n : Nat} {past : List Past} : wpDGuard call d op [] os n past s st Q (some true) ↔ wpDVal call d os n past s st .call false Q (stepE call op s st) := Iff.rfl
theorem wpDGuard_lim {d : Option Pos} {op : AOp} {os : List (AOper × List Nat)} {n a : Nat} {l : List Nat} {past : List Past} : wpDGuard call d op (a :: l) os n past s st Q (some true) ↔ wpDLim call d op os n past s st (pastsOf past n (a :: l)) (foot op s.ev) (ahead n (a :: l)) Q (okAll (pastsOf past n (a :: l)) (foot op s.ev)) := Iff.rfl
theorem wpDGuard_false {d : Option Pos} {op : AOp} {inc : List Nat} {os : List (AOper × List Nat)} {n : Nat} {past : List Past} : wpDGuard call d op inc os n past s st Q (some false) ↔ wpDs call os (n + 1) (⟨st.next, st.next, .dir [] []⟩ :: past) (s.put d V.undef) st Q := by
  cases inc <;> exact Iff.rfl
theorem wpDLim_true {d : Option Pos} {op : AOp} {os : List (AOper × List Nat)} {n : Nat} {past ps : List Past} {ft : Foot} {fr : Bool} : wpDLim call d op os n past s st ps ft fr Q true ↔ wpDVal call d os n past s st ft true Q (stepE call op s (limF fr ft ps st)) := Iff.rfl
theorem limF_dir {fr : Bool} {rs ws : List Nat} {ps : List Past} : limF fr (.dir rs ws) ps st = limited (.dir rs ws) ps st := by cases st; rfl
theorem limF_false {ft : Foot} {ps : List Past} : limF false ft ps st = limited ft ps st := by cases st; cases ft <;> simp [limF, limited]
theorem back_limF {fr : Bool} {ft : Foot} {ps : List Past} : back st (limF fr ft ps st) = st := by cases st; cases ft <;> rfl
theorem next_limF {fr : Bool} {ft : Foot} {ps : List Past} : (limF fr ft ps st).next = st.next := by cases st; cases ft <;> rfl
theorem wpDVal_free {d : Option Pos} {os : List (AOper × List Nat)} {n : Nat} {past : List Past} {ft : Foot} {v : V} {st' : St} : wpDVal call d os n past s st ft false Q (some (v, st')) ↔ wpDs call os (n + 1) (⟨st.next, st'.next, ft⟩ :: past) (s.put d v) st' Q := Iff.rfl
theorem wpDVal_lim {d : Option Pos} {os : List (AOper × List Nat)} {n : Nat} {past : List Past} {ft : Foot} {v : V} {st' : St} : wpDVal call d os n past s st ft true Q (some (v, st')) ↔ wpDs call os (n + 1) (⟨st.next, st'.next, ft⟩ :: past) (s.put d v) (back st st') Q := Iff.rfl
theorem back_limited {ft : Foot} {ps : List Past} : back st (limited ft ps st) = st := by cases st; cases ft <;> rfl
theorem next_limited {ft : Foot} {ps : List Past} : (limited ft ps st).next = st.next := by cases st; cases ft <;> rfl
theorem get_limited {rs ws : List Nat} {ps : List Past} {i : Nat} (h : i ∈ rs) : (limited (.dir rs ws) ps st).get i = st.get i := by
  cases st with | mk next heap vis wr =>
  show sel (vis i && (Nat.ble next i || Vabs.mem i rs)) (heap.get i) none = sel (vis i) (heap.get i) none
  rw [mem_of.2 h, Bool.or_true, Bool.and_true]
theorem convStr_limited {ws : List Nat} {ps : List Past} {v : V} : convV (limited (.dir (idOf v) ws) ps st) .toStr v = convV st .toStr v := by
  cases v with
  | slice a e n c f =>
    cases a with
    | none => rfl
    | some p =>
      obtain ⟨i, o⟩ := p
      unfold convV St.loadN
      dsimp only
      rw [get_limited (show i ∈ idOf (.slice (some (i, o)) e n c f) from List.mem_cons_self ..)]
  | _ => rfl
theorem load_limited {ws : List Nat} {ps : List Past} {v : V} {a : Bool} {n : Nat} : loadV (limited (.dir (idOf v) ws) ps st) a n v = loadV st a n v := by
  cases v with
  | ptr p =>
    cases p with
    | none => rfl
    | some p =>
      obtain ⟨i, o⟩ := p
      unfold loadV St.loadN St.load1
      dsimp only
      rw [get_limited (show i ∈ idOf (.ptr (some (i, o))) from List.mem_cons_self ..)]
  | _ => rfl
theorem foot_convStr {x : Src} : foot (.conv .toStr x) s.ev = .dir (idOf (s.ev x)) [] := rfl
theorem foot_load {x : Src} {a : Bool} {n : Nat} : foot (.load a n x) s.ev = .dir (idOf (s.ev x)) [] := rfl
theorem okAll_nil {f : Foot} : okAll [] f = true := rfl
theorem okAll_cons {p : Past} {l : List Past} {f : Foot} : okAll (p :: l) f = (okPair p f && okAll l f) := rfl
theorem anyIn_same {n : Nat} : ∀ {l : List Nat}, anyIn n n l = false
  | [] => rfl
  | j :: l => by
    show sel (Nat.ble n j && Nat.blt j n) true (anyIn n n l) = false
    have : (Nat.ble n j && Nat.blt j n) = false := by
      cases h1 : Nat.ble n j with
      | false => rfl
      | true =>
        cases h2 : Nat.blt j n with
        | false => rfl
        | true =>
          exfalso
          have a := Nat.le_of_ble_eq_true h1
          have b := Nat.le_of_ble_eq_true (show Nat.ble (j + 1) n = true from h2)
          omega
    rw [this, sel_false, anyIn_same]
theorem meets_nil {l : List Nat} : meets [] l = false := rfl
theorem meets_nil' : ∀ {l : List Nat}, meets l [] = false
  | [] => rfl
  | i :: l => by
    show sel (Vabs.mem i []) true (meets l []) = false
    rw [show Vabs.mem i [] = false from rfl, sel_false, meets_nil']
end
end Go.Vabs

namespace Go.Vabs
set_option linter.unusedVariables false
set_option linter.unusedSimpArgs false
theorem back_as {l t : St} : back l t = ⟨t.next, t.heap, l.vis, l.wr⟩ := by cases l; cases t; rfl
theorem back_back {a b t : St} : back a (back b t) = back a t := by rw [back_as, back_as, back_as]
theorem back_few {os os' : List (Option AObj)} : back (few os) (few os') = few os' := rfl
theorem next_back {a t : St} : (back a t).next = t.next := by rw [back_as]
theorem limited_back {ft : Foot} {ps : List Past} {st : St} : back (limited ft ps st) st = limited ft ps st := by cases st; cases ft <;> rfl
section
variable {l : St} {os : List (Option AObj)}
theorem get_back {i : Nat} (h : l.vis i = true) : (back l (few os)).get i = (few os).get i := by
  rw [back_as, St.get_eq, St.get_eq]
  show (if l.vis i = true then _ else none) = if true = true then _ else none
  rw [if_pos h, if_pos rfl]
theorem alloc_back {o : AObj} (h : l.vis os.length = true) (h' : l.wr os.length = true) : (back l (few os)).alloc o = some (os.length, back l (few (os ++ [some o]))) := by
  rw [back_as, back_as]
  show sel (l.vis os.length && l.wr os.length) (some (os.length, (⟨os.length + 1, (heapFrom 0 os .nil).set os.length (some o), l.vis, l.wr⟩ : St))) none = _
  rw [h, h']
  show some (os.length, (⟨os.length + 1, (heapFrom 0 os .nil).set os.length (some o), l.vis, l.wr⟩ : St)) = some (os.length, ⟨(os ++ [some o]).length, heapFrom 0 (os ++ [some o]) .nil, l.vis, l.wr⟩)
  rw [heapFrom_snoc, Nat.zero_add, List.length_append]
  rfl
theorem set_back {i : Nat} {o : Option AObj} {x : AObj} (hx : (os[i]?).join = some x) (h : l.vis i = true) (h' : l.wr i = true) : (back l (few os)).set i o = some (back l (few (os.set i o))) := by
  have hi : i < os.length := by
    cases hx' : os[i]? with
    | none => rw [hx'] at hx; cases hx
    | some y => exact (List.getElem?_eq_some_iff.1 hx').1
  rw [back_as, back_as]
  show sel (l.vis i && l.wr i) (Option.rec none (fun _ => some (⟨os.length, (heapFrom 0 os .nil).set i o, l.vis, l.wr⟩ : St)) ((few os).heap.get i)) none = _
  rw [h, h', few_heap, hx]
  show some (⟨os.length, (heapFrom 0 os .nil).set i o, l.vis, l.wr⟩ : St) = some ⟨(os.set i o).length, heapFrom 0 (os.set i o) .nil, l.vis, l.wr⟩
  have := heapFrom_set os 0 i .nil o hi
  rw [Nat.zero_add] at this
  rw [this, List.length_set]
noncomputable def backv (l : St) : Option (V × St) → Option (V × St)
  | some (v, t) => some (v, back l t)
  | none => none
theorem backv_some {v : V} {t : St} : backv l (some (v, t)) = some (v, back l t) := rfl
theorem store_back {n i o : Nat} {cs : List V} (h : l.vis i = true) (h' : l.wr i = true) : storeV (back l (few os)) n (.ptr (some (i, o))) (some cs) = backv l (storeV (few os) n (.ptr (some (i, o))) (some cs)) := by
  show sel (Nat.beq cs.length n) (match (back l (few os)).storeN i o cs with | some st' => some (V.undef, st') | none => none) none = backv l (sel (Nat.beq cs.length n) (match (few os).storeN i o cs with | some st' => some (V.undef, st') | none => none) none)
  unfold St.storeN
  rw [get_back h, few_get]
  cases Nat.beq cs.length n with
  | false => rfl
  | true =>
    dsimp only [sel_true]
    cases hx : (os[i]?).join with
    | none => rfl
    | some ob =>
      cases ob with
      | map own es c => rfl
      | cells own xs =>
        cases own with
        | false => rfl
        | true =>
          dsimp only
          cases splice o cs xs with
          | none => rfl
          | some r =>
            dsimp only
            rw [set_back hx h h', few_set hx]
            rfl
end
theorem vis_dir {rs ws : List Nat} {ps : List Past} {os : List (Option AObj)} {i : Nat} (h : i ∈ rs ∨ os.length ≤ i) : (limited (.dir rs ws) ps (few os)).vis i = true := by
  show (true && (Nat.ble os.length i || Vabs.mem i rs)) = true
  rcases h with h | h
  · rw [mem_of.2 h, Bool.or_true, Bool.and_true]
  · rw [ble_t h, Bool.true_or, Bool.and_true]
theorem wr_dir {rs ws : List Nat} {ps : List Past} {os : List (Option AObj)} {i : Nat} (h : i ∈ ws ∨ os.length ≤ i) : (limited (.dir rs ws) ps (few os)).wr i = true := by
  show (true && (Nat.ble os.length i || Vabs.mem i ws)) = true
  rcases h with h | h
  · rw [mem_of.2 h, Bool.or_true, Bool.and_true]
  · rw [ble_t h, Bool.true_or, Bool.and_true]
section
variable {rs ws : List Nat} {ps : List Past} {os : List (Option AObj)}
theorem alloc_dir {o : AObj} : (limited (.dir rs ws) ps (few os)).alloc o = some (os.length, back (limited (.dir rs ws) ps (few os)) (few (os ++ [some o]))) := by
  rw [← limited_back]
  exact (alloc_back (vis_dir (.inr (Nat.le_refl _))) (wr_dir (.inr (Nat.le_refl _)))).trans (by rw [limited_back])
theorem store_dir {n i o : Nat} {cs : List V} : storeV (limited (.dir (idOf (.ptr (some (i, o)))) (idOf (.ptr (some (i, o))))) ps (few os)) n (.ptr (some (i, o))) (some cs) =
    backv (limited (.dir (idOf (.ptr (some (i, o)))) (idOf (.ptr (some (i, o))))) ps (few os)) (storeV (few os) n (.ptr (some (i, o))) (some cs)) := by
  have h : i ∈ idOf (.ptr (some (i, o))) := List.mem_cons_self ..
  have := store_back (l := limited (.dir (idOf (.ptr (some (i, o)))) (idOf (.ptr (some (i, o))))) ps (few os)) (os := os) (n := n) (o := o) (cs := cs) (vis_dir (.inl h)) (wr_dir (.inl h))
  rw [limited_back] at this
  exact this
end
theorem foot_store {s : Env} {n : Nat} {a x : Src} : foot (.store n a x) s.ev = .dir (idOf (s.ev a)) (idOf (s.ev a)) := rfl
theorem foot_alloc {s : Env} {zs : List V} : foot (.alloc zs) s.ev = .dir [] [] := rfl
theorem foot_box {s : Env} {x : Src} : foot (.box x) s.ev = .dir [] [] := rfl
theorem foot_bslice {s : Env} {e n : Nat} {zs : List V} {ps : List (Nat × Nat × Src)} : foot (.bslice e n zs ps) s.ev = .dir [] [] := rfl
theorem foot_append {s : Env} {e b : Nat} {d x : Src} : foot (.append e b d x) s.ev = .dir (idOf (s.ev d) ++ idOf (s.ev x)) (idOf (s.ev d)) := rfl
theorem foot_call {s : Env} {f : Nat} {xs : List Src} : foot (.call f xs) s.ev = .call := rfl
theorem step_box {call : CallT} {s : Env} {st : St} {x : Src} : stepE call (.box x) s st = (match (s.ev x).cells with | some cs => newV (fun j => .ptr (some (j, 0))) (st.alloc (.cells true cs)) | none => none) := by
  show (match ex_box x s.ev st with | some (.val v, st') => _ | some (.enter g args, st') => _ | none => _) = _
  unfold ex_box
  cases (s.ev x).cells with
  | none => rfl
  | some cs => dsimp only; cases st.alloc (.cells true cs) <;> rfl
def V.flatA : V → Bool
  | .agg cs => cs.all V.flat
  | v => v.flat
theorem flats_R1 {ι ι' : Map} : ∀ {vs : List V} {xs : List Value}, (∀ v ∈ vs, v.flat = true) → All2 (R1 ι) vs xs → All2 (R1 ι') vs xs
  | [], [], _, _ => trivial
  | v :: vs, x :: xs, h, ⟨a, b⟩ => ⟨flat_R1 (h v (List.mem_cons_self ..)) a, flats_R1 (fun u hu => h u (List.mem_cons_of_mem _ hu)) b⟩
  | [], _ :: _, _, h => h.elim
  | _ :: _, [], _, h => h.elim
theorem flatA_R2 {v : V} (h : v.flatA = true) {ι ι' : Map} {x : Value} (hr : R2 ι v x) : R2 ι' v x := by
  cases v with
  | agg cs =>
    obtain ⟨cs', rfl, h1⟩ := hr
    have h : cs.all V.flat = true := h
    exact ⟨cs', rfl, flats_R1 (fun v hv => List.all_eq_true.1 h v hv) h1⟩
  | _ => (dsimp only [V.flatA] at h; exact flat_R2 h hr)
theorem flatA_R {v : V} (h : v.flatA = true) {ι ι' : Map} {x : Value} (hr : R ι v x) : R ι' v x := by
  cases v with
  | agg cs => exact (flatA_R2 (ι' := ι') h hr : R2 ι' (.agg cs) x)
  | _ => (dsimp only [V.flatA] at h; exact flat_R h hr)
theorem Seen.flatA {st : St} {args : List V} (h : args.all V.flatA = true) : Seen (fun _ => none) args st args (few []) := by
  refine .ofCells ?_ (fun k o hk => by rw [few_heap] at hk; simp at hk) (fun _ _ => rfl) (few_neat _)
  have key : ∀ l : List V, l.all V.flatA = true → All2 (fun a0 a => ∀ ι x, R ι a x → R (via (fun _ => none) ι) a0 x) l l := by
    intro l
    induction l with
    | nil => intro _; trivial
    | cons a l ih =>
      intro ha
      simp only [List.all_cons, Bool.and_eq_true] at ha
      exact ⟨fun ι x hx => flatA_R ha.1 hx, ih ha.2⟩
  exact key args h
noncomputable def flatRd (spec : List V → Option Ans) : List V → St → Option Ans := fun args _ => if args.all V.flatA = true then spec args else none
theorem flatRd_reads (spec : List V → Option Ans) : Reads (flatRd spec) := fun args s s' g a h _ => h
theorem Sound.flat {P : Program} {call : CallT} (hmix : P.follows .mixedOrders = true) (h : Sound P call) {g : Nat} {fn : AFunc} (lf : Nat) (hc : compF P g = some fn) {spec : List V → Option Ans}
    (hrun : ∀ args os f, spec args = some (os, f) → ∃ v0 s1 σ, enterF call lf args (few []) fn = some (v0, s1) ∧ ∀ n, Left (fun _ => none) n (few []) s1 v0 os σ (f n)) : Sound P (Vabs.withL call g (lawOf (flatRd spec))) := by
  refine h.withL (h.withF hmix lf hc) (flatRd_reads _) ?_
  intro args st os f hr
  unfold flatRd at hr
  split at hr
  · rename_i ha
    obtain ⟨v0, s1, σ, e, hl⟩ := hrun args os f hr
    exact ⟨_, _, _, s1, v0, σ, by rw [withF_same]; exact e, Seen.flatA ha, hl st.next⟩
  · cases hr
theorem flat_call {call : CallT} {g : Nat} {spec : List V → Option Ans} {args : List V} {st : St} (ha : args.all V.flatA = true) : withL call g (lawOf (flatRd spec)) g args st = lawOut (spec args) st := by
  rw [withL_same]
  show lawOut (flatRd spec args st) st = _
  unfold flatRd
  rw [if_pos ha]
theorem Left.cells {τ : Way} {n : Nat} {s0 s1 : St} {j e m c : Nat} {f : Bool} {cs : List V} (hf : ∀ v ∈ cs, v.flat = true) (hm : m ≤ c) (hj : s0.next ≤ j) (hg : s1.heap.get j = some (.cells true cs)) :
    Left τ n s0 s1 (.slice (some (j, 0)) e m c f) [.cells true cs] [j] (.slice (some (n, 0)) e m m false) := by
  refine ⟨?_, rfl, ?_, ?_⟩
  · rintro ι1 ι2 x ⟨_, ho⟩ ⟨en, yy, c', e1, e2, e3, e4, e5, e6⟩
    have hn : ι2 n = ι1 j := ho 0 j rfl
    exact ⟨en, yy, c', by rw [hn]; exact e1, e2, Nat.le_refl _, by omega, (fun h => by cases h), e6⟩
  · intro q k o hq ho
    cases q with
    | succ q => simp at hq
    | zero =>
      simp at hq ho
      subst hq ho
      exact ⟨hj, _, hg, rfl, fun ι1 ι2 B B' w e hB _ hor => or_flat hB hf hor⟩
  · intro q q' k h1 h2
    cases q with
    | succ q => simp at h1
    | zero => cases q' with
      | succ q' => simp at h2
      | zero => rfl
noncomputable section
def cellsAt : List (Option AObj) → Nat → Option (List V)
  | [], _ => none
  | o :: _, 0 => match o with | some (.cells _ cs) => some cs | _ => none
  | _ :: l, k + 1 => cellsAt l k
def ownAt : List (Option AObj) → Nat → Option (List V)
  | [], _ => none
  | o :: _, 0 => match o with | some (.cells true cs) => some cs | _ => none
  | _ :: l, k + 1 => ownAt l k
def loadC (a : Bool) (n o : Nat) : Option (List V) → Option V
  | some cs => sel a ((cut o n cs).map V.agg) (nth o cs)
  | none => none
def storeC (os : List (Option AObj)) (n i o : Nat) (vs : List V) : Option (List V) → Option (V × St)
  | some cs => if vs.length = n then (match splice o vs cs with | some r => some (V.undef, few (os.set i (some (.cells true r)))) | none => none) else none
  | none => none
def firstC (m e n o : Nat) : Option (List V) → Option (List V)
  | some cs => if m ≤ n then cut o (m * e) cs else none
  | none => none
def growC (os : List (Option AObj)) (e bytes i n m : Nat) (new : List V) : Option (List V) → Option (V × St)
  | some cs => if (2 * (n + (m + 1)) + 1024) * bytes ≤ 281474976710656 ∧ new.length = (m + 1) * e ∧ n * e = cs.length then
      some (.slice (some (os.length, 0)) e (n + (m + 1)) (n + (m + 1)) false, few (os.set i none ++ [some (.cells true (cs ++ new))])) else none
  | none => none
end
theorem cellsAt_zero {own : Bool} {cs : List V} {l : List (Option AObj)} : cellsAt (some (.cells own cs) :: l) 0 = some cs := rfl
theorem cellsAt_succ {o : Option AObj} {l : List (Option AObj)} {k : Nat} : cellsAt (o :: l) (k + 1) = cellsAt l k := rfl
theorem ownAt_zero {cs : List V} {l : List (Option AObj)} : ownAt (some (.cells true cs) :: l) 0 = some cs := rfl
theorem ownAt_succ {o : Option AObj} {l : List (Option AObj)} {k : Nat} : ownAt (o :: l) (k + 1) = ownAt l k := rfl
theorem loadC_some {a : Bool} {n o : Nat} {cs : List V} : loadC a n o (some cs) = sel a ((cut o n cs).map V.agg) (nth o cs) := rfl
theorem firstC_some {m e n o : Nat} {cs : List V} : firstC m e n o (some cs) = if m ≤ n then cut o (m * e) cs else none := rfl
theorem growC_some {os : List (Option AObj)} {e bytes i n m : Nat} {new cs : List V} : growC os e bytes i n m new (some cs) = if (2 * (n + (m + 1)) + 1024) * bytes ≤ 281474976710656 ∧ new.length = (m + 1) * e ∧ n * e = cs.length then
      some (.slice (some (os.length, 0)) e (n + (m + 1)) (n + (m + 1)) false, few (os.set i none ++ [some (.cells true (cs ++ new))])) else none := rfl
theorem cellsAt_eq : ∀ {os : List (Option AObj)} {i : Nat}, cellsAt os i = match (os[i]?).join with | some (.cells _ cs) => some cs | _ => none
  | [], i => rfl
  | o :: l, 0 => rfl
  | o :: l, k + 1 => by
    show cellsAt l k = match (l[k]?).join with | some (.cells _ cs) => some cs | _ => none
    exact cellsAt_eq
theorem ownAt_eq : ∀ {os : List (Option AObj)} {i : Nat}, ownAt os i = match (os[i]?).join with | some (.cells true cs) => some cs | _ => none
  | [], i => rfl
  | o :: l, 0 => rfl
  | o :: l, k + 1 => by
    show ownAt l k = match (l[k]?).join with | some (.cells true cs) => some cs | _ => none
    exact ownAt_eq
section
variable {os : List (Option AObj)}
theorem load_fewC {a : Bool} {n i o : Nat} : loadV (few os) a n (.ptr (some (i, o))) = loadC a n o (cellsAt os i) := by
  show sel a (((few os).loadN i o n).map .agg) ((few os).load1 i o) = _
  unfold St.loadN St.load1
  rw [few_get, cellsAt_eq]
  cases (os[i]?).join with
  | none => cases a <;> rfl
  | some ob =>
    cases ob with
    | cells own cs => rfl
    | map own es c => cases a <;> rfl
theorem store_fewC {n i o : Nat} {vs : List V} : storeV (few os) n (.ptr (some (i, o))) (some vs) = storeC os n i o vs (ownAt os i) := by
  show sel (Nat.beq vs.length n) (match (few os).storeN i o vs with | some st' => some (V.undef, st') | none => none) none = _
  unfold St.storeN
  rw [few_get, ownAt_eq]
  have hb : ∀ x : Option (V × St), sel (Nat.beq vs.length n) x none = if vs.length = n then x else none := fun x => by
    by_cases h : vs.length = n
    · rw [if_pos h, h, Nat.beq_refl]; rfl
    · rw [if_neg h]
      cases e : Nat.beq vs.length n with
      | false => rfl
      | true => exact absurd (Nat.eq_of_beq_eq_true e) h
  rw [hb]
  cases hx : (os[i]?).join with
  | none => dsimp only; split <;> rfl
  | some ob =>
    cases ob with
    | map own es c => dsimp only; split <;> rfl
    | cells own cs =>
      cases own with
      | false => dsimp only; split <;> rfl
      | true =>
        show _ = if vs.length = n then (match splice o vs cs with | some r => some (V.undef, few (os.set i (some (.cells true r)))) | none => none) else none
        dsimp only
        cases splice o vs cs with
        | none => rfl
        | some r => dsimp only; rw [few_set hx]
theorem first_fewC {m e n i o c : Nat} {f : Bool} : firstN (few os) e m (.slice (some (i, o)) e n c f) = firstC m e n o (cellsAt os i) := by
  show sel (Nat.beq e e && Nat.ble m n) ((few os).loadN i o (m * e)) none = _
  unfold St.loadN
  rw [few_get, cellsAt_eq, Nat.beq_refl, Bool.true_and]
  by_cases h : m ≤ n
  · rw [ble_t h, sel_true]
    cases (os[i]?).join with
    | none => rfl
    | some ob => cases ob with
      | cells own cs => show cut o (m * e) cs = if m ≤ n then _ else none; rw [if_pos h]
      | map own es c => rfl
  · have : Nat.ble m n = false := by cases e : Nat.ble m n with | false => rfl | true => exact absurd (Nat.le_of_ble_eq_true e) h
    rw [this, sel_false]
    cases (os[i]?).join with
    | none => rfl
    | some ob => cases ob with
      | cells own cs => show none = if m ≤ n then _ else none; rw [if_neg h]
      | map own es c => rfl
theorem grow_none {e e' bytes m : Nat} {f : Bool} {new : List V} : appendV (few os) e bytes (.slice none e' 0 0 f) (some (m + 1)) (some new) =
    if (2 * (m + 1) + 1024) * bytes ≤ 281474976710656 ∧ new.length = (m + 1) * e then some (.slice (some (os.length, 0)) e (m + 1) (m + 1) false, few (os ++ [some (.cells true new)])) else none := by
  show valOf (appendOp (few os) e bytes (.slice none e' 0 0 f) (m + 1) new) = _
  unfold appendOp
  dsimp only
  rw [Nat.zero_add, few_alloc]
  by_cases h : (2 * (m + 1) + 1024) * bytes ≤ 281474976710656 ∧ new.length = (m + 1) * e
  · rw [if_pos h, ble_t h.1, h.2, Nat.beq_refl]
    rfl
  · rw [if_neg h]
    have : (Nat.ble ((2 * (m + 1) + 1024) * bytes) 281474976710656 && Nat.beq new.length ((m + 1) * e)) = false := by
      cases e1 : Nat.ble ((2 * (m + 1) + 1024) * bytes) 281474976710656 with
      | false => rfl
      | true =>
        cases e2 : Nat.beq new.length ((m + 1) * e) with
        | false => rfl
        | true => exact absurd ⟨Nat.le_of_ble_eq_true e1, Nat.eq_of_beq_eq_true e2⟩ h
    rw [this]
    rfl
theorem grow_some {e bytes i n m : Nat} {new : List V} : appendV (few os) e bytes (.slice (some (i, 0)) e n n false) (some (m + 1)) (some new) = growC os e bytes i n m new (ownAt os i) := by
  show valOf (appendOp (few os) e bytes (.slice (some (i, 0)) e n n false) (m + 1) new) = _
  unfold appendOp
  dsimp only
  rw [few_get, ownAt_eq, Nat.beq_refl, sel_true, show Nat.ble (n + (m + 1)) n = false from by
    cases e : Nat.ble (n + (m + 1)) n with
    | false => rfl
    | true => exact absurd (Nat.le_of_ble_eq_true e) (by omega)]
  cases hx : (os[i]?).join with
  | none => dsimp only; cases (Nat.ble ((2 * (n + (m + 1)) + 1024) * bytes) 281474976710656 && Nat.beq new.length ((m + 1) * e)) <;> rfl
  | some ob =>
    cases ob with
    | map own es c => dsimp only; cases (Nat.ble ((2 * (n + (m + 1)) + 1024) * bytes) 281474976710656 && Nat.beq new.length ((m + 1) * e)) <;> rfl
    | cells own cs =>
      cases own with
      | false => dsimp only; cases (Nat.ble ((2 * (n + (m + 1)) + 1024) * bytes) 281474976710656 && Nat.beq new.length ((m + 1) * e)) <;> rfl
      | true =>
        dsimp only [sel_false, Bool.true_and]
        rw [growC_some, Nat.zero_add]
        by_cases h : (2 * (n + (m + 1)) + 1024) * bytes ≤ 281474976710656 ∧ new.length = (m + 1) * e ∧ n * e = cs.length
        · rw [if_pos h, ble_t h.1, h.2.1, h.2.2, Nat.beq_refl, Nat.beq_refl, cut_of (show 0 + cs.length ≤ cs.length by omega), few_set hx]
          dsimp only [Bool.and_self, sel_true]
          rw [few_alloc, List.length_set, List.drop_zero, List.take_length]
          rfl
        · rw [if_neg h]
          cases e1 : Nat.ble ((2 * (n + (m + 1)) + 1024) * bytes) 281474976710656 with
          | false => rfl
          | true =>
            cases e2 : Nat.beq new.length ((m + 1) * e) with
            | false => rfl
            | true =>
              cases e3 : Nat.beq (n * e) cs.length with
              | false => rfl
              | true => exact absurd ⟨Nat.le_of_ble_eq_true e1, Nat.eq_of_beq_eq_true e2, Nat.eq_of_beq_eq_true e3⟩ h
theorem first_back {l : St} {e m : Nat} {x : V} (h : ∀ i ∈ idOf x, l.vis i = true) : firstN (back l (few os)) e m x = firstN (few os) e m x := by
  cases x with
  | slice a e' n c f =>
    cases a with
    | none => rfl
    | some p =>
      obtain ⟨i, o⟩ := p
      show sel (Nat.beq e e' && Nat.ble m n) ((back l (few os)).loadN i o (m * e)) none = sel (Nat.beq e e' && Nat.ble m n) ((few os).loadN i o (m * e)) none
      unfold St.loadN
      rw [get_back (h i (List.mem_cons_self ..))]
  | _ => rfl
theorem append_back {l : St} {e bytes m : Nat} {sv : V} {new : List V} (hn : ∀ j, os.length ≤ j → l.vis j = true ∧ l.wr j = true) (hi : ∀ i ∈ idOf sv, l.vis i = true ∧ l.wr i = true) :
    appendV (back l (few os)) e bytes sv (some m) (some new) = backv l (appendV (few os) e bytes sv (some m) (some new)) := by
  show valOf (appendOp (back l (few os)) e bytes sv m new) = backv l (valOf (appendOp (few os) e bytes sv m new))
  have ha : ∀ (os' : List (Option AObj)) (o : AObj), os.length ≤ os'.length → (back l (few os')).alloc o = some (os'.length, back l (few (os' ++ [some o]))) := fun os' o h => alloc_back (hn _ h).1 (hn _ h).2
  unfold appendOp
  cases sv with
  | slice a e' n c f =>
    cases m with
    | zero => rfl
    | succ m =>
      dsimp only
      cases (Nat.ble ((2 * (n + (m + 1)) + 1024) * bytes) 281474976710656 && Nat.beq new.length ((m + 1) * e)) with
      | false => rfl
      | true =>
        dsimp only [sel_true]
        cases a with
        | none => dsimp only; rw [ha os _ (Nat.le_refl _), few_alloc]; rfl
        | some p =>
          obtain ⟨i, o⟩ := p
          have hv := hi i (List.mem_cons_self ..)
          dsimp only
          rw [get_back hv.1, few_get]
          cases Nat.beq e e' with
          | false => rfl
          | true =>
            dsimp only [sel_true]
            cases hx : (os[i]?).join with
            | none => rfl
            | some ob =>
              cases ob with
              | map own es cl => rfl
              | cells own cs =>
                dsimp only
                cases Nat.ble (n + (m + 1)) c with
                | true =>
                  dsimp only [sel_true]
                  unfold St.storeN
                  rw [get_back hv.1, few_get, hx]
                  cases own with
                  | false => rfl
                  | true =>
                    dsimp only
                    cases splice (o + n * e) new cs with
                    | none => rfl
                    | some r => dsimp only; rw [set_back hx hv.1 hv.2, few_set hx]; rfl
                | false =>
                  dsimp only [sel_false]
                  cases f with
                  | true =>
                    dsimp only [sel_true]
                    cases cut o (n * e) cs with
                    | none => rfl
                    | some old => dsimp only; rw [ha os _ (Nat.le_refl _), few_alloc]; rfl
                  | false =>
                    dsimp only [sel_false]
                    cases (own && Nat.beq (o + n * e) cs.length) with
                    | false => rfl
                    | true =>
                      dsimp only [sel_true]
                      cases cut o (n * e) cs with
                      | none => rfl
                      | some old =>
                        dsimp only
                        rw [set_back hx hv.1 hv.2, few_set hx]
                        dsimp only
                        rw [ha (os.set i none) _ (by rw [List.length_set]; exact Nat.le_refl _), few_alloc]
                        rfl
  | _ => rfl
theorem append_dir {e bytes m : Nat} {sv x : V} {ps : List Past} {new : List V} : appendV (limited (.dir (idOf sv ++ idOf x) (idOf sv)) ps (few os)) e bytes sv (some m) (some new) = backv (limited (.dir (idOf sv ++ idOf x) (idOf sv)) ps (few os)) (appendV (few os) e bytes sv (some m) (some new)) := by
  have := append_back (os := os) (l := limited (.dir (idOf sv ++ idOf x) (idOf sv)) ps (few os)) (e := e) (bytes := bytes) (m := m) (sv := sv) (new := new) (fun j h => ⟨vis_dir (.inr h), wr_dir (.inr h)⟩) (fun i h => ⟨vis_dir (.inl (List.mem_append.2 (.inl h))), wr_dir (.inl h)⟩)
  rw [limited_back] at this
  exact this
theorem first_dir {e m : Nat} {sv x : V} {ps : List Past} {ws : List Nat} : firstN (limited (.dir (idOf sv ++ idOf x) ws) ps (few os)) e m x = firstN (few os) e m x := by
  have := first_back (os := os) (l := limited (.dir (idOf sv ++ idOf x) ws) ps (few os)) (e := e) (m := m) (x := x) (fun i h => vis_dir (.inl (List.mem_append.2 (.inr h))))
  rw [limited_back] at this
  exact this
end
theorem resE_cell {s : Env} {st : St} {t : Pos} {a : Bool} {n : Nat} : resE s st (.cell t a n) = loadV st a n (s t) := by
  show (match s t with | .ptr (some (i, o)) => sel a (match st.loadN i o n with | some l => some (V.agg l) | none => none) (st.load1 i o) | _ => none) = _
  unfold loadV
  cases s t with
  | ptr p =>
    cases p with
    | none => rfl
    | some p =>
      obtain ⟨i, o⟩ := p
      cases a with
      | false => rfl
      | true => dsimp only [sel_true]; cases st.loadN i o n <;> rfl
  | _ => rfl
theorem okPair_dd {lo hi : Nat} {rs ws rs' ws' : List Nat} : okPair ⟨lo, hi, .dir rs' ws'⟩ (.dir rs ws) = (!anyIn lo hi rs && (!meets ws' rs && !meets ws rs')) := rfl
theorem okPair_dc {lo hi : Nat} {rs ws : List Nat} : okPair ⟨lo, hi, .call⟩ (.dir rs ws) = (!anyIn lo hi rs && ws.isEmpty) := rfl
theorem okPair_cd {lo hi : Nat} {rs ws : List Nat} : okPair ⟨lo, hi, .dir rs ws⟩ .call = ws.isEmpty := rfl
theorem okPair_cc {lo hi : Nat} : okPair ⟨lo, hi, .call⟩ .call = true := rfl
theorem anyIn_nil {lo hi : Nat} : anyIn lo hi [] = false := rfl
theorem anyIn_cons {lo hi j : Nat} {l : List Nat} : anyIn lo hi (j :: l) = sel (Nat.ble lo j && Nat.blt j hi) true (anyIn lo hi l) := rfl
theorem meets_cons {i : Nat} {l m : List Nat} : meets (i :: l) m = sel (Vabs.mem i m) true (meets l m) := rfl
theorem mem_nil {i : Nat} : Vabs.mem i [] = false := rfl
theorem mem_cons {i j : Nat} {l : List Nat} : Vabs.mem i (j :: l) = sel (Nat.beq i j) true (Vabs.mem i l) := rfl
theorem nbeq_dec {a b : Nat} : Nat.beq a b = decide (a = b) := by
  by_cases h : a = b
  · subst h; rw [Nat.beq_refl, decide_eq_true rfl]
  · rw [decide_eq_false h]
    cases e : Nat.beq a b with
    | false => rfl
    | true => exact absurd (Nat.eq_of_beq_eq_true e) h
theorem ble_dec {a b : Nat} : Nat.ble a b = decide (a ≤ b) := by
  by_cases h : a ≤ b
  · rw [ble_t h, decide_eq_true h]
  · rw [decide_eq_false h]
    cases e : Nat.ble a b with
    | false => rfl
    | true => exact absurd (Nat.le_of_ble_eq_true e) h
theorem blt_dec {a b : Nat} : Nat.blt a b = decide (a < b) := by
  by_cases h : a < b
  · rw [blt_t h, decide_eq_true h]
  · rw [decide_eq_false h]
    cases e : Nat.blt a b with
    | false => rfl
    | true => exact absurd (Nat.le_of_ble_eq_true e) h
section
variable {ps : List Past} {os : List (Option AObj)} {st : St} {ws : List Nat} {i o j : Nat}
theorem load_d {a : Bool} {n : Nat} : loadV (limited (.dir [i] ws) ps st) a n (.ptr (some (i, o))) = loadV st a n (.ptr (some (i, o))) := load_limited (v := .ptr (some (i, o)))
theorem convStr_d {e n c : Nat} {f : Bool} : convV (limited (.dir [i] ws) ps st) .toStr (.slice (some (i, o)) e n c f) = convV st .toStr (.slice (some (i, o)) e n c f) := convStr_limited (v := .slice (some (i, o)) e n c f)
theorem store_d {n : Nat} {cs : List V} : storeV (limited (.dir [i] [i]) ps (few os)) n (.ptr (some (i, o))) (some cs) = backv (limited (.dir [i] [i]) ps (few os)) (storeV (few os) n (.ptr (some (i, o))) (some cs)) := store_dir
theorem append_d2 {e bytes m e1 n1 c1 : Nat} {f1 : Bool} {new : List V} : appendV (limited (.dir [i, j] [i]) ps (few os)) e bytes (.slice (some (i, o)) e1 n1 c1 f1) (some m) (some new) = backv (limited (.dir [i, j] [i]) ps (few os)) (appendV (few os) e bytes (.slice (some (i, o)) e1 n1 c1 f1) (some m) (some new)) :=
  append_dir (sv := .slice (some (i, o)) e1 n1 c1 f1) (x := .slice (some (j, 0)) 0 0 0 false)
theorem append_d1 {e bytes m e1 n1 c1 : Nat} {f1 : Bool} {new : List V} : appendV (limited (.dir [j] []) ps (few os)) e bytes (.slice none e1 n1 c1 f1) (some m) (some new) = backv (limited (.dir [j] []) ps (few os)) (appendV (few os) e bytes (.slice none e1 n1 c1 f1) (some m) (some new)) :=
  append_dir (sv := .slice none e1 n1 c1 f1) (x := .slice (some (j, 0)) 0 0 0 false)
theorem first_d2 {e m e1 n1 c1 : Nat} {f1 : Bool} : firstN (limited (.dir [i, j] ws) ps (few os)) e m (.slice (some (j, o)) e1 n1 c1 f1) = firstN (few os) e m (.slice (some (j, o)) e1 n1 c1 f1) :=
  first_dir (sv := .slice (some (i, 0)) 0 0 0 false) (x := .slice (some (j, o)) e1 n1 c1 f1)
theorem first_d1 {e m e1 n1 c1 : Nat} {f1 : Bool} : firstN (limited (.dir [j] ws) ps (few os)) e m (.slice (some (j, o)) e1 n1 c1 f1) = firstN (few os) e m (.slice (some (j, o)) e1 n1 c1 f1) :=
  first_dir (sv := .slice none 0 0 0 false) (x := .slice (some (j, o)) e1 n1 c1 f1)
end
noncomputable section
def eqO (t : EqT) : Option V → Option V → Option Bool
  | some x, some y => eqV t x y
  | _, _ => none
def eqC (ps : List (Nat × Nat × Bool × EqT)) (xs ys : List V) : Option Bool → Option Bool
  | some true => eqParts ps xs ys
  | some false => some false
  | none => none
def eqR (op : BinOp) : Option Bool → Option V
  | some r => match op with
    | .eql => some (.bool r)
    | .neq => some (.bool (!r))
    | _ => none
  | none => none
end
theorem bin_agg {op : BinOp} {t : EqT} {xs ys : List V} : binV op (.val t) (.agg xs) (.agg ys) = eqR op (eqV t (.agg xs) (.agg ys)) := by
  show (match eqV t (.agg xs) (.agg ys) with | some r => _ | none => none) = _
  cases eqV t (.agg xs) (.agg ys) <;> rfl
theorem eqV_parts {ps : List (Nat × Nat × Bool × EqT)} {xs ys : List V} : eqV (.parts ps) (.agg xs) (.agg ys) = eqParts ps xs ys := by simp only [eqV]
theorem eqV_int {k : IntKind} {a b : Int} : eqV .int (.int k a) (.int k b) = some (decide (a = b)) := by simp only [eqV, if_true, eqI_dec]
theorem eqParts_nil {xs ys : List V} : eqParts [] xs ys = some true := by simp only [eqParts]
theorem eqParts_cons {off n : Nat} {a : Bool} {t : EqT} {ps : List (Nat × Nat × Bool × EqT)} {xs ys : List V} : eqParts ((off, n, a, t) :: ps) xs ys = eqC ps xs ys (eqO t (part a n off xs) (part a n off ys)) := by
  simp only [eqParts]
  cases part a n off xs <;> cases part a n off ys <;> try rfl
theorem eqC_true {ps : List (Nat × Nat × Bool × EqT)} {xs ys : List V} : eqC ps xs ys (some true) = eqParts ps xs ys := rfl
theorem eqO_some {t : EqT} {x y : V} : eqO t (some x) (some y) = eqV t x y := rfl
theorem eqR_neq {r : Bool} : eqR .neq (some r) = some (.bool (!r)) := rfl
theorem enter_ex {call : CallT} {lf n : Nat} {c : ACode} {rs : List ARes} {args : List V} {st : St} {v : V} (h : wp call lf c (initE args 0 env0) st (finQ rs fun u _ => u = v)) :
    ∃ s1, enterF call lf args st ⟨n, c, rs⟩ = some (v, s1) := by
  obtain ⟨u, s, h1, rfl⟩ := enter_wp (n := n) h
  exact ⟨s, h1⟩
end Go.Vabs

namespace Go.Vabs
set_option linter.unusedVariables false
set_option linter.unusedSimpArgs false
noncomputable def nilchkV : V → Option V
  | .ptr none | .nilFunc | .bad | .yield _ => none
  | v => some v
theorem step_nilchk {call : CallT} {s : Env} {st : St} {x : Src} : stepE call (.nilchk x) s st = okv (nilchkV (s.ev x)) st := by
  refine step_of ?_
  show ex_nilchk x s.ev st = _
  unfold ex_nilchk nilchkV
  generalize s.ev x = u
  cases u <;> try rfl
  rename_i a
  cases a <;> rfl
theorem nilchk_ptr {p : Nat × Nat} : nilchkV (.ptr (some p)) = some (.ptr (some p)) := rfl
theorem bin_eqptr {p : Nat × Nat} : binV .eql (.nils .ptr) (.ptr (some p)) (.ptr none) = some (.bool false) := by simp only [binV, eqAny, eqNil]
noncomputable section
def objOf (nil : Bool) (cs : List V) : Option AObj := if nil then none else some (.cells false cs)
end
end Go.Vabs

namespace Go.Vabs
set_option linter.unusedVariables false
set_option linter.unusedSimpArgs false
noncomputable section
def flatAt (st : St) (e : Nat) : V → Option (List V)
  | .slice none _ n c _ => if n = 0 ∧ c = 0 then some [] else none
  | .slice (some (i, o)) e' n c _ => if e' = e ∧ n ≤ c then match st.get i with | some (.cells _ cs) => (match cut o (n * e) cs with | some l => if l.all V.flat = true then some l else none | none => none) | _ => none else none
  | _ => none
def slE (e : Nat) (nil : Bool) (n : Nat) : V := .slice (if nil then none else some (0, 0)) e n n false
def memE (nil : Bool) (cs : List V) : St := few [objOf nil cs]
end
theorem flatAt_ext {v : V} {e : Nat} {s s' g : St} {cs : List V} (h : flatAt s e v = some cs) (he : Ext s s' g) : flatAt g e v = some cs := by
  unfold flatAt at h ⊢
  split at h
  · exact h
  · split at h
    · rename_i hc
      split at h
      · rename_i own xs hg
        rw [he.get _ _ hg]
        rw [if_pos hc]
        exact h
      · cases h
    · cases h
  · cases h
structure Shape where
  pick : List V → Option (V × List V)
  put : List V → V → List V
  ok : ∀ args s rest, pick args = some (s, rest) → ∀ (τ : Way) s0, (∀ ι x, R0 ι s x → R0 (via τ ι) s0 x) → All2 (fun a0 a => ∀ ι x, R ι a x → R (via τ ι) a0 x) (put rest s0) args
theorem seen_one {sh : Shape} {e n : Nat} {args rest : List V} {s : V} {st : St} {cs : List V} (hp : sh.pick args = some (s, rest)) (h : flatAt st e s = some cs) (hn : lenOf s = some n) :
    ∃ τ, (isNil s = true → n = 0 ∧ cs = []) ∧ cs.length = n * e ∧ cs.all V.flat = true ∧ Seen τ args st (sh.put rest (slE e (isNil s) n)) (memE (isNil s) cs) := by
  unfold flatAt at h
  split at h
  · rename_i e' m c f
    split at h
    · rename_i hc
      cases h
      cases hn
      refine ⟨fun _ => none, fun _ => ⟨hc.1, rfl⟩, by rw [hc.1]; simp, rfl, .ofCells (sh.ok _ _ _ hp _ _ (fun ι x hx => ?_)) ?_ (fun _ _ => rfl) (few_neat _)⟩
      · obtain ⟨h1, h2, rfl⟩ := hx
        exact ⟨h1, h1, rfl⟩
      · intro k o hk
        have hk : (memE true []).heap.get k = some o := hk
        rw [show memE true [] = few [none] from rfl, few_heap] at hk
        cases k <;> simp at hk
    · cases h
  · rename_i i o e' m c f
    split at h
    · rename_i hc
      obtain ⟨rfl, hc⟩ := hc
      split at h
      · rename_i own xs hg
        split at h
        · rename_i l hl
          split at h
          · rename_i hf
            cases h
            cases hn
            obtain ⟨l1, l2⟩ := cut_eq hl
            refine ⟨fun k => if k = 0 then some (i, o) else none, (fun h => by cases h), l1, hf, .ofCells (sh.ok _ _ _ hp _ _ (fun ι x hx => ?_)) ?_ ?_ (few_neat _)⟩
            · obtain ⟨en, y, c', e1, e2, e3, e4, e5, e6⟩ := hx
              refine ⟨en.at o, y, c', by simp only [via, if_pos, e1, Option.map_some], e2, Nat.le_refl _, by omega, (fun h => by cases h), ?_⟩
              rcases e6 with e6 | ⟨e6, e7⟩
              · exact .inl e6
              · exact .inr ⟨by rw [e6]; rfl, by show 0 + c' * e' ≤ en.tot - o; omega⟩
            · intro k ob hk
              have hk : (few [some (AObj.cells false cs)]).heap.get k = some ob := hk
              rw [few_heap] at hk
              cases k with
              | succ k => simp at hk
              | zero =>
                simp at hk
                subst hk
                refine ⟨i, o, own, xs, cs, rfl, rfl, hg, fun p v hv => ?_⟩
                have hp : p < n * e' := by
                  have := (List.getElem?_eq_some_iff.1 hv).1
                  omega
                exact ⟨v, by rw [← l2 p hp]; exact hv, fun ι x hx => flat_R1 (List.all_eq_true.1 hf v (List.mem_of_getElem? hv)) hx⟩
            · intro k hk
              have hk : 1 ≤ k := hk
              exact if_neg (by omega)
          · cases h
        · cases h
      · cases h
    · cases h
  · cases h
noncomputable def oneRd (sh : Shape) (e : Nat) (spec : List V → Bool → Nat → List V → Option Ans) : List V → St → Option Ans := fun args st =>
  match sh.pick args with
  | some (s, rest) => match flatAt st e s, lenOf s with
    | some cs, some n => spec rest (isNil s) n cs
    | _, _ => none
  | none => none
theorem oneRd_reads (sh : Shape) (e : Nat) (spec : List V → Bool → Nat → List V → Option Ans) : Reads (oneRd sh e spec) := by
  intro args s s' g a h he
  unfold oneRd at h ⊢
  split at h
  · rename_i v rest hp
    split at h
    · rename_i cs n hcs hn
      rw [flatAt_ext hcs he, hn]
      exact h
    · cases h
  · cases h
theorem Sound.one {P : Program} {call : CallT} (hmix : P.follows .mixedOrders = true) (h : Sound P call) {g : Nat} {fn : AFunc} (lf : Nat) (hc : compF P g = some fn) (sh : Shape) (e : Nat) {spec : List V → Bool → Nat → List V → Option Ans}
    (hrun : ∀ rest nil n cs os f, (nil = true → n = 0 ∧ cs = []) → cs.length = n * e → cs.all V.flat = true → spec rest nil n cs = some (os, f) →
      ∃ v0 s1 σ, enterF call lf (sh.put rest (slE e nil n)) (memE nil cs) fn = some (v0, s1) ∧ ∀ τ m, Left τ m (memE nil cs) s1 v0 os σ (f m)) : Sound P (Vabs.withL call g (lawOf (oneRd sh e spec))) := by
  refine h.withL (h.withF hmix lf hc) (oneRd_reads _ _ _) ?_
  intro args st os f hr
  unfold oneRd at hr
  split at hr
  · rename_i s rest hp
    split at hr
    · rename_i cs n hcs hn
      obtain ⟨τ, a1, a2, a3, a4⟩ := seen_one hp hcs hn
      obtain ⟨v0, s1, σ, b1, b2⟩ := hrun rest _ n cs os f a1 a2 a3 hr
      exact ⟨τ, _, _, s1, v0, σ, by rw [withF_same]; exact b1, a4, b2 τ st.next⟩
    · cases hr
  · cases hr
noncomputable section
end
noncomputable section
end
end Go.Vabs

namespace Go.Vabs
set_option linter.unusedSimpArgs false
set_option linter.unusedVariables false
mutual
def V.good (n : Nat) : V → Bool
  | .ptr (some (i, _)) => Nat.blt i n
  | .slice (some (i, _)) _ _ _ _ => Nat.blt i n
  | .map (some i) => Nat.blt i n
  | .func _ a b => goods n a && goods n b
  | .agg cs => goods n cs
  | .tuple cs => goods n cs
  | .yield _ => false
  | _ => true
def goods (n : Nat) : List V → Bool
  | [] => true
  | v :: l => v.good n && goods n l
end
theorem goods_mem {n : Nat} : ∀ {l : List V}, goods n l = true ↔ ∀ v ∈ l, v.good n = true
  | [] => by simp [goods]
  | v :: l => by simp [goods, goods_mem (l := l)]
mutual
theorem V.good_le {n m : Nat} (hnm : n ≤ m) : ∀ {v : V}, v.good n = true → v.good m = true
  | .ptr (some (i, _)), h => by simp only [V.good, Nat.blt_eq] at h ⊢; omega
  | .slice (some (i, _)) _ _ _ _, h => by simp only [V.good, Nat.blt_eq] at h ⊢; omega
  | .map (some i), h => by simp only [V.good, Nat.blt_eq] at h ⊢; omega
  | .func _ a b, h => by simp only [V.good, Bool.and_eq_true] at h ⊢; exact ⟨goods_le hnm h.1, goods_le hnm h.2⟩
  | .agg cs, h => by simp only [V.good] at h ⊢; exact goods_le hnm h
  | .tuple cs, h => by simp only [V.good] at h ⊢; exact goods_le hnm h
  | .bool _, _ => rfl
  | .int _ _, _ => rfl
  | .str _, _ => rfl
  | .ptr none, _ => rfl
  | .slice none _ _ _ _, _ => rfl
  | .map none, _ => rfl
  | .nilFunc, _ => rfl
  | .bad, _ => rfl
theorem goods_le {n m : Nat} (hnm : n ≤ m) : ∀ {l : List V}, goods n l = true → goods m l = true
  | [], _ => rfl
  | v :: l, h => by simp only [goods, Bool.and_eq_true] at h ⊢; exact ⟨V.good_le hnm h.1, goods_le hnm h.2⟩
end
theorem flat_good {n : Nat} {v : V} (h : v.flat = true) : v.good n = true := by
  cases v with
  | yield i => cases h
  | ptr a => cases a with | none => rfl | some p => cases h
  | slice a e n c f => cases a with | none => rfl | some p => cases h
  | map a => cases a with | none => rfl | some p => cases h
  | _ => first | rfl | cases h
theorem flats_good {n : Nat} {l : List V} (h : l.all V.flat = true) : goods n l = true :=
  goods_mem.2 fun v hv => flat_good (List.all_eq_true.1 h v hv)
noncomputable section
def entGood (n : Nat) (e : V × V × Nat) : Bool := e.1.good n && e.2.1.good n
def AObj.good (n : Nat) : AObj → Bool
  | .cells _ cs => goods n cs
  | .map _ es _ => es.all (entGood n)
def AObj.freeze : AObj → AObj
  | .cells _ cs => .cells false cs
  | .map _ es c => .map false es c
abbrev Sight := Nat → Option AObj
def seeO (n : Nat) : Option AObj → Option AObj
  | some o => if o.good n = true then some o.freeze else none
  | none => none
def St.look (st : St) : Sight := fun i => if i < st.next then seeO st.next (st.get i) else none
def frozen (st : St) : List (Option AObj) := (List.range st.next).map st.look
end
theorem freeze_good {n : Nat} {o : AObj} : o.freeze.good n = o.good n := by cases o <;> rfl
theorem freeze_freeze {o : AObj} : o.freeze.freeze = o.freeze := by cases o <;> rfl
theorem frozen_len {st : St} : (frozen st).length = st.next := by simp [frozen]
theorem frozen_at {st : St} {i : Nat} : ((frozen st)[i]?).join = st.look i := by
  unfold frozen
  rw [List.getElem?_map]
  by_cases h : i < st.next
  · rw [List.getElem?_range h]; rfl
  · rw [List.getElem?_eq_none (by simpa using h)]
    show none = st.look i
    unfold St.look
    rw [if_neg h]
theorem look_some {st : St} {i : Nat} {o : AObj} (h : st.look i = some o) : i < st.next ∧ ∃ o', st.get i = some o' ∧ o'.good st.next = true ∧ o = o'.freeze := by
  unfold St.look at h
  split at h
  · rename_i hi
    cases hg : st.get i with
    | none => rw [hg] at h; cases h
    | some o' =>
      rw [hg] at h
      have h : (if o'.good st.next = true then some o'.freeze else none) = some o := h
      split at h
      · rename_i hgd; cases h; exact ⟨hi, o', rfl, hgd, rfl⟩
      · cases h
  · cases h
theorem look_of {st : St} {i : Nat} {o : AObj} (hi : i < st.next) (h : st.get i = some o) (hg : o.good st.next = true) : st.look i = some o.freeze := by
  unfold St.look
  rw [if_pos hi, h]
  exact if_pos hg
theorem frozen_look {st : St} : (few (frozen st)).look = st.look := by
  funext i
  unfold St.look
  rw [few_next, frozen_len]
  by_cases hi : i < st.next
  · rw [if_pos hi, if_pos hi, few_get, frozen_at]
    show seeO st.next (st.look i) = _
    unfold St.look
    rw [if_pos hi]
    cases hg : st.get i with
    | none => rfl
    | some o =>
      show seeO st.next (if o.good st.next = true then some o.freeze else none) = (if o.good st.next = true then some o.freeze else none)
      by_cases h : o.good st.next = true
      · rw [if_pos h]
        show (if o.freeze.good st.next = true then some o.freeze.freeze else none) = _
        rw [freeze_good, if_pos h, freeze_freeze]
      · rw [if_neg h]; rfl
  · rw [if_neg hi, if_neg hi]
theorem look_ext {s s' g : St} (he : Ext s s' g) {i : Nat} {o : AObj} (h : s.look i = some o) : g.look i = some o := by
  obtain ⟨h1, o', h2, h3, rfl⟩ := look_some h
  exact look_of (by rw [he.next]; exact h1) (he.get i _ h2) (by rw [he.next]; exact h3)
def wayId (n : Nat) : Way := fun k => if k < n then some (k, 0) else none
theorem via_id {n : Nat} {ι : Map} {k : Nat} (h : k < n) : via (wayId n) ι k = ι k := by
  have hw : wayId n k = some (k, 0) := if_pos h
  unfold via
  rw [hw]
  show (ι k).map (·.at 0) = ι k
  cases ι k with
  | none => rfl
  | some e => rfl
theorem good_R0 {n : Nat} {ι : Map} {v : V} {x : Value} (hg : v.good n = true) (h : R0 ι v x) : R0 (via (wayId n) ι) v x := by
  cases v with
  | yield i => cases hg
  | ptr a => cases a with
    | none => exact h
    | some p => obtain ⟨e, he, hv⟩ := h; exact ⟨e, by rw [via_id (by simpa [V.good] using hg)]; exact he, hv⟩
  | slice a e n' c f => cases a with
    | none => exact h
    | some p => obtain ⟨en, y, c', he, rest⟩ := h; exact ⟨en, y, c', by rw [via_id (by simpa [V.good] using hg)]; exact he, rest⟩
  | map a => cases a with
    | none => exact h
    | some i => obtain ⟨e, he, hv⟩ := h; exact ⟨e, by rw [via_id (by simpa [V.good] using hg)]; exact he, hv⟩
  | _ => exact h
theorem good_R0s {n : Nat} {ι : Map} : ∀ {vs : List V} {xs : List Value}, goods n vs = true → All2 (R0 ι) vs xs → All2 (R0 (via (wayId n) ι)) vs xs
  | [], [], _, _ => trivial
  | v :: vs, x :: xs, hg, ⟨h, hs⟩ => by simp only [goods, Bool.and_eq_true] at hg; exact ⟨good_R0 hg.1 h, good_R0s hg.2 hs⟩
theorem good_R1 {n : Nat} {ι : Map} {v : V} {x : Value} (hg : v.good n = true) (h : R1 ι v x) : R1 (via (wayId n) ι) v x := by
  cases v with
  | func f a b =>
    obtain ⟨a', b', hv, h1, h2⟩ := h
    simp only [V.good, Bool.and_eq_true] at hg
    exact ⟨a', b', hv, good_R0s hg.1 h1, good_R0s hg.2 h2⟩
  | _ => (dsimp only [R1] at h ⊢; exact good_R0 hg h)
theorem good_R1s {n : Nat} {ι : Map} : ∀ {vs : List V} {xs : List Value}, goods n vs = true → All2 (R1 ι) vs xs → All2 (R1 (via (wayId n) ι)) vs xs
  | [], [], _, _ => trivial
  | v :: vs, x :: xs, hg, ⟨h, hs⟩ => by simp only [goods, Bool.and_eq_true] at hg; exact ⟨good_R1 hg.1 h, good_R1s hg.2 hs⟩
theorem good_R2 {n : Nat} {ι : Map} {v : V} {x : Value} (hg : v.good n = true) (h : R2 ι v x) : R2 (via (wayId n) ι) v x := by
  cases v with
  | agg cs => obtain ⟨cs', hv, h1⟩ := h; exact ⟨cs', hv, good_R1s (by simpa [V.good] using hg) h1⟩
  | _ => (dsimp only [R2] at h ⊢; exact good_R1 hg h)
theorem good_R2s {n : Nat} {ι : Map} : ∀ {vs : List V} {xs : List Value}, goods n vs = true → All2 (R2 ι) vs xs → All2 (R2 (via (wayId n) ι)) vs xs
  | [], [], _, _ => trivial
  | v :: vs, x :: xs, hg, ⟨h, hs⟩ => by simp only [goods, Bool.and_eq_true] at hg; exact ⟨good_R2 hg.1 h, good_R2s hg.2 hs⟩
theorem good_R {n : Nat} {ι : Map} {v : V} {x : Value} (hg : v.good n = true) (h : R ι v x) : R (via (wayId n) ι) v x := by
  cases v with
  | tuple cs => obtain ⟨cs', hv, h1⟩ := h; exact ⟨cs', hv, good_R2s (by simpa [V.good] using hg) h1⟩
  | bad => trivial
  | _ => (dsimp only [R] at h ⊢; exact good_R2 hg h)
theorem good_args {n : Nat} : ∀ {args : List V}, goods n args = true → All2 (fun a0 a => ∀ ι x, R ι a x → R (via (wayId n) ι) a0 x) args args
  | [], _ => trivial
  | v :: l, h => by simp only [goods, Bool.and_eq_true] at h; exact ⟨fun ι x hx => good_R h.1 hx, good_args h.2⟩
theorem good_ents {n : Nat} : ∀ {es : List (V × V × Nat)}, es.all (entGood n) = true → All2 (fun (y0 y : V × V × Nat) => (∀ ι x, R0 ι y.1 x → R0 (via (wayId n) ι) y0.1 x) ∧ (∀ ι x, R2 ι y.2.1 x → R2 (via (wayId n) ι) y0.2.1 x) ∧ y0.2.2 = y.2.2) es es
  | [], _ => trivial
  | e :: l, h => by
    simp only [List.all_cons, Bool.and_eq_true, entGood] at h
    exact ⟨⟨fun ι x hx => good_R0 h.1.1 hx, fun ι x hx => good_R2 h.1.2 hx, rfl⟩, good_ents (by simpa [entGood] using h.2)⟩
theorem seen_frozen {st : St} {args : List V} (h : goods st.next args = true) : Seen (wayId st.next) args st args (few (frozen st)) := by
  refine ⟨good_args h, fun k o hk => ?_, fun k hk => ?_, few_neat _⟩
  · rw [few_heap, frozen_at] at hk
    obtain ⟨h1, o', h2, h3, rfl⟩ := look_some hk
    refine ⟨k, 0, by unfold wayId; rw [if_pos h1], ?_⟩
    rw [h2]
    cases o' with
    | cells own cs =>
      show ∀ p v, cs[p]? = some v → ∃ u, cs[0 + p]? = some u ∧ ∀ ι x, R1 ι u x → R1 (via (wayId st.next) ι) v x
      exact fun p v hv => ⟨v, by rw [Nat.zero_add]; exact hv, fun ι x hx => good_R1 (goods_mem.1 h3 v (List.mem_of_getElem? hv)) hx⟩
    | map own es c => exact ⟨rfl, rfl, good_ents h3⟩
  · rw [few_next, frozen_len] at hk
    unfold wayId
    rw [if_neg (by omega)]
def Ren0 (m : Nat → Nat → Prop) : V → V → Prop
  | .ptr (some (i, o)), .ptr (some (j, o')) => m i j ∧ o = o'
  | .slice (some (i, o)) e n c f, .slice (some (j, o')) e' n' c' f' => m i j ∧ o = o' ∧ e = e' ∧ n = n' ∧ n ≤ c' ∧ c' ≤ c ∧ (f' = true → f = true ∧ c' = c)
  | .map (some i), .map (some j) => m i j
  | u, v => u = v ∧ v.flat = true
def Ren1 (m : Nat → Nat → Prop) : V → V → Prop
  | .agg l, .agg l' => All2 (Ren0 m) l l'
  | u, v => Ren0 m u v
def Ren (m : Nat → Nat → Prop) : V → V → Prop
  | .tuple l, .tuple l' => All2 (Ren1 m) l l'
  | u, v => Ren1 m u v
section
variable {m : Nat → Nat → Prop} {ι1 ι2 : Map} (hm : ∀ i j e, m i j → ι1 i = some e → ι2 j = some e)
include hm
theorem Ren0.R0 {u v : V} {x : Value} (h : Ren0 m u v) (hr : R0 ι1 u x) : Vabs.R0 ι2 v x := by
  have other : ∀ {u v : V}, u = v ∧ v.flat = true → Vabs.R0 ι1 u x → Vabs.R0 ι2 v x := by
    rintro u v ⟨rfl, hf⟩ hr
    cases u with
    | yield i => cases hf
    | ptr a => cases a with | none => exact hr | some p => cases hf
    | slice a e n c f => cases a with | none => exact hr | some p => cases hf
    | map a => cases a with | none => exact hr | some p => cases hf
    | _ => exact hr
  unfold Ren0 at h
  split at h
  · obtain ⟨h, rfl⟩ := h
    obtain ⟨e, he, hv⟩ := hr
    exact ⟨e, hm _ _ _ h he, hv⟩
  · obtain ⟨h, rfl, rfl, rfl, h1, h2, h3⟩ := h
    obtain ⟨en, y, c', he, k1, k2, k3, k4, k5⟩ := hr
    exact ⟨en, y, c', hm _ _ _ h he, k1, h1, by omega, fun hf => by rw [(h3 hf).2]; exact k4 (h3 hf).1, k5⟩
  · obtain ⟨e, he, hv⟩ := hr
    exact ⟨e, hm _ _ _ h he, hv⟩
  · exact other h hr
theorem Ren0.R1 {u v : V} {x : Value} (h : Ren0 m u v) (hr : R1 ι1 u x) : Vabs.R1 ι2 v x := by
  cases u with
  | func f a b => 
    have h : V.func f a b = v ∧ v.flat = true := by unfold Ren0 at h; split at h <;> first | exact h | (rename_i hh; cases hh) | (rename_i hh _; cases hh)
    obtain ⟨rfl, hf⟩ := h
    exact flat_R1 hf hr
  | _ => dsimp only [Vabs.R1] at hr; exact (Ren0.R0 hm h hr).up1
theorem Ren0.R2 {u v : V} {x : Value} (h : Ren0 m u v) (hr : R2 ι1 u x) : Vabs.R2 ι2 v x := by
  cases u with
  | agg cs =>
    have h : V.agg cs = v ∧ v.flat = true := by unfold Ren0 at h; split at h <;> first | exact h | (rename_i hh; cases hh) | (rename_i hh _; cases hh)
    obtain ⟨rfl, hf⟩ := h
    exact flat_R2 hf hr
  | _ => dsimp only [Vabs.R2] at hr; exact (Ren0.R1 hm h hr).up2
theorem Ren0.R1s : ∀ {us vs : List V} {xs : List Value}, All2 (Ren0 m) us vs → All2 (Vabs.R1 ι1) us xs → All2 (Vabs.R1 ι2) vs xs
  | [], [], [], _, _ => trivial
  | _ :: _, _ :: _, _ :: _, ⟨h, hs⟩, ⟨k, ks⟩ => ⟨Ren0.R1 hm h k, Ren0.R1s hs ks⟩
  | [], _ :: _, _, h, _ => h.elim
  | _ :: _, [], _, h, _ => h.elim
  | [], [], _ :: _, _, h => h.elim
  | _ :: _, _ :: _, [], _, h => h.elim
theorem Ren1.R2 {u v : V} {x : Value} (h : Ren1 m u v) (hr : R2 ι1 u x) : Vabs.R2 ι2 v x := by
  unfold Ren1 at h
  split at h
  · obtain ⟨cs', hv, h1⟩ := hr
    exact ⟨cs', hv, Ren0.R1s hm h h1⟩
  · exact Ren0.R2 hm h hr
theorem Ren1.R2s : ∀ {us vs : List V} {xs : List Value}, All2 (Ren1 m) us vs → All2 (Vabs.R2 ι1) us xs → All2 (Vabs.R2 ι2) vs xs
  | [], [], [], _, _ => trivial
  | _ :: _, _ :: _, _ :: _, ⟨h, hs⟩, ⟨k, ks⟩ => ⟨Ren1.R2 hm h k, Ren1.R2s hs ks⟩
  | [], _ :: _, _, h, _ => h.elim
  | _ :: _, [], _, h, _ => h.elim
  | [], [], _ :: _, _, h => h.elim
  | _ :: _, _ :: _, [], _, h => h.elim
theorem Ren.R {u v : V} {x : Value} (hb : u ≠ .bad) (h : Ren m u v) (hr : R ι1 u x) : Vabs.R ι2 v x := by
  unfold Ren at h
  split at h
  · obtain ⟨cs', hv, h1⟩ := hr
    exact ⟨cs', hv, Ren1.R2s hm h h1⟩
  · rename_i h1
    cases u with
    | bad => exact absurd rfl hb
    | tuple cs =>
      exfalso
      unfold Ren1 at h
      split at h
      · rename_i hh; cases hh
      · unfold Ren0 at h
        split at h
        · rename_i he _; cases he
        · rename_i he _; cases he
        · rename_i he _; cases he
        · exact h1 _ _ rfl h.1.symm
    | _ => dsimp only [Vabs.R] at hr; exact (Ren1.R2 hm h hr).up
end
def RenO (m : Nat → Nat → Prop) : AObj → AObj → Prop
  | .cells true cs, .cells true cs' => cs'.length ≤ cs.length ∧ ∀ (k : Nat) (v : V), cs'[k]? = some v → ∃ u, cs[k]? = some u ∧ Ren0 m u v
  | .map true es c, .map true es' c' => c = c' ∧ All2 (fun (y y' : V × V × Nat) => Ren0 m y.1 y'.1 ∧ Ren1 m y.2.1 y'.2.1 ∧ y.2.2 = y'.2.2) es es'
  | _, _ => False
theorem RenO.OR {m : Nat → Nat → Prop} {ι1 ι2 : Map} (hm : ∀ i j e, m i j → ι1 i = some e → ι2 j = some e) {o0 o : AObj} (h : RenO m o0 o) {B B' : Nat} (hB : B ≤ B') {w : World} {e : Entry} (ho : OR ι1 B' w e o0) : OR ι2 B w e o := by
  unfold RenO at h
  split at h
  · obtain ⟨h1, h2⟩ := h
    obtain ⟨k1, arr, ty, fz, k2, k3, k4, k5, k6⟩ := ho
    refine ⟨Nat.le_trans hB k1, arr, ty, fz, k2, k3, by omega, k5, fun k v hv => ?_⟩
    obtain ⟨u, hu, hr⟩ := h2 k v hv
    obtain ⟨v', hv', hR⟩ := k6 k u hu
    exact ⟨v', hv', Ren0.R1 hm hr hR⟩
  · obtain ⟨rfl, h2⟩ := h
    obtain ⟨k1, arr, k2, k3⟩ := ho
    have conv : ∀ {es es' : List (V × V × Nat)} {l : List MapEntry}, All2 (fun (y y' : V × V × Nat) => Ren0 m y.1 y'.1 ∧ Ren1 m y.2.1 y'.2.1 ∧ y.2.2 = y'.2.2) es es' → All2 (fun (x : V × V × Nat) (y : MapEntry) => R0 ι1 x.1 y.key ∧ R2 ι1 x.2.1 y.val ∧ x.2.2 = y.born) es l →
        All2 (fun (x : V × V × Nat) (y : MapEntry) => R0 ι2 x.1 y.key ∧ R2 ι2 x.2.1 y.val ∧ x.2.2 = y.born) es' l := by
      intro es
      induction es with
      | nil =>
        intro es' l h h'
        cases es' with
        | nil =>
          cases l with
          | nil => trivial
          | cons _ _ => exact h'.elim
        | cons _ _ => exact h.elim
      | cons a es ih =>
        intro es' l h h'
        cases es' with
        | nil => exact h.elim
        | cons b es' => cases l with
          | nil => exact h'.elim
          | cons y l => exact ⟨⟨Ren0.R0 hm h.1.1 h'.1.1, Ren1.R2 hm h.1.2.1 h'.1.2.1, by rw [← h.1.2.2]; exact h'.1.2.2⟩, ih h.2 h'.2⟩
    exact ⟨Nat.le_trans hB k1, arr, k2, conv h2 k3⟩
  · exact h.elim
def ren (n : Nat) (σ : List Nat) (i j : Nat) : Prop := (i < n ∧ j = i) ∨ ∃ p, σ[p]? = some i ∧ j = n + p
theorem ren_outs {n : Nat} {σ : List Nat} {ι1 ι2 : Map} (h : Outs (wayId n) n σ ι1 ι2) : ∀ i j e, ren n σ i j → ι1 i = some e → ι2 j = some e := by
  intro i j e hr he
  rcases hr with ⟨hi, rfl⟩ | ⟨p, hp, rfl⟩
  · obtain ⟨e', h1, h2⟩ := h.1 j j 0 e (by unfold wayId; rw [if_pos hi]) he
    rw [h1, h2]
    rfl
  · rw [h.2 p i hp]; exact he
theorem Left.ren {n : Nat} {s0 s1 : St} {v0 v : V} {os : List AObj} {σ : List Nat} (hv : v0 ≠ .bad) (hr : Ren (ren n σ) v0 v) (hlen : σ.length = os.length)
    (hobj : ∀ (j k : Nat) (o : AObj), σ[j]? = some k → os[j]? = some o → s0.next ≤ k ∧ ∃ o0, s1.heap.get k = some o0 ∧ RenO (Vabs.ren n σ) o0 o)
    (hinj : ∀ j j' k : Nat, σ[j]? = some k → σ[j']? = some k → j = j') : Left (wayId n) n s0 s1 v0 os σ v := by
  refine ⟨fun ι1 ι2 x ho hx => Ren.R (ren_outs ho) hv hr hx, hlen, fun j k o h1 h2 => ?_, hinj⟩
  obtain ⟨k1, o0, k2, k3⟩ := hobj j k o h1 h2
  refine ⟨k1, o0, k2, ?_, fun ι1 ι2 B B' w e hB ho hx => RenO.OR (ren_outs ho) k3 hB hx⟩
  unfold RenO at k3
  split at k3
  · rfl
  · rfl
  · exact k3.elim
def Mono (spec : Sight → List V → Option Ans) : Prop := ∀ l l' args a, (∀ i o, l i = some o → l' i = some o) → spec l args = some a → spec l' args = some a
end Go.Vabs

/-
  Writing into a memory of few objects; rounds one by one.
-/
import Derived.Test.YtpbafimkplhknaaVabsZc
namespace Go.Vabs
set_option linter.unusedVariables false
set_option linter.unusedSimpArgs false

namespace T
variable {α : Type}
theorem put_fuel (x : Option α) : ∀ (f g : Nat) (t : T α) (n : Nat), n < f → n < g → put f t n x = put g t n x := by
  intro f
  induction f with
  | zero => intro g t n h; omega
  | succ f ih =>
    intro g t n h1 h2
    obtain ⟨g, rfl⟩ : ∃ k, g = k + 1 := ⟨g - 1, by omega⟩
    cases n with
    | zero => rw [put_zero, put_zero]
    | succ m =>
      cases t with
      | nil => rw [put_succ_nil, put_succ_nil]; split <;> rw [ih g _ _ (by omega) (by omega)]
      | node l v r => rw [put_succ_node, put_succ_node]; split <;> rw [ih g _ _ (by omega) (by omega)]
theorem put_same (x y : Option α) : ∀ (f : Nat) (t : T α) (n : Nat), n < f → put f (put f t n x) n y = put f t n y := by
  intro f
  induction f with
  | zero => intro t n h; omega
  | succ f ih =>
    intro t n h
    cases n with
    | zero => rw [put_zero, put_zero, put_zero]; cases t <;> rfl
    | succ m =>
      cases t with
      | nil =>
        rw [put_succ_nil, put_succ_nil]
        split <;> rename_i hm <;> rw [put_succ_node] <;> simp only [hm, if_true, if_false] <;> rw [ih _ _ (by omega)]
      | node l v r =>
        rw [put_succ_node, put_succ_node]
        split <;> rename_i hm <;> rw [put_succ_node] <;> simp only [hm, if_true, if_false] <;> rw [ih _ _ (by omega)]
theorem put_comm (x y : Option α) : ∀ (f : Nat) (t : T α) (n m : Nat), n < f → m < f → n ≠ m → put f (put f t n x) m y = put f (put f t m y) n x := by
  intro f
  induction f with
  | zero => intro t n m h; omega
  | succ f ih =>
    intro t n m hn hm hne
    cases n with
    | zero =>
      cases m with
      | zero => exact absurd rfl hne
      | succ m =>
        cases t <;> by_cases h : m % 2 = 0 <;> simp only [put_zero, put_succ_nil, put_succ_node, h, if_true, if_false]
    | succ n =>
      cases m with
      | zero =>
        cases t <;> by_cases h : n % 2 = 0 <;> simp only [put_zero, put_succ_nil, put_succ_node, h, if_true, if_false]
      | succ m =>
        have key : ∀ t : T α, n % 2 = m % 2 → put f (put f t (n / 2) x) (m / 2) y = put f (put f t (m / 2) y) (n / 2) x := fun t h => ih t (n / 2) (m / 2) (by omega) (by omega) (by omega)
        cases t with
        | nil =>
          by_cases h1 : n % 2 = 0 <;> by_cases h2 : m % 2 = 0 <;> simp only [put_succ_nil, put_succ_node, h1, h2, if_true, if_false]
          · rw [key _ (by omega)]
          · rw [key _ (by omega)]
        | node l v r =>
          by_cases h1 : n % 2 = 0 <;> by_cases h2 : m % 2 = 0 <;> simp only [put_succ_node, h1, h2, if_true, if_false]
          · rw [key _ (by omega)]
          · rw [key _ (by omega)]
theorem set_same (t : T α) (n : Nat) (x y : Option α) : (t.set n x).set n y = t.set n y := put_same x y (n + 1) t n (Nat.lt_succ_self n)
theorem set_comm (t : T α) {n m : Nat} (x y : Option α) (h : n ≠ m) : (t.set n x).set m y = (t.set m y).set n x := by
  show put (m + 1) (put (n + 1) t n x) m y = put (n + 1) (put (m + 1) t m y) n x
  rw [put_fuel x (n + 1) (n + m + 1) t n (by omega) (by omega), put_fuel y (m + 1) (n + m + 1) _ m (by omega) (by omega), put_fuel y (m + 1) (n + m + 1) t m (by omega) (by omega), put_fuel x (n + 1) (n + m + 1) _ n (by omega) (by omega)]
  exact put_comm x y _ t n m (by omega) (by omega) h
end T

theorem heapFrom_over : ∀ (l : List (Option AObj)) (n k : Nat) (t : T AObj) (o : Option AObj), k < n → (heapFrom n l t).set k o = heapFrom n l (t.set k o)
  | [], n, k, t, o, h => rfl
  | a :: l, n, k, t, o, h => by
    show (heapFrom (n + 1) l (t.set n a)).set k o = heapFrom (n + 1) l ((t.set k o).set n a)
    rw [heapFrom_over l (n + 1) k _ o (by omega), T.set_comm t a o (by omega)]
theorem heapFrom_set : ∀ (l : List (Option AObj)) (n k : Nat) (t : T AObj) (o : Option AObj), k < l.length → (heapFrom n l t).set (n + k) o = heapFrom n (l.set k o) t
  | [], n, k, t, o, h => by simp at h
  | a :: l, n, 0, t, o, h => by
    show (heapFrom (n + 1) l (t.set n a)).set n o = heapFrom (n + 1) l (t.set n o)
    rw [heapFrom_over l (n + 1) n _ o (by omega), T.set_same]
  | a :: l, n, k + 1, t, o, h => by
    show (heapFrom (n + 1) l (t.set n a)).set (n + (k + 1)) o = heapFrom (n + 1) (l.set k o) (t.set n a)
    rw [show n + (k + 1) = n + 1 + k from by omega]
    exact heapFrom_set l (n + 1) k _ o (by simpa using h)
theorem few_set {os : List (Option AObj)} {i : Nat} {o : Option AObj} {x : AObj} (h : (os[i]?).join = some x) : (few os).set i o = some (few (os.set i o)) := by
  have hi : i < os.length := by
    cases hx : os[i]? with
    | none => rw [hx] at h; cases h
    | some y => exact (List.getElem?_eq_some_iff.1 hx).1
  show sel (true && true) (Option.rec none (fun _ => some (⟨os.length, (heapFrom 0 os .nil).set i o, fun _ => true, fun _ => true⟩ : St)) ((few os).heap.get i)) none = _
  rw [few_heap, h]
  show some (⟨os.length, (heapFrom 0 os .nil).set i o, fun _ => true, fun _ => true⟩ : St) = some ⟨(os.set i o).length, heapFrom 0 (os.set i o) .nil, fun _ => true, fun _ => true⟩
  have := heapFrom_set os 0 i .nil o hi
  rw [Nat.zero_add] at this
  rw [this, List.length_set]
theorem over_of : ∀ {vs l : List V}, vs.length ≤ l.length → over vs l = some (vs ++ l.drop vs.length)
  | [], l, _ => rfl
  | _ :: _, [], h => by simp at h
  | v :: vs, x :: l, h => by
    simp only [over, over_of (show vs.length ≤ l.length by simpa using h)]
    rfl
theorem splice_of : ∀ {o : Nat} {vs l : List V}, o + vs.length ≤ l.length → splice o vs l = some (l.take o ++ vs ++ l.drop (o + vs.length))
  | 0, vs, l, h => by
    rw [show splice 0 vs l = over vs l from by cases vs <;> rfl, over_of (by omega)]
    simp
  | o + 1, vs, [], h => by simp at h
  | o + 1, vs, x :: l, h => by
    simp only [splice, splice_of (show o + vs.length ≤ l.length by simp at h; omega)]
    simp [show o + 1 + vs.length = (o + vs.length) + 1 from by omega]
theorem splice_one {o : Nat} {v : V} {l : List V} (h : o < l.length) : splice o [v] l = some (l.set o v) := by
  rw [splice_of (show o + [v].length ≤ l.length from h), List.set_eq_take_append_cons_drop, if_pos h]
  simp
/-- A cell written. -/
theorem store_few {os : List (Option AObj)} {i o : Nat} {cs : List V} {v : V} (h : (os[i]?).join = some (.cells true cs)) (ho : o < cs.length) :
    storeV (few os) 1 (.ptr (some (i, o))) (some [v]) = some (V.undef, few (os.set i (some (.cells true (cs.set o v))))) := by
  show sel (Nat.beq 1 1) (match (few os).storeN i o [v] with | some st' => some (V.undef, st') | none => none) none = _
  unfold St.storeN
  rw [few_get, h]
  dsimp only
  rw [splice_one ho]
  dsimp only
  rw [few_set h]
  rfl
theorem cells_int {k : IntKind} {n : Int} : (V.int k n).cells = some [.int k n] := rfl
theorem cells_bool {b : Bool} : (V.bool b).cells = some [.bool b] := rfl
theorem cells_str {s : List Nat} : (V.str s).cells = some [.str s] := rfl
theorem cells_slice {a : Option (Nat × Nat)} {e n c : Nat} {f : Bool} : (V.slice a e n c f).cells = some [.slice a e n c f] := rfl
theorem cells_ptr {a : Option (Nat × Nat)} : (V.ptr a).cells = some [.ptr a] := rfl
theorem cells_agg {cs : List V} : (V.agg cs).cells = some cs := rfl

/- ROUNDS ONE BY ONE -/
section
variable {call : CallT} {lf : Nat} {s : Env} {st : St} {Q : Goal}
/- REGIONS THAT DRAW -/
def wpDVal (call : CallT) (d : Option Pos) (os : List (AOper × List Nat)) (n : Nat) (past : List Past) (s : Env) (st : St) (ft : Foot) (lim : Bool) (Q : Goal) : Option (V × St) → Prop
  | some (v, st') => wpDs call os (n + 1) (⟨st.next, st'.next, ft⟩ :: past) (s.put d v) (if lim = true then back st st' else st') Q
  | none => False
def wpDLim (call : CallT) (d : Option Pos) (op : AOp) (os : List (AOper × List Nat)) (n : Nat) (past : List Past) (s : Env) (st : St) (ps : List Past) (ft : Foot) (fr : Bool) (Q : Goal) : Bool → Prop
  | true => wpDVal call d os n past s st ft true Q (stepE call op s (limF fr ft ps st))
  | false => False
def wpDGuard (call : CallT) (d : Option Pos) (op : AOp) (inc : List Nat) (os : List (AOper × List Nat)) (n : Nat) (past : List Past) (s : Env) (st : St) (Q : Goal) : Option Bool → Prop
  | some true => match inc with
    | [] => wpDVal call d os n past s st .call false Q (stepE call op s st)
    | _ :: _ => wpDLim call d op os n past s st (pastsOf past n inc) (foot op s.ev) (ahead n inc) Q (okAll (pastsOf past n inc) (foot op s.ev))
  | some false => wpDs call os (n + 1) (⟨st.next, st.next, .dir [] []⟩ :: past) (s.put d V.undef) st Q
  | none => False
theorem wpDs_nil {n : Nat} {past : List Past} : wpDs call [] n past s st Q ↔ Q .normal s st := ⟨fun ⟨s', st', h, k⟩ => by cases h; exact k, fun h => ⟨_, _, rfl, h⟩⟩
theorem wpDs_cons {d : Option Pos} {op : AOp} {g : Option (Pos × Bool)} {inc : List Nat} {os : List (AOper × List Nat)} {n : Nat} {past : List Past} :
    wpDs call ((⟨d, op, g⟩, inc) :: os) n past s st Q ↔ wpDGuard call d op inc os n past s st Q (wantedE s g) := by
  unfold wpDs
  simp only [runDE]
  cases wantedE s g with
  | none => exact ⟨(fun ⟨_, _, h, _⟩ => by cases h), fun h => h.elim⟩
  | some b =>
    cases b with
    | false => exact Iff.rfl
    | true =>
      simp only [wpDGuard]
      cases inc with
      | nil =>
        dsimp only
        cases stepE call op s st with
        | none => exact ⟨(fun ⟨_, _, h, _⟩ => by cases h), fun h => h.elim⟩
        | some p => exact Iff.rfl
      | cons a l =>
        dsimp only
        cases okAll (pastsOf past n (a :: l)) (foot op s.ev) with
        | false => exact ⟨(fun ⟨_, _, h, _⟩ => by cases h), fun h => h.elim⟩
        | true =>
          dsimp only [wpDLim]
          cases stepE call op s (limF (ahead n (a :: l)) (foot op s.ev) (pastsOf past n (a :: l)) st) with
          | none => exact ⟨(fun ⟨_, _, h, _⟩ => by cases h), fun h => h.elim⟩
          | some p => exact Iff.rfl
theorem wantedE_none : wantedE s none = some true := rfl
theorem wantedE_some {g : Pos × Bool} : wantedE s (some g) = boolIs g.2 (s g.1) := rfl
theorem wpDGuard_true {d : Option Pos} {op : AOp} {os : List (AOper × List Nat)} {n : Nat} {past : List Past} : wpDGuard call d op [] os n past s st Q (some true) ↔ wpDVal call d os n past s st .call false Q (stepE call op s st) := Iff.rfl
theorem wpDGuard_lim {d : Option Pos} {op : AOp} {os : List (AOper × List Nat)} {n a : Nat} {l : List Nat} {past : List Past} : wpDGuard call d op (a :: l) os n past s st Q (some true) ↔ wpDLim call d op os n past s st (pastsOf past n (a :: l)) (foot op s.ev) (ahead n (a :: l)) Q (okAll (pastsOf past n (a :: l)) (foot op s.ev)) := Iff.rfl
theorem wpDGuard_false {d : Option Pos} {op : AOp} {inc : List Nat} {os : List (AOper × List Nat)} {n : Nat} {past : List Past} : wpDGuard call d op inc os n past s st Q (some false) ↔ wpDs call os (n + 1) (⟨st.next, st.next, .dir [] []⟩ :: past) (s.put d V.undef) st Q := by
  cases inc <;> exact Iff.rfl
theorem wpDLim_true {d : Option Pos} {op : AOp} {os : List (AOper × List Nat)} {n : Nat} {past ps : List Past} {ft : Foot} {fr : Bool} : wpDLim call d op os n past s st ps ft fr Q true ↔ wpDVal call d os n past s st ft true Q (stepE call op s (limF fr ft ps st)) := Iff.rfl
theorem limF_dir {fr : Bool} {rs ws : List Nat} {ps : List Past} : limF fr (.dir rs ws) ps st = limited (.dir rs ws) ps st := by cases st; rfl
theorem back_limF {fr : Bool} {ft : Foot} {ps : List Past} : back st (limF fr ft ps st) = st := by cases st; cases ft <;> rfl
theorem next_limF {fr : Bool} {ft : Foot} {ps : List Past} : (limF fr ft ps st).next = st.next := by cases st; cases ft <;> rfl
theorem wpDVal_free {d : Option Pos} {os : List (AOper × List Nat)} {n : Nat} {past : List Past} {ft : Foot} {v : V} {st' : St} : wpDVal call d os n past s st ft false Q (some (v, st')) ↔ wpDs call os (n + 1) (⟨st.next, st'.next, ft⟩ :: past) (s.put d v) st' Q := Iff.rfl
theorem wpDVal_lim {d : Option Pos} {os : List (AOper × List Nat)} {n : Nat} {past : List Past} {ft : Foot} {v : V} {st' : St} : wpDVal call d os n past s st ft true Q (some (v, st')) ↔ wpDs call os (n + 1) (⟨st.next, st'.next, ft⟩ :: past) (s.put d v) (back st st') Q := Iff.rfl
theorem back_limited {ft : Foot} {ps : List Past} : back st (limited ft ps st) = st := by cases st; cases ft <;> rfl
theorem next_limited {ft : Foot} {ps : List Past} : (limited ft ps st).next = st.next := by cases st; cases ft <;> rfl
theorem get_limited {rs ws : List Nat} {ps : List Past} {i : Nat} (h : i ∈ rs) : (limited (.dir rs ws) ps st).get i = st.get i := by
  cases st with | mk next heap vis wr =>
  show sel (vis i && (Nat.ble next i || Vabs.mem i rs)) (heap.get i) none = sel (vis i) (heap.get i) none
  rw [mem_of.2 h, Bool.or_true, Bool.and_true]
theorem convStr_limited {ws : List Nat} {ps : List Past} {v : V} : convV (limited (.dir (idOf v) ws) ps st) .toStr v = convV st .toStr v := by
  cases v with
  | slice a e n c f =>
    cases a with
    | none => rfl
    | some p =>
      obtain ⟨i, o⟩ := p
      unfold convV St.loadN
      dsimp only
      rw [get_limited (show i ∈ idOf (.slice (some (i, o)) e n c f) from List.mem_cons_self ..)]
  | _ => rfl
theorem load_limited {ws : List Nat} {ps : List Past} {v : V} {a : Bool} {n : Nat} : loadV (limited (.dir (idOf v) ws) ps st) a n v = loadV st a n v := by
  cases v with
  | ptr p =>
    cases p with
    | none => rfl
    | some p =>
      obtain ⟨i, o⟩ := p
      unfold loadV St.loadN St.load1
      dsimp only
      rw [get_limited (show i ∈ idOf (.ptr (some (i, o))) from List.mem_cons_self ..)]
  | _ => rfl
theorem foot_convStr {x : Src} : foot (.conv .toStr x) s.ev = .dir (idOf (s.ev x)) [] := rfl
theorem foot_load {x : Src} {a : Bool} {n : Nat} : foot (.load a n x) s.ev = .dir (idOf (s.ev x)) [] := rfl
theorem okAll_nil {f : Foot} : okAll [] f = true := rfl
theorem okAll_cons {p : Past} {l : List Past} {f : Foot} : okAll (p :: l) f = (okPair p f && okAll l f) := rfl
theorem anyIn_same {n : Nat} : ∀ {l : List Nat}, anyIn n n l = false
  | [] => rfl
  | j :: l => by
    show sel (Nat.ble n j && Nat.blt j n) true (anyIn n n l) = false
    have : (Nat.ble n j && Nat.blt j n) = false := by
      cases h1 : Nat.ble n j with
      | false => rfl
      | true =>
        cases h2 : Nat.blt j n with
        | false => rfl
        | true =>
          exfalso
          have a := Nat.le_of_ble_eq_true h1
          have b := Nat.le_of_ble_eq_true (show Nat.ble (j + 1) n = true from h2)
          omega
    rw [this, sel_false, anyIn_same]
theorem meets_nil {l : List Nat} : meets [] l = false := rfl
theorem meets_nil' : ∀ {l : List Nat}, meets l [] = false
  | [] => rfl
  | i :: l => by
    show sel (Vabs.mem i []) true (meets l []) = false
    rw [show Vabs.mem i [] = false from rfl, sel_false, meets_nil']
end
end Go.Vabs

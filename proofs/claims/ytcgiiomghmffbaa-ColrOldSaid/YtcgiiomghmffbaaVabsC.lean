/- Lemmas for this claim, text C. No condition. -/
import Derived.Test.YtcgiiomghmffbaaVabsB
import Derived.Below
import Derived.Laws.Cells
import Derived.Laws.Rows
namespace Go.Vabs
universe u
theorem sel_true {α : Sort u} (x y : α) : sel true x y = x := rfl
theorem sel_false {α : Sort u} (x y : α) : sel false x y = y := rfl
theorem sel_some {α : Type} {b : Bool} {x : Option α} {r : α} (h : sel b x none = some r) : b = true ∧ x = some r := by
  cases b
  · cases h
  · exact ⟨rfl, h⟩
section ways
theorem posF_succ (f m : Nat) : posF (f + 1) (m + 1) = if m % 2 = 0 then .o (posF f (m / 2)) else .i (posF f (m / 2)) := by
  show (Bool.rec (Pos.i (posF f (Nat.div m 2))) (Pos.o (posF f (Nat.div m 2))) (Nat.beq (Nat.mod m 2) 0) : Pos) = _
  have e : Nat.beq (Nat.mod m 2) 0 = decide (m % 2 = 0) := by
    show Nat.beq (m % 2) 0 = _
    by_cases h : m % 2 = 0
    · rw [h]; rfl
    · have : m % 2 = 1 := by omega
      rw [this]; rfl
  rw [e]
  by_cases h : m % 2 = 0 <;> simp only [h, decide_true, decide_false, if_true, if_false] <;> rfl
def posInv : Pos → Nat
  | .h => 0
  | .o p => 2 * posInv p + 1
  | .i p => 2 * posInv p + 2
theorem posInv_posF : ∀ (f n : Nat), n < f → posInv (posF f n) = n := by
  intro f
  induction f with
  | zero => intro n h; omega
  | succ f ih =>
    intro n h
    cases n with
    | zero => rfl
    | succ m =>
      rw [posF_succ]
      split
      · simp only [posInv]; rw [ih _ (by omega)]; omega
      · simp only [posInv]; rw [ih _ (by omega)]; omega
theorem posInv_pos (n : Nat) : posInv (pos n) = n := posInv_posF _ _ (Nat.lt_succ_self n)
theorem pos_inj {n m : Nat} (h : pos n = pos m) : n = m := by rw [← posInv_pos n, h, posInv_pos]
theorem posEq_iff : ∀ {p q : Pos}, posEq p q = true ↔ p = q
  | .h, .h => by simp [posEq]
  | .o p, .o q => by simp [posEq, posEq_iff (p := p) (q := q)]
  | .i p, .i q => by simp [posEq, posEq_iff (p := p) (q := q)]
  | .h, .o _ => by simp [posEq]
  | .h, .i _ => by simp [posEq]
  | .o _, .h => by simp [posEq]
  | .i _, .h => by simp [posEq]
  | .o _, .i _ => by simp [posEq]
  | .i _, .o _ => by simp [posEq]
end ways
namespace T
variable {α : Type}
theorem look_lay_same (p : Pos) (x : α) : ∀ t : T α, look (lay p x t) p = some x := by
  induction p with
  | h => intro t; cases t <;> rfl
  | o p ih => intro t; cases t <;> exact ih _
  | i p ih => intro t; cases t <;> exact ih _
theorem look_lay_other (p : Pos) (x : α) : ∀ (t : T α) (q : Pos), q ≠ p → look (lay p x t) q = look t q := by
  induction p with
  | h =>
    intro t q hq
    cases t <;> cases q <;> first | exact absurd rfl hq | rfl
  | o p ih =>
    intro t q hq
    cases q with
    | h => cases t <;> rfl
    | o q =>
      have hne : q ≠ p := fun e => hq (by rw [e])
      cases t
      · exact ih .nil q hne
      · exact ih _ q hne
    | i q => cases t <;> rfl
  | i p ih =>
    intro t q hq
    cases q with
    | h => cases t <;> rfl
    | i q =>
      have hne : q ≠ p := fun e => hq (by rw [e])
      cases t
      · exact ih .nil q hne
      · exact ih _ q hne
    | o q => cases t <;> rfl
theorem get_node (l : T α) (v : Option α) (r : T α) (m : Nat) : get (.node l v r) (m + 1) = if m % 2 = 0 then get l (m / 2) else get r (m / 2) := by
  show sel (Nat.beq (Nat.mod m 2) 0) (get l (Nat.div m 2)) (get r (Nat.div m 2)) = _
  have e : Nat.beq (Nat.mod m 2) 0 = decide (m % 2 = 0) := by
    show Nat.beq (m % 2) 0 = _
    by_cases h : m % 2 = 0
    · rw [h]; rfl
    · have : m % 2 = 1 := by omega
      rw [this]; rfl
  rw [e]
  by_cases h : m % 2 = 0 <;> simp only [h, decide_true, decide_false, if_true, if_false] <;> rfl
theorem get_node_zero (l : T α) (v : Option α) (r : T α) : get (.node l v r) 0 = v := rfl
theorem get_nil (n : Nat) : get (.nil : T α) n = none := rfl
theorem put_zero (f : Nat) (t : T α) (x : Option α) : put (f + 1) t 0 x = match t with | .nil => .node .nil x .nil | .node l _ r => .node l x r := by cases t <;> rfl
theorem put_succ_nil (f m : Nat) (x : Option α) : put (f + 1) .nil (m + 1) x = if m % 2 = 0 then .node (put f .nil (m / 2) x) none .nil else .node .nil none (put f .nil (m / 2) x) := by
  show sel (Nat.beq (Nat.mod m 2) 0) _ _ = _
  have e : Nat.beq (Nat.mod m 2) 0 = decide (m % 2 = 0) := by
    show Nat.beq (m % 2) 0 = _
    by_cases h : m % 2 = 0
    · rw [h]; rfl
    · have : m % 2 = 1 := by omega
      rw [this]; rfl
  rw [e]
  by_cases h : m % 2 = 0 <;> simp only [h, decide_true, decide_false, if_true, if_false] <;> rfl
theorem put_succ_node (f m : Nat) (l : T α) (v : Option α) (r : T α) (x : Option α) : put (f + 1) (.node l v r) (m + 1) x = if m % 2 = 0 then .node (put f l (m / 2) x) v r else .node l v (put f r (m / 2) x) := by
  show sel (Nat.beq (Nat.mod m 2) 0) _ _ = _
  have e : Nat.beq (Nat.mod m 2) 0 = decide (m % 2 = 0) := by
    show Nat.beq (m % 2) 0 = _
    by_cases h : m % 2 = 0
    · rw [h]; rfl
    · have : m % 2 = 1 := by omega
      rw [this]; rfl
  rw [e]
  by_cases h : m % 2 = 0 <;> simp only [h, decide_true, decide_false, if_true, if_false] <;> rfl
theorem get_put (x : Option α) : ∀ (f : Nat) (t : T α) (n k : Nat), n < f → get (put f t n x) k = if k = n then x else get t k := by
  intro f
  induction f with
  | zero => intro t n k h; omega
  | succ f ih =>
    intro t n k h
    cases n with
    | zero =>
      rw [put_zero]
      cases t with
      | nil => cases k with
        | zero => rfl
        | succ k => simp only [get_node, get_nil]; split <;> simp
      | node l v r => cases k with
        | zero => rfl
        | succ k => simp only [get_node]; split <;> simp
    | succ m =>
      cases t with
      | nil =>
        rw [put_succ_nil]
        cases k with
        | zero => split <;> simp [get_node_zero, get_nil]
        | succ k =>
          split <;> rename_i hm <;> rw [get_node] <;> split <;> rename_i hk
          · rw [ih _ _ _ (by omega)]; by_cases e : k = m
            · subst e; simp
            · rw [if_neg (by omega), if_neg (by omega)]; rfl
          · rw [if_neg (by omega)]; rfl
          · rw [if_neg (by omega)]; rfl
          · rw [ih _ _ _ (by omega)]; by_cases e : k = m
            · subst e; simp
            · rw [if_neg (by omega), if_neg (by omega)]; rfl
      | node l v r =>
        rw [put_succ_node]
        cases k with
        | zero => split <;> simp [get_node_zero]
        | succ k =>
          split <;> rename_i hm <;> rw [get_node, get_node] <;> split <;> rename_i hk
          · rw [ih _ _ _ (by omega)]; by_cases e : k = m
            · subst e; simp
            · rw [if_neg (by omega), if_neg (by omega)]
          · rw [if_neg (by omega)]
          · rw [if_neg (by omega)]
          · rw [ih _ _ _ (by omega)]; by_cases e : k = m
            · subst e; simp
            · rw [if_neg (by omega), if_neg (by omega)]
theorem get_set (t : T α) (n k : Nat) (x : Option α) : get (set t n x) k = if k = n then x else get t k := get_put x _ _ _ _ (Nat.lt_succ_self n)
end T
theorem St.get_eq (s : St) (i : Nat) : s.get i = if s.vis i = true then s.heap.get i else none := by
  cases s; show sel _ _ _ = _
  split <;> rename_i h <;> simp only [Bool.not_eq_true] at h <;> rw [h] <;> rfl
theorem St.get_heap {s : St} {i : Nat} {o : AObj} (h : s.get i = some o) : s.heap.get i = some o := by
  rw [St.get_eq] at h
  by_cases hv : s.vis i = true
  · rwa [if_pos hv] at h
  · rw [if_neg hv] at h; cases h
theorem St.alloc_some {s : St} {o : AObj} {j : Nat} {s' : St} (h : s.alloc o = some (j, s')) :
    s.vis s.next = true ∧ s.wr s.next = true ∧ j = s.next ∧ s' = { next := s.next + 1, heap := s.heap.set s.next (some o), vis := s.vis, wr := s.wr } := by
  cases s
  have h := sel_some (show sel _ _ none = _ from h)
  simp only [Bool.and_eq_true, Option.some.injEq, Prod.mk.injEq] at h
  exact ⟨h.1.1, h.1.2, h.2.1.symm, h.2.2.symm⟩
theorem St.set_some {s : St} {i : Nat} {o : Option AObj} {s' : St} (h : s.set i o = some s') :
    s.vis i = true ∧ s.wr i = true ∧ (∃ x, s.heap.get i = some x) ∧ s' = { next := s.next, heap := s.heap.set i o, vis := s.vis, wr := s.wr } := by
  cases s with | mk next heap vis wr =>
  have h := sel_some (show sel _ _ none = _ from h)
  simp only [Bool.and_eq_true] at h
  obtain ⟨⟨h1, h2⟩, h3⟩ := h
  refine ⟨h1, h2, ?_⟩
  generalize hx : heap.get i = y at h3
  cases y with
  | none => cases h3
  | some x => exact ⟨⟨x, rfl⟩, (Option.some.inj h3).symm⟩
theorem takeN_eq : ∀ {n : Nat} {l r : List V}, takeN n l = some r → r.length = n ∧ ∀ k, k < n → r[k]? = l[k]?
  | 0, l, r, h => by simp [takeN] at h; subst h; exact ⟨rfl, fun k hk => by omega⟩
  | n + 1, [], r, h => by simp [takeN] at h
  | n + 1, x :: l, r, h => by
    simp only [takeN] at h
    split at h
    · rename_i r' h'
      obtain ⟨h1, h2⟩ := takeN_eq h'
      cases h
      refine ⟨by simp [h1], fun k hk => ?_⟩
      cases k with
      | zero => rfl
      | succ k => simpa using h2 k (by omega)
    · cases h
theorem cut_eq : ∀ {o n : Nat} {l r : List V}, cut o n l = some r → r.length = n ∧ ∀ k, k < n → r[k]? = l[o + k]?
  | 0, n, l, r, h => by
    rw [show cut 0 n l = takeN n l from by cases n <;> rfl] at h
    simpa using takeN_eq h
  | o + 1, 0, l, r, h => by simp [cut] at h; subst h; exact ⟨rfl, fun k hk => by omega⟩
  | o + 1, n + 1, [], r, h => by simp [cut] at h
  | o + 1, n + 1, x :: l, r, h => by
    simp only [cut] at h
    obtain ⟨h1, h2⟩ := cut_eq h
    refine ⟨h1, fun k hk => ?_⟩
    rw [h2 k hk, show o + 1 + k = (o + k) + 1 from by omega]
    rfl
theorem nth_eq : ∀ {n : Nat} {l : List V}, nth n l = l[n]?
  | n, [] => by cases n <;> rfl
  | 0, x :: l => rfl
  | n + 1, x :: l => by simp only [nth]; rw [nth_eq]; rfl
theorem over_eq : ∀ {vs l r : List V}, over vs l = some r → r.length = l.length ∧ vs.length ≤ l.length ∧ ∀ k, r[k]? = if k < vs.length then vs[k]? else l[k]?
  | [], l, r, h => by simp [over] at h; subst h; exact ⟨rfl, by simp, fun k => by simp⟩
  | v :: vs, [], r, h => by simp [over] at h
  | v :: vs, x :: l, r, h => by
    simp only [over] at h
    split at h
    · rename_i r' h'
      obtain ⟨h1, h2, h3⟩ := over_eq h'
      cases h
      refine ⟨by simp [h1], by simpa using h2, fun k => ?_⟩
      cases k with
      | zero => simp
      | succ k => simpa using h3 k
    · cases h
theorem splice_eq : ∀ {o : Nat} {vs l r : List V}, splice o vs l = some r → r.length = l.length ∧ o + vs.length ≤ l.length ∧
    ∀ k, r[k]? = if o ≤ k ∧ k < o + vs.length then vs[k - o]? else l[k]?
  | 0, vs, l, r, h => by
    rw [show splice 0 vs l = over vs l from by cases vs <;> rfl] at h
    obtain ⟨h1, h2, h3⟩ := over_eq h
    exact ⟨h1, by omega, fun k => by rw [h3]; simp⟩
  | o + 1, vs, [], r, h => by cases vs <;> simp [splice] at h
  | o + 1, vs, x :: l, r, h => by
    simp only [splice] at h
    split at h
    · rename_i r' h'
      obtain ⟨h1, h2, h3⟩ := splice_eq h'
      cases h
      refine ⟨by simp [h1], by simp only [List.length_cons]; omega, fun k => ?_⟩
      cases k with
      | zero => simp
      | succ k =>
        rw [show ((x :: r')[k + 1]?) = r'[k]? from rfl, h3 k, show ((x :: l)[k + 1]?) = l[k]? from rfl]
        by_cases hc : o ≤ k ∧ k < o + vs.length
        · rw [if_pos hc, if_pos (by omega), show k + 1 - (o + 1) = k - o from by omega]
        · rw [if_neg hc, if_neg (by omega)]
    · cases h
structure Entry where
  blk : Nat
  off : Nat
  tot : Nat
abbrev Map := Nat → Option Entry
def All2 {α β : Type} (p : α → β → Prop) : List α → List β → Prop
  | [], [] => True
  | a :: l, b :: m => p a b ∧ All2 p l m
  | _, _ => False
theorem All2.mono {α β : Type} {p q : α → β → Prop} (h : ∀ a b, p a b → q a b) : ∀ {l : List α} {m : List β}, All2 p l m → All2 q l m
  | [], [], _ => trivial
  | _ :: _, _ :: _, ⟨x, y⟩ => ⟨h _ _ x, All2.mono h y⟩
theorem All2.length {α β : Type} {p : α → β → Prop} : ∀ {l : List α} {m : List β}, All2 p l m → l.length = m.length
  | [], [], _ => rfl
  | _ :: _, _ :: _, ⟨_, y⟩ => by simp [All2.length y]
theorem All2.get {α β : Type} {p : α → β → Prop} : ∀ {l : List α} {m : List β}, All2 p l m → ∀ {k : Nat} {a : α}, l[k]? = some a → ∃ b, m[k]? = some b ∧ p a b
  | [], [], _, k, a, h => by simp at h
  | x :: l, y :: m, ⟨h1, h2⟩, k, a, h => by
    cases k with
    | zero => simp at h; subst h; exact ⟨y, rfl, h1⟩
    | succ k => exact All2.get h2 h
theorem All2.of_get {α β : Type} {p : α → β → Prop} : ∀ {l : List α} {m : List β}, l.length = m.length → (∀ (k : Nat) (a : α), l[k]? = some a → ∃ b, m[k]? = some b ∧ p a b) → All2 p l m
  | [], [], _, _ => trivial
  | [], _ :: _, h, _ => by simp at h
  | _ :: _, [], h, _ => by simp at h
  | x :: l, y :: m, h, hg => by
    refine ⟨?_, All2.of_get (by simpa using h) fun k a ha => hg (k + 1) a ha⟩
    obtain ⟨b, hb, hp⟩ := hg 0 x rfl
    simp at hb; subst hb; exact hp
theorem All2.append {α β : Type} {p : α → β → Prop} : ∀ {l l' : List α} {m m' : List β}, All2 p l m → All2 p l' m' → All2 p (l ++ l') (m ++ m')
  | [], _, [], _, _, h => h
  | _ :: _, _, _ :: _, _, ⟨x, y⟩, h => ⟨x, All2.append y h⟩
def R0 (ι : Map) : V → Value → Prop
  | .bool b, v => v = .bool b
  | .int k n, v => v = .int k n
  | .str s, v => ∃ b, v = .string b ∧ strV b = s
  | .ptr none, v => v = .pointer none
  | .ptr (some (i, o)), v => ∃ e, ι i = some e ∧ v = .pointer (some ⟨e.blk, e.off + o, none⟩)
  | .slice none _ n c _, v => n = 0 ∧ c = 0 ∧ v = .slice none 0 0
  | .slice (some (i, o)) e n c f, v => ∃ en x c', ι i = some en ∧ v = .slice (some x) n c' ∧ n ≤ c ∧ c ≤ c' ∧ (f = true → c' = c) ∧ (c' = 0 ∨ (x = ⟨en.blk, en.off + o, none⟩ ∧ o + c' * e ≤ en.tot))
  | .map none, v => v = .map none
  | .map (some i), v => ∃ e, ι i = some e ∧ v = .map (some e.blk)
  | .nilFunc, v => v = .nilFunc
  | .yield i, v => ∃ e, ι i = some e ∧ v = .func (.yield e.blk) #[] #[]
  | _, _ => False
def R1 (ι : Map) : V → Value → Prop
  | .func f a b, v => ∃ a' b', v = .func (.func f) a' b' ∧ All2 (R0 ι) a a'.toList ∧ All2 (R0 ι) b b'.toList
  | x, v => R0 ι x v
def R2 (ι : Map) : V → Value → Prop
  | .agg cs, v => ∃ cs', v = .agg cs' ∧ All2 (R1 ι) cs cs'.toList
  | x, v => R1 ι x v
def R (ι : Map) : V → Value → Prop
  | .tuple vs, v => ∃ vs', v = .tuple vs' ∧ All2 (R2 ι) vs vs'.toList
  | .bad, _ => True
  | x, v => R2 ι x v
def Sub (ι ι' : Map) : Prop := ∀ i e, ι i = some e → ι' i = some e
theorem Sub.refl (ι : Map) : Sub ι ι := fun _ _ h => h
theorem Sub.trans {a b c : Map} (h : Sub a b) (k : Sub b c) : Sub a c := fun i e x => k i e (h i e x)
section mono
variable {ι ι' : Map}
theorem R0.mono (h : Sub ι ι') {x : V} {v : Value} (hr : R0 ι x v) : R0 ι' x v := by
  cases x with
  | ptr a => cases a with
    | none => exact hr
    | some p => obtain ⟨e, he, hv⟩ := hr; exact ⟨e, h _ _ he, hv⟩
  | slice a e n c f => cases a with
    | none => exact hr
    | some p => obtain ⟨en, y, c', he, rest⟩ := hr; exact ⟨en, y, c', h _ _ he, rest⟩
  | map m => cases m with
    | none => exact hr
    | some i => obtain ⟨e, he, hv⟩ := hr; exact ⟨e, h _ _ he, hv⟩
  | yield i => obtain ⟨e, he, hv⟩ := hr; exact ⟨e, h _ _ he, hv⟩
  | _ => exact hr
theorem R1.mono (h : Sub ι ι') {x : V} {v : Value} (hr : R1 ι x v) : R1 ι' x v := by
  cases x with
  | func f a b => obtain ⟨a', b', hv, h1, h2⟩ := hr; exact ⟨a', b', hv, h1.mono fun _ _ => R0.mono h, h2.mono fun _ _ => R0.mono h⟩
  | _ => (dsimp only [R1] at hr ⊢; exact R0.mono h hr)
theorem R2.mono (h : Sub ι ι') {x : V} {v : Value} (hr : R2 ι x v) : R2 ι' x v := by
  cases x with
  | agg cs => obtain ⟨cs', hv, h1⟩ := hr; exact ⟨cs', hv, h1.mono fun _ _ => R1.mono h⟩
  | _ => (dsimp only [R2] at hr ⊢; exact R1.mono h hr)
theorem R.mono (h : Sub ι ι') {x : V} {v : Value} (hr : R ι x v) : R ι' x v := by
  cases x with
  | tuple vs => obtain ⟨vs', hv, h1⟩ := hr; exact ⟨vs', hv, h1.mono fun _ _ => R2.mono h⟩
  | bad => trivial
  | _ => (dsimp only [R] at hr ⊢; exact R2.mono h hr)
end mono
theorem R0.one {ι : Map} {x : V} {v : Value} (h : R0 ι x v) : v.oneCell' = true := by
  cases x with
  | ptr a => cases a with
    | none => cases h; rfl
    | some p => obtain ⟨e, _, rfl⟩ := h; rfl
  | slice a e n c f => cases a with
    | none => obtain ⟨_, _, rfl⟩ := h; rfl
    | some p => obtain ⟨en, y, c', _, rfl, _⟩ := h; rfl
  | map m => cases m with
    | none => cases h; rfl
    | some i => obtain ⟨e, _, rfl⟩ := h; rfl
  | yield i => obtain ⟨e, _, rfl⟩ := h; rfl
  | str s => obtain ⟨b, rfl, _⟩ := h; rfl
  | bool b => cases h; rfl
  | int k n => cases h; rfl
  | nilFunc => cases h; rfl
  | _ => exact h.elim
theorem R1.one {ι : Map} {x : V} {v : Value} (h : R1 ι x v) : v.oneCell' = true := by
  cases x with
  | func f a b => obtain ⟨a', b', rfl, _⟩ := h; rfl
  | _ => (dsimp only [R1] at h; exact R0.one h)
theorem cells_one {v : Value} (h : v.oneCell' = true) : v.cells = #[v] := by
  cases v <;> first | rfl | (simp [Value.oneCell'] at h)
theorem R.cells {ι : Map} {x : V} {v : Value} (h : R ι x v) {cs : List V} (hc : x.cells = some cs) : All2 (R1 ι) cs v.cells.toList := by
  have one : ∀ y : V, R1 ι y v → All2 (R1 ι) [y] v.cells.toList := fun y hy => by
    rw [cells_one hy.one]; exact ⟨hy, trivial⟩
  cases x with
  | agg l => obtain ⟨cs', rfl, h1⟩ := h; cases hc; exact h1
  | tuple l => cases hc
  | bad => cases hc
  | _ => (cases hc; dsimp only [R, R2] at h; exact one _ h)
theorem R.of_plain {ι : Map} {x : V} {v : Value} (h : R ι x v) (hp : x.plain = true) : R2 ι x v := by
  cases x <;> first | exact h | cases hp
theorem R2.up {ι : Map} {x : V} {v : Value} (h : R2 ι x v) : R ι x v := by
  cases x <;> first | exact h | exact (h : False).elim
theorem R1.up2 {ι : Map} {x : V} {v : Value} (h : R1 ι x v) : R2 ι x v := by
  cases x <;> first | exact h | exact (h : False).elim
theorem R1.up {ι : Map} {x : V} {v : Value} (h : R1 ι x v) : R ι x v := h.up2.up
theorem R0.up1 {ι : Map} {x : V} {v : Value} (h : R0 ι x v) : R1 ι x v := by
  cases x <;> first | exact h | exact (h : False).elim
theorem R0.up {ι : Map} {x : V} {v : Value} (h : R0 ι x v) : R ι x v := h.up1.up
theorem R.of_base {ι : Map} {x : V} {v : Value} (h : R ι x v) (hp : x.base = true) : R0 ι x v := by
  cases x <;> first | exact h | cases hp
def fzOk (n : Nat) (fz : Nat × Nat) : Prop := fz.1 = fz.2 ∨ n ≤ fz.1
theorem fzOk.out {n : Nat} {fz : Nat × Nat} (h : fzOk n fz) : ∀ k, fz.1 ≤ k → k < fz.2 → n ≤ k := fun k h1 h2 => by
  rcases h with h | h <;> omega
def isMark : Obj → Bool
  | .loop _ => true
  | .deferred _ => true
  | _ => false
structure Below (B : Nat) (w w' : World) : Prop where
  base : Go.RowKit.Below B w w'
  keep : ∀ (k : Nat) (o : Obj), w.heap[k]? = some o → isMark o = true → w'.heap[k]? = some o
namespace Below
theorem size {B : Nat} {w w' : World} (h : Below B w w') : w.heap.size ≤ w'.heap.size := h.base.size
theorem block {B : Nat} {w w' : World} (h : Below B w w') : ∀ k, k < B → w'.heap[k]? = w.heap[k]? := h.base.block
theorem refl (B : Nat) (w : World) : Below B w w := ⟨.refl _ _, fun _ _ h _ => h⟩
theorem trans {B : Nat} {a b c : World} (h : Below B a b) (k : Below B b c) : Below B a c := ⟨h.base.trans k.base, fun i o ho hm => k.keep i o (h.keep i o ho hm) hm⟩
theorem mono {B B' : Nat} {w w' : World} (h : Below B w w') (hB : B' ≤ B) : Below B' w w' := ⟨h.base.mono hB, h.keep⟩
theorem drew {B : Nat} {a w : World} (h : Below B a w) : Below B a w.drew := ⟨h.base.drew, h.keep⟩
theorem alloc {B : Nat} {a w : World} (h : Below B a w) (hB : B ≤ w.heap.size) (o : Obj) : Below B a (w.alloc o) :=
  ⟨h.base.alloc hB o, fun k o' ho hm => (Go.RowKit.Below.heap_alloc w o k (Array.getElem?_eq_some_iff.1 (h.keep k o' ho hm)).1).trans (h.keep k o' ho hm)⟩
theorem one {B : Nat} {w w' : World} (h : Go.RowKit.Below B w w') {b : Nat} {o : Obj} (hb : w.heap[b]? = some o) (hm : isMark o = false) (hw : ∀ k, k ≠ b → w'.heap[k]? = w.heap[k]?) : Below B w w' :=
  ⟨h, fun k o' ho hm' => by
    by_cases hk : k = b
    · subst hk; rw [hb] at ho; cases ho; rw [hm] at hm'; cases hm'
    · rw [hw k hk]; exact ho⟩
end Below
def OR (ι : Map) (B : Nat) (w : World) (e : Entry) : AObj → Prop
  | .cells true cs => B ≤ e.blk ∧ ∃ arr ty fz, w.heap[e.blk]? = some (.cells arr ty fz) ∧ arr.size = e.off + e.tot ∧ cs.length ≤ e.tot ∧
      fzOk arr.size fz ∧ ∀ k v, cs[k]? = some v → ∃ v', arr[e.off + k]? = some v' ∧ R1 ι v v'
  | .cells false cs => e.blk < B ∧ ∀ k v, cs[k]? = some v → ∃ v', w.cell? ⟨e.blk, e.off + k, none⟩ = some v' ∧ R1 ι v v'
  | .map true es clock => B ≤ e.blk ∧ ∃ es', w.heap[e.blk]? = some (.map es' clock) ∧ All2 (fun (x : V × V × Nat) (y : MapEntry) => R0 ι x.1 y.key ∧ R2 ι x.2.1 y.val ∧ x.2.2 = y.born) es es'.toList
  | .map false es clock => e.blk < B ∧ ∃ es', w.heap[e.blk]? = some (.map es' clock) ∧ All2 (fun (x : V × V × Nat) (y : MapEntry) => R0 ι x.1 y.key ∧ R2 ι x.2.1 y.val ∧ x.2.2 = y.born) es es'.toList
def AObj.own : AObj → Bool
  | .cells o _ => o
  | .map o _ _ => o
structure Rel (ι : Map) (B : Nat) (h : T AObj) (w : World) : Prop where
  base : B ≤ w.heap.size
  obj : ∀ i o, h.get i = some o → ∃ e, ι i = some e ∧ e.blk < w.heap.size ∧ OR ι B w e o
  sep : ∀ i j o o' e e', h.get i = some o → h.get j = some o' → o.own = true → o'.own = true → ι i = some e → ι j = some e' → e.blk = e'.blk → i = j
end Go.Vabs

/- Lemmas for this claim, text A. No condition. -/
import GoSem.Step
namespace Go.Vabs
universe u
set_option linter.unusedVariables false
noncomputable section
def sel {α : Sort u} (b : Bool) (x y : α) : α := Bool.rec y x b
inductive T (α : Type) where
  | nil
  | node (l : T α) (v : Option α) (r : T α)
namespace T
variable {α : Type}
def getNode (v : Option α) (gl gr : Nat → Option α) : Nat → Option α :=
  Nat.rec v fun m _ => sel (Nat.beq (Nat.mod m 2) 0) (gl (Nat.div m 2)) (gr (Nat.div m 2))
def get : T α → Nat → Option α := T.rec (fun _ => none) fun _ v _ gl gr => getNode v gl gr
def putNil (f : T α → Nat → Option α → T α) : Nat → Option α → T α :=
  Nat.rec (fun x => .node .nil x .nil) fun m _ x => sel (Nat.beq (Nat.mod m 2) 0) (.node (f .nil (Nat.div m 2) x) none .nil) (.node .nil none (f .nil (Nat.div m 2) x))
def putNode (f : T α → Nat → Option α → T α) (l : T α) (v : Option α) (r : T α) : Nat → Option α → T α :=
  Nat.rec (fun x => .node l x r) fun m _ x => sel (Nat.beq (Nat.mod m 2) 0) (.node (f l (Nat.div m 2) x) v r) (.node l v (f r (Nat.div m 2) x))
def put : Nat → T α → Nat → Option α → T α :=
  Nat.rec (fun t _ _ => t) fun _ f t => T.rec (motive := fun _ => Nat → Option α → T α) (putNil f) (fun l v r _ _ => putNode f l v r) t
def set (t : T α) (n : Nat) (v : Option α) : T α := put (n + 1) t n v
end T
inductive Pos where
  | h
  | o (p : Pos)
  | i (p : Pos)
def posF : Nat → Nat → Pos := Nat.rec (fun _ => .h) fun _ k n => Nat.rec .h (fun m _ => Bool.rec (.i (k (Nat.div m 2))) (.o (k (Nat.div m 2))) (Nat.beq (Nat.mod m 2) 0)) n
def pos (n : Nat) : Pos := posF (n + 1) n
namespace T
variable {α : Type}
def atP (v : Option α) (gl gr : Pos → Option α) : Pos → Option α := Pos.rec v (fun p _ => gl p) (fun p _ => gr p)
def look : T α → Pos → Option α := T.rec (fun _ => none) fun _ v _ gl gr => atP v gl gr
def lay : Pos → α → T α → T α := Pos.rec
  (fun x => T.rec (.node .nil (some x) .nil) fun l _ r _ _ => .node l (some x) r)
  (fun _ f x => T.rec (.node (f x .nil) none .nil) fun l v r _ _ => .node (f x l) v r)
  (fun _ f x => T.rec (.node .nil none (f x .nil)) fun l v r _ _ => .node l v (f x r))
end T
inductive V where
  | bool (b : Bool)
  | int (k : IntKind) (n : Int)
  | str (s : List Nat)
  | ptr (a : Option (Nat × Nat))
  | slice (a : Option (Nat × Nat)) (e len cap : Nat) (fix : Bool)
  | map (m : Option Nat)
  | func (f : Nat) (first captured : List V)
  | nilFunc
  | agg (cs : List V)
  | tuple (vs : List V)
  | bad
  | yield (i : Nat)
inductive AObj where
  | cells (own : Bool) (cs : List V)
  | map (own : Bool) (es : List (V × V × Nat)) (clock : Nat)
structure St where
  next : Nat
  heap : T AObj
  vis : Nat → Bool
  wr : Nat → Bool
namespace St
def getK (i : Nat) (_next : Nat) (heap : T AObj) (vis _wr : Nat → Bool) : Option AObj := sel (vis i) (heap.get i) none
def get (s : St) (i : Nat) : Option AObj := St.rec (getK i) s
def allocK (o : AObj) (next : Nat) (heap : T AObj) (vis wr : Nat → Bool) : Option (Nat × St) :=
  sel (vis next && wr next) (some (next, ⟨Nat.succ next, heap.set next (some o), vis, wr⟩)) none
def alloc (s : St) (o : AObj) : Option (Nat × St) := St.rec (allocK o) s
def setK (i : Nat) (o : Option AObj) (next : Nat) (heap : T AObj) (vis wr : Nat → Bool) : Option St :=
  sel (vis i && wr i) (Option.rec none (fun _ => some ⟨next, heap.set i o, vis, wr⟩) (heap.get i)) none
def set (s : St) (i : Nat) (o : Option AObj) : Option St := St.rec (setK i o) s
end St
def takeN : Nat → List V → Option (List V)
  | 0, _ => some []
  | _ + 1, [] => none
  | n + 1, x :: l => match takeN n l with | some r => some (x :: r) | none => none
def cut : Nat → Nat → List V → Option (List V)
  | 0, n, l => takeN n l
  | _ + 1, 0, _ => some []
  | _ + 1, _ + 1, [] => none
  | o + 1, n + 1, _ :: l => cut o (n + 1) l
def nth : Nat → List V → Option V
  | _, [] => none
  | 0, x :: _ => some x
  | n + 1, _ :: l => nth n l
def over : List V → List V → Option (List V)
  | [], l => some l
  | _ :: _, [] => none
  | v :: vs, _ :: l => match over vs l with | some r => some (v :: r) | none => none
def splice : Nat → List V → List V → Option (List V)
  | 0, vs, l => over vs l
  | _ + 1, _, [] => none
  | o + 1, vs, x :: l => match splice o vs l with | some r => some (x :: r) | none => none
def St.loadN (s : St) (i o n : Nat) : Option (List V) := match s.get i with | some (.cells _ cs) => cut o n cs | _ => none
def St.load1 (s : St) (i o : Nat) : Option V := match s.get i with | some (.cells _ cs) => nth o cs | _ => none
def dropR (n : Nat) : List V → List V := Nat.rec (fun l => l) (fun _ ih l => List.rec [] (fun _ l _ => ih l) l) n
def dropB (n : Nat) (l : List V) : List V := Nat.rec l (fun _ ih => dropR 64 ih) n
def firstO (l : List V) : Option V := List.rec none (fun x _ _ => some x) l
def nthB (o : Nat) (l : List V) : Option V := firstO (dropR (Nat.mod o 64) (dropB (Nat.div o 64) l))
theorem dropR_eq : ∀ (n : Nat) (l : List V), dropR n l = l.drop n
  | 0, l => rfl
  | n + 1, [] => rfl
  | n + 1, x :: l => dropR_eq n l
theorem dropB_eq : ∀ (n : Nat) (l : List V), dropB n l = l.drop (64 * n)
  | 0, l => rfl
  | n + 1, l => by
    show dropR 64 (dropB n l) = _
    rw [dropR_eq, dropB_eq n l, List.drop_drop]
    congr 1
theorem firstO_eq : ∀ (n : Nat) (l : List V), firstO (l.drop n) = nth n l
  | 0, [] => rfl
  | _ + 1, [] => rfl
  | 0, _ :: _ => rfl
  | n + 1, _ :: l => firstO_eq n l
theorem nthB_eq (o : Nat) (l : List V) : nthB o l = nth o l := by
  show firstO (dropR (o % 64) (dropB (o / 64) l)) = _
  rw [dropB_eq, dropR_eq, List.drop_drop, Nat.div_add_mod, firstO_eq]
def St.load1F (s : St) (i o : Nat) : Option V := match s.get i with | some (.cells _ cs) => nthB o cs | _ => none
theorem load1F_eq (s : St) (i o : Nat) : s.load1F i o = s.load1 i o := by
  unfold St.load1F St.load1
  cases s.get i with
  | none => rfl
  | some x => cases x with
    | cells own cs => exact nthB_eq o cs
    | map own es c => rfl
def St.storeN (s : St) (i o : Nat) (vs : List V) : Option St :=
  match s.get i with
  | some (.cells true cs) => match splice o vs cs with | some r => s.set i (some (.cells true r)) | none => none
  | _ => none
def V.cells : V → Option (List V)
  | .agg cs => some cs
  | .bad => none
  | .tuple _ => none
  | v => some [v]
def V.plain : V → Bool
  | .bad => false
  | .tuple _ => false
  | _ => true
def V.base : V → Bool
  | .bad => false
  | .tuple _ => false
  | .agg _ => false
  | .func _ _ _ => false
  | _ => true
def allB (p : V → Bool) : List V → Bool
  | [] => true
  | v :: l => sel (p v) (allB p l) false
def V.undef : V := .tuple []
def w63 : Nat := 9223372036854775808
def wrapV (k : IntKind) (n : Int) : Int :=
  match k, n with
  | .i64, .ofNat m => sel (Nat.blt m 9223372036854775808) (.ofNat m) (IntKind.wrap .i64 (.ofNat m))
  | .i64, .negSucc m => sel (Nat.blt m 9223372036854775808) (.negSucc m) (IntKind.wrap .i64 (.negSucc m))
  | .u64, .ofNat m => .ofNat (m % 18446744073709551616)
  | .u32, .ofNat m => .ofNat (m % 4294967296)
  | .u16, .ofNat m => .ofNat (m % 65536)
  | .u8, .ofNat m => .ofNat (m % 256)
  | k, n => IntKind.wrap k n
def eqI : Int → Int → Bool
  | .ofNat a, .ofNat b => Nat.beq a b
  | .negSucc a, .negSucc b => Nat.beq a b
  | _, _ => false
def ltI : Int → Int → Bool
  | .ofNat a, .ofNat b => Nat.blt a b
  | .negSucc a, .negSucc b => Nat.blt b a
  | .negSucc _, .ofNat _ => true
  | .ofNat _, .negSucc _ => false
def leI : Int → Int → Bool
  | .ofNat a, .ofNat b => Nat.ble a b
  | .negSucc a, .negSucc b => Nat.ble b a
  | .negSucc _, .ofNat _ => true
  | .ofNat _, .negSucc _ => false
def bitsSlow (op : BinOp) (k : IntKind) (x y : Int) : Option Int :=
  let a := BitVec.ofInt k.bits x
  let b := BitVec.ofInt k.bits y
  match op with
  | .and => some (k.wrap ((a &&& b).toNat : Int))
  | .or => some (k.wrap ((a ||| b).toNat : Int))
  | .xor => some (k.wrap ((a ^^^ b).toNat : Int))
  | .andNot => some (k.wrap ((a &&& ~~~b).toNat : Int))
  | _ => none
def halfOf : IntKind → Nat
  | .i8 => 128 | .i16 => 32768 | .i32 => 2147483648 | .i64 => 9223372036854775808
  | .u8 => 256 | .u16 => 65536 | .u32 => 4294967296 | .u64 => 18446744073709551616
def bits (op : BinOp) (k : IntKind) (x y : Int) : Option Int :=
  match op, x, y with
  | .and, .ofNat a, .ofNat b => sel (Nat.blt a (halfOf k) && Nat.blt b (halfOf k)) (some (.ofNat (Nat.land a b))) (bitsSlow op k x y)
  | .or, .ofNat a, .ofNat b => sel (Nat.blt a (halfOf k) && Nat.blt b (halfOf k)) (some (.ofNat (Nat.lor a b))) (bitsSlow op k x y)
  | .xor, .ofNat a, .ofNat b => sel (Nat.blt a (halfOf k) && Nat.blt b (halfOf k)) (some (.ofNat (Nat.xor a b))) (bitsSlow op k x y)
  | _, _, _ => bitsSlow op k x y
def bitsOf : IntKind → Nat
  | .i8 => 8 | .i16 => 16 | .i32 => 32 | .i64 => 64 | .u8 => 8 | .u16 => 16 | .u32 => 32 | .u64 => 64
def shift (op : BinOp) (k : IntKind) (x y : Int) : Option Int :=
  match y with
  | .negSucc _ => none
  | .ofNat m =>
    let n := sel (Nat.ble m (bitsOf k)) m (bitsOf k)
    match op with
    | .shl => some (wrapV k (x * ((Nat.pow 2 n : Nat) : Int)))
    | .shr => some (Int.fdiv x ((Nat.pow 2 n : Nat) : Int))
    | _ => none
def arith (op : BinOp) (k : IntKind) (x y : Int) : Option V :=
  match op with
  | .add => some (.int k (wrapV k (x + y)))
  | .sub => some (.int k (wrapV k (x - y)))
  | .mul => some (.int k (wrapV k (x * y)))
  | .quo => sel (eqI y 0) none (some (.int k (wrapV k (Int.tdiv x y))))
  | .rem => sel (eqI y 0) none (some (.int k (Int.tmod x y)))
  | .eql => some (.bool (eqI x y))
  | .neq => some (.bool (!eqI x y))
  | .lss => some (.bool (ltI x y))
  | .leq => some (.bool (leI x y))
  | .gtr => some (.bool (ltI y x))
  | .geq => some (.bool (leI y x))
  | .and | .or | .xor | .andNot => match bits op k x y with | some r => some (.int k r) | none => none
  | _ => none
def eqS : List Nat → List Nat → Bool
  | [], [] => true
  | a :: x, b :: y => sel (Nat.beq a b) (eqS x y) false
  | _, _ => false
def strOp (op : BinOp) (x y : List Nat) : Option V :=
  match op with
  | .add => sel (Nat.blt (x.length + y.length) w63) (some (.str (x ++ y))) none
  | .eql => some (.bool (eqS x y))
  | .neq => some (.bool (!eqS x y))
  | _ => none
inductive EqT where
  | bool
  | int
  | str
  | parts (ps : List (Nat × Nat × Bool × EqT))
def part (agg : Bool) (n off : Nat) (cs : List V) : Option V :=
  sel agg (match cut off n cs with | some l => some (.agg l) | none => none) (nth off cs)
mutual
def eqV : EqT → V → V → Option Bool
  | .bool, .bool a, .bool b => some (a == b)
  | .int, .int k a, .int k' b => if k = k' then some (eqI a b) else none
  | .str, .str a, .str b => some (eqS a b)
  | .parts ps, .agg xs, .agg ys => eqParts ps xs ys
  | _, _, _ => none
def eqParts : List (Nat × Nat × Bool × EqT) → List V → List V → Option Bool
  | [], _, _ => some true
  | (off, n, a, t) :: ps, xs, ys =>
    match part a n off xs, part a n off ys with
    | some x, some y => match eqV t x y with | some true => eqParts ps xs ys | some false => some false | none => none
    | _, _ => none
end
inductive NilK where
  | ptr
  | slice
  | map
  | func
inductive EqKind where
  | val (t : EqT)
  | nils (k : NilK)
def eqNil : NilK → V → V → Option Bool
  | .ptr, .ptr none, .ptr b => some b.isNone
  | .ptr, .ptr (some _), .ptr none => some false
  | .slice, .slice none _ _ _ _, .slice b _ _ _ _ => some b.isNone
  | .slice, .slice (some _) _ _ _ _, .slice none _ _ _ _ => some false
  | .map, .map none, .map b => some b.isNone
  | .map, .map (some _), .map none => some false
  | .func, .nilFunc, .nilFunc => some true
  | .func, .nilFunc, .func _ _ _ => some false
  | .func, .func _ _ _, .nilFunc => some false
  | _, _, _ => none
def eqAny : EqKind → V → V → Option Bool
  | .val t, u, v => eqV t u v
  | .nils k, u, v => eqNil k u v
inductive Src where
  | t (n : Pos)
  | c (v : V)
abbrev Frame := T V
def Frame.ev (f : Frame) : Src → V := Src.rec (fun n => Option.rec V.bad (fun v => v) (T.look f n)) (fun v => v)
inductive Conv where
  | int (k : IntKind)
  | str
  | toBytes
  | toStr
  | same
inductive SlK where
  | str
  | slice (e : Nat)
  | arr (n e : Nat)
inductive IxK where
  | arr (n : Nat) (agg : Bool) (e : Nat)
  | slice (e : Nat)
  | str
inductive LenK where
  | str
  | slice
  | map
  | const (n : Nat)
inductive AOp where
  | mv (x : Src)
  | pick (c a b : Src)
  | alloc (zs : List V)
  | box (x : Src)
  | build (zs : List V) (ps : List (Nat × Nat × Src))
  | bslice (e len : Nat) (zs : List V) (ps : List (Nat × Nat × Src))
  | load (agg : Bool) (n : Nat) (x : Src)
  | store (n : Nat) (a x : Src)
  | nilchk (x : Src)
  | bin (op : BinOp) (eq : EqKind) (x y : Src)
  | un (op : UnOp) (x : Src)
  | conv (c : Conv) (x : Src)
  | mkfn (f : Nat) (first captured : List Src)
  | mkmap
  | mkslice (e bytes : Nat) (zs : List V) (l c : Src)
  | slice (k : SlK) (x : Src) (lo hi mx : Option Src)
  | fieldAddr (off : Nat) (x : Src)
  | field (agg : Bool) (n off : Nat) (x : Src)
  | idxAddr (k : IxK) (x i : Src)
  | index (k : IxK) (x i : Src)
  | lookup (q : Option IntKind) (zero : V) (m k : Src) (ok : Bool)
  | mapEntry (q : Option IntKind) (zero : V) (m k : Src)
  | entryStore (m s x : Src)
  | extract (x : Src) (n : Nat)
  | len (k : LenK) (x : Src)
  | capOf (x : Src)
  | append (e bytes : Nat) (s x : Src)
  | appendZ (e bytes : Nat) (zs : List V) (s n : Src)
  | copy (e : Nat) (d s : Src)
  | minmax (max : Bool) (x : Src) (xs : List Src)
  | call (f : Nat) (args : List Src)
  | callv (f : Src) (args : List Src)
  | fail
  | mapSet (q : Option IntKind) (m k x : Src)
  | sliceArr (n e : Nat) (x : Src) (lo hi mx : Option Src)
inductive Res where
  | val (v : V)
  | enter (f : Nat) (args : List V)
def fill (ρ : Src → V) : List (Nat × Nat × Src) → List V → Option (List V)
  | [], l => some l
  | (off, n, x) :: ps, l =>
    match (ρ x).cells with
    | some cs => sel (Nat.beq cs.length n) (match splice off cs l with | some r => fill ρ ps r | none => none) none
    | none => none
def repN : Nat → List V → List V
  | 0, _ => []
  | n + 1, zs => zs ++ repN n zs
def natOf : V → Option Nat
  | .int _ (.ofNat n) => some n
  | _ => none
def bound (x : Option V) (dflt top : Nat) : Option Nat :=
  match x with
  | none => some dflt
  | some v => match natOf v with | some n => sel (Nat.ble n top) (some n) none | none => none
def shiftA (a : Option (Nat × Nat)) (k : Nat) : Option (Nat × Nat) := match a with | some (i, o) => some (i, o + k) | none => none
def sliceOp (k : SlK) (x : V) (lo hi mx : Option V) : Option V :=
  match k, x with
  | .str, .str s =>
    match mx with
    | some _ => none
    | none => match bound hi s.length s.length with
      | some h => match bound lo 0 h with
        | some l => some (.str ((s.drop l).take (h - l)))
        | none => none
      | none => none
  | .slice e, .slice a e' len cap fix =>
    sel (Nat.beq e e' || a.isNone)
      (match bound mx cap cap with
      | some m => match (match hi with | none => some len | some v => bound (some v) 0 m) with
        | some h => match bound lo 0 h with
          | some l =>
            let fix' := fix || mx.isSome
            some (.slice (sel (Nat.beq m l && fix') a (shiftA a (l * e))) e (h - l) (m - l) fix')
          | none => none
        | none => none
      | none => none)
      none
  | .arr n e, .ptr (some (i, o)) =>
    match bound mx n n with
    | some m => match bound hi n m with
      | some h => match bound lo 0 h with
        | some l => some (.slice (some (i, sel (Nat.beq m l) o (o + l * e))) e (h - l) (m - l) true)
        | none => none
      | none => none
    | none => none
  | _, _ => none
def firstN (st : St) (e n : Nat) : V → Option (List V)
  | .slice none _ _ _ _ => some []
  | .slice (some (i, o)) e' len _ _ => sel (Nat.beq e e' && Nat.ble n len) (st.loadN i o (n * e)) none
  | .str s => some ((s.take n).map fun b => .int .u8 (.ofNat b))
  | _ => none
def lenOf : V → Option Nat
  | .slice _ _ n _ _ => some n
  | .str s => some s.length
  | _ => none
def appendOp (st : St) (e bytes : Nat) (s : V) (m : Nat) (new : List V) : Option (Res × St) :=
  match s with
  | .slice a e' n c fix =>
    match m with
    | 0 => some (.val (.slice a e' n c fix), st)
    | _ + 1 =>
      let need := n + m
      sel (Nat.ble ((2 * need + 1024) * bytes) 281474976710656 && Nat.beq new.length (m * e))
        (match a with
        | none => match st.alloc (.cells true new) with
          | some (j, st') => some (.val (.slice (some (j, 0)) e need need false), st')
          | none => none
        | some (i, o) =>
          sel (Nat.beq e e')
            (match st.get i with
            | some (.cells own cs) =>
              sel (Nat.ble need c)
                (match st.storeN i (o + n * e) new with
                | some st' => some (.val (.slice (some (i, o)) e need c fix), st')
                | none => none)
                (sel fix
                  (match cut o (n * e) cs with
                  | some old => match st.alloc (.cells true (old ++ new)) with
                    | some (j, st') => some (.val (.slice (some (j, 0)) e need need false), st')
                    | none => none
                  | none => none)
                  (sel (own && Nat.beq (o + n * e) cs.length)
                    (match cut o (n * e) cs with
                    | some old => match st.set i none with
                      | some st1 => match st1.alloc (.cells true (old ++ new)) with
                        | some (j, st') => some (.val (.slice (some (j, 0)) e need need false), st')
                        | none => none
                      | none => none
                    | none => none)
                    none))
            | _ => none)
            none)
        none
  | _ => none
def joinN (new l : List V) : Nat → Option (List V) :=
  List.rec (motive := fun _ => Nat → Option (List V)) (fun n => Nat.rec (some new) (fun _ _ => none) n) (fun x _ ih n => Nat.rec none (fun k _ => Option.rec none (fun r => some (x :: r)) (ih k)) n) l
theorem joinN_eq (new : List V) : ∀ (l : List V) (n : Nat), joinN new l n = sel (Nat.beq n l.length) (some (l ++ new)) none
  | [], 0 => rfl
  | [], _ + 1 => rfl
  | _ :: _, 0 => rfl
  | x :: l, n + 1 => by
    show (Option.rec none (fun r => some (x :: r)) (joinN new l n) : Option (List V)) = sel (Nat.beq n l.length) (some (x :: (l ++ new))) none
    rw [joinN_eq new l n]
    cases Nat.beq n l.length <;> rfl
def appendF (st : St) (e bytes : Nat) (s : V) (m : Nat) (new : List V) : Option (Res × St) :=
  match s with
  | .slice a e' n c fix =>
    match m with
    | 0 => some (.val (.slice a e' n c fix), st)
    | _ + 1 =>
      let need := n + m
      sel (Nat.ble ((2 * need + 1024) * bytes) 281474976710656 && Nat.beq new.length (m * e))
        (match a with
        | none => match st.alloc (.cells true new) with
          | some (j, st') => some (.val (.slice (some (j, 0)) e need need false), st')
          | none => none
        | some (i, o) =>
          sel (Nat.beq e e')
            (match st.get i with
            | some (.cells own cs) =>
              sel (Nat.ble need c)
                (match st.storeN i (o + n * e) new with
                | some st' => some (.val (.slice (some (i, o)) e need c fix), st')
                | none => none)
                (sel fix
                  (match cut o (n * e) cs with
                  | some old => match st.alloc (.cells true (old ++ new)) with
                    | some (j, st') => some (.val (.slice (some (j, 0)) e need need false), st')
                    | none => none
                  | none => none)
                  (sel own
                    (match joinN new cs (o + n * e) with
                    | some all => match st.set i none with
                      | some st1 => match st1.alloc (.cells true (all.drop o)) with
                        | some (j, st') => some (.val (.slice (some (j, 0)) e need need false), st')
                        | none => none
                      | none => none
                    | none => none)
                    none))
            | _ => none)
            none)
        none
  | _ => none
theorem takeN_whole : ∀ (l : List V), takeN l.length l = some l
  | [] => rfl
  | x :: l => by
    show (match takeN l.length l with | some r => some (x :: r) | none => none) = _
    rw [takeN_whole l]
theorem cut_whole : ∀ (o n : Nat) (l : List V), o + n = l.length → cut o n l = some (l.drop o)
  | 0, n, l, h => by
    have e : n = l.length := by omega
    rw [show cut 0 n l = takeN n l from by cases n <;> rfl, e]
    exact takeN_whole l
  | o + 1, 0, l, h => by
    rw [List.drop_eq_nil_of_le (by omega)]
    rfl
  | o + 1, n + 1, [], h => by simp at h
  | o + 1, n + 1, x :: l, h => by
    have h' : o + 1 + (n + 1) = l.length + 1 := h
    exact cut_whole o (n + 1) l (by omega)
theorem third_eq {α : Type} (own : Bool) (o k : Nat) (cs new : List V) (F : List V → Option α) :
    sel own (match joinN new cs (o + k) with | some all => F (all.drop o) | none => none) none = sel (own && Nat.beq (o + k) cs.length) (match cut o k cs with | some old => F (old ++ new) | none => none) none := by
  rw [joinN_eq]
  cases own with
  | false => rfl
  | true =>
    cases hb : Nat.beq (o + k) cs.length with
    | false => rfl
    | true =>
      have e : o + k = cs.length := Nat.eq_of_beq_eq_true hb
      rw [cut_whole o k cs e]
      show F ((cs ++ new).drop o) = F (cs.drop o ++ new)
      rw [List.drop_append_of_le_length (by omega)]
theorem appendF_eq (st : St) (e bytes : Nat) (s : V) (m : Nat) (new : List V) : appendF st e bytes s m new = appendOp st e bytes s m new := by
  unfold appendF appendOp
  cases s with
  | slice a e' n c fix =>
    cases m with
    | zero => rfl
    | succ m =>
      cases a with
      | none => rfl
      | some p =>
        obtain ⟨i, o⟩ := p
        dsimp only
        cases st.get i with
        | none => rfl
        | some x =>
          cases x with
          | map own es c => rfl
          | cells own cs =>
            dsimp only
            congr 4
            exact third_eq own o (n * e) cs new fun all => match st.set i none with
              | some st1 => match st1.alloc (AObj.cells true all) with
                | some (j, st') => some (Res.val (.slice (some (j, 0)) e (n + (m + 1)) (n + (m + 1)) false), st')
                | none => none
              | none => none
  | _ => rfl
def mm2 (max : Bool) : V → V → Option V
  | .int k x, .int k' y => if k = k' then some (.int k (sel max (sel (ltI x y) y x) (sel (ltI y x) y x))) else none
  | _, _ => none
def mmAll (max : Bool) : V → List V → Option V
  | x, [] => some x
  | x, y :: l => match mm2 max x y with | some z => mmAll max z l | none => none
def keyIs : Option IntKind → V → Bool
  | some k, .int k' _ => decide (k' = k)
  | none, .str _ => true
  | _, _ => false
def keyEq : V → V → Option Bool
  | .int k a, .int k' b => if k = k' then some (eqI a b) else none
  | .str a, .str b => some (eqS a b)
  | _, _ => none
def findKey (k : V) : List (V × V × Nat) → Nat → Option (Option (Nat × V × Nat))
  | [], _ => some none
  | (k', v, born) :: es, i => match keyEq k' k with | some true => some (some (i, v, born)) | some false => findKey k es (i + 1) | none => none
def setBorn (born : Nat) (x : V) : List (V × V × Nat) → Option (List (V × V × Nat))
  | [] => none
  | (k, v, b) :: es => sel (Nat.beq b born) (some ((k, x, b) :: es)) (match setBorn born x es with | some r => some ((k, v, b) :: r) | none => none)
def bytesOf : List V → Option (List Nat)
  | [] => some []
  | .int .u8 (.ofNat n) :: l => match bytesOf l with | some r => some ((n % 256) :: r) | none => none
  | _ :: _ => none
abbrev Exec := (Src → V) → St → Option (Res × St)
def ex_mv (x : Src) (ρ : Src → V) (st : St) : Option (Res × St) :=
  some (.val (ρ x), st)
def ex_pick (c : Src) (a : Src) (b : Src) (ρ : Src → V) (st : St) : Option (Res × St) :=
  match ρ c with | .bool t => some (.val (sel t (ρ a) (ρ b)), st) | _ => none
def ex_alloc (zs : List V) (ρ : Src → V) (st : St) : Option (Res × St) :=
  match st.alloc (.cells true zs) with | some (j, st') => some (.val (.ptr (some (j, 0))), st') | none => none
def ex_box (x : Src) (ρ : Src → V) (st : St) : Option (Res × St) :=
  match (ρ x).cells with
  | some cs => (match st.alloc (.cells true cs) with | some (j, st') => some (.val (.ptr (some (j, 0))), st') | none => none)
  | none => none
def ex_build (zs : List V) (ps : List (Nat × Nat × Src)) (ρ : Src → V) (st : St) : Option (Res × St) :=
  match fill ρ ps zs with | some cs => some (.val (.agg cs), st) | none => none
def ex_bslice (e : Nat) (len : Nat) (zs : List V) (ps : List (Nat × Nat × Src)) (ρ : Src → V) (st : St) : Option (Res × St) :=
  match fill ρ ps (repN len zs) with
  | some cs => match st.alloc (.cells true cs) with | some (j, st') => some (.val (.slice (some (j, 0)) e len len true), st') | none => none
  | none => none
def ex_load (a : Bool) (n : Nat) (x : Src) (ρ : Src → V) (st : St) : Option (Res × St) :=
  match ρ x with
  | .ptr (some (i, o)) => sel a
    (match st.loadN i o n with | some l => some (.val (.agg l), st) | none => none)
    (match st.load1F i o with | some v => some (.val v, st) | none => none)
  | _ => none
def ex_store (n : Nat) (a : Src) (x : Src) (ρ : Src → V) (st : St) : Option (Res × St) :=
  match ρ a with
  | .ptr (some (i, o)) => (match (ρ x).cells with
    | some cs => sel (Nat.beq cs.length n) (match st.storeN i o cs with | some st' => some (.val V.undef, st') | none => none) none
    | none => none)
  | _ => none
def ex_nilchk (x : Src) (ρ : Src → V) (st : St) : Option (Res × St) :=
  match ρ x with
  | .ptr none | .nilFunc | .bad | .yield _ => none
  | v => some (.val v, st)
def ex_bin (op : BinOp) (eq : EqKind) (x : Src) (y : Src) (ρ : Src → V) (st : St) : Option (Res × St) :=
  match ρ x, ρ y with
  | .int k a, .int k' b =>
    match op with
    | .shl | .shr => match shift op k a b with | some r => some (.val (.int k r), st) | none => none
    | _ => if k = k' then (match arith op k a b with | some v => some (.val v, st) | none => none) else none
  | .str a, .str b => match strOp op a b with | some v => some (.val v, st) | none => none
  | u, v =>
    match eqAny eq u v with
    | some r => match op with
      | .eql => some (.val (.bool r), st)
      | .neq => some (.val (.bool (!r)), st)
      | _ => none
    | none => none
def ex_un (op : UnOp) (x : Src) (ρ : Src → V) (st : St) : Option (Res × St) :=
  match op, ρ x with
  | .neg, .int k n => some (.val (.int k (wrapV k (0 - n))), st)
  | .xor, .int k n => match bits .xor k (if k.signed = true then -1 else k.max) n with | some r => some (.val (.int k r), st) | none => none
  | .not, .bool b => some (.val (.bool (!b)), st)
  | _, _ => none
def ex_conv (c : Conv) (x : Src) (ρ : Src → V) (st : St) : Option (Res × St) :=
  match c, ρ x with
  | .int k, .int _ n => some (.val (.int k (wrapV k n)), st)
  | .str, .str s => some (.val (.str s), st)
  | .toBytes, .str s => match st.alloc (.cells true (s.map fun b => .int .u8 (.ofNat b))) with
    | some (j, st') => some (.val (.slice (some (j, 0)) 1 s.length s.length false), st')
    | none => none
  | .toStr, .slice none _ _ _ _ => some (.val (.str []), st)
  | .toStr, .slice (some (i, o)) e len _ _ => sel (Nat.beq e 1)
    (match st.loadN i o len with
    | some cs => match bytesOf cs with | some s => some (.val (.str s), st) | none => none
    | none => none)
    none
  | .same, .slice (some (i, o)) e len (cap + 1) fix => match st.get i with
    | some (.cells true _) => some (.val (.slice (some (i, o)) e len (cap + 1) fix), st)
    | _ => none
  | _, _ => none
def ex_mkfn (f : Nat) (a : List Src) (b : List Src) (ρ : Src → V) (st : St) : Option (Res × St) :=
  sel (allB V.base (a.map ρ) && allB V.base (b.map ρ)) (some (.val (.func f (a.map ρ) (b.map ρ)), st)) none
def ex_mkmap  (ρ : Src → V) (st : St) : Option (Res × St) :=
  match st.alloc (.map true [] 0) with | some (j, st') => some (.val (.map (some j)), st') | none => none
def ex_mkslice (e : Nat) (bytes : Nat) (zs : List V) (l : Src) (c : Src) (ρ : Src → V) (st : St) : Option (Res × St) :=
  match natOf (ρ l), natOf (ρ c) with
  | some l, some c => sel (Nat.ble l c && Nat.ble (bytes * c) 281474976710656 && Nat.blt c w63)
    (match st.alloc (.cells true (repN c zs)) with | some (j, st') => some (.val (.slice (some (j, 0)) e l c true), st') | none => none)
    none
  | _, _ => none
def ex_slice (k : SlK) (x : Src) (lo : Option Src) (hi : Option Src) (mx : Option Src) (ρ : Src → V) (st : St) : Option (Res × St) :=
  match sliceOp k (ρ x) (lo.map ρ) (hi.map ρ) (mx.map ρ) with | some v => some (.val v, st) | none => none
def ex_fieldAddr (off : Nat) (x : Src) (ρ : Src → V) (st : St) : Option (Res × St) :=
  match ρ x with | .ptr (some (i, o)) => some (.val (.ptr (some (i, o + off))), st) | _ => none
def ex_field (a : Bool) (n : Nat) (off : Nat) (x : Src) (ρ : Src → V) (st : St) : Option (Res × St) :=
  match ρ x with | .agg cs => (match part a n off cs with | some v => some (.val v, st) | none => none) | _ => none
def ex_idxAddr (k : IxK) (x : Src) (i : Src) (ρ : Src → V) (st : St) : Option (Res × St) :=
  match natOf (ρ i) with
  | some i => (match k, ρ x with
    | .arr n _ e, .ptr (some (j, o)) => sel (Nat.blt i n) (some (.val (.ptr (some (j, o + i * e))), st)) none
    | .slice e, .slice (some (j, o)) e' len _ _ => sel (Nat.blt i len && Nat.beq e e') (some (.val (.ptr (some (j, o + i * e))), st)) none
    | _, _ => none)
  | none => none
def ex_index (k : IxK) (x : Src) (i : Src) (ρ : Src → V) (st : St) : Option (Res × St) :=
  match natOf (ρ i) with
  | some i => (match k, ρ x with
    | .arr n a e, .agg cs => sel (Nat.blt i n) (match part a e (i * e) cs with | some v => some (.val v, st) | none => none) none
    | .str, .str s => (match s[i]? with | some b => some (.val (.int .u8 (.ofNat b)), st) | none => none)
    | _, _ => none)
  | none => none
def mapOf (st : St) : V → Option (List (V × V × Nat))
  | .map none => some []
  | .map (some i) => match st.get i with | some (.map _ es _) => some es | _ => none
  | _ => none
def ex_lookup (q : Option IntKind) (zero : V) (m : Src) (k : Src) (ok : Bool) (ρ : Src → V) (st : St) : Option (Res × St) :=
  sel (keyIs q (ρ k)) (match mapOf st (ρ m) with
  | some es => (match findKey (ρ k) es 0 with
    | some (some (_, v, _)) => some (.val (sel ok (.tuple [v, .bool true]) v), st)
    | some none => some (.val (sel ok (.tuple [zero, .bool false]) zero), st)
    | none => none)
  | none => none) none
def ex_mapEntry (q : Option IntKind) (zero : V) (m : Src) (k : Src) (ρ : Src → V) (st : St) : Option (Res × St) :=
  sel (keyIs q (ρ k)) (match ρ m with
  | .map (some i) => match st.get i with
    | some (.map true es clock) => match findKey (ρ k) es 0 with
      | some (some (_, v, born)) => some (.val (.tuple [v, .int .i64 (.ofNat born)]), st)
      | some none => match st.set i (some (.map true (es ++ [(ρ k, zero, clock)]) (clock + 1))) with
        | some st' => some (.val (.tuple [zero, .int .i64 (.ofNat clock)]), st')
        | none => none
      | none => none
    | _ => none
  | _ => none) none
def ex_entryStore (m : Src) (s : Src) (x : Src) (ρ : Src → V) (st : St) : Option (Res × St) :=
  match ρ m, natOf (ρ s) with
  | .map (some i), some born => match st.get i with
    | some (.map true es clock) => match setBorn born (ρ x) es with
      | some es' => sel (ρ x).plain (match st.set i (some (.map true es' clock)) with | some st' => some (.val V.undef, st') | none => none) none
      | none => none
    | _ => none
  | _, _ => none
def ex_extract (x : Src) (n : Nat) (ρ : Src → V) (st : St) : Option (Res × St) :=
  match ρ x with | .tuple vs => (match nth n vs with | some v => some (.val v, st) | none => none) | _ => none
def ex_len (k : LenK) (x : Src) (ρ : Src → V) (st : St) : Option (Res × St) :=
  match k, ρ x with
  | .str, .str s => some (.val (.int .i64 (.ofNat s.length)), st)
  | .slice, .slice _ _ n _ _ => some (.val (.int .i64 (.ofNat n)), st)
  | .const n, _ => some (.val (.int .i64 (.ofNat n)), st)
  | .map, .map none => some (.val (.int .i64 0), st)
  | .map, .map (some i) => (match st.get i with | some (.map _ es _) => some (.val (.int .i64 (.ofNat es.length)), st) | _ => none)
  | _, _ => none
def ex_capOf (x : Src) (ρ : Src → V) (st : St) : Option (Res × St) :=
  match ρ x with | .slice _ _ _ c true => some (.val (.int .i64 (.ofNat c)), st) | _ => none
def ex_append (e : Nat) (bytes : Nat) (s : Src) (x : Src) (ρ : Src → V) (st : St) : Option (Res × St) :=
  match lenOf (ρ x) with
  | some m => match firstN st e m (ρ x) with
    | some new => appendF st e bytes (ρ s) m new
    | none => none
  | none => none
def ex_appendZ (e : Nat) (bytes : Nat) (zs : List V) (s : Src) (n : Src) (ρ : Src → V) (st : St) : Option (Res × St) :=
  match natOf (ρ n) with
  | some m => appendF st e bytes (ρ s) m (repN m zs)
  | none => none
def ex_copy (e : Nat) (d : Src) (s : Src) (ρ : Src → V) (st : St) : Option (Res × St) :=
  match ρ d, lenOf (ρ s) with
  | .slice a e' dl c _, some sl =>
    let n := sel (Nat.ble sl dl) sl dl
    match firstN st e n (ρ s) with
    | some cs => match a with
      | none => some (.val (.int .i64 (.ofNat n)), st)
      | some (i, o) => sel (Nat.beq e e' && Nat.ble dl c) (match st.storeN i o cs with | some st' => some (.val (.int .i64 (.ofNat n)), st') | none => none) none
    | none => none
  | _, _ => none
def ex_minmax (mx : Bool) (x : Src) (xs : List Src) (ρ : Src → V) (st : St) : Option (Res × St) :=
  match mmAll mx (ρ x) (xs.map ρ) with | some v => some (.val v, st) | none => none
def ex_call (f : Nat) (args : List Src) (ρ : Src → V) (st : St) : Option (Res × St) :=
  some (.enter f (args.map ρ), st)
def ex_callv (f : Src) (args : List Src) (ρ : Src → V) (st : St) : Option (Res × St) :=
  match ρ f with | .func g first captured => some (.enter g (first ++ args.map ρ ++ captured), st) | _ => none
def ex_fail  (ρ : Src → V) (st : St) : Option (Res × St) :=
  none
def setAt (x : V) : Nat → List (V × V × Nat) → List (V × V × Nat)
  | _, [] => []
  | 0, (k, _, b) :: es => (k, x, b) :: es
  | n + 1, e :: es => e :: setAt x n es
def ex_mapSet (q : Option IntKind) (m : Src) (k : Src) (x : Src) (ρ : Src → V) (st : St) : Option (Res × St) :=
  sel (keyIs q (ρ k) && (ρ x).plain) (match ρ m with
  | .map (some i) => match st.get i with
    | some (.map true es clock) => match findKey (ρ k) es 0 with
      | some (some (j, _, _)) => match st.set i (some (.map true (setAt (ρ x) j es) clock)) with
        | some st' => some (.val V.undef, st')
        | none => none
      | some none => match st.set i (some (.map true (es ++ [(ρ k, ρ x, clock)]) (clock + 1))) with
        | some st' => some (.val V.undef, st')
        | none => none
      | none => none
    | _ => none
  | _ => none) none
def ex_sliceArr (n e : Nat) (x : Src) (lo : Option Src) (hi : Option Src) (mx : Option Src) (ρ : Src → V) (st : St) : Option (Res × St) :=
  match ρ x with
  | .ptr (some (i, o)) => match st.get i with
    | some (.cells true cs) => sel (Nat.ble (o + n * e) cs.length)
      (match sliceOp (.arr n e) (.ptr (some (i, o))) (lo.map ρ) (hi.map ρ) (mx.map ρ) with | some v => some (.val v, st) | none => none) none
    | _ => none
  | _ => none
def execOp : AOp → Exec := AOp.rec (motive := fun _ => Exec)
  ex_mv
  ex_pick
  ex_alloc
  ex_box
  ex_build
  ex_bslice
  ex_load
  ex_store
  ex_nilchk
  ex_bin
  ex_un
  ex_conv
  ex_mkfn
  ex_mkmap
  ex_mkslice
  ex_slice
  ex_fieldAddr
  ex_field
  ex_idxAddr
  ex_index
  ex_lookup
  ex_mapEntry
  ex_entryStore
  ex_extract
  ex_len
  ex_capOf
  ex_append
  ex_appendZ
  ex_copy
  ex_minmax
  ex_call
  ex_callv
  ex_fail
  ex_mapSet
  ex_sliceArr
structure AOper where
  dst : Option Pos
  op : AOp
  guard : Option (Pos × Bool)
inductive ACode where
  | skip
  | reg (ops : List AOper)
  | dreg (ops : List (AOper × List Nat))
  | seq (a b : ACode)
  | cond (c : Src) (a b : ACode)
  | block (id : Nat) (c : ACode)
  | loop (c : ACode)
  | exit (id : Nat)
  | ret
  | range (g : Src) (ps : List Pos) (asg body : ACode) (it : Nat) (itc : ACode)
inductive AExit where
  | normal
  | ret
  | exit (id : Nat)
inductive ARes where
  | tmp (t : Pos)
  | cell (t : Pos) (agg : Bool) (n : Nat)
structure AFunc where
  ntmps : Nat
  code : ACode
  results : List ARes
abbrev CallT := Nat → List V → St → Option (V × St)
def Frame.put (f : Frame) (d : Option Pos) (v : V) : Frame := Option.rec f (fun d => T.lay d v f) d
def boolIs (b : Bool) : V → Option Bool
  | .bool c => some (c == b)
  | .tuple _ => some false
  | _ => none
def wantedAt (f : Frame) (g : Pos × Bool) : Option Bool := Option.rec none (boolIs g.2) (f.look g.1)
def wanted (f : Frame) : Option (Pos × Bool) → Option Bool := Option.rec (some true) (wantedAt f)
def either {α : Type} (b : Option Bool) (x y : Option α) : Option α := Option.rec none (fun b => sel b x y) b
def afterRes (call : CallT) (st : St) : Res → Option (V × St) := Res.rec (fun v => some (v, st)) (fun g args => call g args st)
def stepOp (call : CallT) (o : AOp) (f : Frame) (st : St) : Option (V × St) :=
  Option.rec none (Prod.rec fun r st' => afterRes call st' r) (execOp o f.ev st)
abbrev RunT := CallT → Frame → St → Option (Frame × St)
def runCons (o : AOper) (k : RunT) : RunT := fun call f st =>
  either (wanted f o.guard)
    (Option.rec none (Prod.rec fun v st' => k call (f.put o.dst v) st') (stepOp call o.op f st))
    (k call (f.put o.dst V.undef) st)
def runOps : List AOper → RunT := List.rec (fun _ f st => some (f, st)) fun o _ k => runCons o k
inductive Foot where
  | dir (rs ws : List Nat)
  | call
def mapId : V → List Nat
  | .map (some i) => [i]
  | _ => []
def idOf : V → List Nat
  | .ptr (some (i, _)) => [i]
  | .slice (some (i, _)) _ _ _ _ => [i]
  | .map (some i) => [i]
  | _ => []
def foot (o : AOp) (ρ : Src → V) : Foot :=
  match o with
  | .load _ _ x => .dir (idOf (ρ x)) []
  | .store _ a _ => .dir (idOf (ρ a)) (idOf (ρ a))
  | .conv _ x => .dir (idOf (ρ x)) []
  | .lookup _ _ m _ _ => .dir (idOf (ρ m)) []
  | .mapEntry _ _ m _ => .dir (idOf (ρ m)) (idOf (ρ m))
  | .entryStore m _ _ => .dir (idOf (ρ m)) (idOf (ρ m))
  | .mapSet _ m _ _ => .dir (idOf (ρ m)) (idOf (ρ m))
  | .sliceArr _ _ x _ _ _ => .dir (idOf (ρ x)) []
  | .len _ x => .dir (mapId (ρ x)) []
  | .append _ _ s x => .dir (idOf (ρ s) ++ idOf (ρ x)) (idOf (ρ s))
  | .appendZ _ _ _ s _ => .dir (idOf (ρ s)) (idOf (ρ s))
  | .copy _ d s => .dir (idOf (ρ d) ++ idOf (ρ s)) (idOf (ρ d))
  | .call _ _ | .callv _ _ => .call
  | _ => .dir [] []
def mem (i : Nat) : List Nat → Bool
  | [] => false
  | j :: l => sel (Nat.beq i j) true (mem i l)
def anyIn (lo hi : Nat) : List Nat → Bool
  | [] => false
  | j :: l => sel (Nat.ble lo j && Nat.blt j hi) true (anyIn lo hi l)
def meets : List Nat → List Nat → Bool
  | [], _ => false
  | i :: l, m => sel (mem i m) true (meets l m)
structure Past where
  lo : Nat
  hi : Nat
  foot : Foot
def okPair (p : Past) : Foot → Bool
  | .dir rs ws => !anyIn p.lo p.hi rs && (match p.foot with
    | .dir rs' ws' => !meets ws' rs && !meets ws rs'
    | .call => ws.isEmpty)
  | .call => match p.foot with
    | .dir _ ws' => ws'.isEmpty
    | .call => true
def nthP : Nat → List Past → Option Past
  | _, [] => none
  | 0, x :: _ => some x
  | n + 1, _ :: l => nthP n l
def pastsOf (past : List Past) (n : Nat) : List Nat → List Past
  | [] => []
  | j :: l => sel (Nat.blt j n) (match nthP (n - 1 - j) past with | some p => p :: pastsOf past n l | none => pastsOf past n l) (pastsOf past n l)
def okAll : List Past → Foot → Bool
  | [], _ => true
  | p :: l, f => okPair p f && okAll l f
def hidden (ps : List Past) (i : Nat) : Bool := match ps with | [] => false | p :: l => (Nat.ble p.lo i && Nat.blt i p.hi) || hidden l i
def limited (ft : Foot) (ps : List Past) (st : St) : St :=
  match st with
  | ⟨next, heap, vis, wr⟩ => match ft with
    | .dir rs ws => ⟨next, heap, fun i => vis i && (Nat.ble next i || mem i rs), fun i => wr i && (Nat.ble next i || mem i ws)⟩
    | .call => ⟨next, heap, fun i => vis i && !hidden ps i, fun i => wr i && Nat.ble next i⟩
def ahead (n : Nat) : List Nat → Bool
  | [] => true
  | j :: l => Nat.blt j n && ahead n l
def unseen (i : Nat) : List Past → Bool
  | [] => true
  | p :: l => (match p.foot with | .dir rs _ => !mem i rs | .call => false) && unseen i l
def limF (fr : Bool) (ft : Foot) (ps : List Past) (st : St) : St :=
  match st with
  | ⟨next, heap, vis, wr⟩ => match ft with
    | .dir rs ws => ⟨next, heap, fun i => vis i && (Nat.ble next i || mem i rs), fun i => wr i && (Nat.ble next i || mem i ws)⟩
    | .call => ⟨next, heap, fun i => vis i && !hidden ps i, fun i => wr i && (Nat.ble next i || (fr && unseen i ps))⟩
def back (st st' : St) : St :=
  match st, st' with
  | ⟨_, _, vis, wr⟩, ⟨next, heap, _, _⟩ => ⟨next, heap, vis, wr⟩
abbrev RunDT := CallT → Nat → List Past → Frame → St → Option (Frame × St)
def runDFree (o : AOper) (k : RunDT) (call : CallT) (n : Nat) (past : List Past) (f : Frame) (st : St) : Option (Frame × St) :=
  Option.rec none (Prod.rec fun v st' => k call (Nat.succ n) (⟨st.next, st'.next, .call⟩ :: past) (f.put o.dst v) st') (stepOp call o.op f st)
def runDLim (o : AOper) (k : RunDT) (call : CallT) (n : Nat) (past : List Past) (f : Frame) (st : St) (ps : List Past) (ft : Foot) (fr : Bool) : Option (Frame × St) :=
  sel (okAll ps ft)
    (Option.rec none (Prod.rec fun v st' => k call (Nat.succ n) (⟨st.next, st'.next, ft⟩ :: past) (f.put o.dst v) (back st st')) (stepOp call o.op f (limF fr ft ps st)))
    none
def runDCons (o : AOper) (inc : List Nat) (k : RunDT) : RunDT := fun call n past f st =>
  either (wanted f o.guard)
    (match inc with
    | [] => runDFree o k call n past f st
    | _ :: _ => runDLim o k call n past f st (pastsOf past n inc) (foot o.op f.ev) (ahead n inc))
    (k call (Nat.succ n) (⟨st.next, st.next, .dir [] []⟩ :: past) (f.put o.dst V.undef) st)
def runD : List (AOper × List Nat) → RunDT := List.rec (fun _ _ _ f st => some (f, st)) fun o _ k => runDCons o.1 o.2 k
abbrev Out := Option (AExit × Frame × St)
abbrev EvT := CallT → Nat → Frame → St → Out
def thenDo (k : Frame → St → Out) : AExit → Frame × St → Out :=
  AExit.rec (Prod.rec k) (fun p => some (.ret, p)) fun id p => some (.exit id, p)
def andThen (r : Out) (k : Frame → St → Out) : Out := Option.rec none (Prod.rec (thenDo k)) r
def loopN (body : Frame → St → Out) : Nat → Frame → St → Out := Nat.rec (fun _ _ => none) fun _ k f st => andThen (body f st) k
def normalOut : Option (Frame × St) → Out := Option.rec none fun p => some (.normal, p)
def evReg (ops : List AOper) : EvT := fun call _ f st => normalOut (runOps ops call f st)
def evDreg (ops : List (AOper × List Nat)) : EvT := fun call _ f st => normalOut (runD ops call 0 [] f st)
def evSeq (a b : EvT) : EvT := fun call lf f st => andThen (a call lf f st) (b call lf)
def evCondB (a b : EvT) (call : CallT) (lf : Nat) (f : Frame) (st : St) : V → Out
  | .bool t => Bool.rec (b call lf f st) (a call lf f st) t
  | _ => none
def evCond (c : Src) (a b : EvT) : EvT := fun call lf f st => evCondB a b call lf f st (f.ev c)
def blockExit (id : Nat) : AExit → Frame × St → Out :=
  AExit.rec (fun p => some (.normal, p)) (fun p => some (.ret, p)) fun j p => sel (Nat.beq j id) (some (.normal, p)) (some (.exit j, p))
def evBlock (id : Nat) (a : EvT) : EvT := fun call lf f st => Option.rec none (Prod.rec (blockExit id)) (a call lf f st)
def evLoop (a : EvT) : EvT := fun call lf f st => loopN (a call lf) lf f st
abbrev Hand := Nat → List V → St → Option ((V × Option AExit) × St)
def plainY (p : Option AExit) : Option (V × St) → Option ((V × Option AExit) × St)
  | some (v, s) => some ((v, p), s)
  | none => none
def yieldY (hd : Hand) (args : List V) (st : St) (dflt : Option ((V × Option AExit) × St)) : Option AExit → V → Option ((V × Option AExit) × St)
  | none, .yield i => hd i args st
  | _, _ => dflt
def stepY (hd : Hand) (call : CallT) (o : AOp) (f : Frame) (p : Option AExit) (st : St) : Option ((V × Option AExit) × St) :=
  match o with
  | .callv s args => yieldY hd (args.map f.ev) st (plainY p (stepOp call o f st)) p (f.ev s)
  | _ => plainY p (stepOp call o f st)
def runY (hd : Hand) (call : CallT) : List AOper → Frame → Option AExit → St → Option ((Frame × Option AExit) × St)
  | [], f, p, st => some ((f, p), st)
  | o :: os, f, p, st => either (wanted f o.guard)
      (match stepY hd call o.op f p st with | some ((v, p'), st') => runY hd call os (f.put o.dst v) p' st' | none => none)
      (runY hd call os (f.put o.dst V.undef) p st)
abbrev OutY := Option ((AExit × Frame × Option AExit) × St)
def thenY (r : OutY) (k : Frame → Option AExit → St → OutY) : OutY :=
  match r with
  | some ((.normal, f, p), st) => k f p st
  | r => r
def loopY (b : Frame → Option AExit → St → OutY) : Nat → Frame → Option AExit → St → OutY
  | 0, _, _, _ => none
  | n + 1, f, p, st => thenY (b f p st) (loopY b n)
def outY (p : Option AExit) : Option (Frame × St) → OutY
  | some (f, s) => some ((.normal, f, p), s)
  | none => none
def normalY : Option ((Frame × Option AExit) × St) → OutY
  | some ((f, p), s) => some ((.normal, f, p), s)
  | none => none
def blockY (id : Nat) : OutY → OutY
  | some ((.exit j, f, p), st) => sel (Nat.beq j id) (some ((.normal, f, p), st)) (some ((.exit j, f, p), st))
  | r => r
def condY (a b : OutY) : V → OutY
  | .bool t => sel t a b
  | _ => none
def evY (hd : Hand) (call : CallT) (lf : Nat) : ACode → Frame → Option AExit → St → OutY
  | .skip, f, p, st => some ((.normal, f, p), st)
  | .reg ops, f, p, st => normalY (runY hd call ops f p st)
  | .dreg ops, f, p, st => outY p (runD ops call 0 [] f st)
  | .seq a b, f, p, st => thenY (evY hd call lf a f p st) (evY hd call lf b)
  | .cond c a b, f, p, st => condY (evY hd call lf a f p st) (evY hd call lf b f p st) (f.ev c)
  | .block id c, f, p, st => blockY id (evY hd call lf c f p st)
  | .loop c, f, p, st => loopY (evY hd call lf c) lf f p st
  | .exit id, f, p, st => some ((.exit id, f, p), st)
  | .ret, f, p, st => some ((.ret, f, p), st)
  | .range _ _ _ _ _ _, _, _, _ => none
def layAll : List Pos → List V → Frame → Option Frame
  | [], [], f => some f
  | p :: ps, v :: vs, f => layAll ps vs (T.lay p v f)
  | _, _, _ => none
def initFrame : List V → Nat → Frame → Frame
  | [], _, f => f
  | v :: vs, n, f => initFrame vs (n + 1) (f.lay (pos n) v)
def roundEnd : Out → Option ((V × Option AExit) × St)
  | some (.normal, _, s) => some ((.bool true, none), s)
  | some (.ret, _, s) => some ((.bool false, some .ret), s)
  | some (.exit id, _, s) => some ((.bool false, some (.exit id)), s)
  | none => none
def round (ps : List Pos) (a b : Frame → St → Out) (f : Frame) (i : Nat) : Hand := fun j args st =>
  sel (Nat.beq j i)
    (match layAll ps args f with
    | some fr => match a fr st with
      | some (.normal, f1, s1) => roundEnd (b f1 s1)
      | _ => none
    | none => none) none
def rangeOut (f : Frame) : OutY → Out
  | some ((.normal, _, none), st) => some (.normal, f, st)
  | some ((.ret, _, none), st) => some (.normal, f, st)
  | some ((.normal, _, some x), st) => some (x, f, st)
  | some ((.ret, _, some x), st) => some (x, f, st)
  | _ => none
def St.skip (s : St) : Option (Nat × St) := match s.alloc (.cells true []) with | some (i, s1) => (match s1.set i none with | some s2 => some (i, s2) | none => none) | none => none
def rangeV (ps : List Pos) (a b : EvT) (it : Nat) (itc : ACode) (call : CallT) (lf : Nat) (f : Frame) (st : St) : V → Out
  | .func gf [] captured => sel (Nat.beq gf it)
    (match st.skip with
    | some (i, st1) => rangeOut f (evY (round ps (a call lf) (b call lf) f i) call lf itc (initFrame (.yield i :: captured) 0 .nil) none st1)
    | none => none) none
  | _ => none
def evRange (g : Src) (ps : List Pos) (a b : EvT) (it : Nat) (itc : ACode) : EvT := fun call lf f st => rangeV ps a b it itc call lf f st (f.ev g)
def ev : ACode → EvT := ACode.rec (motive := fun _ => EvT)
  (fun _ _ f st => some (.normal, f, st))
  evReg
  evDreg
  (fun _ _ a b => evSeq a b)
  (fun c _ _ a b => evCond c a b)
  (fun id _ a => evBlock id a)
  (fun _ a => evLoop a)
  (fun id _ _ f st => some (.exit id, f, st))
  (fun _ _ f st => some (.ret, f, st))
  (fun g ps _ _ it itc a b _ => evRange g ps a b it itc)
def resOf (f : Frame) (st : St) : ARes → Option V
  | .tmp t => some (f.ev (.t t))
  | .cell t a n => match f.ev (.t t) with
    | .ptr (some (i, o)) => sel a (match st.loadN i o n with | some l => some (.agg l) | none => none) (st.load1 i o)
    | _ => none
def resultsOf (f : Frame) (st : St) : List ARes → Option (List V)
  | [] => some []
  | r :: rs => match resOf f st r, resultsOf f st rs with
    | some v, some vs => sel v.plain (some (v :: vs)) none
    | _, _ => none
def oneOf : List V → V
  | [v] => v
  | vs => .tuple vs
def finish (rs : List ARes) : AExit → Frame × St → Option (V × St)
  | .exit _, _ => none
  | _, (f, st) => match resultsOf f st rs with | some vs => some (oneOf vs, st) | none => none
def enterF (call : CallT) (lf : Nat) (args : List V) (st : St) (fn : AFunc) : Option (V × St) :=
  Option.rec none (Prod.rec (finish fn.results)) (ev fn.code call lf (initFrame args 0 .nil) st)
def callF (C : T AFunc) (lf : Nat) : Nat → CallT := Nat.rec (fun _ _ _ => none)
  fun _ call g args st => Option.rec none (enterF call lf args st) (T.get C g)
end
end Go.Vabs

/- Lemmas for this claim, text B. No condition. -/
import Derived.Test.YtcgiiomghmffbaaVabsA
import Derived.Orders
namespace Go.Vabs
noncomputable section
def strV (s : ByteArray) : List Nat := s.data.toList.map UInt8.toNat
def optAll {α β : Type} (f : α → Option β) : List α → Option (List β)
  | [] => some []
  | x :: l => match f x, optAll f l with | some y, some r => some (y :: r) | _, _ => none
def toV1 : Value → Option V
  | .bool b => some (.bool b)
  | .int k n => some (.int k n)
  | .string s => some (.str (strV s))
  | .pointer none => some (.ptr none)
  | .slice none 0 0 => some (.slice none 0 0 0 true)
  | .map none => some (.map none)
  | .nilFunc => some .nilFunc
  | .func (.func f) a b => if a.size = 0 ∧ b.size = 0 then some (.func f [] []) else none
  | _ => none
def toV : Value → Option V
  | .agg cs => (optAll toV1 cs.toList).map .agg
  | .tuple cs => (optAll toV1 cs.toList).map .tuple
  | v => toV1 v
def bit (m j : Nat) : Bool := Nat.beq (Nat.land (Nat.shiftRight m j) 1) 1
def srcAt (drop : Nat) (al : Nat → Option Src) : Operand → Option Src
  | .tmp t => match al t with | some s => some s | none => sel (bit drop t) none (some (.t (pos t)))
  | .const v => (toV v).map .c
  | .func f => some (.c (.func f [] []))
  | .global _ => none
section
variable (P : Program)
def sizeT (t : TypeId) : Option Nat := (P.info? t).map (·.size)
def bytesT (t : TypeId) : Option Nat := (P.info? t).map (·.bytes)
def zeroT (t : TypeId) : Option V := (P.info? t).bind fun i => i.zero.bind toV
def zeroC (t : TypeId) : Option (List V) := (zeroT P t).bind V.cells
def aggT (t : TypeId) : Option Bool := match P.underlying t with | some (.struct _) => some true | some (.array _ _) => some true | some _ => some false | none => none
def partsAt (sr : Operand → Option Src) (place : Nat → Option (Nat × Nat)) : List (Nat × Operand) → Option (List (Nat × Nat × Src))
  | [] => some []
  | (i, x) :: l => match place i, sr x, partsAt sr place l with
    | some p, some s, some r => some ((p.1, p.2, s) :: r)
    | _, _, _ => none
def eqT : Nat → TypeId → Option EqT
  | 0, _ => none
  | d + 1, t => match P.underlying t with
    | some .bool => some .bool
    | some (.int _) => some .int
    | some .string => some .str
    | some (.struct fs) => if P.stoodInHeld t = true then none else
      (optAll (fun f : Go.Field => if f.name = "_" then none else
        match sizeT P f.type, aggT P f.type, eqT d f.type with
        | some n, some a, some e => some (f.offset, n, a, e)
        | _, _, _ => none) fs.toList).map .parts
    | some (.array n e) => match sizeT P e, aggT P e, eqT d e with
      | some z, some g, some q => some (.parts ((List.range n).map fun i => (i * z, z, g, q)))
      | _, _, _ => none
    | _ => none
def eqKind (t : TypeId) : Option EqKind :=
  match P.underlying t with
  | some (.pointer _) => some (.nils .ptr)
  | some (.slice _) => some (.nils .slice)
  | some (.map _ _) => some (.nils .map)
  | some (.func _ _ _) => some (.nils .func)
  | some .bool => some (.val .bool)
  | some (.int _) => some (.val .int)
  | some .string => some (.val .str)
  | some (.struct _) => if P.eqGuardType P.depth t = true then none else (eqT P 40 t).map .val
  | some (.array _ _) => if P.eqGuardType P.depth t = true then none else (eqT P 40 t).map .val
  | _ => none
def compConv (src dst : TypeId) : Option Conv :=
  match P.underlying src, P.underlying dst with
  | some (.int _), some (.int k) => some (.int k)
  | some .string, some .string => some .str
  | some .string, some (.slice e) => match P.underlying e with | some (.int .u8) => if sizeT P e = some 1 then some .toBytes else none | _ => none
  | some (.slice e), some .string => match P.underlying e with | some (.int .u8) => some .toStr | _ => none
  | some (.slice _), some (.slice e) => if src = dst then (match P.underlying e with | some (.int .u8) => some .same | _ => none) else none
  | _, _ => none
def compCall (sr : Operand → Option Src) (c : Go.Call) : Option AOp :=
  match c.callee with
  | .value (.func f) => (optAll sr c.args.toList).map (.call f)
  | .value x => match sr x, optAll sr c.args.toList with | some s, some a => some (.callv s a) | _, _ => none
  | .invoke _ _ => none
  | .builtin b =>
    match b, c.argTypes.toList, c.args.toList with
    | .len, t :: _, [x] => match sr x with
      | none => none
      | some s => match P.underlying t with
        | some .string => some (.len .str s)
        | some (.slice _) => some (.len .slice s)
        | some (.map _ _) => some (.len .map s)
        | some (.array n _) => some (.len (.const n) s)
        | some (.pointer a) => (match P.underlying a with | some (.array n _) => some (.len (.const n) s) | _ => none)
        | _ => none
    | .cap, t :: _, [x] => match sr x, P.underlying t with
      | some s, some (.slice _) => some (.capOf s)
      | _, _ => none
    | .append, [t, u], [x, y] => match P.underlying t, sr x, sr y with
      | some (.slice e), some s, some r => match sizeT P e, bytesT P e, zeroC P e, P.underlying u with
        | some n, some bs, some z, some (.int _) => if n = 0 ∨ bs = 0 ∨ z.length ≠ n then none else some (.appendZ n bs z s r)
        | some n, some bs, some z, some _ => if n = 0 ∨ bs = 0 ∨ z.length ≠ n then none else some (.append n bs s r)
        | _, _, _, _ => none
      | _, _, _ => none
    | .copy, t :: _, [x, y] => match P.underlying t, sr x, sr y with
      | some (.slice e), some s, some r => match sizeT P e with
        | some n => if n = 0 then none else some (.copy n s r)
        | none => none
      | _, _, _ => none
    | .max, _, x :: xs => match sr x, optAll sr xs with | some s, some r => some (.minmax true s r) | _, _ => none
    | .min, _, x :: xs => match sr x, optAll sr xs with | some s, some r => some (.minmax false s r) | _, _ => none
    | _, _, _ => none
def optSrc (sr : Operand → Option Src) : Option Operand → Option (Option Src)
  | none => some none
  | some x => (sr x).map some
def keyT (t : TypeId) : Option (Option IntKind) := match P.underlying t with | some (.int k) => some (some k) | some .string => some none | _ => none
def compOp (sr : Operand → Option Src) (o : Op) : Option AOp :=
  match o with
  | .move x | .assign x => (sr x).map .mv
  | .pick c a b => match sr c, sr a, sr b with | some c, some a, some b => some (.pick c a b) | _, _, _ => none
  | .alloc t => (zeroC P t).map .alloc
  | .box _ x => (sr x).map .box
  | .build t ps => match P.underlying t, zeroC P t with
    | some (.struct fs), some z => match fs.toList.mapM (fun f => (P.info? f.type).map fun i => (f.offset, i.size)) with
      | some places => (partsAt sr (fun i => places[i]?) ps.toList).map (.build z)
      | none => none
    | some (.array _ e), some z => match sizeT P e with | some n => (partsAt sr (fun i => some (i * n, n)) ps.toList).map (.build z) | none => none
    | _, _ => none
  | .buildSlice t len ps => match P.underlying t with
    | some (.slice e) => match sizeT P e, zeroC P e with
      | some n, some z => if n = 0 ∨ z.length ≠ n ∨ len * n > 2 ^ 24 then none else (partsAt sr (fun i => some (i * n, n)) ps.toList).map (.bslice n len z)
      | _, _ => none
    | _ => none
  | .load t x => match aggT P t, sizeT P t, sr x with | some a, some n, some s => some (.load a n s) | _, _, _ => none
  | .store t a x => match sizeT P t, sr a, sr x with | some n, some a, some s => some (.store n a s) | _, _, _ => none
  | .nilCheck x => (sr x).map .nilchk
  | .binOp op t x y _ => match eqKind P t, sr x, sr y with | some e, some x, some y => some (.bin op e x y) | _, _, _ => none
  | .unOp op _ x => (sr x).map (.un op)
  | .convert src dst x => match compConv P src dst, sr x with | some c, some s => some (.conv c s) | _, _ => none
  | .makeFunc (.func f) a b => match optAll sr a.toList, optAll sr b.toList with | some a, some b => some (.mkfn f a b) | _, _ => none
  | .makeMap _ none => some .mkmap
  | .makeSlice t l c => match P.underlying t, sr l, sr c with
    | some (.slice e), some l, some c => match sizeT P e, bytesT P e, zeroC P e with
      | some n, some bs, some z => if n = 0 ∨ bs = 0 ∨ z.length ≠ n then none else some (.mkslice n bs z l c)
      | _, _, _ => none
    | _, _, _ => none
  | .slice t x lo hi mx => match P.underlying t, sr x, optSrc sr lo, optSrc sr hi, optSrc sr mx with
    | some d, some s, some lo, some hi, some mx => if (mx.isSome && hi.isNone) = true then none else match d with
      | .string => some (.slice .str s lo hi mx)
      | .slice e => (match sizeT P e with | some n => if n = 0 then none else some (.slice (.slice n) s lo hi mx) | none => none)
      | .array n e => (match sizeT P e with | some z => some (.sliceArr n z s lo hi mx) | none => none)
      | _ => none
    | _, _, _, _, _ => none
  | .fieldAddr t x i => match P.underlying t, sr x with
    | some (.struct fs), some s => match fs[i]? with
      | some f => match sizeT P f.type with | some (_ + 1) => some (.fieldAddr f.offset s) | _ => none
      | none => none
    | _, _ => none
  | .field t x i => match P.underlying t, sr x with
    | some (.struct fs), some s => match fs[i]? with
      | some f => match aggT P f.type, sizeT P f.type with | some a, some n => some (.field a n f.offset s) | _, _ => none
      | none => none
    | _, _ => none
  | .indexAddr t x i => match P.underlying t, sr x, sr i with
    | some (.array n e), some s, some j => match sizeT P e with | some z => some (.idxAddr (.arr n false z) s j) | none => none
    | some (.slice e), some s, some j => match sizeT P e with | some z => if z = 0 then none else some (.idxAddr (.slice z) s j) | none => none
    | _, _, _ => none
  | .index t x i => match P.underlying t, sr x, sr i with
    | some (.array n e), some s, some j => match sizeT P e, aggT P e with | some z, some a => some (.index (.arr n a z) s j) | _, _ => none
    | some .string, some s, some j => some (.index .str s j)
    | _, _, _ => none
  | .lookup t m k ok => match P.underlying t, sr m, sr k with
    | some (.map u e), some m, some k => match keyT P u, zeroT P e with | some q, some z => sel z.plain (some (.lookup q z m k ok)) none | _, _ => none
    | _, _, _ => none
  | .mapEntry t m k => match P.underlying t, sr m, sr k with
    | some (.map u e), some m, some k => match keyT P u, zeroT P e with | some q, some z => sel z.plain (some (.mapEntry q z m k)) none | _, _ => none
    | _, _, _ => none
  | .mapUpdate t m k x => match P.underlying t, sr m, sr k, sr x with
    | some (.map u _), some m, some k, some x => (keyT P u).map fun q => .mapSet q m k x
    | _, _, _, _ => none
  | .entryStore _ m s x => match sr m, sr s, sr x with | some m, some s, some x => some (.entryStore m s x) | _, _, _ => none
  | .extract x n => (sr x).map fun s => .extract s n
  | .call c => compCall P sr c
  | .makeInterface _ _ | .panic _ => some .fail
  | _ => none
end
def AOp.still : AOp → Bool
  | .mv _ | .pick _ _ _ | .build _ _ | .nilchk _ | .bin _ _ _ _ | .un _ _ | .mkfn _ _ _ | .slice _ _ _ _ _ | .fieldAddr _ _ | .field _ _ _ _
  | .idxAddr _ _ _ | .index _ _ _ | .extract _ _ | .capOf _ | .minmax _ _ _ => true
  | .conv (.int _) _ | .conv .str _ => true
  | .len .map _ => false
  | .len _ _ => true
  | _ => false
def edgeOn (e : Edge) : Bool := Region.binds .any e
def predBits (acc : List Nat) : List Nat → Nat → Nat
  | [], m => m
  | j :: l, m => predBits acc l (Nat.lor (Nat.lor m (Nat.shiftLeft 1 j)) ((acc[j]?).getD 0))
def predsGo : List Oper → List Nat → List Nat
  | [], acc => acc
  | o :: os, acc => predsGo os (acc ++ [predBits acc ((o.after.toList.filter edgeOn).map (·.on)) 0])
def preds (ops : List Oper) : List Nat := predsGo ops []
def comparable (pr : List Nat) (j k : Nat) : Bool := bit ((pr[k]?).getD 0) j || bit ((pr[j]?).getD 0) k
def partners (aops : List AOp) (pr : List Nat) (k : Nat) (a : AOp) : List Nat :=
  if a.still = true then [] else
    (List.range aops.length).filter fun j => match aops[j]? with
      | some b => !b.still && !(Nat.beq j k) && !comparable pr j k
      | none => false
def posEq : Pos → Pos → Bool
  | .h, .h => true
  | .o p, .o q => posEq p q
  | .i p, .i q => posEq p q
  | _, _ => false
def optL : Option Src → List Src
  | some s => [s]
  | none => []
def AOp.srcs : AOp → List Src
  | .mv x | .box x | .load _ _ x | .nilchk x | .un _ x | .conv _ x | .fieldAddr _ x | .field _ _ _ x | .extract x _ | .len _ x | .capOf x => [x]
  | .pick a b c => [a, b, c]
  | .build _ ps | .bslice _ _ _ ps => ps.map fun p => p.2.2
  | .store _ a x | .bin _ _ a x | .mkslice _ _ _ a x | .idxAddr _ a x | .index _ a x | .lookup _ _ a x _ | .mapEntry _ _ a x | .append _ _ a x | .appendZ _ _ _ a x | .copy _ a x => [a, x]
  | .entryStore a b c | .mapSet _ a b c => [a, b, c]
  | .mkfn _ a b => a ++ b
  | .slice _ x a b c | .sliceArr _ _ x a b c => x :: (optL a ++ (optL b ++ optL c))
  | .minmax _ x xs | .callv x xs => x :: xs
  | .call _ xs => xs
  | .alloc _ | .mkmap | .fail => []
def srcAny (p : Pos) : List Src → Bool
  | [] => false
  | .t q :: l => posEq q p || srcAny p l
  | .c _ :: l => srcAny p l
def usesSlot (o : AOper) (p : Pos) : Bool := srcAny p o.op.srcs || (match o.guard with | some (q, _) => posEq q p | none => false)
def apartA (x y : AOper) : Bool :=
  (match x.dst with | some d => !usesSlot y d && (match y.dst with | some e => !posEq d e | none => true) | none => true) &&
  (match y.dst with | some e => !usesSlot x e | none => true)
def slotsApart (l : List AOper) (pr : List Nat) : Bool :=
  (List.range l.length).all fun k => (List.range k).all fun j =>
    comparable pr j k || (match l[j]?, l[k]? with | some x, some y => apartA x y | _, _ => false)
def edgesBack (ops : List Oper) : Bool :=
  (List.range ops.length).all fun k => match ops[k]? with | some o => o.after.all fun e => !edgeOn e || Nat.blt e.on k | none => false
abbrev Alias := List (Nat × Src × Option (Nat × Bool))
def sameGuard : Option (Nat × Bool) → Option (Nat × Bool) → Bool
  | none, _ => true
  | some (t, b), some (t', b') => Nat.beq t t' && (b == b')
  | some _, none => false
def aliasOf (g : Option (Nat × Bool)) : Alias → Nat → Option Src
  | [], _ => none
  | (d, s, h) :: l, t => sel (Nat.beq d t) (sel (sameGuard h g) (some s) none) (aliasOf g l t)
def srcIs (d : Nat) : Src → Bool
  | .t p => posEq p (pos d)
  | .c _ => false
def guardIs (d : Nat) : Option (Nat × Bool) → Bool
  | some (h, _) => Nat.beq h d
  | none => false
def forget (d : Nat) : Alias → Alias
  | [] => []
  | (t, s, g) :: l => sel (Nat.beq t d || srcIs d s || guardIs d g) (forget d l) ((t, s, g) :: forget d l)
def guardOf (ops : Array Oper) (o : Oper) : Option (Option (Nat × Bool)) :=
  match o.guard with
  | none => some none
  | some (j, b) => match (ops[j]?).bind (·.dst) with
    | some t => some (some (t, b))
    | none => none
def posGuard (g : Option (Nat × Bool)) : Option (Pos × Bool) := g.map fun x => (pos x.1, x.2)
def dstOk (nt : Nat) (o : Oper) : Bool := match o.dst with | some d => Nat.blt d nt | none => true
def guardOk (drop : Nat) : Option (Nat × Bool) → Bool
  | some (t, _) => !bit drop t
  | none => true
def isMove : Op → Bool
  | .move _ | .assign _ => true
  | _ => false
def compOper (P : Program) (drop : Nat) (al : Alias) (ops : Array Oper) (nt : Nat) (o : Oper) : Option AOper :=
  match guardOf ops o with
  | some g => match compOp P (srcAt drop (aliasOf g al)) o.op with
    | some a => sel (dstOk nt o && guardOk drop g) (some { dst := o.dst.map pos, op := a, guard := posGuard g }) none
    | none => none
  | none => none
def dropped (drop : Nat) : Option Nat → Bool
  | some d => bit drop d
  | none => false
def compReg (P : Program) (nt drop : Nat) (ops : Array Oper) : List Oper → Alias → Option (List AOper)
  | [], _ => some []
  | o :: os, al => match compOper P drop al ops nt o with
    | some a =>
      let al' := match o.dst with | some d => forget d al | none => al
      sel (dropped drop o.dst)
        (match o.dst, a.op, guardOf ops o with
        | some d, .mv x, some g =>
          sel (isMove o.op && !srcIs d x && !guardIs d g)
            (compReg P nt drop ops os ((d, x, g) :: al')) none
        | _, _, _ => none)
        (match compReg P nt drop ops os al' with | some r => some (a :: r) | none => none)
    | none => none
def withPartners (aops : List AOp) (pr : List Nat) : Nat → List AOper → List (AOper × List Nat)
  | _, [] => []
  | k, o :: os => (o, partners aops pr k o.op) :: withPartners aops pr (k + 1) os
def parsOk (nt drop : Nat) : List Nat → Bool
  | [] => true
  | t :: l => Nat.blt t nt && !bit drop t && parsOk nt drop l
def comp (P : Program) (it : Option (Nat × ACode)) (nt drop : Nat) : Code → Option ACode
  | .skip => some .skip
  | .region _ ops draws =>
    if draws = true then
      match optAll (compOper P drop [] ops nt) ops.toList with
      | some l =>
        let pr := preds ops.toList
        if edgesBack ops.toList && slotsApart l pr && ops.toList.all (fun o => !dropped drop o.dst) then some (.dreg (withPartners (l.map (·.op)) pr 0 l)) else none
      | none => none
    else (compReg P nt drop ops ops.toList []).map .reg
  | .seq a b => match comp P it nt drop a, comp P it nt drop b with | some a, some b => some (.seq a b) | _, _ => none
  | .cond c a b => match srcAt drop (fun _ => none) c, comp P it nt drop a, comp P it nt drop b with | some c, some a, some b => some (.cond c a b) | _, _, _ => none
  | .block id c => (comp P it nt drop c).map (.block id)
  | .loop c => (comp P it nt drop c).map .loop
  | .exit id => some (.exit id)
  | .ret => some .ret
  | .label _ => some .skip
  | .rangeFunc g ps asg body => match it with
    | some (k, itc) => match srcAt drop (fun _ => none) g, comp P none nt drop asg, comp P none nt drop body with
      | some s, some a, some b => sel (parsOk nt drop ps.toList) (some (.range s (ps.toList.map pos) a b k itc)) none
      | _, _, _ => none
    | none => none
  | _ => none
def isIt (fn : Func) : Bool := fn.params.size == 1 && fn.nfree == 2 && fn.results.size == 0 && fn.name == "slices.Chunk[[]byte,byte]$1" && !(fn.name == "runtime.NumGoroutine")
def itFind (P : Program) : List Func → Nat → Option (Nat × ACode)
  | [], _ => none
  | fn :: l, k => sel (isIt fn) (match fn.body with | some c => (comp P none fn.ntmps 0 c).map fun a => (k, a) | none => none) (itFind P l (k + 1))
def itOf (P : Program) : Option (Nat × ACode) := itFind P P.funcs.toList 0
def compRes (P : Program) (drop : Nat) : ResultVar → Option ARes
  | .tmp t => sel (bit drop t) none (some (.tmp (pos t)))
  | .cell a t => match aggT P t, sizeT P t with | some g, some n => sel (bit drop a) none (some (.cell (pos a) g n)) | _, _ => none
def opReads (o : Oper) : List Nat := o.op.operands.toList.filterMap fun | .tmp t => some t | _ => none
def regionUses (ops : Array Oper) : List Oper → Nat → Nat → Nat → Nat × Nat
  | [], _, rd, early => (rd, early)
  | o :: os, wr, rd, early =>
    let r := (opReads o).foldl (fun m t => Nat.lor m (Nat.shiftLeft 1 t)) 0
    let g := match guardOf ops o with | some (some (t, _)) => Nat.shiftLeft 1 t | _ => 0
    let fresh := Nat.xor (Nat.land (Nat.lor r g) wr) (Nat.lor r g)
    regionUses ops os (match o.dst with | some d => Nat.lor wr (Nat.shiftLeft 1 d) | none => wr) (Nat.lor rd r) (Nat.lor (Nat.lor early fresh) g)
def codeUses : Code → Nat × Nat → Nat × Nat
  | .region _ ops draws, (seen, multi) =>
    let u := regionUses ops ops.toList 0 0 0
    (Nat.lor seen u.1, Nat.lor multi (Nat.lor (Nat.land seen u.1) (Nat.lor u.2 (if draws = true then u.1 else 0))))
  | .seq a b, p => codeUses b (codeUses a p)
  | .cond c a b, (seen, multi) =>
    let m := match c with | .tmp t => Nat.shiftLeft 1 t | _ => 0
    codeUses b (codeUses a (Nat.lor seen m, Nat.lor multi m))
  | .block _ c, p => codeUses c p
  | .loop c, p => codeUses c p
  | .scope c, p => codeUses c p
  | _, p => p
def resUses : List ResultVar → Nat
  | [] => 0
  | .tmp t :: l => Nat.lor (Nat.shiftLeft 1 t) (resUses l)
  | .cell t _ :: l => Nat.lor (Nat.shiftLeft 1 t) (resUses l)
def isSlot : Op → Option Nat
  | .move (.tmp t) | .assign (.tmp t) => some t
  | _ => none
def baseOf (mv : List (Nat × Nat × Option (Nat × Bool))) (t : Nat) : Nat := match mv.find? (fun x => Nat.beq x.1 t) with | some x => x.2.1 | none => t
def regionBad (ops : Array Oper) : List Oper → List (Nat × Nat × Option (Nat × Bool)) → Nat → Nat → Nat
  | [], _, _, bad => bad
  | o :: os, mv, dead, bad =>
    let g := (guardOf ops o).getD none
    let r := (opReads o).foldl (fun m t => Nat.lor m (Nat.shiftLeft 1 t)) 0
    let miss := (opReads o).foldl (fun m t => match mv.find? (fun x => Nat.beq x.1 t) with | some x => sel (sameGuard x.2.2 g) m (Nat.lor m (Nat.shiftLeft 1 t)) | none => m) 0
    let bad := Nat.lor bad (Nat.lor (Nat.land r dead) miss)
    match o.dst with
    | none => regionBad ops os mv dead bad
    | some d =>
      let mine := (mv.filter fun x => Nat.beq x.2.1 d || guardIs d x.2.2).foldl (fun m x => Nat.lor m (Nat.shiftLeft 1 x.1)) 0
      let dead := Nat.lor dead mine
      let mv := mv.filter fun x => !(Nat.beq x.1 d)
      match isMove o.op, isSlot o.op with
      | true, some s => regionBad ops os ((d, baseOf mv s, g) :: mv) (Nat.xor (Nat.land dead (Nat.shiftLeft 1 d)) dead) bad
      | true, none => regionBad ops os ((d, 1000000, g) :: mv) (Nat.xor (Nat.land dead (Nat.shiftLeft 1 d)) dead) bad
      | false, _ => regionBad ops os mv dead (Nat.lor bad (Nat.shiftLeft 1 d))
def codeBad : Code → Nat
  | .region _ ops draws => if draws = true then ops.toList.foldl (fun m o => match o.dst with | some d => Nat.lor m (Nat.shiftLeft 1 d) | none => m) 0 else regionBad ops ops.toList [] 0 0
  | .seq a b => Nat.lor (codeBad a) (codeBad b)
  | .cond _ a b => Nat.lor (codeBad a) (codeBad b)
  | .block _ c => codeBad c
  | .loop c => codeBad c
  | .scope c => codeBad c
  | _ => 0
def dropOf (fn : Func) (c : Code) : Nat :=
  let u := codeUses c (0, 0)
  let keep := Nat.lor (Nat.lor u.2 (resUses fn.results.toList)) (codeBad c)
  Nat.xor (Nat.land u.1 keep) u.1
def compD (P : Program) (fn : Func) (c : Code) (drop : Nat) : Option AFunc :=
  match comp P (itOf P) fn.ntmps drop c, optAll (compRes P drop) fn.results.toList with
  | some a, some r => some { ntmps := fn.ntmps, code := a, results := r }
  | _, _ => none
def compF (P : Program) (f : Nat) : Option AFunc :=
  match P.funcs[f]? with
  | some fn => match fn.body with
    | some c => if (fn.name == "runtime.NumGoroutine") = true then none else
      match compD P fn c (dropOf fn c) with
      | some a => some a
      | none => compD P fn c 0
    | none => none
  | none => none
end
end Go.Vabs

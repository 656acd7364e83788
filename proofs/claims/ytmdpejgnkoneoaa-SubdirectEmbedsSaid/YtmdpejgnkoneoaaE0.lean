/- Part 0 of the proof that the law SubdirectEmbeds holds: words and lemmas it rests on. No condition. -/
import Derived.Calls
import Derived.Below
import Derived.Laws.Sem
import Derived.Laws.World
import Derived.Laws.CopyRow
import Derived.Laws.Append
import Derived.Laws.Cells
import Derived.MapKept
import Derived.ChangeKeysEq
import Derived.Laws.Strings
set_option linter.unusedSimpArgs false
set_option linter.unusedVariables false
set_option linter.unnecessarySimpa false
set_option linter.unusedSectionVars false
namespace Go.AM

inductive AV where
  | int (k : IntKind) (n : Int)
  | bool (b : Bool)
  | str (s : List UInt8)
  | nilp | nils | nilm | nilf | nili
  | ptr (o off : Nat)
  | sli (o off len sz : Nat) (c : Option Nat)
  | map (o : Nat)
  | fn (f : FuncId) (caps : List AV)
  | ifc (t : TypeId) (v : AV)
  | agg (l : List AV)
  | tup (l : List AV)
  deriving Inhabited

def AV.cells : AV → List AV
  | .agg l => l
  | v => [v]

def AV.scalar : AV → Bool
  | .agg _ | .tup _ => false
  | _ => true

inductive AO where
  | row (cells : List AV) (own : Bool)
  | mp (es : List (AV × AV))
  | dead
  deriving Inhabited

abbrev AH := List AO

inductive Od where
  | t (i : Nat)
  | c (v : AV)
  deriving Inhabited

inductive KK where | int | str | bool
  deriving DecidableEq, Inhabited

def kfit : KK → AV → Bool
  | .int, .int _ _ | .str, .str _ | .bool, .bool _ => true
  | _, _ => false

inductive EqK where | bool | sl | pt | mp | fn
  deriving DecidableEq, Inhabited

inductive K where
  | mv (x : Od)
  | pick (c a b : Od)
  | alloc (z : List AV)
  | box (x : Od)
  | build (z : List AV) (ps : List (Nat × Nat × Od))
  | lit (z : List AV) (esz len : Nat) (ps : List (Nat × Nat × Od))
  | load1 (a : Od)
  | loadA (n : Nat) (a : Od)
  | store (n : Nat) (a x : Od)
  | chk (x : Od)
  | bin (op : BinOp) (x y : Od)
  | eqv (e : EqK) (neg : Bool) (x y : Od)
  | un (op : UnOp) (x : Od)
  | convI (k : IntKind) (x : Od)
  | convS (x : Od)
  | same (x : Od)
  | mkS (z : List AV) (by_ : Nat) (l c : Od)
  | mkM
  | slS (esz : Nat) (x : Od) (lo hi mx : Option Od)
  | slT (x : Od) (lo hi : Option Od)
  | fAddr (off : Nat) (x : Od)
  | fld (off : Nat) (n : Option Nat) (x : Od)
  | iAddr (esz : Nat) (x i : Od)
  | iAddrA (len esz : Nat) (x i : Od)
  | idxA (len esz : Nat) (n : Option Nat) (x i : Od)
  | idxS (x i : Od)
  | look (kk : KK) (z : AV) (ok : Bool) (m k : Od)
  | mset (kk : KK) (m k v : Od)
  | ext (i : Nat) (x : Od)
  | callF (f : FuncId) (xs : List Od)
  | callV (f : Od) (xs : List Od)
  | app (z : List AV) (by_ : Nat) (x y : Od)
  | lenS (x : Od)
  | lenT (x : Od)
  | lenM (x : Od)
  | min (xs : List Od)
  | max (xs : List Od)
  | copy (esz : Nat) (d s : Od)
  | del (m k : Od)
  | mkF (f : FuncId) (cs : List Od)
  | mkI (t : TypeId) (x : Od)
  deriving Inhabited

structure SO where
  dst : Option Nat
  k : K
  guard : Option (Option Nat × Bool)
  deriving Inhabited

inductive C where
  | skip
  | reg (ls : List (List SO))
  | seq (a b : C)
  | cond (c : Od) (a b : C)
  | block (id : Nat) (b : C)
  | loop (b : C)
  | exit (id : Nat)
  | ret
  deriving Inhabited

inductive RV where
  | t (i : Nat)
  | cell1 (i : Nat)
  | cellA (i n : Nat)
  deriving Inhabited

inductive Ex where
  | normal
  | exit (id : Nat)
  | ret
  deriving DecidableEq, Inhabited

structure FnC where
  n : Nat
  res : List RV
  body : C

abbrev Sl := List AV
abbrev Call := FuncId → List AV → AH → Option (AV × AH)

def gt (s : Sl) (i : Nat) : AV := s.getD i (.tup [])
def ev (s : Sl) : Od → AV
  | .t i => gt s i
  | .c v => v
def evs (s : Sl) (xs : List Od) : List AV := xs.map (ev s)
def pt (s : Sl) (d : Option Nat) (v : AV) : Sl := match d with | some i => s.set i v | none => s

def splice (l : List AV) (i : Nat) (xs : List AV) : List AV := l.take i ++ xs ++ l.drop (i + xs.length)

def fillA : List AV → List (Nat × Nat × AV) → Option (List AV)
  | cs, [] => some cs
  | cs, (off, n, v) :: r => if v.cells.length = n ∧ off + n ≤ cs.length then fillA (splice cs off v.cells) r else none

def zrow (z : List AV) : Nat → List AV
  | 0 => []
  | n + 1 => z ++ zrow z n

def alloc (H : AH) (o : AO) : AH := H ++ [o]

def rowAt (H : AH) (o : Nat) : Option (List AV) := match H[o]? with | some (.row l _) => some l | _ => none
def ownAt (H : AH) (o : Nat) : Option (List AV) := match H[o]? with | some (.row l true) => some l | _ => none
def mapAt (H : AH) (o : Nat) : Option (List (AV × AV)) := match H[o]? with | some (.mp l) => some l | _ => none

def seen (H : AH) (sz : Nat) : AV → Option (List AV)
  | .nils => some []
  | .sli o off len sz' _ =>
    if sz' = sz then
      match rowAt H o with
      | some l => if off + len * sz ≤ l.length then some ((l.drop off).take (len * sz)) else none
      | none => none
    else none
  | .str s => if sz = 1 then some (s.map fun b => .int .u8 b.toNat) else none
  | _ => none

def keyEq : AV → AV → Option Bool
  | .int j a, .int k b => if j = k then some (a == b) else none
  | .str a, .str b => some (a == b)
  | .bool a, .bool b => some (a == b)
  | _, _ => none

def find (k : AV) : List (AV × AV) → Nat → Option (Option (Nat × AV))
  | [], _ => some none
  | (x, v) :: r, i => match keyEq k x with
    | some true => some (some (i, v))
    | some false => find k r (i + 1)
    | none => none

def abits (op : BinOp) (k : IntKind) (x y : Int) : Option AV :=
  match op with
  | .and => some (.int k (k.wrap (BitVec.ofInt k.bits x &&& BitVec.ofInt k.bits y).toNat))
  | .or => some (.int k (k.wrap (BitVec.ofInt k.bits x ||| BitVec.ofInt k.bits y).toNat))
  | .xor => some (.int k (k.wrap (BitVec.ofInt k.bits x ^^^ BitVec.ofInt k.bits y).toNat))
  | .andNot => some (.int k (k.wrap (BitVec.ofInt k.bits x &&& ~~~ BitVec.ofInt k.bits y).toNat))
  | _ => none

def aint (op : BinOp) (k : IntKind) (x y : Int) : Option AV :=
  match op with
  | .add => some (.int k (k.wrap (x + y)))
  | .sub => some (.int k (k.wrap (x - y)))
  | .mul => some (.int k (k.wrap (x * y)))
  | .quo => if y = 0 then none else some (.int k (k.wrap (x.tdiv y)))
  | .rem => if y = 0 then none else some (.int k (x.tmod y))
  | .eql => some (.bool (x == y))
  | .neq => some (.bool (x != y))
  | .lss => some (.bool (decide (x < y)))
  | .leq => some (.bool (decide (x ≤ y)))
  | .gtr => some (.bool (decide (x > y)))
  | .geq => some (.bool (decide (x ≥ y)))
  | op => abits op k x y

def ashift (op : BinOp) (k : IntKind) (x y : Int) : Option AV :=
  if y < 0 then none else
  match op with
  | .shl => some (.int k (k.wrap (x * 2 ^ (min y.toNat k.bits))))
  | .shr => some (.int k (x.fdiv (2 ^ (min y.toNat k.bits))))
  | _ => none

def astr (op : BinOp) (x y : List UInt8) : Option AV :=
  match op with
  | .add => if ((x.length + y.length : Nat) : Int) > 9223372036854775807 then none else some (.str (x ++ y))
  | .eql => some (.bool (x == y))
  | .neq => some (.bool (!(x == y)))
  | .lss => some (.bool (Op.bytesLess x y))
  | .leq => some (.bool (Op.bytesLess x y || x == y))
  | .gtr => some (.bool (!(Op.bytesLess x y || x == y)))
  | .geq => some (.bool (!(Op.bytesLess x y)))
  | _ => none

def isShift : BinOp → Bool
  | .shl | .shr => true
  | _ => false

def abin (op : BinOp) (x y : AV) : Option AV :=
  match x, y with
  | .int k a, .int k' b => if isShift op then ashift op k a b else if k = k' then aint op k a b else none
  | .str a, .str b => astr op a b
  | _, _ => none

def aeq (e : EqK) (x y : AV) : Option Bool :=
  match e, x, y with
  | .bool, .bool a, .bool b => some (a == b)
  | .sl, .nils, .nils => some true
  | .sl, .nils, .sli .. => some false
  | .sl, .sli .., .nils => some false
  | .pt, .nilp, .nilp => some true
  | .pt, .nilp, .ptr .. => some false
  | .pt, .ptr .., .nilp => some false
  | .mp, .nilm, .nilm => some true
  | .mp, .nilm, .map .. => some false
  | .mp, .map .., .nilm => some false
  | .fn, .nilf, .nilf => some true
  | .fn, .nilf, .fn .. => some false
  | .fn, .fn .., .nilf => some false
  | _, _, _ => none

def aun (op : UnOp) (x : AV) : Option AV :=
  match op, x with
  | .neg, .int k n => some (.int k (k.wrap (0 - n)))
  | .not, .bool b => some (.bool (!b))
  | .xor, .int k n => abits .xor k (if k.signed then -1 else k.max) n
  | _, _ => none

def bnd (s : Sl) (x : Option Od) (dflt top : Nat) : Option Nat :=
  match x with
  | none => some dflt
  | some x => match ev s x with
    | .int _ n => if 0 ≤ n ∧ n ≤ top then some n.toNat else none
    | _ => none

def bytesOf : List AV → Option (List UInt8)
  | [] => some []
  | .int .u8 n :: r => (bytesOf r).map (UInt8.ofNat n.toNat :: ·)
  | _ => none

def part (l : List AV) (off : Nat) (n : Option Nat) : Option AV :=
  match n with
  | none => l[off]?
  | some n => if off + n ≤ l.length then some (.agg ((l.drop off).take n)) else none

def foldMM (max : Bool) : Int → IntKind → List AV → Option AV
  | x, k, [] => some (.int k x)
  | x, k, .int _ y :: r => foldMM max (if max then (if y > x then y else x) else (if y < x then y else x)) k r
  | _, _, _ => none

def amm (max : Bool) : List AV → Option AV
  | .int k x :: r => foldMM max x k r
  | _ => none

def aappend (z : List AV) (by_ : Nat) (x : AV) (xs : List AV) (n : Nat) (H : AH) : Option (AV × AH) :=
  let sz := z.length
  if sz = 0 then none else
  match x with
  | .nils => if n = 0 then some (.nils, H) else if n * by_ ≤ 140737488355328 ∧ n ≤ 9223372036854775807 then some (.sli H.length 0 n sz none, alloc H (.row xs true)) else none
  | .sli o off len sz' c =>
    if sz' ≠ sz then none else
    if n = 0 then some (.sli o off len sz c, H) else
    match rowAt H o with
    | none => none
    | some l =>
      if len + n ≤ c.getD (len + n) ∧ off + (len + n) * sz ≤ l.length then
        if (ownAt H o).isSome ∧ xs.all AV.scalar then some (.sli o off (len + n) sz c, H.set o (.row (splice l (off + len * sz) xs) true)) else none
      else if off + len * sz ≤ l.length ∧ (len + n) * by_ ≤ 140737488355328 ∧ len + n ≤ 9223372036854775807 then
        match c with
        | some c => if c < len + n then some (.sli H.length 0 (len + n) sz none, alloc H (.row ((l.drop off).take (len * sz) ++ xs) true)) else none
        | none => if (ownAt H o).isSome ∧ xs.all AV.scalar then some (.sli H.length 0 (len + n) sz none, alloc (H.set o .dead) (.row ((l.drop off).take (len * sz) ++ xs) true)) else none
      else none
  | _ => none

def lenOf : AV → Option Nat
  | .nils => some 0
  | .sli _ _ n _ _ => some n
  | .str s => some s.length
  | _ => none

def aop (call : Call) (s : Sl) (H : AH) : K → Option (AV × AH)
  | .mv x => some (ev s x, H)
  | .pick c a b => match ev s c with
    | .bool t => some (if t then ev s a else ev s b, H)
    | _ => none
  | .alloc z => some (.ptr H.length 0, alloc H (.row z true))
  | .box x => some (.ptr H.length 0, alloc H (.row (ev s x).cells true))
  | .build z ps => (fillA z (ps.map fun p => (p.1, p.2.1, ev s p.2.2))).map fun l => (.agg l, H)
  | .lit z esz len ps => (fillA z (ps.map fun p => (p.1, p.2.1, ev s p.2.2))).map fun l => (.sli H.length 0 len esz (some len), alloc H (.row l true))
  | .load1 a => match ev s a with
    | .ptr o off => match rowAt H o with
      | some l => (l[off]?).map fun v => (v, H)
      | none => none
    | _ => none
  | .loadA n a => match ev s a with
    | .ptr o off => match rowAt H o with
      | some l => if off + n ≤ l.length then some (.agg ((l.drop off).take n), H) else none
      | none => none
    | _ => none
  | .store n a x => match ev s a with
    | .ptr o off => match ownAt H o with
      | some l => if (ev s x).cells.length = n ∧ off + n ≤ l.length ∧ (ev s x).cells.all AV.scalar then some (.tup [], H.set o (.row (splice l off (ev s x).cells) true)) else none
      | none => none
    | _ => none
  | .chk x => match ev s x with
    | .ptr o off => some (.ptr o off, H)
    | .fn f c => some (.fn f c, H)
    | _ => none
  | .bin op x y => (abin op (ev s x) (ev s y)).map (·, H)
  | .eqv e neg x y => (aeq e (ev s x) (ev s y)).map fun b => (.bool (if neg then !b else b), H)
  | .un op x => (aun op (ev s x)).map (·, H)
  | .convI k x => match ev s x with
    | .int _ n => some (.int k (k.wrap n), H)
    | _ => none
  | .convS x => match seen H 1 (ev s x) with
    | some l => match ev s x with
      | .str _ => none
      | _ => (bytesOf l).map fun b => (.str b, H)
    | none => none
  | .same x => match ev s x with
    | .str b => some (.str b, H)
    | _ => none
  | .mkS z by_ l c => match ev s l, ev s c with
    | .int _ l, .int _ c =>
      if 0 ≤ l ∧ l ≤ c ∧ c ≤ 9223372036854775807 ∧ by_ * c ≤ 281474976710656 then some (.sli H.length 0 l.toNat z.length (some c.toNat), alloc H (.row (zrow z c.toNat) true)) else none
    | _, _ => none
  | .mkM => some (.map H.length, alloc H (.mp []))
  | .slS esz x lo hi mx => match ev s x with
    | .nils => match bnd s mx 0 0 with
      | some m => match bnd s hi 0 m with
        | some h => match bnd s lo 0 h with
          | some _ => some (.nils, H)
          | none => none
        | none => none
      | none => none
    | .sli o off len sz c =>
      if sz ≠ esz then none else
      -- how far a bound may go: the length, unless the capacity is known
      let top := c.getD len
      match bnd s mx top top with
      | some m => match bnd s hi len m with
        | some h => match bnd s lo 0 h with
          | some l => some (.sli o (off + l * sz) (h - l) sz (if mx.isSome then some (m - l) else c.map (· - l)), H)
          | none => none
        | none => none
      | none => none
    | _ => none
  | .slT x lo hi => match ev s x with
    | .str b => match bnd s hi b.length b.length with
      | some h => match bnd s lo 0 h with
        | some l => some (.str ((b.take h).drop l), H)
        | none => none
      | none => none
    | _ => none
  | .fAddr d x => match ev s x with
    | .ptr o off => some (.ptr o (off + d), H)
    | _ => none
  | .fld off n x => match ev s x with
    | .agg l => (part l off n).map (·, H)
    | _ => none
  | .iAddr esz x i => match ev s x, ev s i with
    | .sli o off len sz _, .int _ n => if 0 ≤ n ∧ n < len ∧ sz = esz then some (.ptr o (off + n.toNat * esz), H) else none
    | _, _ => none
  | .iAddrA len esz x i => match ev s x, ev s i with
    | .ptr o off, .int _ n => if 0 ≤ n ∧ n < len then some (.ptr o (off + n.toNat * esz), H) else none
    | _, _ => none
  | .idxA len esz n x i => match ev s x, ev s i with
    | .agg l, .int _ j => if 0 ≤ j ∧ j < len then (part l (j.toNat * esz) n).map (·, H) else none
    | _, _ => none
  | .idxS x i => match ev s x, ev s i with
    | .str b, .int _ j => if 0 ≤ j then (b[j.toNat]?).map fun c => (.int .u8 c.toNat, H) else none
    | _, _ => none
  | .look kk z ok m k =>
    let fin (r : Option (Nat × AV)) : AV := match r with
      | some (_, v) => if ok then .tup [v, .bool true] else v
      | none => if ok then .tup [z, .bool false] else z
    match ev s m with
    | .nilm => if kfit kk (ev s k) then some (fin none, H) else none
    | .map o => match mapAt H o with
      | some es => if kfit kk (ev s k) then (find (ev s k) es 0).map fun r => (fin r, H) else none
      | none => none
    | _ => none
  | .mset kk m k v => match ev s m with
    | .map o => match mapAt H o with
      | some es => if kfit kk (ev s k) then (match find (ev s k) es 0 with
          | some (some (i, _)) => some (.tup [], H.set o (.mp (es.set i (ev s k, ev s v))))
          | some none => some (.tup [], H.set o (.mp (es ++ [(ev s k, ev s v)])))
          | none => none) else none
      | none => none
    | _ => none
  | .ext i x => match ev s x with
    | .tup l => (l[i]?).map (·, H)
    | _ => none
  | .callF f xs => call f (evs s xs) H
  | .callV f xs => match ev s f with
    | .fn f cs => call f (evs s xs ++ cs) H
    | _ => none
  | .app z by_ x y => match seen H z.length (ev s y), lenOf (ev s y) with
    | some xs, some n => aappend z by_ (ev s x) xs n H
    | _, _ => none
  | .lenS x => match ev s x with
    | .nils => some (.int .i64 0, H)
    | .sli _ _ n _ _ => some (.int .i64 n, H)
    | _ => none
  | .lenT x => match ev s x with
    | .str b => some (.int .i64 b.length, H)
    | _ => none
  | .lenM x => match ev s x with
    | .nilm => some (.int .i64 0, H)
    | .map o => (mapAt H o).map fun es => (.int .i64 es.length, H)
    | _ => none
  | .min xs => (amm false (evs s xs)).map (·, H)
  | .max xs => (amm true (evs s xs)).map (·, H)
  | .copy _ _ _ => none
  | .del _ _ => none
  | .mkF f cs => some (.fn f (evs s cs), H)
  | .mkI t x => some (.ifc t (ev s x), H)

def wanted (s : Sl) (o : SO) : Bool :=
  match o.guard with
  | none => true
  | some (some t, w) => match gt s t with
    | .bool b => b == w
    | _ => false
  | some (none, _) => false

def isCall : K → Bool
  | .callF .. | .callV .. => true
  | _ => false

def nocall : Call := fun _ _ _ => none

abbrev PT := FuncId → List AV → AH → (AV → AH → Prop) → Prop

def Wcall (c : PT) (s : Sl) (H : AH) (R : AV → AH → Prop) : K → Prop
  | .callF f xs => c f (evs s xs) H R
  | .callV f xs => match ev s f with
    | .fn g cs => c g (evs s xs ++ cs) H R
    | _ => False
  | _ => False

def Wop (c : PT) (s : Sl) (H : AH) (k : K) (R : AV → AH → Prop) : Prop :=
  if isCall k then Wcall c s H R k else match aop nocall s H k with
    | some (v, H') => R v H'
    | none => False

def Wops (c : PT) : List SO → Sl → AH → (Sl → AH → Prop) → Prop
  | [], s, H, R => R s H
  | o :: l, s, H, R => if wanted s o then Wop c s H o.k fun v H' => Wops c l (pt s o.dst v) H' R else Wops c l (pt s o.dst (.tup [])) H R

def rvs (s : Sl) (H : AH) : List RV → Option (List AV)
  | [] => some []
  | .t i :: r => (rvs s H r).map (gt s i :: ·)
  | .cell1 i :: r => match gt s i with
    | .ptr o off => match rowAt H o with
      | some l => match l[off]? with
        | some v => (rvs s H r).map (v :: ·)
        | none => none
      | none => none
    | _ => none
  | .cellA i n :: r => match gt s i with
    | .ptr o off => match rowAt H o with
      | some l => if off + n ≤ l.length then (rvs s H r).map (.agg ((l.drop off).take n) :: ·) else none
      | none => none
    | _ => none

def retOf : List AV → AV
  | [v] => v
  | l => .tup l

inductive FnD where
  | code (f : FnC)
  | prim (g : PT → List AV → AH → (AV → AH → Prop) → Prop)

abbrev Env := FuncId → Option FnD

def initOf (F : FnC) (xs : List AV) : Sl := xs ++ List.replicate (F.n - xs.length) (.tup [])

def bodyR (F : FnC) (R : AV → AH → Prop) : Ex → Sl → AH → Prop
  | .exit _, _, _ => False
  | _, s, H => match rvs s H F.res with
    | some vs => R (retOf vs) H
    | none => False

def then_ (K : Sl → AH → Prop) (Q : Ex → Sl → AH → Prop) : Ex → Sl → AH → Prop
  | .normal, s, H => K s H
  | e, s, H => Q e s H

def blk (id : Nat) (Q : Ex → Sl → AH → Prop) : Ex → Sl → AH → Prop
  | .exit j, s, H => if j = id then Q .normal s H else Q (.exit j) s H
  | e, s, H => Q e s H

def W (E : Env) : Nat → C → Sl → AH → (Ex → Sl → AH → Prop) → Prop
  | 0, _, _, _, _ => False
  | k + 1, c, s, H, Q =>
    match c with
    | .skip => Q .normal s H
    | .reg ls => ls ≠ [] ∧ ∀ l ∈ ls, Wops (fun f xs H R => match E f with
        | some (.prim g) => g (fun f xs H R => match E f with | some (.code F) => W E k F.body (initOf F xs) H (bodyR F R) | _ => False) xs H R
        | some (.code F) => W E k F.body (initOf F xs) H (bodyR F R)
        | none => False) l s H fun s' H' => Q .normal s' H'
    | .seq a b => W E k a s H (then_ (fun s' H' => W E k b s' H' Q) Q)
    | .cond c a b => match ev s c with
      | .bool t => W E k (if t then a else b) s H Q
      | _ => False
    | .block id b => W E k b s H (blk id Q)
    | .loop b => W E k b s H (then_ (fun s' H' => W E k (.loop b) s' H' Q) Q)
    | .exit id => Q (.exit id) s H
    | .ret => Q .ret s H

def Wc (E : Env) (k : Nat) : PT := fun f xs H R => match E f with
  | some (.code F) => W E k F.body (initOf F xs) H (bodyR F R)
  | _ => False

def Wp (E : Env) (k : Nat) : PT := fun f xs H R => match E f with
  | some (.prim g) => g (Wc E k) xs H R
  | some (.code F) => W E k F.body (initOf F xs) H (bodyR F R)
  | none => False

end Go.AM
namespace Go.AM

structure Loc where
  b : Nat
  base : Nat
  len : Nat
  tot : Nat
  own : Bool

abbrev RL := List Loc

mutual
def VR (ρ : RL) : AV → Value → Prop
  | .int k n, v => v = .int k n
  | .bool b, v => v = .bool b
  | .str s, v => v = .string ⟨s.toArray⟩
  | .nilp, v => v = .pointer none
  | .nils, v => v = .slice none 0 0
  | .nilm, v => v = .map none
  | .nilf, v => v = .nilFunc
  | .nili, v => v = .nilIface
  | .ptr o off, v => ∃ l, ρ[o]? = some l ∧ v = .pointer (some ⟨l.b, l.base + off, none⟩)
  | .sli o off len sz c, v => ∃ l a cap, ρ[o]? = some l ∧ v = .slice (some a) len cap ∧ len ≤ cap ∧ (cap ≠ 0 → a = ⟨l.b, l.base + off, none⟩) ∧
      (∀ c', c = some c' → cap = c') ∧ (c = none → l.own = true → l.len ≤ off + cap * sz) ∧ (l.own = true → l.base + off + cap * sz ≤ l.tot)
  | .map o, v => ∃ l, ρ[o]? = some l ∧ v = .map (some l.b)
  | .fn f caps, v => ∃ cs, v = .func (.func f) #[] ⟨cs⟩ ∧ VRs ρ caps cs
  | .ifc t x, v => ∃ y, v = .iface t y ∧ VR ρ x y
  | .agg l, v => ∃ cs, v = .agg ⟨cs⟩ ∧ VRs ρ l cs
  | .tup l, v => ∃ cs, v = .tuple ⟨cs⟩ ∧ VRs ρ l cs
def VRs (ρ : RL) : List AV → List Value → Prop
  | [], vs => vs = []
  | x :: xs, vs => ∃ v r, vs = v :: r ∧ VR ρ x v ∧ VRs ρ xs r
end

theorem VRs_nil {ρ : RL} {vs : List Value} : VRs ρ [] vs ↔ vs = [] := by simp [VRs]
theorem VRs_cons {ρ : RL} {x : AV} {xs : List AV} {vs : List Value} : VRs ρ (x :: xs) vs ↔ ∃ v r, vs = v :: r ∧ VR ρ x v ∧ VRs ρ xs r := by simp [VRs]

theorem VRs.length {ρ : RL} : ∀ {xs : List AV} {vs : List Value}, VRs ρ xs vs → vs.length = xs.length
  | [], _, h => by rw [VRs_nil] at h; simp [h]
  | _ :: xs, _, h => by
    rw [VRs_cons] at h
    obtain ⟨v, r, rfl, _, h⟩ := h
    simp [VRs.length h]

theorem VRs_iff {ρ : RL} : ∀ {xs : List AV} {vs : List Value}, VRs ρ xs vs ↔ vs.length = xs.length ∧ ∀ (i : Nat) (x : AV), xs[i]? = some x → ∃ v, vs[i]? = some v ∧ VR ρ x v
  | [], vs => by
    rw [VRs_nil]
    constructor
    · rintro rfl; simp
    · intro h; exact List.eq_nil_of_length_eq_zero h.1
  | x :: xs, vs => by
    rw [VRs_cons]
    constructor
    · rintro ⟨v, r, rfl, h, hs⟩
      rw [VRs_iff] at hs
      refine ⟨by simp [hs.1], ?_⟩
      intro i y hy
      cases i with
      | zero => simp at hy; subst hy; exact ⟨v, rfl, h⟩
      | succ i => simp at hy; simpa using hs.2 i y hy
    · rintro ⟨hl, h⟩
      cases vs with
      | nil => simp at hl
      | cons v r =>
        obtain ⟨v', hv', hr⟩ := h 0 x rfl
        simp at hv'; subst hv'
        refine ⟨v, r, rfl, hr, VRs_iff.2 ⟨by simpa using hl, fun i y hy => ?_⟩⟩
        simpa using h (i + 1) y (by simpa using hy)

theorem VRs.get {ρ : RL} {xs : List AV} {vs : List Value} (h : VRs ρ xs vs) {i : Nat} {x : AV} (hx : xs[i]? = some x) : ∃ v, vs[i]? = some v ∧ VR ρ x v :=
  (VRs_iff.1 h).2 i x hx

theorem VRs.append {ρ : RL} {xs ys : List AV} {vs us : List Value} (h : VRs ρ xs vs) (k : VRs ρ ys us) : VRs ρ (xs ++ ys) (vs ++ us) := by
  induction xs generalizing vs with
  | nil => rw [VRs_nil] at h; subst h; simpa using k
  | cons x xs ih =>
    rw [VRs_cons] at h
    obtain ⟨v, r, rfl, hv, hs⟩ := h
    exact VRs_cons.2 ⟨v, r ++ us, rfl, hv, ih hs⟩

theorem VRs.set {ρ : RL} {xs : List AV} {vs : List Value} (h : VRs ρ xs vs) (i : Nat) {x : AV} {v : Value} (hx : VR ρ x v) : VRs ρ (xs.set i x) (vs.set i v) := by
  induction xs generalizing vs i with
  | nil => rw [VRs_nil] at h; subst h; simp [VRs]
  | cons y ys ih =>
    rw [VRs_cons] at h
    obtain ⟨u, r, rfl, hu, hs⟩ := h
    cases i with
    | zero => exact VRs_cons.2 ⟨v, r, rfl, hx, hs⟩
    | succ i => exact VRs_cons.2 ⟨u, r.set i v, rfl, hu, ih hs i⟩

theorem VRs.take {ρ : RL} {xs : List AV} {vs : List Value} (h : VRs ρ xs vs) (n : Nat) : VRs ρ (xs.take n) (vs.take n) := by
  induction xs generalizing vs n with
  | nil => rw [VRs_nil] at h; subst h; simp [VRs]
  | cons y ys ih =>
    rw [VRs_cons] at h
    obtain ⟨u, r, rfl, hu, hs⟩ := h
    cases n with
    | zero => simp [VRs]
    | succ n => exact VRs_cons.2 ⟨u, r.take n, rfl, hu, ih hs n⟩

theorem VRs.drop {ρ : RL} {xs : List AV} {vs : List Value} (h : VRs ρ xs vs) (n : Nat) : VRs ρ (xs.drop n) (vs.drop n) := by
  induction xs generalizing vs n with
  | nil => rw [VRs_nil] at h; subst h; simp [VRs]
  | cons y ys ih =>
    rw [VRs_cons] at h
    obtain ⟨u, r, rfl, hu, hs⟩ := h
    cases n with
    | zero => exact VRs_cons.2 ⟨u, r, rfl, hu, hs⟩
    | succ n => exact ih hs n

theorem VRs.replicate {ρ : RL} {x : AV} {v : Value} (h : VR ρ x v) (n : Nat) : VRs ρ (List.replicate n x) (List.replicate n v) := by
  induction n with
  | zero => simp [VRs]
  | succ n ih => exact VRs_cons.2 ⟨v, _, rfl, h, ih⟩

theorem VRs.splice {ρ : RL} {xs ys : List AV} {vs us : List Value} (h : VRs ρ xs vs) (k : VRs ρ ys us) (i : Nat) :
    VRs ρ (splice xs i ys) (vs.take i ++ us ++ vs.drop (i + us.length)) := by
  unfold AM.splice
  rw [k.length]
  exact ((h.take i).append k).append (h.drop _)

def Ext (ρ ρ' : RL) : Prop := ∃ t, ρ' = ρ ++ t
theorem Ext.refl (ρ : RL) : Ext ρ ρ := ⟨[], by simp⟩
theorem Ext.trans {a b c : RL} (h : Ext a b) (k : Ext b c) : Ext a c := by
  obtain ⟨t, rfl⟩ := h
  obtain ⟨u, rfl⟩ := k
  exact ⟨t ++ u, by simp⟩
theorem Ext.get {ρ ρ' : RL} (h : Ext ρ ρ') {o : Nat} {l : Loc} (hl : ρ[o]? = some l) : ρ'[o]? = some l := by
  obtain ⟨t, rfl⟩ := h
  rw [List.getElem?_append_left (by exact (List.getElem?_eq_some_iff.1 hl).1)]
  exact hl
theorem Ext.one (ρ : RL) (l : Loc) : Ext ρ (ρ ++ [l]) := ⟨[l], rfl⟩

mutual
theorem VR.mono {ρ ρ' : RL} (e : Ext ρ ρ') : ∀ (x : AV) (v : Value), VR ρ x v → VR ρ' x v
  | .int _ _, _, h => by simpa [VR] using h
  | .bool _, _, h => by simpa [VR] using h
  | .str _, _, h => by simpa [VR] using h
  | .nilp, _, h => by simpa [VR] using h
  | .nils, _, h => by simpa [VR] using h
  | .nilm, _, h => by simpa [VR] using h
  | .nilf, _, h => by simpa [VR] using h
  | .nili, _, h => by simpa [VR] using h
  | .ptr o off, v, h => by
    simp only [VR] at h ⊢
    obtain ⟨l, hl, hv⟩ := h
    exact ⟨l, e.get hl, hv⟩
  | .sli o off len sz c, v, h => by
    simp only [VR] at h ⊢
    obtain ⟨l, a, cap, hl, hv⟩ := h
    exact ⟨l, a, cap, e.get hl, hv⟩
  | .map o, v, h => by
    simp only [VR] at h ⊢
    obtain ⟨l, hl, hv⟩ := h
    exact ⟨l, e.get hl, hv⟩
  | .fn f caps, v, h => by
    simp only [VR] at h ⊢
    obtain ⟨cs, hv, hs⟩ := h
    exact ⟨cs, hv, VRs.mono e caps cs hs⟩
  | .ifc t x, v, h => by
    simp only [VR] at h ⊢
    obtain ⟨y, hv, hs⟩ := h
    exact ⟨y, hv, VR.mono e x y hs⟩
  | .agg l, v, h => by
    simp only [VR] at h ⊢
    obtain ⟨cs, hv, hs⟩ := h
    exact ⟨cs, hv, VRs.mono e l cs hs⟩
  | .tup l, v, h => by
    simp only [VR] at h ⊢
    obtain ⟨cs, hv, hs⟩ := h
    exact ⟨cs, hv, VRs.mono e l cs hs⟩
theorem VRs.mono {ρ ρ' : RL} (e : Ext ρ ρ') : ∀ (xs : List AV) (vs : List Value), VRs ρ xs vs → VRs ρ' xs vs
  | [], _, h => by simpa [VRs] using h
  | x :: xs, vs, h => by
    simp only [VRs] at h ⊢
    obtain ⟨v, r, hv, hx, hs⟩ := h
    exact ⟨v, r, hv, VR.mono e x v hx, VRs.mono e xs r hs⟩
end

theorem VR.cells {ρ : RL} {x : AV} {v : Value} (h : VR ρ x v) : VRs ρ x.cells v.cells.toList := by
  cases x with
  | agg l =>
    simp only [VR] at h
    obtain ⟨cs, rfl, h⟩ := h
    simpa [AV.cells, Value.cells] using h
  | _ =>
    all_goals
      have h0 := h
      simp only [VR] at h
      simp only [AV.cells]
      refine VRs_cons.2 ⟨v, [], ?_, h0, by simp [VRs]⟩
      first
        | (subst h; rfl)
        | (obtain ⟨_, _, _, _, rfl, _⟩ := h; rfl)
        | (obtain ⟨_, rfl, _⟩ := h; rfl)
        | (obtain ⟨_, _, rfl⟩ := h; rfl)

theorem VR.oneCell {ρ : RL} {x : AV} {v : Value} (h : VR ρ x v) (hs : x.scalar = true) : v.oneCell' = true := by
  cases x with
  | agg l => simp [AV.scalar] at hs
  | tup l => simp [AV.scalar] at hs
  | _ =>
    all_goals
      simp only [VR] at h
      first
        | (subst h; rfl)
        | (obtain ⟨_, _, _, _, rfl, _⟩ := h; rfl)
        | (obtain ⟨_, rfl, _⟩ := h; rfl)
        | (obtain ⟨_, _, rfl⟩ := h; rfl)

theorem VRs.oneCell {ρ : RL} : ∀ {xs : List AV} {vs : List Value}, VRs ρ xs vs → xs.all AV.scalar = true → ∀ v ∈ vs, v.oneCell' = true
  | [], vs, h, _ => by rw [VRs_nil] at h; subst h; simp
  | x :: xs, vs, h, hs => by
    rw [VRs_cons] at h
    obtain ⟨v, r, rfl, hv, hr⟩ := h
    simp only [List.all_cons, Bool.and_eq_true] at hs
    intro u hu
    cases hu with
    | head => exact hv.oneCell hs.1
    | tail _ hu => exact VRs.oneCell hr hs.2 u hu

def PR (ρ : RL) : List (AV × AV) → List MapEntry → Prop
  | [], ms => ms = []
  | p :: ps, ms => ∃ m r, ms = m :: r ∧ VR ρ p.1 m.key ∧ VR ρ p.2 m.val ∧ PR ρ ps r

theorem PR.mono {ρ ρ' : RL} (e : Ext ρ ρ') : ∀ {ps : List (AV × AV)} {ms : List MapEntry}, PR ρ ps ms → PR ρ' ps ms
  | [], _, h => by simpa [PR] using h
  | p :: ps, ms, h => by
    simp only [PR] at h ⊢
    obtain ⟨m, r, hm, h1, h2, h3⟩ := h
    exact ⟨m, r, hm, VR.mono e _ _ h1, VR.mono e _ _ h2, PR.mono e h3⟩

structure RowIn (ρ : RL) (w : World) (l : Loc) (cells : List AV) : Prop where
  len : cells.length = l.len
  blk : ∃ C e fr, w.heap[l.b]? = some (.cells C e fr) ∧ l.base + l.len ≤ C.size ∧ VRs ρ cells ((C.toList.drop l.base).take l.len) ∧ (l.own = true → C.size = l.tot ∧ fr = (0, 0))

def ObjIn (ρ : RL) (w : World) (l : Loc) : AO → Prop
  | .row cells own => own = l.own ∧ cells.length = l.len ∧ (own = true ∨ cells ≠ [] → RowIn ρ w l cells)
  | .mp es => l.own = true ∧ ∃ ms clock, w.heap[l.b]? = some (.map ms clock) ∧ PR ρ es ms.toList
  | .dead => True

def AO.live : AO → Bool
  | .dead => false
  | .row cells own => own || !cells.isEmpty
  | .mp _ => true

theorem live_row {cells : List AV} {own : Bool} : (AO.row cells own).live = true ↔ (own = true ∨ cells ≠ []) := by
  cases own <;> cases cells <;> simp [AO.live]

structure RH (B : Nat) (ρ : RL) (H : AH) (w : World) : Prop where
  len : ρ.length = H.length
  base : B ≤ w.heap.size
  ok : ∀ (o : Nat) (a : AO) (l : Loc), H[o]? = some a → ρ[o]? = some l → ObjIn ρ w l a
  own : ∀ (o : Nat) (a : AO) (l : Loc), H[o]? = some a → a.live = true → ρ[o]? = some l → l.own = true → B ≤ l.b
  sep : ∀ (o : Nat) (a : AO) (l : Loc) (o' : Nat) (a' : AO) (l' : Loc), o ≠ o' → H[o]? = some a → a.live = true → ρ[o]? = some l → l.own = true → H[o']? = some a' → a'.live = true → ρ[o']? = some l' → l.b ≠ l'.b

theorem ObjIn.lt {ρ : RL} {w : World} {l : Loc} {a : AO} (h : ObjIn ρ w l a) (hl : a.live = true) : l.b < w.heap.size := by
  cases a with
  | dead => simp [AO.live] at hl
  | row cells own =>
    obtain ⟨_, _, h⟩ := h
    obtain ⟨_, C, e, fr, hb, _⟩ := h (live_row.1 hl)
    exact (Array.getElem?_eq_some_iff.1 hb).1
  | mp es =>
    obtain ⟨_, ms, clock, hb, _⟩ := h
    exact (Array.getElem?_eq_some_iff.1 hb).1

theorem ObjIn.mono {ρ ρ' : RL} (e : Ext ρ ρ') {w w' : World} {l : Loc} {a : AO} (h : ObjIn ρ w l a) (hb : a.live = true → w'.heap[l.b]? = w.heap[l.b]?) : ObjIn ρ' w' l a := by
  cases a with
  | dead => trivial
  | row cells own =>
    obtain ⟨h1, h2, h⟩ := h
    refine ⟨h1, h2, fun hl => ?_⟩
    obtain ⟨_, C, el, fr, h3, h4, h5, h6⟩ := h hl
    exact ⟨h2, C, el, fr, by rw [hb (live_row.2 hl)]; exact h3, h4, VRs.mono e _ _ h5, h6⟩
  | mp es =>
    obtain ⟨h1, ms, clock, h3, h4⟩ := h
    exact ⟨h1, ms, clock, by rw [hb rfl]; exact h3, PR.mono e h4⟩

theorem ObjIn.ownRow {ρ : RL} {w : World} {l : Loc} {cells : List AV} (h : ObjIn ρ w l (.row cells true)) : true = l.own ∧ RowIn ρ w l cells := ⟨h.1, h.2.2 (.inl rfl)⟩

theorem RH.get {B : Nat} {ρ : RL} {H : AH} {w : World} (h : RH B ρ H w) {o : Nat} {a : AO} (ha : H[o]? = some a) : ∃ l, ρ[o]? = some l ∧ ObjIn ρ w l a := by
  have : o < ρ.length := by rw [h.len]; exact (List.getElem?_eq_some_iff.1 ha).1
  exact ⟨ρ[o], List.getElem?_eq_getElem this, h.ok o a _ ha (List.getElem?_eq_getElem this)⟩

theorem RH.world {B : Nat} {ρ : RL} {H : AH} {w w' : World} (h : RH B ρ H w) (hs : w.heap.size ≤ w'.heap.size)
    (hb : ∀ (o : Nat) (a : AO) (l : Loc), H[o]? = some a → a.live = true → ρ[o]? = some l → w'.heap[l.b]? = w.heap[l.b]?) : RH B ρ H w' :=
  ⟨h.len, Nat.le_trans h.base hs, fun o a l ha hl => (h.ok o a l ha hl).mono (Ext.refl _) (fun hv => hb o a l ha hv hl), h.own, h.sep⟩

theorem heap_alloc_lt (w : World) (o : Obj) {k : Nat} (h : k < w.heap.size) : (w.alloc o).heap[k]? = w.heap[k]? := by
  show (w.heap.push o)[k]? = _
  rw [Array.getElem?_push, if_neg (by omega)]

theorem heap_alloc_at (w : World) (o : Obj) : (w.alloc o).heap[w.heap.size]? = some o := by
  show (w.heap.push o)[w.heap.size]? = _
  rw [Array.getElem?_push, if_pos rfl]

theorem RH.alloc {B : Nat} {ρ : RL} {H : AH} {w : World} (h : RH B ρ H w) (x : Obj) (a : AO) (l : Loc) (hl : l.b = w.heap.size)
    (ho : ObjIn (ρ ++ [l]) (w.alloc x) l a) : RH B (ρ ++ [l]) (AM.alloc H a) (w.alloc x) := by
  have e : Ext ρ (ρ ++ [l]) := Ext.one _ _
  have lt : ∀ (o : Nat) (a : AO) (l : Loc), H[o]? = some a → a.live = true → ρ[o]? = some l → l.b < w.heap.size := fun o a l ha hv hl => (h.ok o a l ha hl).lt hv
  have old : ∀ (o : Nat) (a' : AO) (l' : Loc), (AM.alloc H a)[o]? = some a' → (ρ ++ [l])[o]? = some l' → (H[o]? = some a' ∧ ρ[o]? = some l') ∨ (o = H.length ∧ a' = a ∧ l' = l) := by
    intro o a' l' ha hl'
    unfold AM.alloc at ha
    rcases Nat.lt_or_ge o H.length with ho' | ho'
    · rw [List.getElem?_append_left ho'] at ha
      rw [List.getElem?_append_left (by rw [h.len]; exact ho')] at hl'
      exact .inl ⟨ha, hl'⟩
    · have hlt := (List.getElem?_eq_some_iff.1 ha).1
      simp at hlt
      have : o = H.length := by omega
      subst this
      rw [List.getElem?_append_right (Nat.le_refl _)] at ha
      rw [← h.len, List.getElem?_append_right (Nat.le_refl _)] at hl'
      simp at ha hl'
      exact .inr ⟨rfl, ha.symm, hl'.symm⟩
  refine ⟨by simp [AM.alloc, h.len], ?_, ?_, ?_, ?_⟩
  · have := h.base
    simp
    omega
  · intro o a' l' ha hl'
    rcases old o a' l' ha hl' with ⟨h1, h2⟩ | ⟨_, rfl, rfl⟩
    · exact (h.ok o a' l' h1 h2).mono e (fun hv => heap_alloc_lt _ _ (lt o a' l' h1 hv h2))
    · exact ho
  · intro o a' l' ha hv hl' hown
    rcases old o a' l' ha hl' with ⟨h1, h2⟩ | ⟨_, rfl, rfl⟩
    · exact h.own o a' l' h1 hv h2 hown
    · rw [hl]; exact h.base
  · intro o a1 l1 o' a2 l2 hne h1 v1 r1 w1 h2 v2 r2
    rcases old o a1 l1 h1 r1 with ⟨p1, q1⟩ | ⟨rfl, rfl, rfl⟩
    · rcases old o' a2 l2 h2 r2 with ⟨p2, q2⟩ | ⟨rfl, rfl, rfl⟩
      · exact h.sep o a1 l1 o' a2 l2 hne p1 v1 q1 w1 p2 v2 q2
      · have := lt o a1 l1 p1 v1 q1
        rw [hl]; omega
    · rcases old o' a2 l2 h2 r2 with ⟨p2, q2⟩ | ⟨rfl, _, _⟩
      · have := lt o' a2 l2 p2 v2 q2
        rw [hl]; omega
      · exact (hne rfl).elim

theorem RH.set {B : Nat} {ρ : RL} {H : AH} {w w' : World} (h : RH B ρ H w) {o : Nat} {a a' : AO} {l : Loc} (ha : H[o]? = some a) (hl : ρ[o]? = some l)
    (hv : a.live = true) (hown : l.own = true) (hs : w'.heap.size = w.heap.size) (hb : ∀ k, k ≠ l.b → w'.heap[k]? = w.heap[k]?) (ho : ObjIn ρ w' l a') : RH B ρ (H.set o a') w' := by
  have old : ∀ (o' : Nat) (x : AO), (H.set o a')[o']? = some x → (o' = o ∧ x = a') ∨ (o' ≠ o ∧ H[o']? = some x) := by
    intro o' x hx
    rw [List.getElem?_set] at hx
    split at hx
    · rename_i e
      split at hx
      · exact .inl ⟨e.symm, by simpa using hx.symm⟩
      · simp at hx
    · rename_i e
      exact .inr ⟨fun q => e q.symm, hx⟩
  refine ⟨by simp [h.len], by rw [hs]; exact h.base, ?_, ?_, ?_⟩
  · intro o' x l' hx hl'
    rcases old o' x hx with ⟨rfl, rfl⟩ | ⟨hne, hx⟩
    · rw [hl] at hl'
      cases hl'
      exact ho
    · exact (h.ok o' x l' hx hl').mono (Ext.refl _) (fun hvx => hb _ (Ne.symm (h.sep o a l o' x l' (Ne.symm hne) ha hv hl hown hx hvx hl')))
  · intro o' x l' hx hvx hl' ho'
    rcases old o' x hx with ⟨rfl, rfl⟩ | ⟨hne, hx⟩
    · rw [hl] at hl'
      cases hl'
      exact h.own o' a l ha hv hl hown
    · exact h.own o' x l' hx hvx hl' ho'
  · intro o1 a1 l1 o2 a2 l2 hne h1 v1 r1 w1 h2 v2 r2
    rcases old o1 a1 h1 with ⟨rfl, rfl⟩ | ⟨n1, g1⟩
    · rw [hl] at r1
      cases r1
      rcases old o2 a2 h2 with ⟨rfl, _⟩ | ⟨n2, g2⟩
      · exact (hne rfl).elim
      · exact h.sep o1 a l o2 a2 l2 hne ha hv hl hown g2 v2 r2
    · rcases old o2 a2 h2 with ⟨rfl, rfl⟩ | ⟨n2, g2⟩
      · rw [hl] at r2
        cases r2
        exact h.sep o1 a1 l1 o2 a l hne g1 v1 r1 w1 ha hv hl
      · exact h.sep o1 a1 l1 o2 a2 l2 hne g1 v1 r1 w1 g2 v2 r2

theorem RH.kill {B : Nat} {ρ : RL} {H : AH} {w : World} (h : RH B ρ H w) (o : Nat) : RH B ρ (H.set o .dead) w := by
  have old : ∀ (o' : Nat) (x : AO), (H.set o .dead)[o']? = some x → x.live = true → H[o']? = some x := by
    intro o' x hx hv
    rw [List.getElem?_set] at hx
    split at hx
    · split at hx
      · simp at hx; subst hx; simp [AO.live] at hv
      · simp at hx
    · exact hx
  refine ⟨by simp [h.len], h.base, ?_, fun o' x l' hx hv => h.own o' x l' (old _ _ hx hv) hv, fun o1 a1 l1 o2 a2 l2 hne h1 v1 r1 w1 h2 v2 r2 => h.sep o1 a1 l1 o2 a2 l2 hne (old _ _ h1 v1) v1 r1 w1 (old _ _ h2 v2) v2 r2⟩
  intro o' x l' hx hl'
  cases hv : x.live with
  | true => exact h.ok o' x l' (old _ _ hx hv) hl'
  | false =>
    rw [List.getElem?_set] at hx
    split at hx
    · split at hx
      · simp at hx; subst hx; trivial
      · simp at hx
    · exact h.ok o' x l' hx hl'

end Go.AM
namespace Go.AM

def absS : Value → Option AV
  | .int k n => some (.int k n)
  | .bool b => some (.bool b)
  | .string s => some (.str s.data.toList)
  | .pointer none => some .nilp
  | .slice none 0 0 => some .nils
  | .map none => some .nilm
  | .nilFunc => some .nilf
  | .nilIface => some .nili
  | _ => none

def absL : List Value → Option (List AV)
  | [] => some []
  | v :: r => match absS v, absL r with
    | some x, some xs => some (x :: xs)
    | _, _ => none

def absV : Value → Option AV
  | .agg cs => (absL cs.toList).map .agg
  | .tuple cs => (absL cs.toList).map .tup
  | v => absS v

theorem VR_absS {ρ : RL} {v : Value} {x : AV} (h : absS v = some x) : VR ρ x v := by
  unfold absS at h
  split at h <;> simp at h <;> subst h <;> simp [VR]

theorem VRs_absL {ρ : RL} : ∀ {vs : List Value} {xs : List AV}, absL vs = some xs → VRs ρ xs vs
  | [], _, h => by simp [absL] at h; subst h; simp [VRs]
  | v :: r, _, h => by
    unfold absL at h
    split at h
    · rename_i x xs h1 h2
      simp at h; subst h
      exact VRs_cons.2 ⟨v, r, rfl, VR_absS h1, VRs_absL h2⟩
    · simp at h

theorem VR_absV {ρ : RL} {v : Value} {x : AV} (h : absV v = some x) : VR ρ x v := by
  unfold absV at h
  split at h
  · rename_i cs
    cases hl : absL cs.toList with
    | none => simp [hl] at h
    | some l =>
      simp [hl] at h; subst h
      simp only [VR]
      exact ⟨cs.toList, by simp, VRs_absL hl⟩
  · rename_i cs
    cases hl : absL cs.toList with
    | none => simp [hl] at h
    | some l =>
      simp [hl] at h; subst h
      simp only [VR]
      exact ⟨cs.toList, by simp, VRs_absL hl⟩
  · exact VR_absS h

def cod : Operand → Option Od
  | .tmp t => some (.t t)
  | .const v => (absV v).map .c
  | .func f => some (.c (.fn f []))
  | .global _ => none

def cods : List Operand → Option (List Od)
  | [] => some []
  | x :: r => match cod x, cods r with
    | some y, some ys => some (y :: ys)
    | _, _ => none

def codo : Option Operand → Option (Option Od)
  | none => some none
  | some x => (cod x).map some

theorem VR_gt {ρ : RL} {s : Sl} {tm : Array Value} (hs : VRs ρ s tm.toList) (i : Nat) : VR ρ (gt s i) (tm.getD i undef) := by
  unfold gt
  rw [List.getD_eq_getElem?_getD]
  cases h : s[i]? with
  | none =>
    have hl := hs.length
    have : ¬ i < s.length := fun hh => by rw [List.getElem?_eq_getElem hh] at h; cases h
    have h2 : ¬ i < tm.size := by rw [← Array.length_toList, hl]; exact this
    simp [h2, VR, VRs, undef, Array.getElem?_eq_none (Nat.le_of_not_lt h2)]
  | some x =>
    obtain ⟨v, hv, hx⟩ := hs.get h
    rw [Array.getElem?_toList] at hv
    simp [hv, hx]

theorem VR_ev {ρ : RL} {s : Sl} {a : Act} (hs : VRs ρ s a.tmps.toList) {x : Operand} {y : Od} (h : cod x = some y) : VR ρ (ev s y) (a.eval x) := by
  cases x with
  | tmp t => simp [cod] at h; subst h; exact VR_gt hs t
  | const v =>
    simp [cod] at h
    obtain ⟨z, hz, rfl⟩ := h
    exact VR_absV hz
  | func f => simp [cod] at h; subst h; simp [ev, VR, VRs, Act.eval]
  | global g => simp [cod] at h

theorem VRs_evs {ρ : RL} {s : Sl} {a : Act} (hs : VRs ρ s a.tmps.toList) : ∀ {xs : List Operand} {ys : List Od}, cods xs = some ys → VRs ρ (evs s ys) (xs.map a.eval)
  | [], _, h => by simp [cods] at h; subst h; simp [evs, VRs]
  | x :: r, _, h => by
    unfold cods at h
    split at h
    · rename_i y ys h1 h2
      simp at h; subst h
      exact VRs_cons.2 ⟨_, _, rfl, VR_ev hs h1, VRs_evs hs h2⟩
    · simp at h

def zcells (P : Program) (t : TypeId) : Option (List AV) :=
  match P.info? t with
  | some i => match i.zero with
    | some z => (absV z).map AV.cells
    | none => none
  | none => none

def isAggD : TypeDesc → Bool
  | .struct _ | .array _ _ => true
  | _ => false

def cparts (place : Nat → Option (Nat × Nat)) : List (Nat × Operand) → Option (List (Nat × Nat × Od))
  | [] => some []
  | (i, x) :: r => match place i, cod x, cparts place r with
    | some (off, n), some y, some ys => some ((off, n, y) :: ys)
    | _, _, _ => none

def psize (P : Program) (t : TypeId) : Option (Option Nat) :=
  match P.underlying t, P.info? t with
  | some d, some i => some (if isAggD d then some i.size else none)
  | _, _ => none

def fplace (P : Program) (fs : Array Field) (i : Nat) : Option (Nat × Nat) :=
  match fs[i]? with
  | some f => (P.info? f.type).map fun j => (f.offset, j.size)
  | none => none

def kkind : TypeDesc → Option KK
  | .int _ => some .int
  | .string => some .str
  | .bool => some .bool
  | _ => none

def ckind (P : Program) (t : TypeId) : Option KK :=
  match P.underlying t with
  | some d => kkind d
  | none => none

def eqk : TypeDesc → Option EqK
  | .bool => some .bool
  | .slice _ => some .sl
  | .pointer _ => some .pt
  | .map _ _ => some .mp
  | .func _ _ _ => some .fn
  | _ => none

def cop (P : Program) : Op → Option K
  | .move x | .assign x => (cod x).map .mv
  | .pick c a b => match cod c, cod a, cod b with
    | some c, some a, some b => some (.pick c a b)
    | _, _, _ => none
  | .alloc t => (zcells P t).map .alloc
  | .box _ x => (cod x).map .box
  | .build t ps => match P.underlying t, zcells P t with
    | some (.struct fs), some z => if fs.all (fun f => (P.info? f.type).isSome) then (cparts (fplace P fs) ps.toList).map (.build z) else none
    | some (.array _ e), some z => match P.info? e with
      | some i => (cparts (fun j => some (j * i.size, i.size)) ps.toList).map (.build z)
      | none => none
    | _, _ => none
  | .buildSlice t len ps => match P.underlying t with
    | some (.slice e) => match P.info? e, zcells P e with
      | some i, some z => if len * i.size ≤ 16777216 ∧ z.length = i.size ∧ 0 < i.size then (cparts (fun j => some (j * i.size, i.size)) ps.toList).map (.lit (zrow z len) i.size len) else none
      | _, _ => none
    | _ => none
  | .load t x => match psize P t, cod x with
    | some none, some x => some (.load1 x)
    | some (some n), some x => some (.loadA n x)
    | _, _ => none
  | .store t x y => match P.info? t, cod x, cod y with
    | some i, some x, some y => some (.store i.size x y)
    | _, _, _ => none
  | .nilCheck x => (cod x).map .chk
  | .binOp op t x y _ => match cod x, cod y, P.underlying t with
    | some x, some y, some d => match op, d with
      | .eql, d => match eqk d with
        | some e => some (.eqv e false x y)
        | none => some (.bin op x y)
      | .neq, d => match eqk d with
        | some e => some (.eqv e true x y)
        | none => some (.bin op x y)
      | op, _ => some (.bin op x y)
    | _, _, _ => none
  | .unOp op _ x => (cod x).map (.un op)
  | .convert src dst x => match P.underlying src, P.underlying dst, cod x with
    | some _, some (.int k), some x => some (.convI k x)
    | some (.slice e), some .string, some x => match P.underlying e with
      | some (.int .u8) => some (.convS x)
      | _ => none
    | some _, some .string, some x => some (.same x)
    | _, _, _ => none
  | .makeSlice t l c => match P.underlying t with
    | some (.slice e) => match P.info? e, zcells P e, cod l, cod c with
      | some i, some z, some l, some c => if z.length = i.size ∧ 0 < i.size then some (.mkS z i.bytes l c) else none
      | _, _, _, _ => none
    | _ => none
  | .makeMap _ none => some .mkM
  | .slice t x lo hi mx => match P.underlying t, cod x, codo lo, codo hi, codo mx with
    | some (.slice e), some x, some lo, some hi, some mx => match P.info? e with
      | some i => if mx.isSome && hi.isNone then none else some (.slS i.size x lo hi mx)
      | none => none
    | some .string, some x, some lo, some hi, some none => some (.slT x lo hi)
    | _, _, _, _, _ => none
  | .fieldAddr s x f => match P.underlying s, cod x with
    | some (.struct fs), some x => match fs[f]? with
      | some f => match P.info? f.type with
        | some i => if i.size = 0 then none else some (.fAddr f.offset x)
        | none => none
      | none => none
    | _, _ => none
  | .field t x f => match P.underlying t, cod x with
    | some (.struct fs), some x => match fs[f]? with
      | some f => (psize P f.type).map fun n => .fld f.offset n x
      | none => none
    | _, _ => none
  | .indexAddr t x i => match P.underlying t, cod x, cod i with
    | some (.slice e), some x, some i => (P.info? e).map fun j => .iAddr j.size x i
    | some (.array len e), some x, some i => (P.info? e).map fun j => .iAddrA len j.size x i
    | _, _, _ => none
  | .index t x i => match P.underlying t, cod x, cod i with
    | some (.array len e), some x, some i => match P.info? e, psize P e with
      | some j, some n => some (.idxA len j.size n x i)
      | _, _ => none
    | some .string, some x, some i => some (.idxS x i)
    | _, _, _ => none
  | .lookup t m k ok => match P.underlying t, cod m, cod k with
    | some (.map kt e), some m, some k => match ckind P kt, P.info? e with
      | some kk, some i => match i.zero with
        | some z => (absV z).map fun z => .look kk z ok m k
        | none => none
      | _, _ => none
    | _, _, _ => none
  | .mapUpdate t m k v => match P.underlying t, cod m, cod k, cod v with
    | some (.map kt _), some m, some k, some v => (ckind P kt).map fun kk => .mset kk m k v
    | _, _, _, _ => none
  | .extract t i => (cod t).map (.ext i)
  | .makeFunc (.func f) first cs => if first.size = 0 then (cods cs.toList).map (.mkF f) else none
  | .makeInterface t x => match P.underlying t, cod x with
    | some (.interface _), _ => none
    | some _, some x => some (.mkI t x)
    | _, _ => none
  | .call c => match c.callee, cods c.args.toList with
    | .value (.func f), some xs => some (.callF f xs)
    | .value f, some xs => (cod f).map fun f => .callV f xs
    | .builtin .append, some [x, y] => match c.argTypes[0]?, c.argTypes[1]? with
      | some t, some u => match P.underlying t, P.underlying u with
        | some (.slice e), some d => match P.info? e, zcells P e with
          | some i, some z => if z.length = i.size ∧ !(d matches .int _) then some (.app z i.bytes x y) else none
          | _, _ => none
        | _, _ => none
      | _, _ => none
    | .builtin .len, some [x] => match c.argTypes[0]? with
      | some t => match P.underlying t with
        | some (.slice _) => some (.lenS x)
        | some .string => some (.lenT x)
        | some (.map _ _) => some (.lenM x)
        | _ => none
      | none => none
    | .builtin .min, some xs => some (.min xs)
    | .builtin .max, some xs => some (.max xs)
    | _, _ => none
  | _ => none

end Go.AM
namespace Go.AM
open Go.RowKit

def Does (P : Program) (B : Nat) (ρ : RL) (w : World) (x : Sem Next) (v : AV) (H : AH) : Prop :=
  ∃ ρ' w' n v', x.run P w = .ok n w' ∧ (n = .value v' ∨ n = .skip ∧ v' = undef) ∧ Ext ρ ρ' ∧ VR ρ' v v' ∧ RH B ρ' H w' ∧ Below B w w'

theorem Does.pure {P : Program} {B : Nat} {ρ : RL} {w : World} {x : Sem Next} {v : AV} {H : AH} {v' : Value} (hr : x.run P w = .ok (.value v') w) (hv : VR ρ v v') (hR : RH B ρ H w) : Does P B ρ w x v H :=
  ⟨ρ, w, .value v', v', hr, .inl rfl, Ext.refl _, hv, hR, Below.refl _ _⟩

theorem addr_add (b o n : Nat) : (⟨b, o, none⟩ : Addr).add n = ⟨b, o + n, none⟩ := by
  unfold Addr.add; split <;> simp_all

theorem cell_at {w : World} {b : Nat} {C : Array Value} {e : TypeId} {fr : Nat × Nat} (h : w.heap[b]? = some (.cells C e fr)) (i : Nat) : w.cell? ⟨b, i, none⟩ = C[i]? := by
  simp [World.cell?, h]

theorem rowAt_some {H : AH} {o : Nat} {l : List AV} (h : rowAt H o = some l) : ∃ own, H[o]? = some (.row l own) := by
  unfold rowAt at h
  split at h
  · rename_i l' own ho
    simp at h; subst h
    exact ⟨own, ho⟩
  · simp at h

theorem ownAt_some {H : AH} {o : Nat} {l : List AV} (h : ownAt H o = some l) : H[o]? = some (.row l true) := by
  unfold ownAt at h
  split at h
  · rename_i l' ho
    simp at h; subst h
    exact ho
  · simp at h

theorem mapAt_some {H : AH} {o : Nat} {l : List (AV × AV)} (h : mapAt H o = some l) : H[o]? = some (.mp l) := by
  unfold mapAt at h
  split at h
  · rename_i l' ho
    simp at h; subst h
    exact ho
  · simp at h

theorem RH.row {B : Nat} {ρ : RL} {H : AH} {w : World} (h : RH B ρ H w) {o : Nat} {l : List AV} (hl : rowAt H o = some l) (hne : l ≠ []) :
    ∃ lc C e fr, ρ[o]? = some lc ∧ l.length = lc.len ∧ w.heap[lc.b]? = some (.cells C e fr) ∧ lc.base + lc.len ≤ C.size ∧ VRs ρ l ((C.toList.drop lc.base).take lc.len) ∧ (lc.own = true → C.size = lc.tot ∧ fr = (0, 0)) := by
  obtain ⟨own, ho⟩ := rowAt_some hl
  obtain ⟨lc, hlc, _, h2, h7⟩ := h.get ho
  obtain ⟨_, C, e, fr, h3, h4, h5, h6⟩ := h7 (.inr hne)
  exact ⟨lc, C, e, fr, hlc, h2, h3, h4, h5, h6⟩

theorem drop_take_get {C : Array Value} {base len i : Nat} (hi : i < len) : ((C.toList.drop base).take len)[i]? = C[base + i]? := by
  rw [List.getElem?_take, if_pos hi, List.getElem?_drop, Array.getElem?_toList]

theorem RH.cellsAt {B : Nat} {ρ : RL} {H : AH} {w : World} (h : RH B ρ H w) {o : Nat} {l : List AV} (hl : rowAt H o = some l) {lc : Loc} (hlc : ρ[o]? = some lc) (off n : Nat) (hn : off + n ≤ l.length) :
    ∃ vs : List Value, vs.length = n ∧ VRs ρ ((l.drop off).take n) vs ∧ ∀ (j : Nat) (v : Value), vs[j]? = some v → w.cell? ((⟨lc.b, lc.base + off, none⟩ : Addr).add j) = some v := by
  by_cases hz : n = 0
  · subst hz
    exact ⟨[], rfl, by simp [VRs], by simp⟩
  obtain ⟨lc', C, e, fr, h1, h2, h3, h4, h5, _⟩ := h.row hl (fun e => by subst e; simp at hn; omega)
  rw [hlc] at h1; cases h1
  have h6 := (h5.drop off).take n
  refine ⟨_, ?_, h6, ?_⟩
  · rw [h6.length]; simp; omega
  · intro j v hv
    rw [addr_add, cell_at h3]
    rw [List.getElem?_take] at hv
    split at hv
    · rw [List.getElem?_drop, drop_take_get (by omega)] at hv
      rw [← hv]
      congr 1
      omega
    · simp at hv

theorem VR_ptr {ρ : RL} {o off : Nat} {v : Value} (h : VR ρ (.ptr o off) v) : ∃ l, ρ[o]? = some l ∧ v = .pointer (some ⟨l.b, l.base + off, none⟩) := by simpa [VR] using h

theorem sim_mv {P : Program} {B : Nat} {ρ : RL} {H : AH} {w : World} {a : Act} {s : Sl} {o : Oper} {x : Operand} {y : Od} (ho : o.op = .move x ∨ o.op = .assign x) (hc : cod x = some y) (hs : VRs ρ s a.tmps.toList) (hR : RH B ρ H w) :
    Does P B ρ w (execOp a.eval o) (ev s y) H := by
  refine Does.pure (v' := a.eval x) ?_ (VR_ev hs hc) hR
  rcases ho with ho | ho <;> simp [execOp, ho]

section
variable {P : Program} {B : Nat} {ρ : RL} {H : AH} {w : World} {a : Act} {s : Sl} {o : Oper}

theorem VR_bool {v : Value} {b : Bool} (h : VR ρ (.bool b) v) : v = .bool b := by simpa [VR] using h
theorem VR_int {v : Value} {k : IntKind} {n : Int} (h : VR ρ (.int k n) v) : v = .int k n := by simpa [VR] using h
theorem VR_str {v : Value} {n : List UInt8} (h : VR ρ (.str n) v) : v = .string ⟨n.toArray⟩ := by simpa [VR] using h

theorem RH.newRow (hR : RH B ρ H w) (cells : List AV) (C : Array Value) (e : TypeId) (hl : cells.length ≤ C.size) (hC : VRs ρ cells (C.toList.take cells.length)) :
    RH B (ρ ++ [⟨w.heap.size, 0, cells.length, C.size, true⟩]) (AM.alloc H (.row cells true)) (w.alloc (.cells C e)) := by
  refine hR.alloc _ _ _ rfl ⟨rfl, rfl, fun _ => ⟨rfl, C, e, (0, 0), heap_alloc_at _ _, by simpa using hl, ?_, by simp⟩⟩
  simpa using VRs.mono (Ext.one _ _) _ _ hC

theorem Ext.last (ρ : RL) (l : Loc) : (ρ ++ [l])[ρ.length]? = some l := by simp

theorem run_zeroValue {t : TypeId} {i : TypeInfo} {z : Value} (hi : P.info? t = some i) (hz : i.zero = some z) (w : World) : (zeroValue t).run P w = .ok z w := by
  simp [zeroValue, typeInfo, hi, hz]

theorem zcells_some {t : TypeId} {z : List AV} (h : zcells P t = some z) : ∃ i v x, P.info? t = some i ∧ i.zero = some v ∧ absV v = some x ∧ z = x.cells := by
  unfold zcells at h
  split at h
  · rename_i i hi
    split at h
    · rename_i v hv
      cases hx : absV v with
      | none => simp [hx] at h
      | some x => simp [hx] at h; exact ⟨i, v, x, hi, hv, hx, h.symm⟩
    · simp at h
  · simp at h

theorem sim_alloc {t : TypeId} {z : List AV} (ho : o.op = .alloc t) (hz : zcells P t = some z) (hR : RH B ρ H w) :
    Does P B ρ w (execOp a.eval o) (.ptr H.length 0) (AM.alloc H (.row z true)) := by
  obtain ⟨i, v, x, h1, h2, h3, rfl⟩ := zcells_some hz
  have hv : VRs ρ x.cells v.cells.toList := (VR_absV h3).cells
  have hl := hv.length
  refine ⟨ρ ++ [⟨w.heap.size, 0, x.cells.length, v.cells.size, true⟩], w.alloc (.cells v.cells t), .value (.pointer (some ⟨w.heap.size, 0, none⟩)), _, ?_, .inl rfl, Ext.one _ _, ?_, ?_, ?_⟩
  · simp [execOp, ho, Instr.alloc, run_zeroValue h1 h2, newVar, newRow]
  · simp only [VR]
    exact ⟨_, by rw [← hR.len]; exact Ext.last _ _, rfl⟩
  · have hl' : x.cells.length = v.cells.size := by simpa using hl.symm
    refine hR.newRow _ _ _ (by omega) ?_
    rw [hl', List.take_of_length_le (by simp)]
    exact hv
  · exact (Below.refl _ _).alloc hR.base _

theorem sim_box {t : TypeId} {x : Operand} {y : Od} (ho : o.op = .box t x) (hc : cod x = some y) (hs : VRs ρ s a.tmps.toList) (hR : RH B ρ H w) :
    Does P B ρ w (execOp a.eval o) (.ptr H.length 0) (AM.alloc H (.row (ev s y).cells true)) := by
  have hv : VRs ρ (ev s y).cells (a.eval x).cells.toList := (VR_ev hs hc).cells
  have hl := hv.length
  refine ⟨ρ ++ [⟨w.heap.size, 0, (ev s y).cells.length, (a.eval x).cells.size, true⟩], w.alloc (.cells (a.eval x).cells t), .value (.pointer (some ⟨w.heap.size, 0, none⟩)), _, ?_, .inl rfl, Ext.one _ _, ?_, ?_, ?_⟩
  · simp [execOp, ho, Instr.box, newVar, newRow]
  · simp only [VR]
    exact ⟨_, by rw [← hR.len]; exact Ext.last _ _, rfl⟩
  · have hl' : (ev s y).cells.length = (a.eval x).cells.size := by simpa using hl.symm
    refine hR.newRow _ _ _ (by omega) ?_
    rw [hl', List.take_of_length_le (by simp)]
    exact hv
  · exact (Below.refl _ _).alloc hR.base _

theorem run_isAgg {t : TypeId} {d : TypeDesc} (h : P.underlying t = some d) (w : World) : (isAgg t).run P w = .ok (isAggD d) w := by
  cases d <;> simp [isAgg, run_underlying h, isAggD]

theorem run_sizeOf' {t : TypeId} {i : TypeInfo} (h : P.info? t = some i) (w : World) : (sizeOf t).run P w = .ok i.size w := by
  simp [sizeOf, typeInfo, h]

theorem psize_none {t : TypeId} (h : psize P t = some none) : ∃ d i, P.underlying t = some d ∧ P.info? t = some i ∧ isAggD d = false := by
  unfold psize at h
  split at h
  · rename_i d i h1 h2
    refine ⟨d, i, h1, h2, ?_⟩
    cases hd : isAggD d <;> simp [hd] at h ⊢
  · simp at h

theorem psize_some {t : TypeId} {n : Nat} (h : psize P t = some (some n)) : ∃ d i, P.underlying t = some d ∧ P.info? t = some i ∧ isAggD d = true ∧ i.size = n := by
  unfold psize at h
  split at h
  · rename_i d i h1 h2
    cases hd : isAggD d <;> simp [hd] at h
    exact ⟨d, i, h1, h2, hd, h⟩
  · simp at h

theorem sim_load1 {t : TypeId} {x : Operand} {y : Od} (ho : o.op = .load t x) (hp : psize P t = some none) (hc : cod x = some y) (hs : VRs ρ s a.tmps.toList) (hR : RH B ρ H w)
    {b off : Nat} (hy : ev s y = .ptr b off) {l : List AV} (hl : rowAt H b = some l) {v : AV} (hv : l[off]? = some v) :
    Does P B ρ w (execOp a.eval o) v H := by
  obtain ⟨d, i, h1, h2, h3⟩ := psize_none hp
  have he := VR_ev hs hc
  rw [hy] at he
  obtain ⟨lc, h4, h5⟩ := VR_ptr he
  obtain ⟨vs, h6, h7, h8⟩ := hR.cellsAt hl h4 off 1 (by have := (List.getElem?_eq_some_iff.1 hv).1; omega)
  obtain ⟨u, hu, huv⟩ := h7.get (i := 0) (x := v) (by rw [List.getElem?_take]; simpa using hv)
  have := h8 0 u hu
  rw [addr_add] at this
  refine Does.pure (v' := u) ?_ huv hR
  simp [execOp, ho, Instr.loadAt, h5, Instr.sureAddr, loadVar, run_isAgg h1, h3]
  simp at this
  rw [this]
  rfl

theorem sim_loadA {t : TypeId} {x : Operand} {y : Od} {n : Nat} (ho : o.op = .load t x) (hp : psize P t = some (some n)) (hc : cod x = some y) (hs : VRs ρ s a.tmps.toList) (hR : RH B ρ H w)
    {b off : Nat} (hy : ev s y = .ptr b off) {l : List AV} (hl : rowAt H b = some l) (hn : off + n ≤ l.length) :
    Does P B ρ w (execOp a.eval o) (.agg ((l.drop off).take n)) H := by
  obtain ⟨d, i, h1, h2, h3, h3'⟩ := psize_some hp
  have he := VR_ev hs hc
  rw [hy] at he
  obtain ⟨lc, h4, h5⟩ := VR_ptr he
  obtain ⟨vs, h6, h7, h8⟩ := hR.cellsAt hl h4 off n hn
  have hr := run_loadCells_list (P := P) w ⟨lc.b, lc.base + off, none⟩ vs h8
  refine Does.pure (v' := .agg vs.toArray) ?_ ?_ hR
  · rw [h6] at hr
    simp [execOp, ho, Instr.loadAt, h5, Instr.sureAddr, loadVar, run_isAgg h1, h3, run_sizeOf' h2, h3', hr]
  · simp only [VR]
    exact ⟨vs, rfl, h7⟩

theorem RH.stored (hR : RH B ρ H w) {b : Nat} {l : List AV} (hl : ownAt H b = some l) {lc : Loc} (hlc : ρ[b]? = some lc) (off : Nat) {xs : List AV} {vs : List Value} (hx : VRs ρ xs vs) (hn : off + xs.length ≤ l.length) (h1 : xs.all AV.scalar = true) :
    ∃ w', (storeCells ⟨lc.b, lc.base + off, none⟩ vs).run P w = .ok () w' ∧ RH B ρ (H.set b (.row (splice l off xs) true)) w' ∧ Below B w w' ∧
      (∀ k, k ≠ lc.b → w'.heap[k]? = w.heap[k]?) ∧ w'.heap.size = w.heap.size := by
  have ho := ownAt_some hl
  obtain ⟨lc', hlc', hoo⟩ := hR.get ho
  rw [hlc] at hlc'; cases hlc'
  obtain ⟨ho1, h2, C, e, fr, h3, h4, h5, h6⟩ := hoo.ownRow
  obtain ⟨h7, rfl⟩ := h6 ho1.symm
  have hvl := hx.length
  have hst := run_storeCells_at P lc.b (lc.base + off) e vs 0 C w h3 (by omega) (hx.oneCell h1)
  simp only [Nat.add_zero] at hst
  refine ⟨_, hst, ?_, ?_, fun k hk => setRow_other w _ k _ hk, by simp⟩
  · refine hR.set (l := lc) ho hlc rfl ho1.symm (by simp) (fun k hk => setRow_other w _ k _ hk) ?_
    have hsl : (splice l off xs).length = lc.len := by simp [splice]; omega
    refine ⟨ho1, hsl, fun _ => ⟨hsl, _, e, (0, 0), setRow_heap w lc.b C _ e _ h3, ?_, ?_, ?_⟩⟩
    · simp; omega
    · have := h5.splice hx off
      have hb : lc.base + lc.len ≤ C.toList.length := by simpa using h4
      rw [show (List.take lc.len (List.drop lc.base ((C.toList.take (lc.base + off) ++ vs ++ C.toList.drop (lc.base + off + vs.length)).toArray.toList))) =
          (((C.toList.drop lc.base).take lc.len).take off ++ vs ++ ((C.toList.drop lc.base).take lc.len).drop (off + vs.length)) from ?_]
      · exact this
      · apply List.ext_getElem?
        intro j
        simp only [List.getElem?_take, List.getElem?_drop, List.getElem?_append, List.length_take, List.length_drop, List.length_append]
        by_cases hj : j < lc.len
        · simp only [hj, if_true]
          by_cases hjo : j < off
          · simp only [show lc.base + j < min (lc.base + off) C.toList.length + vs.length by omega, show lc.base + j < min (lc.base + off) C.toList.length by omega, show lc.base + j < lc.base + off by omega,
              show j < min off (min lc.len (C.toList.length - lc.base)) + vs.length by omega, show j < min off (min lc.len (C.toList.length - lc.base)) by omega, hjo, if_true]
          · by_cases hjv : j < off + vs.length
            · simp only [show lc.base + j < min (lc.base + off) C.toList.length + vs.length by omega, show ¬ lc.base + j < min (lc.base + off) C.toList.length by omega,
                show j < min off (min lc.len (C.toList.length - lc.base)) + vs.length by omega, show ¬ j < min off (min lc.len (C.toList.length - lc.base)) by omega, if_true, if_false]
              congr 1
              omega
            · simp only [show ¬ lc.base + j < min (lc.base + off) C.toList.length + vs.length by omega,
                show ¬ j < min off (min lc.len (C.toList.length - lc.base)) + vs.length by omega, if_false]
              rw [if_pos (by omega)]
              congr 1
              omega
        · simp only [hj, if_false]
          rw [if_neg (by omega), if_neg (by omega)]
    · intro _
      refine ⟨?_, rfl⟩
      simp
      omega
  · have hb := hR.own b _ lc ho rfl hlc ho1.symm
    exact ⟨rfl, rfl, rfl, by simp, fun k hk => setRow_other w _ k _ (by omega)⟩

theorem sim_store {t : TypeId} {x z : Operand} {y u : Od} {i : TypeInfo} (ho : o.op = .store t x z) (hi : P.info? t = some i) (hc : cod x = some y) (hd : cod z = some u) (hs : VRs ρ s a.tmps.toList) (hR : RH B ρ H w)
    {b off : Nat} (hy : ev s y = .ptr b off) {l : List AV} (hl : ownAt H b = some l) (hn : (ev s u).cells.length = i.size) (hle : off + i.size ≤ l.length) (h1 : (ev s u).cells.all AV.scalar = true) :
    Does P B ρ w (execOp a.eval o) (.tup []) (H.set b (.row (splice l off (ev s u).cells) true)) := by
  have he := VR_ev hs hc
  rw [hy] at he
  obtain ⟨lc, h4, h5⟩ := VR_ptr he
  have hx := (VR_ev hs hd).cells
  have hxl := hx.length
  obtain ⟨w', h6, h7, h8, _⟩ := hR.stored (P := P) hl h4 off hx (by omega) h1
  refine ⟨ρ, w', .skip, undef, ?_, .inr ⟨rfl, rfl⟩, Ext.refl _, by simp [VR, VRs, undef], h7, h8⟩
  have hsz : (a.eval z).cells.size = i.size := by simpa [hn] using hxl
  simp [execOp, ho, Instr.storeAt, h5, Instr.sureAddr, storeVar, run_sizeOf' hi, hsz, h6]

end
end Go.AM
namespace Go.AM
open Go.RowKit
section
variable {P : Program} {B : Nat} {ρ : RL} {H : AH} {w : World} {a : Act} {s : Sl} {o : Oper}

theorem sim_pick {c x y : Operand} {c' x' y' : Od} (ho : o.op = .pick c x y) (h1 : cod c = some c') (h2 : cod x = some x') (h3 : cod y = some y') (hs : VRs ρ s a.tmps.toList) (hR : RH B ρ H w)
    {b : Bool} (hb : ev s c' = .bool b) : Does P B ρ w (execOp a.eval o) (if b then ev s x' else ev s y') H := by
  have hc := VR_ev hs h1
  rw [hb] at hc
  have hc := VR_bool hc
  cases b with
  | true => exact Does.pure (v' := a.eval x) (by simp [execOp, ho, hc, asBool]) (by simpa using VR_ev hs h2) hR
  | false => exact Does.pure (v' := a.eval y) (by simp [execOp, ho, hc, asBool]) (by simpa using VR_ev hs h3) hR

theorem sim_chk {x : Operand} {y : Od} (ho : o.op = .nilCheck x) (h1 : cod x = some y) (hs : VRs ρ s a.tmps.toList) (hR : RH B ρ H w)
    (hy : (∃ b off, ev s y = .ptr b off) ∨ ∃ f c, ev s y = .fn f c) : Does P B ρ w (execOp a.eval o) (ev s y) H := by
  have hc := VR_ev hs h1
  refine Does.pure (v' := a.eval x) ?_ hc hR
  rcases hy with ⟨b, off, hy⟩ | ⟨f, c, hy⟩
  · rw [hy] at hc
    obtain ⟨l, _, hv⟩ := VR_ptr hc
    simp [execOp, ho, hv]
  · rw [hy] at hc
    simp only [VR] at hc
    obtain ⟨cs, hv, _⟩ := hc
    simp [execOp, ho, hv]



theorem VR_mk_int {k : IntKind} {n : Int} : VR ρ (.int k n) (.int k n) := by simp [VR]
theorem VR_mk_bool {b : Bool} : VR ρ (.bool b) (.bool b) := by simp [VR]
theorem VR_mk_str {b : List UInt8} : VR ρ (.str b) (.string ⟨b.toArray⟩) := by simp [VR]

theorem eqGuard_pure {op : BinOp} {t : TypeId} {x y : Operand} {u v : Value} (h : (∀ cs, u ≠ .agg cs) ∧ u ≠ .nilIface) : (eqGuard op t x y u v).run P w = .ok () w := by
  unfold eqGuard
  cases op <;> first
    | rfl
    | (cases u <;> first
        | (exact (h.1 _ rfl).elim)
        | (exact (h.2 rfl).elim)
        | rfl)

theorem run_aint {op : BinOp} {k : IntKind} {x y : Int} {v : AV} (hs : isShift op = false) (h : aint op k x y = some v) (t : TypeId) : ∃ u, VR ρ v u ∧ (binOp op t (.int k x) (.int k y)).run P w = .ok u w := by
  cases op <;> simp [isShift] at hs <;> simp only [aint, abits] at h
  case quo =>
    split at h
    · simp at h
    · rename_i hy
      simp only [Option.some.injEq] at h; subst h; exact ⟨_, VR_mk_int, by simp [binOp, Op.intDiv, hy]⟩
  case rem =>
    split at h
    · simp at h
    · rename_i hy
      simp only [Option.some.injEq] at h; subst h; exact ⟨_, VR_mk_int, by simp [binOp, Op.intDiv, hy]⟩
  all_goals
    simp only [Option.some.injEq] at h
    subst h
    first
      | exact ⟨_, VR_mk_int, by simp [binOp, Op.intArith, Op.intBits, Op.intCmp]⟩
      | exact ⟨_, VR_mk_bool, by simp [binOp, Op.intArith, Op.intBits, Op.intCmp]⟩

theorem run_ashift {op : BinOp} {k k' : IntKind} {x y : Int} {v : AV} (hs : isShift op = true) (h : ashift op k x y = some v) (t : TypeId) : ∃ u, VR ρ v u ∧ (binOp op t (.int k x) (.int k' y)).run P w = .ok u w := by
  unfold ashift at h
  split at h
  · simp at h
  · rename_i hy
    cases op <;> simp [isShift] at hs <;> simp only [Option.some.injEq] at h <;> subst h <;> exact ⟨_, VR_mk_int, by simp [binOp, Op.shift, hy]⟩

theorem str_size (l : List UInt8) : (⟨l.toArray⟩ : ByteArray).size = l.length := by simp [ByteArray.size]

theorem str_append (x y : List UInt8) : (⟨x.toArray⟩ : ByteArray) ++ ⟨y.toArray⟩ = ⟨(x ++ y).toArray⟩ := by
  apply ByteArray.ext
  simp [ByteArray.data_append]

theorem run_astr {op : BinOp} {x y : List UInt8} {v : AV} (h : astr op x y = some v) (t : TypeId) : ∃ u, VR ρ v u ∧ (binOp op t (.string ⟨x.toArray⟩) (.string ⟨y.toArray⟩)).run P w = .ok u w := by
  have hm : IntKind.i64.max = 9223372036854775807 := by decide
  cases op <;> simp only [astr] at h
  case add =>
    split at h
    · simp at h
    · rename_i hy
      simp only [Option.some.injEq] at h; subst h
      refine ⟨_, VR_mk_str, ?_⟩
      simp only [binOp, Op.stringOp, str_size, hm]
      rw [if_neg hy, str_append]
      rfl
  all_goals first
    | (simp at h; done)
    | (simp only [Option.some.injEq] at h; subst h; exact ⟨_, VR_mk_bool, by simp [binOp, Op.stringOp]⟩)

theorem run_abin {op : BinOp} {x y v : AV} {x' y' : Value} (h : abin op x y = some v) (hx : VR ρ x x') (hy : VR ρ y y') (t : TypeId) :
    ∃ u, VR ρ v u ∧ (binOp op t x' y').run P w = .ok u w ∧ (∀ cs, x' ≠ .agg cs) ∧ x' ≠ .nilIface := by
  unfold abin at h
  split at h
  · have hx := VR_int hx; subst hx
    have hy := VR_int hy; subst hy
    split at h
    · rename_i hs
      obtain ⟨u, h1, h2⟩ := run_ashift (P := P) (w := w) (ρ := ρ) hs h t
      exact ⟨u, h1, h2, by simp, by simp⟩
    · rename_i hs
      split at h
      · rename_i hk; subst hk
        obtain ⟨u, h1, h2⟩ := run_aint (P := P) (w := w) (ρ := ρ) (by simpa using hs) h t
        exact ⟨u, h1, h2, by simp, by simp⟩
      · simp at h
  · have hx := VR_str hx; subst hx
    have hy := VR_str hy; subst hy
    obtain ⟨u, h1, h2⟩ := run_astr (P := P) (w := w) (ρ := ρ) h t
    exact ⟨u, h1, h2, by simp, by simp⟩
  · simp at h

theorem sim_bin {op : BinOp} {t u : TypeId} {x y : Operand} {x' y' : Od} {v : AV} (ho : o.op = .binOp op t x y u) (h1 : cod x = some x') (h2 : cod y = some y') (hs : VRs ρ s a.tmps.toList) (hR : RH B ρ H w)
    (hb : abin op (ev s x') (ev s y') = some v) : Does P B ρ w (execOp a.eval o) v H := by
  obtain ⟨r, hr, h3, h4⟩ := run_abin (P := P) (w := w) hb (VR_ev hs h1) (VR_ev hs h2) t
  refine Does.pure (v' := r) ?_ hr hR
  simp [execOp, ho, eqGuard_pure h4, h3]

theorem VR_sl {v : Value} {b off n sz : Nat} {c : Option Nat} (h : VR ρ (.sli b off n sz c) v) : ∃ ad m, v = .slice (some ad) n m := by
  simp only [VR] at h
  obtain ⟨l, ad, m, _, hv, _⟩ := h
  exact ⟨ad, m, hv⟩
theorem VR_map {v : Value} {b : Nat} (h : VR ρ (.map b) v) : ∃ l, ρ[b]? = some l ∧ v = .map (some l.b) := by simpa [VR] using h
theorem VR_fn {v : Value} {f : FuncId} {cs : List AV} (h : VR ρ (.fn f cs) v) : ∃ vs, v = .func (.func f) #[] ⟨vs⟩ ∧ VRs ρ cs vs := by simpa [VR] using h

def eqR (P : Program) (w : World) (t : TypeId) (x y : Value) (b : Bool) : Prop :=
  ((∀ cs, x ≠ .agg cs) ∧ x ≠ .nilIface) ∧ (binOp .eql t x y).run P w = .ok (.bool b) w ∧ (binOp .neq t x y).run P w = .ok (.bool (!b)) w

theorem equal_succ (t : TypeId) (x y : Value) : ∃ d, Op.equal t x y = Op.equalIn (d + 1) t x y := ⟨9999, rfl⟩

theorem eqR_of {t : TypeId} {x y : Value} {b : Bool} (h : (∀ cs, x ≠ .agg cs) ∧ x ≠ .nilIface) (h1 : ∀ d, (Op.equalIn (d + 1) t x y).run P w = .ok b w)
    (e1 : binOp .eql t x y = (Op.equal t x y >>= fun r => pure (.bool r))) (e2 : binOp .neq t x y = (Op.equal t x y >>= fun r => pure (.bool (!r)))) : eqR P w t x y b := by
  obtain ⟨d, hd⟩ := equal_succ t x y
  have h2 := h1 d
  rw [← hd] at h2
  refine ⟨h, ?_, ?_⟩
  · rw [e1]; simp [h2]
  · rw [e2]; simp [h2]

theorem run_aeq {e : EqK} {x y : AV} {x' y' : Value} {b : Bool} {t : TypeId} {d : TypeDesc} (h : aeq e x y = some b) (hx : VR ρ x x') (hy : VR ρ y y') (ht : P.underlying t = some d) (hd : eqk d = some e) :
    eqR P w t x' y' b := by
  cases e with
  | bool =>
    cases d <;> simp [eqk] at hd
    cases x <;> cases y <;> simp [aeq] at h
    have hx := VR_bool hx; have hy := VR_bool hy
    subst hx hy h
    exact eqR_of ⟨by simp, by simp⟩ (fun d => by simp [Op.equalIn, run_underlying ht]) rfl rfl
  | sl =>
    cases d <;> simp [eqk] at hd
    cases x <;> cases y <;> simp [aeq] at h <;> subst h
    · simp only [VR] at hx hy; subst hx hy
      exact eqR_of ⟨by simp, by simp⟩ (fun d => by simp [Op.equalIn, run_underlying ht]) rfl rfl
    · obtain ⟨_, _, rfl⟩ := VR_sl hy
      simp only [VR] at hx; subst hx
      exact eqR_of ⟨by simp, by simp⟩ (fun d => by simp [Op.equalIn, run_underlying ht]) rfl rfl
    · obtain ⟨_, _, rfl⟩ := VR_sl hx
      simp only [VR] at hy; subst hy
      exact eqR_of ⟨by simp, by simp⟩ (fun d => by simp [Op.equalIn, run_underlying ht]) rfl rfl
  | pt =>
    cases d <;> simp [eqk] at hd
    cases x <;> cases y <;> simp [aeq] at h <;> subst h
    · simp only [VR] at hx hy; subst hx hy
      exact eqR_of ⟨by simp, by simp⟩ (fun d => by simp [Op.equalIn, run_underlying ht]) rfl rfl
    · obtain ⟨_, _, rfl⟩ := VR_ptr hy
      simp only [VR] at hx; subst hx
      exact eqR_of ⟨by simp, by simp⟩ (fun d => by simp [Op.equalIn, run_underlying ht]) rfl rfl
    · obtain ⟨_, _, rfl⟩ := VR_ptr hx
      simp only [VR] at hy; subst hy
      exact eqR_of ⟨by simp, by simp⟩ (fun d => by simp [Op.equalIn, run_underlying ht]) rfl rfl
  | mp =>
    cases d <;> simp [eqk] at hd
    cases x <;> cases y <;> simp [aeq] at h <;> subst h
    · simp only [VR] at hx hy; subst hx hy
      exact eqR_of ⟨by simp, by simp⟩ (fun d => by simp [Op.equalIn, run_underlying ht]) rfl rfl
    · obtain ⟨_, _, rfl⟩ := VR_map hy
      simp only [VR] at hx; subst hx
      exact eqR_of ⟨by simp, by simp⟩ (fun d => by simp [Op.equalIn, run_underlying ht]) rfl rfl
    · obtain ⟨_, _, rfl⟩ := VR_map hx
      simp only [VR] at hy; subst hy
      exact eqR_of ⟨by simp, by simp⟩ (fun d => by simp [Op.equalIn, run_underlying ht]) rfl rfl
  | fn =>
    cases d <;> simp [eqk] at hd
    cases x <;> cases y <;> simp [aeq] at h <;> subst h
    · simp only [VR] at hx hy; subst hx hy
      exact eqR_of ⟨by simp, by simp⟩ (fun d => by simp [Op.equalIn, run_underlying ht]) rfl rfl
    · obtain ⟨_, rfl, _⟩ := VR_fn hy
      simp only [VR] at hx; subst hx
      exact eqR_of ⟨by simp, by simp⟩ (fun d => by simp [Op.equalIn, run_underlying ht]) rfl rfl
    · obtain ⟨_, rfl, _⟩ := VR_fn hx
      simp only [VR] at hy; subst hy
      exact eqR_of ⟨by simp, by simp⟩ (fun d => by simp [Op.equalIn, run_underlying ht]) rfl rfl

theorem sim_eqv {op : BinOp} {neg : Bool} {t u : TypeId} {x y : Operand} {x' y' : Od} {b : Bool} {e : EqK} {d : TypeDesc} (ho : o.op = .binOp op t x y u) (hop : op = if neg then .neq else .eql) (ht : P.underlying t = some d) (hd : eqk d = some e)
    (h1 : cod x = some x') (h2 : cod y = some y') (hs : VRs ρ s a.tmps.toList) (hR : RH B ρ H w)
    (hb : aeq e (ev s x') (ev s y') = some b) : Does P B ρ w (execOp a.eval o) (.bool (if neg then !b else b)) H := by
  obtain ⟨hg, h3, h4⟩ := run_aeq (P := P) (w := w) hb (VR_ev hs h1) (VR_ev hs h2) ht hd
  refine Does.pure (v' := .bool (if neg then !b else b)) ?_ VR_mk_bool hR
  cases neg <;> simp at hop <;> subst hop <;> simp [execOp, ho, eqGuard_pure hg, h3, h4]

theorem sim_un {uo : UnOp} {t : TypeId} {x : Operand} {x' : Od} {v : AV} (ho : o.op = .unOp uo t x) (h1 : cod x = some x') (hs : VRs ρ s a.tmps.toList) (hR : RH B ρ H w)
    (hb : aun uo (ev s x') = some v) : Does P B ρ w (execOp a.eval o) v H := by
  have hx := VR_ev hs h1
  unfold aun at hb
  split at hb
  · rename_i hx'
    rw [hx'] at hx
    have hx := VR_int hx
    simp only [Option.some.injEq] at hb; subst hb
    exact Does.pure (by simp [execOp, ho, hx, Op.unary, Op.intArith]) VR_mk_int hR
  · rename_i hx'
    rw [hx'] at hx
    have hx := VR_bool hx
    simp only [Option.some.injEq] at hb; subst hb
    exact Does.pure (by simp [execOp, ho, hx, Op.unary, Op.intArith]) VR_mk_bool hR
  · rename_i hx'
    rw [hx'] at hx
    have hx := VR_int hx
    simp only [abits, Option.some.injEq] at hb; subst hb
    exact Does.pure (by simp [execOp, ho, hx, Op.unary, Op.intBits]) VR_mk_int hR
  · simp at hb

theorem sim_convI {src dst : TypeId} {x : Operand} {x' : Od} {d : TypeDesc} {k j : IntKind} {n : Int} (ho : o.op = .convert src dst x) (hd : P.underlying src = some d) (hk : P.underlying dst = some (.int k)) (h1 : cod x = some x') (hs : VRs ρ s a.tmps.toList) (hR : RH B ρ H w)
    (hb : ev s x' = .int j n) : Does P B ρ w (execOp a.eval o) (.int k (k.wrap n)) H := by
  have hx := VR_ev hs h1
  rw [hb] at hx
  have hx := VR_int hx
  exact Does.pure (by simp [execOp, ho, hx, convert, run_underlying hd, run_underlying hk, Conv.intToInt]) VR_mk_int hR

theorem sim_same {src dst : TypeId} {x : Operand} {x' : Od} {d : TypeDesc} {b : List UInt8} (ho : o.op = .convert src dst x) (hd : P.underlying src = some d) (hk : P.underlying dst = some .string) (h1 : cod x = some x') (hs : VRs ρ s a.tmps.toList) (hR : RH B ρ H w)
    (hb : ev s x' = .str b) : Does P B ρ w (execOp a.eval o) (.str b) H := by
  have hx := VR_ev hs h1
  rw [hb] at hx
  have hx := VR_str hx
  exact Does.pure (by simp [execOp, ho, hx, convert, run_underlying hd, run_underlying hk]) VR_mk_str hR

theorem sim_fAddr {t : TypeId} {x : Operand} {x' : Od} {f : Nat} {fs : Array Field} {fd : Field} {i : TypeInfo} {b off : Nat} (ho : o.op = .fieldAddr t x f) (hd : P.underlying t = some (.struct fs)) (hf : fs[f]? = some fd) (hi : P.info? fd.type = some i) (hz : i.size ≠ 0)
    (h1 : cod x = some x') (hs : VRs ρ s a.tmps.toList) (hR : RH B ρ H w) (hb : ev s x' = .ptr b off) : Does P B ρ w (execOp a.eval o) (.ptr b (off + fd.offset)) H := by
  have hx := VR_ev hs h1
  rw [hb] at hx
  obtain ⟨l, hl, hv⟩ := VR_ptr hx
  refine Does.pure (v' := .pointer (some ⟨l.b, l.base + (off + fd.offset), none⟩)) ?_ ?_ hR
  · simp [execOp, ho, hv, Instr.fieldAt, run_underlying hd, hf, Instr.sureAddr, fieldPlace, run_sizeOf' hi, hz, addr_add, Nat.add_assoc]
  · simp only [VR]
    exact ⟨l, hl, rfl⟩

theorem run_part {t : TypeId} {n : Option Nat} {l : List AV} {vs : List Value} {off : Nat} {v : AV} (hp : psize P t = some n) (hl : VRs ρ l vs) (h : part l off n = some v) :
    ∃ u, VR ρ v u ∧ (Go.part t ⟨vs⟩ off).run P w = .ok u w := by
  unfold part at h
  cases n with
  | none =>
    obtain ⟨d, i, h1, h2, h3⟩ := psize_none hp
    obtain ⟨u, hu, huv⟩ := hl.get h
    refine ⟨u, huv, ?_⟩
    simp [Go.part, run_isAgg h1, h3, hu]
  | some n =>
    obtain ⟨d, i, h1, h2, h3, h4⟩ := psize_some hp
    simp only at h
    split at h
    · simp only [Option.some.injEq] at h; subst h
      refine ⟨.agg ⟨(vs.drop off).take n⟩, ?_, ?_⟩
      · simp only [VR]
        exact ⟨_, rfl, (hl.drop off).take n⟩
      · simp [Go.part, run_isAgg h1, h3, run_sizeOf' h2, h4]
    · simp at h

theorem VR_agg {v : Value} {l : List AV} (h : VR ρ (.agg l) v) : ∃ vs, v = .agg ⟨vs⟩ ∧ VRs ρ l vs := by simpa [VR] using h
theorem VR_tup {v : Value} {l : List AV} (h : VR ρ (.tup l) v) : ∃ vs, v = .tuple ⟨vs⟩ ∧ VRs ρ l vs := by simpa [VR] using h

theorem sim_fld {t : TypeId} {x : Operand} {x' : Od} {f : Nat} {fs : Array Field} {fd : Field} {n : Option Nat} {l : List AV} {v : AV} (ho : o.op = .field t x f) (hd : P.underlying t = some (.struct fs)) (hf : fs[f]? = some fd) (hp : psize P fd.type = some n)
    (h1 : cod x = some x') (hs : VRs ρ s a.tmps.toList) (hR : RH B ρ H w) (hb : ev s x' = .agg l) (hv : part l fd.offset n = some v) : Does P B ρ w (execOp a.eval o) v H := by
  have hx := VR_ev hs h1
  rw [hb] at hx
  obtain ⟨vs, hvs, hl⟩ := VR_agg hx
  obtain ⟨u, h3, h4⟩ := run_part (w := w) hp hl hv
  exact Does.pure (by simp [execOp, ho, hvs, Instr.field, run_underlying hd, hf, asAgg, h4]) h3 hR

theorem sim_iAddr {t e : TypeId} {x i : Operand} {x' i' : Od} {j : TypeInfo} {b off len : Nat} {c : Option Nat} {k : IntKind} {n : Int} (ho : o.op = .indexAddr t x i) (hd : P.underlying t = some (.slice e)) (hj : P.info? e = some j)
    (h1 : cod x = some x') (h2 : cod i = some i') (hs : VRs ρ s a.tmps.toList) (hR : RH B ρ H w) (hb : ev s x' = .sli b off len j.size c) (hi : ev s i' = .int k n) (hn : 0 ≤ n ∧ n < len) :
    Does P B ρ w (execOp a.eval o) (.ptr b (off + n.toNat * j.size)) H := by
  have hx := VR_ev hs h1
  rw [hb] at hx
  have hy := VR_ev hs h2
  rw [hi] at hy
  have hy := VR_int hy
  simp only [VR] at hx
  obtain ⟨l, ad, cap, hl, hv, hle, had, _⟩ := hx
  have had := had (by omega)
  subst had
  refine Does.pure (v' := .pointer (some ⟨l.b, l.base + (off + n.toNat * j.size), none⟩)) ?_ ?_ hR
  · simp [execOp, ho, hv, hy, Instr.indexAt, run_underlying hd, asIntOf, hn, run_sizeOf' hj, addr_add, Nat.add_assoc]
  · simp only [VR]
    exact ⟨l, hl, rfl⟩

theorem sim_iAddrA {t e : TypeId} {x i : Operand} {x' i' : Od} {j : TypeInfo} {b off len : Nat} {k : IntKind} {n : Int} (ho : o.op = .indexAddr t x i) (hd : P.underlying t = some (.array len e)) (hj : P.info? e = some j)
    (h1 : cod x = some x') (h2 : cod i = some i') (hs : VRs ρ s a.tmps.toList) (hR : RH B ρ H w) (hb : ev s x' = .ptr b off) (hi : ev s i' = .int k n) (hn : 0 ≤ n ∧ n < len) :
    Does P B ρ w (execOp a.eval o) (.ptr b (off + n.toNat * j.size)) H := by
  have hx := VR_ev hs h1
  rw [hb] at hx
  have hy := VR_ev hs h2
  rw [hi] at hy
  have hy := VR_int hy
  obtain ⟨l, hl, hv⟩ := VR_ptr hx
  refine Does.pure (v' := .pointer (some ⟨l.b, l.base + (off + n.toNat * j.size), none⟩)) ?_ ?_ hR
  · simp [execOp, ho, hv, hy, Instr.indexAt, run_underlying hd, asIntOf, hn, run_sizeOf' hj, addr_add, Nat.add_assoc, Instr.sureAddr]
  · simp only [VR]
    exact ⟨l, hl, rfl⟩

theorem sim_idxA {t e : TypeId} {x i : Operand} {x' i' : Od} {j : TypeInfo} {m : Option Nat} {len : Nat} {l : List AV} {k : IntKind} {n : Int} {v : AV} (ho : o.op = .index t x i) (hd : P.underlying t = some (.array len e)) (hj : P.info? e = some j) (hp : psize P e = some m)
    (h1 : cod x = some x') (h2 : cod i = some i') (hs : VRs ρ s a.tmps.toList) (hR : RH B ρ H w) (hb : ev s x' = .agg l) (hi : ev s i' = .int k n) (hn : 0 ≤ n ∧ n < len) (hv : part l (n.toNat * j.size) m = some v) :
    Does P B ρ w (execOp a.eval o) v H := by
  have hx := VR_ev hs h1
  rw [hb] at hx
  have hy := VR_ev hs h2
  rw [hi] at hy
  have hy := VR_int hy
  obtain ⟨vs, hvs, hl⟩ := VR_agg hx
  obtain ⟨u, h3, h4⟩ := run_part (w := w) hp hl hv
  refine Does.pure (v' := u) ?_ h3 hR
  simp [execOp, ho, hvs, hy, Instr.index, run_underlying hd, asIntOf, hn, run_sizeOf' hj, h4]

theorem sim_idxS {t : TypeId} {x i : Operand} {x' i' : Od} {l : List UInt8} {k : IntKind} {n : Int} {c : UInt8} (ho : o.op = .index t x i) (hd : P.underlying t = some .string)
    (h1 : cod x = some x') (h2 : cod i = some i') (hs : VRs ρ s a.tmps.toList) (hR : RH B ρ H w) (hb : ev s x' = .str l) (hi : ev s i' = .int k n) (hn : 0 ≤ n) (hv : l[n.toNat]? = some c) :
    Does P B ρ w (execOp a.eval o) (.int .u8 c.toNat) H := by
  have hx := VR_ev hs h1
  rw [hb] at hx
  have hx := VR_str hx
  have hy := VR_ev hs h2
  rw [hi] at hy
  have hy := VR_int hy
  have hlt := (List.getElem?_eq_some_iff.1 hv).1
  have hg : (⟨l.toArray⟩ : ByteArray)[n.toNat]? = some c := by
    have h0 : n.toNat < (⟨l.toArray⟩ : ByteArray).size := by rw [str_size]; exact hlt
    have h3 := (List.getElem?_eq_some_iff.1 hv).2
    rw [getElem?_pos (⟨l.toArray⟩ : ByteArray) n.toNat h0, ← h3]
    rfl
  refine Does.pure (v' := .int .u8 c.toNat) ?_ VR_mk_int hR
  simp [execOp, ho, hx, hy, Instr.index, run_underlying hd, asIntOf, hn, hg]

theorem sim_ext {x : Operand} {x' : Od} {i : Nat} {l : List AV} {v : AV} (ho : o.op = .extract x i) (h1 : cod x = some x') (hs : VRs ρ s a.tmps.toList) (hR : RH B ρ H w) (hb : ev s x' = .tup l) (hv : l[i]? = some v) :
    Does P B ρ w (execOp a.eval o) v H := by
  have hx := VR_ev hs h1
  rw [hb] at hx
  obtain ⟨vs, hvs, hl⟩ := VR_tup hx
  obtain ⟨u, h3, h4⟩ := hl.get hv
  exact Does.pure (by simp [execOp, ho, hvs, Instr.extract, h3]) h4 hR

theorem sim_mkF {f : FuncId} {first cs : Array Operand} {ys : List Od} (ho : o.op = .makeFunc (.func f) first cs) (hf : first.size = 0) (h1 : cods cs.toList = some ys) (hs : VRs ρ s a.tmps.toList) (hR : RH B ρ H w) :
    Does P B ρ w (execOp a.eval o) (.fn f (evs s ys)) H := by
  have h2 := VRs_evs hs h1
  have : first = #[] := Array.eq_empty_of_size_eq_zero hf
  subst this
  refine Does.pure (v' := .func (.func f) #[] ⟨cs.toList.map a.eval⟩) ?_ ?_ hR
  · simp [execOp, ho, Instr.makeFunc]
    exact Array.ext' (by simp)
  · simp only [VR]
    exact ⟨_, rfl, h2⟩

theorem sim_mkI {t : TypeId} {x : Operand} {x' : Od} {d : TypeDesc} (ho : o.op = .makeInterface t x) (hd : P.underlying t = some d) (hn : ∀ m, d ≠ .interface m) (h1 : cod x = some x') (hs : VRs ρ s a.tmps.toList) (hR : RH B ρ H w) :
    Does P B ρ w (execOp a.eval o) (.ifc t (ev s x')) H := by
  have h2 := VR_ev hs h1
  refine Does.pure (v' := .iface t (a.eval x)) ?_ ?_ hR
  · cases d <;> first
      | (exact (hn _ rfl).elim)
      | simp [execOp, ho, Instr.makeInterface, run_underlying hd]
  · simp only [VR]
    exact ⟨_, rfl, h2⟩

end
end Go.AM
namespace Go.AM
open Go.RowKit
section
variable {P : Program} {B : Nat} {ρ : RL} {H : AH} {w : World} {a : Act} {s : Sl} {o : Oper}

theorem Does.row (hR : RH B ρ H w) {x : Sem Next} {cells : List AV} {C : Array Value} {e : TypeId} {v : AV} {v' : Value} (hl : cells.length ≤ C.size) (hC : VRs ρ cells (C.toList.take cells.length))
    (hr : x.run P w = .ok (.value v') (w.alloc (.cells C e))) (hv : VR (ρ ++ [⟨w.heap.size, 0, cells.length, C.size, true⟩]) v v') : Does P B ρ w x v (AM.alloc H (.row cells true)) :=
  ⟨_, _, _, v', hr, .inl rfl, Ext.one _ _, hv, hR.newRow cells C e hl hC, (Below.refl _ _).alloc hR.base _⟩

theorem VR_newSlice {l : Loc} {n cap sz : Nat} {c : Option Nat} (hb : l.base = 0) (hle : n ≤ cap) (hc : ∀ c', c = some c' → cap = c') (h1 : c = none → l.len ≤ cap * sz) (h2 : cap * sz ≤ l.tot) :
    VR (ρ ++ [l]) (.sli ρ.length 0 n sz c) (.slice (some ⟨l.b, 0, none⟩) n cap) := by
  simp only [VR]
  exact ⟨l, _, cap, Ext.last _ _, rfl, hle, fun _ => by rw [hb], hc, fun h _ => by simpa using h1 h, fun _ => by rw [hb]; simpa using h2⟩

theorem zrow_length (z : List AV) (n : Nat) : (zrow z n).length = n * z.length := by
  induction n with
  | zero => simp [zrow]
  | succ n ih => simp [zrow, ih, Nat.add_mul, Nat.add_comm]

theorem zrow_get (z : List AV) (hz : 0 < z.length) : ∀ (n i : Nat), i < n * z.length → (zrow z n)[i]? = z[i % z.length]?
  | 0, i, h => by simp at h
  | n + 1, i, h => by
    simp only [zrow]
    by_cases hi : i < z.length
    · rw [List.getElem?_append_left hi, Nat.mod_eq_of_lt hi]
    · have h' := h
      rw [Nat.add_mul, Nat.one_mul] at h'
      rw [List.getElem?_append_right (by omega), zrow_get z hz n (i - z.length) (by omega)]
      congr 1
      exact (Nat.mod_eq_sub_mod (by omega)).symm

theorem VRs_zrow {z : List AV} {vs : List Value} (h : VRs ρ z vs) (hz : 0 < z.length) (n : Nat) : VRs ρ (zrow z n) ((List.range (n * z.length)).map fun i => vs[i % vs.length]!) := by
  rw [VRs_iff]
  refine ⟨by simp [zrow_length], fun i x hx => ?_⟩
  have hlt := (List.getElem?_eq_some_iff.1 hx).1
  rw [zrow_length] at hlt
  rw [zrow_get z hz n i hlt] at hx
  obtain ⟨v, hv, hxv⟩ := h.get hx
  refine ⟨v, ?_, hxv⟩
  rw [List.getElem?_map, List.getElem?_range hlt]
  simp [h.length, hv]

theorem foldl_seg (off : Nat) : ∀ (l : List Value) (k : Nat) (C : Array Value), off + k + l.length ≤ C.size →
    (l.zipIdx k).foldl (fun (cs : Array Value) (p : Value × Nat) => cs.setIfInBounds (off + p.2) p.1) C = (C.toList.take (off + k) ++ l ++ C.toList.drop (off + k + l.length)).toArray
  | [], k, C, h => by simp
  | v :: r, k, C, h => by
    simp only [List.length_cons] at h
    simp only [List.zipIdx_cons, List.foldl_cons]
    rw [foldl_seg off r (k + 1) _ (by simp; omega)]
    congr 1
    have e := list_seg_step C.toList (off + k) v r (by simp; omega)
    simpa [Array.toList_setIfInBounds, Nat.add_assoc] using e

theorem run_fill {place : Nat → Option (Nat × Nat)} : ∀ {ps : List (Nat × Operand)} {qs : List (Nat × Nat × Od)} {cs l : List AV} {C : Array Value}, cparts place ps = some qs → VRs ρ s a.tmps.toList → VRs ρ cs C.toList →
    fillA cs (qs.map fun p => (p.1, p.2.1, ev s p.2.2)) = some l → ∃ D, Instr.fill place C (ps.map fun p => (p.1, a.eval p.2)) = some D ∧ VRs ρ l D.toList ∧ D.size = C.size
  | [], _, cs, l, C, hp, hs, hC, h => by
    simp [cparts] at hp; subst hp
    simp [fillA] at h; subst h
    exact ⟨C, by simp [Instr.fill], hC, rfl⟩
  | (i, x) :: r, _, cs, l, C, hp, hs, hC, h => by
    unfold cparts at hp
    split at hp
    · rename_i off n y ys h1 h2 h3
      simp at hp; subst hp
      simp only [List.map_cons, fillA] at h
      split at h
      · rename_i hc
        have hx := (VR_ev hs h2).cells
        have hxl := hx.length
        have hCl := hC.length
        have hsp := hC.splice hx off
        have hle : off + (a.eval x).cells.size ≤ C.size := by simp at hCl hxl; omega
        let D : Array Value := (C.toList.take off ++ (a.eval x).cells.toList ++ C.toList.drop (off + (a.eval x).cells.toList.length)).toArray
        have hf : ((a.eval x).cells.zipIdx.foldl (fun cs (c, j) => cs.setIfInBounds (off + j) c) C) = D := by
          have e := foldl_seg off (a.eval x).cells.toList 0 C (by simpa using hle)
          rw [← Array.foldl_toList, Array.toList_zipIdx]
          simpa [D] using e
        obtain ⟨E, h4, h5, h6⟩ := run_fill (C := D) h3 hs (by simpa [D] using hsp) h
        refine ⟨E, ?_, h5, ?_⟩
        · simp only [List.map_cons, Instr.fill, h1]
          rw [if_neg (by simp at hCl hxl ⊢; omega), hf]
          exact h4
        · rw [h6]; simp [D]; omega
      · simp at h
    · simp at hp


theorem map_range_zero (f : Nat → Value) : (Array.range 0).map f = #[] := Array.eq_empty_of_size_eq_zero (by simp)

theorem arr_bang (a : Array Value) (i : Nat) : a[i]! = a.toList[i]! := by
  by_cases h : i < a.size
  · simp [h]
  · simp [h]

theorem arr_zrow (a : Array Value) (m : Nat) : ((Array.range m).map fun k => a[k % a.size]!).toList = (List.range m).map fun k => a.toList[k % a.toList.length]! := by
  simp only [Array.toList_map, Array.toList_range, Array.length_toList, arr_bang]

theorem run_places_any (fs : List Field) (h : ∀ f ∈ fs, (P.info? f.type).isSome = true) (w : World) :
    (fs.mapM (m := Sem) fun f => do pure (f.offset, ← sizeOf f.type)).run P w = .ok (fs.map fun f => (f.offset, P.cellsOf f.type)) w := by
  induction fs with
  | nil => simp
  | cons f r ih =>
    obtain ⟨i, hi⟩ := Option.isSome_iff_exists.1 (h f (by simp))
    have h2 := ih (fun g hg => h g (by simp [hg]))
    simp only [List.mapM_cons, Sem.run_bind, run_sizeOf' hi, Result.andThen_ok, Sem.run_pure, h2]
    simp [Program.cellsOf, hi]

theorem sim_buildS {t : TypeId} {fs : Array Field} {ps : Array (Nat × Operand)} {z l : List AV} {qs : List (Nat × Nat × Od)} (ho : o.op = .build t ps) (hu : P.underlying t = some (.struct fs)) (hz : zcells P t = some z) (hall : fs.all (fun f => (P.info? f.type).isSome) = true)
    (hq : cparts (fplace P fs) ps.toList = some qs) (hs : VRs ρ s a.tmps.toList) (hR : RH B ρ H w) (hl : fillA z (qs.map fun p => (p.1, p.2.1, ev s p.2.2)) = some l) :
    Does P B ρ w (execOp a.eval o) (.agg l) H := by
  obtain ⟨i, v, x, h1, h2, h3, rfl⟩ := zcells_some hz
  obtain ⟨D, h4, h5, _⟩ := run_fill hq hs (VR_absV h3).cells hl
  have hpl : (fs.mapM (m := Sem) fun f => do pure (f.offset, ← sizeOf f.type)).run P w = .ok (fs.map fun f => (f.offset, P.cellsOf f.type)) w := by
    have h6 := run_places_any (P := P) fs.toList (fun f hf => by
      rw [Array.all_eq_true'] at hall
      exact hall f (by simpa using hf)) w
    rw [Array.mapM_eq_mapM_toList]
    simp only [Sem.run_map, h6, Result.andThen_ok]
    congr 1
    apply Array.ext'
    simp
  have hf : Instr.fill ((fs.map fun f => (f.offset, P.cellsOf f.type))[·]?) v.cells (ps.map fun p => (p.1, a.eval p.2)).toList = some D := by
    rw [← h4]
    simp only [Array.toList_map]
    congr 1
    funext j
    unfold fplace
    simp only [Array.getElem?_map]
    cases hj : fs[j]? with
    | none => rfl
    | some f =>
      have hm : f ∈ fs := Array.mem_of_getElem? hj
      rw [Array.all_eq_true'] at hall
      obtain ⟨k, hk⟩ := Option.isSome_iff_exists.1 (hall f hm)
      simp [Program.cellsOf, hk]
  refine Does.pure (v' := .agg D) ?_ ?_ hR
  · simp only [execOp, ho, Instr.build, Sem.run_bind, run_zeroValue h1 h2, Result.andThen_ok, run_underlying hu, hpl, hf, Sem.run_pure]
  · simp only [VR]
    exact ⟨D.toList, by simp, h5⟩

theorem sim_buildA {t e : TypeId} {n : Nat} {j : TypeInfo} {ps : Array (Nat × Operand)} {z l : List AV} {qs : List (Nat × Nat × Od)} (ho : o.op = .build t ps) (hu : P.underlying t = some (.array n e)) (hz : zcells P t = some z) (hj : P.info? e = some j)
    (hq : cparts (fun k => some (k * j.size, j.size)) ps.toList = some qs) (hs : VRs ρ s a.tmps.toList) (hR : RH B ρ H w) (hl : fillA z (qs.map fun p => (p.1, p.2.1, ev s p.2.2)) = some l) :
    Does P B ρ w (execOp a.eval o) (.agg l) H := by
  obtain ⟨i, v, x, h1, h2, h3, rfl⟩ := zcells_some hz
  obtain ⟨D, h4, h5, _⟩ := run_fill hq hs (VR_absV h3).cells hl
  refine Does.pure (v' := .agg D) ?_ ?_ hR
  · simp [execOp, ho, Instr.build, run_zeroValue h1 h2, run_underlying hu, run_sizeOf' hj, h4]
  · simp only [VR]
    exact ⟨D.toList, by simp, h5⟩

theorem sim_lit {t e : TypeId} {n : Nat} {j : TypeInfo} {ps : Array (Nat × Operand)} {z l : List AV} {qs : List (Nat × Nat × Od)} (ho : o.op = .buildSlice t n ps) (hu : P.underlying t = some (.slice e)) (hz : zcells P e = some z) (hj : P.info? e = some j)
    (hc : n * j.size ≤ 16777216 ∧ z.length = j.size ∧ 0 < j.size)
    (hq : cparts (fun k => some (k * j.size, j.size)) ps.toList = some qs) (hs : VRs ρ s a.tmps.toList) (hR : RH B ρ H w) (hl : fillA (zrow z n) (qs.map fun p => (p.1, p.2.1, ev s p.2.2)) = some l) :
    Does P B ρ w (execOp a.eval o) (.sli H.length 0 n j.size (some n)) (AM.alloc H (.row l true)) := by
  obtain ⟨h6, h7, h8⟩ := hc
  obtain ⟨i, v, x, h1, h2, h3, rfl⟩ := zcells_some hz
  rw [hj] at h1; cases h1
  have hv := (VR_absV (ρ := ρ) h3).cells
  have hvl := hv.length
  have hzr := VRs_zrow hv (by omega) n
  let C0 : Array Value := (Array.range (n * j.size)).map fun k => v.cells[k % v.cells.size]!
  have hC0 : C0.toList = (List.range (n * x.cells.length)).map fun k => v.cells.toList[k % v.cells.toList.length]! := by
    rw [arr_zrow, h7]
  obtain ⟨D, h4, h5, h9⟩ := run_fill (C := C0) hq hs (by rw [hC0]; exact hzr) hl
  have hlD := h5.length
  have hDs : D.size = n * j.size := by rw [h9]; simp [C0]
  refine Does.row hR (C := D) (e := e) (by simp at hlD; omega) (by rw [List.take_of_length_le (by simp at hlD ⊢; omega)]; exact h5) (v' := .slice (some ⟨w.heap.size, 0, none⟩) n n) ?_ ?_
  · simp only [execOp, ho, Instr.buildSlice, Sem.run_bind, run_underlying hu, Result.andThen_ok, run_sizeOf' hj]
    rw [show (2 ^ 24 : Nat) = 16777216 from rfl, if_neg (by omega)]
    by_cases h0 : n * j.size = 0
    · have e0 : C0 = #[] := Array.eq_empty_of_size_eq_zero (by simp [C0, h0])
      rw [e0] at h4
      simp only [h0, if_true, Sem.run_bind, Sem.run_pure, Result.andThen_ok]
      simp [h4, newRow, map_range_zero]
    · have h4' : Instr.fill (fun k => some (k * j.size, j.size)) ((Array.range (n * j.size)).map fun k => v.cells[k % v.cells.size]!) (List.map (fun p => (p.fst, a.eval p.snd)) ps.toList) = some D := h4
      simp only [h0, if_false, Sem.run_bind, Sem.run_pure, Result.andThen_ok, run_zeroValue hj h2]
      simp [h4', newRow]
  · rw [← hR.len]
    exact VR_newSlice rfl (Nat.le_refl _) (by simp) (by simp) (by simp; omega)

theorem sim_mkM {t : TypeId} (ho : o.op = .makeMap t none) (hR : RH B ρ H w) : Does P B ρ w (execOp a.eval o) (.map H.length) (AM.alloc H (.mp [])) := by
  refine ⟨ρ ++ [⟨w.heap.size, 0, 0, 0, true⟩], w.alloc (.map #[] 0), .value (.map (some w.heap.size)), _, ?_, .inl rfl, Ext.one _ _, ?_, ?_, (Below.refl _ _).alloc hR.base _⟩
  · simp [execOp, ho, Instr.makeMap]
  · simp only [VR]
    exact ⟨_, by rw [← hR.len]; exact Ext.last _ _, rfl⟩
  · exact hR.alloc _ _ _ rfl ⟨rfl, #[], 0, heap_alloc_at _ _, by simp [PR]⟩

theorem sim_mkS {t e : TypeId} {i : TypeInfo} {z : List AV} {lo co : Operand} {l' c' : Od} {kl kc : IntKind} {l c : Int} (ho : o.op = .makeSlice t lo co) (hu : P.underlying t = some (.slice e)) (hi : P.info? e = some i) (hz : zcells P e = some z) (hzl : z.length = i.size) (hz0 : 0 < i.size)
    (h1 : cod lo = some l') (h2 : cod co = some c') (hs : VRs ρ s a.tmps.toList) (hR : RH B ρ H w) (hl : ev s l' = .int kl l) (hc : ev s c' = .int kc c)
    (hb : 0 ≤ l ∧ l ≤ c ∧ c ≤ 9223372036854775807 ∧ (i.bytes : Int) * c ≤ 281474976710656) :
    Does P B ρ w (execOp a.eval o) (.sli H.length 0 l.toNat z.length (some c.toNat)) (AM.alloc H (.row (zrow z c.toNat) true)) := by
  obtain ⟨b1, b2, b3, b4⟩ := hb
  obtain ⟨i', v, x, h3, h4, h5, rfl⟩ := zcells_some hz
  rw [hi] at h3; cases h3
  have hx := VR_ev hs h1
  rw [hl] at hx
  have hx := VR_int hx
  have hy := VR_ev hs h2
  rw [hc] at hy
  have hy := VR_int hy
  have hv := (VR_absV (ρ := ρ) h5).cells
  have hvl := hv.length
  have hzr := VRs_zrow hv (by omega) c.toNat
  have wr : ∀ n : Int, 0 ≤ n → n ≤ 9223372036854775807 → IntKind.i64.wrap n = n := by
    intro n p q
    simp only [IntKind.wrap, IntKind.bits, IntKind.signed]
    have : n % 2 ^ 64 = n := by omega
    simp [this]
    omega
  let C : Array Value := (Array.range (c.toNat * i.size)).map fun k => v.cells[k % v.cells.size]!
  have hC : C.toList = (List.range (c.toNat * x.cells.length)).map fun k => v.cells.toList[k % v.cells.toList.length]! := by rw [arr_zrow, hzl]
  have hCs : C.size = c.toNat * i.size := by simp [C]
  refine Does.row hR (C := C) (e := e) (by rw [zrow_length, hCs, hzl]; exact Nat.le_refl _) (by rw [zrow_length, List.take_of_length_le (by simp [hCs, hzl]), hC]; exact hzr) (v' := .slice (some ⟨w.heap.size, 0, none⟩) l.toNat c.toNat) ?_ ?_
  · have big : ¬ ((decide (c < 0) || decide ((i.bytes : Int) * c > 2 ^ 48)) || decide (l < 0) || decide (l > c)) = true := by
      simp
      omega
    simp only [execOp, ho, Instr.makeSlice, Sem.run_bind, run_underlying hu, Result.andThen_ok, hx, hy, asInt, asIntOf, Sem.run_pure, typeInfo, run_program, hi, wr l b1 (by omega), wr c (by omega) b3]
    rw [if_neg big]
    simp only [Sem.run_bind, run_askRoom, Result.andThen_ok, run_sizeOf' hi]
    by_cases h0 : c.toNat * i.size = 0
    · have e0 : C = #[] := Array.eq_empty_of_size_eq_zero (by simp [C, h0])
      rw [e0]
      simp [h0, newRow, map_range_zero]
    · simp only [h0, if_false, Sem.run_bind, Sem.run_pure, Result.andThen_ok, run_zeroValue hi h4]
      simp [newRow, C]
  · rw [← hR.len]
    exact VR_newSlice rfl (by omega) (by simp) (by simp) (by simp [hCs, hzl])



theorem sb_ok {x : Operand} {y : Od} {d top cap n : Nat} (hx : cod x = some y) (hs : VRs ρ s a.tmps.toList) (h : bnd s (some y) d top = some n) (hy : top ≤ cap) (code : BoundsCode) :
    (Instr.sliceBound (a.eval x) cap code).run P w = .ok n w ∧ n ≤ top := by
  have hv := VR_ev hs hx
  simp only [bnd] at h
  split at h
  · rename_i k m hm
    rw [hm] at hv
    have hv := VR_int hv
    split at h
    · rename_i hb
      simp at h; subst h
      refine ⟨?_, by omega⟩
      simp only [hv, Instr.sliceBound, asIntOf, Sem.run_bind, Sem.run_pure, Result.andThen_ok]
      rw [if_pos (by omega)]
      rfl
    · simp at h
  · simp at h

theorem codo_none {x : Option Operand} (h : codo x = some none) : x = none := by
  cases x <;> simp [codo] at h ⊢

theorem codo_some {x : Option Operand} {y : Od} (h : codo x = some (some y)) : ∃ z, x = some z ∧ cod z = some y := by
  cases x with
  | none => simp [codo] at h
  | some z => simp [codo] at h; exact ⟨z, rfl, h⟩

theorem sliceBounds_ok {isS : Bool} {len cap : Nat} {lo hi mx : Option Operand} {lo' hi' mx' : Option Od} {l h m top : Nat} (h1 : codo lo = some lo') (h2 : codo hi = some hi') (h3 : codo mx = some mx') (hm : mx'.isSome = true → hi'.isSome = true) (hs : VRs ρ s a.tmps.toList)
    (ht : top ≤ cap) (hlen : len ≤ top) (b1 : bnd s mx' top top = some m) (b2 : bnd s hi' len m = some h) (b3 : bnd s lo' 0 h = some l) :
    ∃ m', (Instr.sliceBounds isS len cap (lo.map a.eval) (hi.map a.eval) (mx.map a.eval)).run P w = .ok (l, h, m') w ∧ m' = (if mx'.isSome then m else cap) ∧ h ≤ m' ∧ l ≤ h ∧ m' ≤ cap ∧ m ≤ m' := by
  have hl : (match lo.map a.eval with | some v => Instr.sliceBound v h .sliceB | none => pure 0).run P w = .ok l w ∧ (match lo.map a.eval with | some v => Instr.sliceBound v h .slice3C | none => pure 0).run P w = .ok l w ∧ l ≤ h := by
    cases lo' with
    | none =>
      have := codo_none h1; subst this
      simp [bnd] at b3; subst b3
      simp
    | some y =>
      obtain ⟨z, rfl, hz⟩ := codo_some h1
      obtain ⟨p1, q1⟩ := sb_ok (P := P) (w := w) hz hs b3 (Nat.le_refl h) .sliceB
      obtain ⟨p2, _⟩ := sb_ok (P := P) (w := w) hz hs b3 (Nat.le_refl h) .slice3C
      exact ⟨by simpa using p1, by simpa using p2, q1⟩
  obtain ⟨hl1, hl2, hl3⟩ := hl
  cases mx' with
  | none =>
    have := codo_none h3; subst this
    simp [bnd] at b1; subst b1
    cases hi' with
    | none =>
      have := codo_none h2; subst this
      simp [bnd] at b2; subst b2
      refine ⟨cap, ?_, by simp, by omega, hl3, Nat.le_refl _, ht⟩
      simp only [Option.map_none, Instr.sliceBounds, Sem.run_bind, Sem.run_pure, Result.andThen_ok]
      cases lo with
      | none => simp at hl1 ⊢; exact hl1
      | some z => simp only [Option.map_some] at hl1 ⊢; simp [hl1]
    | some y =>
      obtain ⟨z, rfl, hz⟩ := codo_some h2
      have q1 := (sb_ok (P := P) (w := w) hz hs b2 (Nat.le_refl _) .sliceB).2
      have p1 := (sb_ok (P := P) (w := w) hz hs b2 ht (if isS = true then .sliceAcap else .sliceAlen)).1
      refine ⟨cap, ?_, by simp, by omega, hl3, Nat.le_refl _, ht⟩
      simp only [Option.map_none, Option.map_some, Instr.sliceBounds, Sem.run_bind, Sem.run_pure, Result.andThen_ok, p1]
      cases lo with
      | none => simp at hl1 ⊢; exact hl1
      | some z => simp only [Option.map_some] at hl1 ⊢; simp [hl1]
  | some y =>
    obtain ⟨z, rfl, hz⟩ := codo_some h3
    have q1 := (sb_ok (P := P) (w := w) hz hs b1 (Nat.le_refl _) .sliceB).2
    have p1 := (sb_ok (P := P) (w := w) hz hs b1 ht (if isS = true then .slice3Acap else .slice3Alen)).1
    cases hi' with
    | none => simp at hm
    | some y2 =>
      obtain ⟨z2, rfl, hz2⟩ := codo_some h2
      obtain ⟨p2, q2⟩ := sb_ok (P := P) (w := w) hz2 hs b2 (Nat.le_refl _) .slice3B
      refine ⟨m, ?_, by simp, q2, hl3, by omega, Nat.le_refl _⟩
      simp only [Option.map_some, Instr.sliceBounds, Sem.run_bind, Sem.run_pure, Result.andThen_ok, p1, p2, Option.isSome_some, if_true]
      cases lo with
      | none => simp at hl2 ⊢; exact hl2
      | some z => simp only [Option.map_some] at hl2 ⊢; simp [hl2]

theorem sim_slS {t e : TypeId} {i : TypeInfo} {x : Operand} {x' : Od} {lo hi mx : Option Operand} {lo' hi' mx' : Option Od} {l h m b off len : Nat} {c : Option Nat} (ho : o.op = .slice t x lo hi mx) (hu : P.underlying t = some (.slice e)) (hi0 : P.info? e = some i)
    (h0 : cod x = some x') (h1 : codo lo = some lo') (h2 : codo hi = some hi') (h3 : codo mx = some mx') (hm : mx'.isSome = true → hi'.isSome = true) (hs : VRs ρ s a.tmps.toList) (hR : RH B ρ H w)
    (hx : ev s x' = .sli b off len i.size c) (b1 : bnd s mx' (c.getD len) (c.getD len) = some m) (b2 : bnd s hi' len m = some h) (b3 : bnd s lo' 0 h = some l) :
    Does P B ρ w (execOp a.eval o) (.sli b (off + l * i.size) (h - l) i.size (if mx'.isSome then some (m - l) else c.map (· - l))) H := by
  have hv := VR_ev hs h0
  rw [hx] at hv
  simp only [VR] at hv
  obtain ⟨lc, ad, cap, g1, g2, g3, g4, g5, g6, g7⟩ := hv
  have ht : c.getD len ≤ cap := by
    cases c with
    | none => simpa using g3
    | some c0 => have := g5 c0 rfl; simp; omega
  have hlen : len ≤ c.getD len := by
    cases c with
    | none => simp
    | some c0 => have := g5 c0 rfl; simp; omega
  obtain ⟨m', r1, r2, r3, r4, r5, r6⟩ := sliceBounds_ok (P := P) (w := w) (isS := true) h1 h2 h3 hm hs ht hlen b1 b2 b3
  refine Does.pure (v' := .slice (if m' = l then some ad else (some ad).map (·.add (l * i.size))) (h - l) (m' - l)) ?_ ?_ hR
  · simp [execOp, ho, g2, Instr.sliceAt, run_underlying hu, Instr.slice, r1, run_sizeOf' hi0]
  · simp only [VR]
    have hmul : ∀ q, l ≤ q → l * i.size + (q - l) * i.size = q * i.size := by
      intro q hq
      rw [← Nat.add_mul]
      congr 1
      omega
    refine ⟨lc, if m' = l then ad else ad.add (l * i.size), m' - l, g1, ?_, by omega, ?_, ?_, ?_, ?_⟩
    · split <;> rfl
    · intro hne
      rw [if_neg (by omega), g4 (by omega), addr_add]
      congr 1
      omega
    · intro c' hc'
      cases hmx : mx'.isSome with
      | true => simp [hmx] at hc' r2; omega
      | false =>
        simp [hmx] at hc' r2
        obtain ⟨c0, hc0, rfl⟩ := hc'
        have := g5 c0 hc0
        omega
    · intro hc hown
      cases hmx : mx'.isSome with
      | true => simp [hmx] at hc
      | false =>
        simp [hmx] at hc r2
        subst hc r2
        have := g6 rfl hown
        have := hmul m' (by omega)
        omega
    · intro hown
      have g7 := g7 hown
      have e1 := hmul m' (by omega)
      have : m' * i.size ≤ cap * i.size := Nat.mul_le_mul_right _ r5
      omega

theorem sim_slNil {t e : TypeId} {i : TypeInfo} {x : Operand} {x' : Od} {lo hi mx : Option Operand} {lo' hi' mx' : Option Od} {l h m : Nat} (ho : o.op = .slice t x lo hi mx) (hu : P.underlying t = some (.slice e)) (hi0 : P.info? e = some i)
    (h0 : cod x = some x') (h1 : codo lo = some lo') (h2 : codo hi = some hi') (h3 : codo mx = some mx') (hm : mx'.isSome = true → hi'.isSome = true) (hs : VRs ρ s a.tmps.toList) (hR : RH B ρ H w)
    (hx : ev s x' = .nils) (b1 : bnd s mx' 0 0 = some m) (b2 : bnd s hi' 0 m = some h) (b3 : bnd s lo' 0 h = some l) :
    Does P B ρ w (execOp a.eval o) .nils H := by
  have hv := VR_ev hs h0
  rw [hx] at hv
  simp only [VR] at hv
  obtain ⟨m', r1, r2, r3, r4, r5, r6⟩ := sliceBounds_ok (P := P) (w := w) (isS := true) (cap := 0) h1 h2 h3 hm hs (Nat.le_refl 0) (Nat.le_refl 0) b1 b2 b3
  have : m' = 0 := by omega
  subst this
  have : h = 0 := by omega
  subst this
  have : l = 0 := by omega
  subst this
  refine Does.pure (v' := .slice none 0 0) ?_ (by simp [VR]) hR
  simp [execOp, ho, hv, Instr.sliceAt, run_underlying hu, Instr.slice, r1, run_sizeOf' hi0]

theorem sim_slT {t : TypeId} {x : Operand} {x' : Od} {lo hi : Option Operand} {lo' hi' : Option Od} {l h : Nat} {b : List UInt8} (ho : o.op = .slice t x lo hi none) (hu : P.underlying t = some .string)
    (h0 : cod x = some x') (h1 : codo lo = some lo') (h2 : codo hi = some hi') (hs : VRs ρ s a.tmps.toList) (hR : RH B ρ H w)
    (hx : ev s x' = .str b) (b2 : bnd s hi' b.length b.length = some h) (b3 : bnd s lo' 0 h = some l) :
    Does P B ρ w (execOp a.eval o) (.str ((b.take h).drop l)) H := by
  have hv := VR_ev hs h0
  rw [hx] at hv
  have hv := VR_str hv
  obtain ⟨m', r1, r2, r3, r4, r5, r6⟩ := sliceBounds_ok (P := P) (w := w) (isS := false) (cap := b.length) (mx := none) (mx' := none) h1 h2 rfl (by simp) hs (Nat.le_refl _) (Nat.le_refl _) (m := b.length) (by simp [bnd]) b2 b3
  simp only [Option.map_none] at r1
  refine Does.pure (v' := .string ((⟨b.toArray⟩ : ByteArray).extract l h)) ?_ ?_ hR
  · simp only [execOp, ho, hv, Instr.sliceAt, Option.map_none, Sem.run_bind, run_underlying hu, Result.andThen_ok, Instr.slice, Option.isSome_none, Bool.false_eq_true, if_false, str_size, r1, Sem.run_pure]
  · simp only [VR]
    congr 1
    apply ByteArray.ext
    apply Array.ext'
    simp [ByteArray.data_extract, List.extract_eq_take_drop, List.drop_take]

theorem bytes_beq (x y : List UInt8) : ((⟨x.toArray⟩ : ByteArray) == ⟨y.toArray⟩) = (x == y) := by
  show (x.toArray == y.toArray) = _
  simp

theorem keyEq_same {k x : AV} {b : Bool} {k' x' : Value} {d : TypeDesc} {kk : KK} (hd : kkind d = some kk) (hf : kfit kk k = true) (hk : VR ρ k k') (hx : VR ρ x x') (h : keyEq k x = some b) :
    Instr.sameNow d k' x' = some b := by
  cases k <;> cases x <;> simp [keyEq] at h
  · have hk := VR_int hk; have hx := VR_int hx
    subst hk hx
    obtain ⟨h1, h2⟩ := h
    subst h1 h2
    cases kk <;> simp [kfit] at hf
    cases d <;> simp [kkind] at hd
    simp [Instr.sameNow]
  · have hk := VR_bool hk; have hx := VR_bool hx
    subst hk hx h
    cases kk <;> simp [kfit] at hf
    cases d <;> simp [kkind] at hd
    simp [Instr.sameNow]
  · have hk := VR_str hk; have hx := VR_str hx
    subst hk hx h
    cases kk <;> simp [kfit] at hf
    cases d <;> simp [kkind] at hd
    simp only [Instr.sameNow, bytes_beq]

theorem PR.get : ∀ {ps : List (AV × AV)} {ms : List MapEntry}, PR ρ ps ms → ms.length = ps.length ∧ ∀ (i : Nat) (p : AV × AV), ps[i]? = some p → ∃ m, ms[i]? = some m ∧ VR ρ p.1 m.key ∧ VR ρ p.2 m.val
  | [], _, h => by simp [PR] at h; subst h; simp
  | p :: ps, ms, h => by
    simp only [PR] at h
    obtain ⟨m, r, rfl, h1, h2, h3⟩ := h
    obtain ⟨h4, h5⟩ := PR.get h3
    refine ⟨by simp [h4], fun i q hq => ?_⟩
    cases i with
    | zero => simp at hq; subst hq; exact ⟨m, rfl, h1, h2⟩
    | succ i => simp at hq; simpa using h5 i q hq

theorem PR.push {ps : List (AV × AV)} {ms : List MapEntry} (h : PR ρ ps ms) {p : AV × AV} {m : MapEntry} (h1 : VR ρ p.1 m.key) (h2 : VR ρ p.2 m.val) : PR ρ (ps ++ [p]) (ms ++ [m]) := by
  induction ps generalizing ms with
  | nil =>
    simp [PR] at h; subst h
    simp only [List.nil_append, PR]
    exact ⟨m, [], rfl, h1, h2, rfl⟩
  | cons q ps ih =>
    simp only [PR] at h
    obtain ⟨m', r, rfl, h3, h4, h5⟩ := h
    simp only [List.cons_append, PR]
    exact ⟨m', r ++ [m], rfl, h3, h4, ih h5⟩

theorem PR.set {ps : List (AV × AV)} {ms : List MapEntry} (h : PR ρ ps ms) (i : Nat) {p : AV × AV} (f : MapEntry → MapEntry) (h1 : ∀ m, ms[i]? = some m → VR ρ p.1 (f m).key ∧ VR ρ p.2 (f m).val) : PR ρ (ps.set i p) (ms.modify i f) := by
  induction ps generalizing ms i with
  | nil => simp [PR] at h; subst h; simp [PR]
  | cons q ps ih =>
    simp only [PR] at h
    obtain ⟨m', r, rfl, h3, h4, h5⟩ := h
    cases i with
    | zero =>
      simp only [List.set_cons_zero, List.modify_zero_cons, PR]
      obtain ⟨h6, h7⟩ := h1 m' rfl
      exact ⟨_, _, rfl, h6, h7, h5⟩
    | succ i =>
      simp only [List.set_cons_succ, List.modify_succ_cons, PR]
      exact ⟨_, _, rfl, h3, h4, ih h5 i (fun m hm => h1 m (by simpa using hm))⟩

theorem run_find {k : AV} {k' : Value} {d : TypeDesc} {kk : KK} (hd : kkind d = some kk) (hf : kfit kk k = true) (hk : VR ρ k k') : ∀ {ps : List (AV × AV)} {ms : List MapEntry} {i : Nat} {r : Option (Nat × AV)}, PR ρ ps ms → find k ps i = some r →
    ∃ r', Instr.findNow d k' ms i = some r' ∧ (match r, r' with | none, none => True | some (j, v), some (j', v') => j = j' ∧ VR ρ v v' ∧ i ≤ j ∧ (∃ p m, ps[j - i]? = some p ∧ ms[j - i]? = some m ∧ keyEq k p.1 = some true ∧ VR ρ p.1 m.key) | _, _ => False)
  | [], _, i, r, h, hr => by
    simp [PR] at h; subst h
    simp [find] at hr; subst hr
    exact ⟨none, by simp [Instr.findNow], trivial⟩
  | p :: ps, _, i, r, h, hr => by
    simp only [PR] at h
    obtain ⟨m, rest, rfl, h1, h2, h3⟩ := h
    simp only [find] at hr
    split at hr
    · rename_i he
      simp at hr; subst hr
      refine ⟨some (i, m.val), ?_, rfl, h2, Nat.le_refl _, p, m, by simp, by simp, he, h1⟩
      simp [Instr.findNow, keyEq_same hd hf hk h1 he]
    · rename_i he
      obtain ⟨r', h4, h5⟩ := run_find hd hf hk h3 hr
      refine ⟨r', ?_, ?_⟩
      · simp [Instr.findNow, keyEq_same hd hf hk h1 he, h4]
      · cases r with
        | none =>
          cases r' with
          | none => trivial
          | some _ => exact h5.elim
        | some r =>
          cases r' with
          | none => exact h5.elim
          | some r' =>
            obtain ⟨h6, h7, h8, p', m', h9, h10, h11, h12⟩ := h5
            refine ⟨h6, h7, by omega, p', m', ?_, ?_, h11, h12⟩
            · rw [show r.1 - i = (r.1 - (i + 1)) + 1 by omega]; simpa using h9
            · rw [show r.1 - i = (r.1 - (i + 1)) + 1 by omega]; simpa using h10
    · simp at hr

theorem run_checkKey0 {t : TypeId} {d : TypeDesc} {kk : KK} (hd : P.underlying t = some d) (hk : kkind d = some kk) (e : Bool) (v : Value) (n : Nat) : (Instr.checkKey e (n + 1) t v).run P w = .ok () w := by
  cases d <;> simp [kkind] at hk <;> simp [Instr.checkKey, run_underlying hd]

theorem RH.mapIn (hR : RH B ρ H w) {b : Nat} {es : List (AV × AV)} (h : mapAt H b = some es) : ∃ lc ms clock, ρ[b]? = some lc ∧ lc.own = true ∧ w.heap[lc.b]? = some (.map ms clock) ∧ PR ρ es ms.toList := by
  obtain ⟨lc, h1, h2, ms, clock, h3, h4⟩ := hR.get (mapAt_some h)
  exact ⟨lc, ms, clock, h1, h2, h3, h4⟩

theorem run_getObj_map {b : Nat} {ms : Array MapEntry} {clock : Nat} (h : w.heap[b]? = some (.map ms clock)) : (getObj b).run P w = .ok (.map ms clock) w := by
  simp [getObj, Sem.run, h]

theorem ckind_some {t : TypeId} {kk : KK} (h : ckind P t = some kk) : ∃ d, P.underlying t = some d ∧ kkind d = some kk := by
  unfold ckind at h
  split at h
  · rename_i d hd
    exact ⟨d, hd, h⟩
  · simp at h

theorem sim_look {t kt e : TypeId} {kk : KK} {i : TypeInfo} {z : Value} {za : AV} {ok : Bool} {m k : Operand} {m' k' : Od} {b : Nat} {es : List (AV × AV)} {r : Option (Nat × AV)} (ho : o.op = .lookup t m k ok) (hu : P.underlying t = some (.map kt e)) (hk : ckind P kt = some kk) (hi : P.info? e = some i) (hz : i.zero = some z) (hza : absV z = some za)
    (h1 : cod m = some m') (h2 : cod k = some k') (hs : VRs ρ s a.tmps.toList) (hR : RH B ρ H w) (hm : ev s m' = .map b) (hes : mapAt H b = some es) (hf : kfit kk (ev s k') = true) (hr : find (ev s k') es 0 = some r) :
    Does P B ρ w (execOp a.eval o) (match r with | some (_, v) => if ok then .tup [v, .bool true] else v | none => if ok then .tup [za, .bool false] else za) H := by
  obtain ⟨d, hd, hkk⟩ := ckind_some hk
  obtain ⟨lc, ms, clock, g1, g2, g3, g4⟩ := hR.mapIn hes
  have hv := VR_ev hs h1
  rw [hm] at hv
  obtain ⟨lc', g1', hv⟩ := VR_map hv
  rw [g1] at g1'; cases g1'
  have hkv := VR_ev hs h2
  obtain ⟨r', h3, h4⟩ := run_find hkk hf hkv g4 hr
  have hck : (Instr.checkKey ms.isEmpty 10000 kt (a.eval k)).run P w = .ok () w := run_checkKey0 hd hkk _ _ 9999
  have hfk : (Instr.findKey kt (a.eval k) ms.toList).run P w = .ok r' w := by simp [Instr.findKey, run_underlying hd, h3]
  have hrun : ∀ r', (Instr.findKey kt (a.eval k) ms.toList).run P w = .ok r' w → (execOp a.eval o).run P w = .ok (.value (match r' with | some (_, v) => if ok then .tuple #[v, .bool true] else v | none => if ok then .tuple #[z, .bool false] else z)) w := by
    intro r' hfk
    simp only [execOp, ho, Instr.lookup, Sem.run_bind, run_underlying hu, Result.andThen_ok, hv, run_getObj_map g3, Sem.run_pure, hck, hfk]
    cases r' with
    | none => simp [run_zeroValue hi hz]
    | some r' => simp
  cases r with
  | none =>
    cases r' with
    | some _ => exact h4.elim
    | none =>
      refine Does.pure (hrun none hfk) ?_ hR
      cases ok with
      | true =>
        simp only [if_true, VR]
        exact ⟨[z, .bool false], rfl, VRs_cons.2 ⟨_, _, rfl, VR_absV hza, VRs_cons.2 ⟨_, _, rfl, VR_mk_bool, by simp [VRs]⟩⟩⟩
      | false => simpa using VR_absV hza
  | some r =>
    cases r' with
    | none => exact h4.elim
    | some r' =>
      obtain ⟨_, h5, _⟩ := h4
      refine Does.pure (hrun _ hfk) ?_ hR
      cases ok with
      | true =>
        simp only [if_true, VR]
        exact ⟨[r'.2, .bool true], rfl, VRs_cons.2 ⟨_, _, rfl, h5, VRs_cons.2 ⟨_, _, rfl, VR_mk_bool, by simp [VRs]⟩⟩⟩
      | false => simpa using h5

theorem sim_lookNil {t kt e : TypeId} {kk : KK} {i : TypeInfo} {z : Value} {za : AV} {ok : Bool} {m k : Operand} {m' k' : Od} (ho : o.op = .lookup t m k ok) (hu : P.underlying t = some (.map kt e)) (hk : ckind P kt = some kk) (hi : P.info? e = some i) (hz : i.zero = some z) (hza : absV z = some za)
    (h1 : cod m = some m') (h2 : cod k = some k') (hs : VRs ρ s a.tmps.toList) (hR : RH B ρ H w) (hm : ev s m' = .nilm) (hf : kfit kk (ev s k') = true) :
    Does P B ρ w (execOp a.eval o) (if ok then .tup [za, .bool false] else za) H := by
  obtain ⟨d, hd, hkk⟩ := ckind_some hk
  have hv := VR_ev hs h1
  rw [hm] at hv
  simp only [VR] at hv
  have hkv := VR_ev hs h2
  have hck : (Instr.checkKey (#[] : Array MapEntry).isEmpty 10000 kt (a.eval k)).run P w = .ok () w := run_checkKey0 hd hkk _ _ 9999
  have hfk : (Instr.findKey kt (a.eval k) (#[] : Array MapEntry).toList).run P w = .ok none w := by simp [Instr.findKey, run_underlying hd, Instr.findNow]
  refine Does.pure (v' := if ok then .tuple #[z, .bool false] else z) ?_ ?_ hR
  · simp only [execOp, ho, Instr.lookup, Sem.run_bind, run_underlying hu, Result.andThen_ok, hv, Sem.run_pure, hck, hfk]
    simp [run_zeroValue hi hz]
  · cases ok with
    | true =>
      simp only [if_true, VR]
      exact ⟨[z, .bool false], rfl, VRs_cons.2 ⟨_, _, rfl, VR_absV hza, VRs_cons.2 ⟨_, _, rfl, VR_mk_bool, by simp [VRs]⟩⟩⟩
    | false => simpa using VR_absV hza

end
end Go.AM

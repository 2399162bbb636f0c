/- What an operation does to abstract values and the abstract heap; and the preparation of the program's code. -/
import Derived.Test.YtpgelghkjiejlaaSmC
set_option linter.unusedVariables false
set_option linter.unusedSimpArgs false
namespace Go.Proofs.Ytpgelghkjiejlaa
open Go

def V.known : V → Bool
  | .un => false
  | _ => true
/-- A value of one cell. -/
def V.one : V → Bool
  | .un | .ag _ | .tu _ => false
  | _ => true

def fillA (cs : List V) : List (Nat × Nat × V) → Option (List V)
  | [] => some cs
  | (off, sz, v) :: r => if v.known && v.cells.length == sz && decide (off + sz ≤ cs.length) then fillA (setAll cs off v.cells) r else none
/-- The cells of n elements, each zero. -/
def zrep (z : List V) (n : Nat) : List V :=
  match z with
  | [x] => List.replicate n x
  | z => (List.replicate n z).flatten

abbrev Got := Option (V × Nat × Heap)
def evNew (n : Nat) (H : Heap) (cs : List V) : Got := some (.p n 0, n + 1, (n, .row true cs) :: H)
def evLd (n : Nat) (H : Heap) (agg : Bool) (sz : Nat) : V → Got
  | .p id off =>
    match aget H id with
    | some (.row _ cs) =>
      if agg then (if off + sz ≤ cs.length then some (.ag ((cs.drop off).take sz), n, H) else none)
      else match cs[off]? with
        | some v => some (v, n, H)
        | none => none
    | _ => none
  | _ => none
def evSt (n : Nat) (H : Heap) (sz : Nat) (a x : V) : Got :=
  match a with
  | .p id off =>
    match aget H id with
    | some (.row true cs) =>
      if x.known && x.cells.length == sz && x.cells.all V.one && decide (off + sz ≤ cs.length) then some (.un, n, aput H id (.row true (setAll cs off x.cells))) else none
    | _ => none
  | _ => none
def cmpI (op : BinOp) (a b : Int) : Option V :=
  match op with
  | .eql => some (.b (a == b))
  | .neq => some (.b (a != b))
  | .lss => some (.b (decide (a < b)))
  | .leq => some (.b (decide (a ≤ b)))
  | .gtr => some (.b (decide (a > b)))
  | .geq => some (.b (decide (a ≥ b)))
  | _ => none
def binI (op : BinOp) (k : IntKind) (a : Int) (k' : IntKind) (b : Int) : Option V :=
  match op with
  | .shl => if 0 ≤ b then some (.i k (k.wrap (a * 2 ^ (min b.toNat k.bits)))) else none
  | .shr => if 0 ≤ b then some (.i k (a.fdiv (2 ^ (min b.toNat k.bits)))) else none
  | .add => if k = k' then some (.i k (k.wrap (a + b))) else none
  | .sub => if k = k' then some (.i k (k.wrap (a - b))) else none
  | .mul => if k = k' then some (.i k (k.wrap (a * b))) else none
  | .quo => if k = k' ∧ b ≠ 0 then some (.i k (k.wrap (a.tdiv b))) else none
  | .rem => if k = k' ∧ b ≠ 0 then some (.i k (a.tmod b)) else none
  | .and => if k = k' then some (.i k (k.wrap (BitVec.ofInt k.bits a &&& BitVec.ofInt k.bits b).toNat)) else none
  | .or => if k = k' then some (.i k (k.wrap (BitVec.ofInt k.bits a ||| BitVec.ofInt k.bits b).toNat)) else none
  | .xor => if k = k' then some (.i k (k.wrap (BitVec.ofInt k.bits a ^^^ BitVec.ofInt k.bits b).toNat)) else none
  | .andNot => if k = k' then some (.i k (k.wrap (BitVec.ofInt k.bits a &&& ~~~ BitVec.ofInt k.bits b).toNat)) else none
  | op => if k = k' then cmpI op a b else none
def binS (op : BinOp) (a b : List UInt8) : Option V :=
  match op with
  | .eql => some (.b (a == b))
  | .neq => some (.b (!(a == b)))
  | .lss => some (.b (Op.bytesLess a b))
  | .leq => some (.b (Op.bytesLess a b || a == b))
  | .gtr => some (.b (!(Op.bytesLess a b || a == b)))
  | .geq => some (.b (!(Op.bytesLess a b)))
  | .add => if a.length + b.length ≤ 9223372036854775807 then some (.s (a ++ b)) else none
  | _ => none
def evBin (op : BinOp) : V → V → Option V
  | .i k a, .i k' b => binI op k a k' b
  | .s a, .s b => binS op a b
  | _, _ => none
/-- '==' of two cells, by the kind of their type: 0 bool, 1 number, 2 string, 3 pointer (against nil), 4 slice (against nil), 5 function (against nil). -/
def eqOne : Nat → V → V → Option Bool
  | 0, .b x, .b y => some (x == y)
  | 1, .i k x, .i k' y => if k = k' then some (x == y) else none
  | 2, .s x, .s y => some (x == y)
  | 3, .nilp, .nilp => some true
  | 3, .nilp, .p _ _ => some false
  | 3, .p _ _, .nilp => some false
  | 4, .nils, .nils => some true
  | 4, .nils, .sl .. => some false
  | 4, .sl .., .nils => some false
  | 5, .nilf, .nilf => some true
  | 5, .nilf, .fn .. => some false
  | 5, .fn .., .nilf => some false
  | _, _, _ => none
def EqT (P : Program) (t : TypeId) : Nat → Prop
  | 0 => P.underlying t = some .bool
  | 1 => ∃ q, P.underlying t = some (.int q)
  | 2 => P.underlying t = some .string
  | 3 => ∃ e, P.underlying t = some (.pointer e)
  | 4 => ∃ e, P.underlying t = some (.slice e)
  | _ => ∃ a b c, P.underlying t = some (.func a b c)
def eqAll : List Nat → List V → List V → Option Bool
  | [], [], [] => some true
  | k :: ks, x :: xs, y :: ys =>
    match eqOne k x y, eqAll ks xs ys with
    | some a, some b => some (a && b)
    | _, _ => none
  | _, _, _ => none
def evEqs (neg : Bool) (ks : List Nat) (x y : V) : Option V :=
  match x, y with
  | .ag xs, .ag ys => (eqAll ks xs ys).map fun r => .b (if neg then !r else r)
  | _, _ => none
def evEq1 (neg : Bool) (k : Nat) (x y : V) : Option V := (eqOne k x y).map fun r => .b (if neg then !r else r)
def evUn (op : UnOp) : V → Option V
  | .b x => match op with | .not => some (.b (!x)) | _ => none
  | .i k a => match op with
    | .neg => some (.i k (k.wrap (0 - a)))
    | .xor => some (.i k (k.wrap (BitVec.ofInt k.bits (if k.signed then -1 else k.max) ^^^ BitVec.ofInt k.bits a).toNat))
    | _ => none
  | _ => none
def evMks (n : Nat) (H : Heap) (sz bytes : Nat) (z : List V) : V → V → Got
  | .i _ l, .i _ c => if 0 ≤ l ∧ l ≤ c ∧ c * bytes ≤ 140737488355328 ∧ c ≤ 140737488355328 then some (.sl n 0 sz l.toNat (l == c), n + 1, (n, .row true (zrep z c.toNat)) :: H) else none
  | _, _ => none
def natOf : V → Option Nat
  | .i _ a => if 0 ≤ a then some a.toNat else none
  | _ => none
def bound (d : Nat) : Option V → Option Nat
  | none => some d
  | some v => natOf v
def evSls (sz : Nat) (x : V) (lo hi mx : Option V) : Option V :=
  match x with
  | .sl id off sz' len full =>
    match bound 0 lo, bound len hi, bound len mx with
    | some l, some h, some m => if sz' = sz ∧ l ≤ h ∧ h ≤ m ∧ m ≤ len then some (.sl id (off + l * sz) sz (h - l) (if mx.isSome then h == m else full && h == len)) else none
    | _, _, _ => none
  | .nils =>
    match bound 0 lo, bound 0 hi, bound 0 mx with
    | some 0, some 0, some 0 => some .nils
    | _, _, _ => none
  | _ => none
def evSla (H : Heap) (n sz : Nat) (x : V) (lo hi mx : Option V) : Option V :=
  match x with
  | .p id off =>
    match bound 0 lo, bound n hi, bound n mx, aget H id with
    | some l, some h, some m, some (.row _ cs) => if l ≤ h ∧ h ≤ m ∧ m ≤ n ∧ off + n * sz ≤ cs.length then some (.sl id (off + l * sz) sz (h - l) (h == m)) else none
    | _, _, _, _ => none
  | _ => none
def evStr (x : V) (lo hi : Option V) : Option V :=
  match x with
  | .s s =>
    match bound 0 lo, bound s.length hi with
    | some l, some h => if l ≤ h ∧ h ≤ s.length then some (.s ((s.drop l).take (h - l))) else none
    | _, _ => none
  | _ => none
def evFa (off : Nat) : V → Option V
  | .p id o => some (.p id (o + off))
  | _ => none
def evFld (agg : Bool) (off sz : Nat) : V → Option V
  | .ag cs => if agg then (if off + sz ≤ cs.length then some (.ag ((cs.drop off).take sz)) else none) else cs[off]?
  | _ => none
def evIas (sz : Nat) : V → V → Option V
  | .sl id off sz' len _, .i _ i => if sz' = sz ∧ 0 ≤ i ∧ i < len then some (.p id (off + i.toNat * sz)) else none
  | _, _ => none
def evIaa (len sz : Nat) : V → V → Option V
  | .p id off, .i _ i => if 0 ≤ i ∧ i < len then some (.p id (off + i.toNat * sz)) else none
  | _, _ => none
def evIxs : V → V → Option V
  | .s s, .i _ i => if 0 ≤ i then (s[i.toNat]?).map fun c => .i .u8 (c.toNat : Int) else none
  | _, _ => none
def evLen : Bool → V → Option V
  | true, .s s => some (.i .i64 s.length)
  | false, .sl _ _ _ len _ => some (.i .i64 len)
  | false, .nils => some (.i .i64 0)
  | _, _ => none
def minI : V → V → Option V
  | .i k a, .i _ b => some (.i k (if b < a then b else a))
  | _, _ => none
def maxI : V → V → Option V
  | .i k a, .i _ b => some (.i k (if a < b then b else a))
  | _, _ => none
def foldO (f : V → V → Option V) : V → List V → Option V
  | x, [] => some x
  | x, y :: r => match f x y with | some z => foldO f z r | none => none
def evFold (f : V → V → Option V) : List V → Option V
  | [] => none
  | x :: r => foldO f x r
/-- The cells of a slice. -/
def cellsOf (H : Heap) (sz : Nat) : V → Option (List V)
  | .nils => some []
  | .sl id off sz' len _ =>
    match aget H id with
    | some (.row _ cs) => if sz' = sz ∧ off + len * sz ≤ cs.length then some ((cs.drop off).take (len * sz)) else none
    | _ => none
  | _ => none
def lenS : V → Nat
  | .sl _ _ _ len _ => len
  | _ => 0
def evApp (n : Nat) (H : Heap) (sz bytes : Nat) (s x : V) : Got :=
  match cellsOf H sz x with
  | some new =>
    if new.all V.one then
    match s with
    | .nils => if lenS x = 0 then some (.nils, n, H) else if lenS x * bytes ≤ 140737488355328 then some (.sl n 0 sz (lenS x) false, n + 1, (n, .row true new) :: H) else none
    | .sl id off sz' len full =>
      match aget H id with
      | some (.row own cs) =>
        if sz' = sz ∧ off + len * sz ≤ cs.length ∧ (len + lenS x) * bytes ≤ 140737488355328 then
          if full then
            (if lenS x = 0 then some (.sl id off sz len true, n, H) else some (.sl n 0 sz (len + lenS x) false, n + 1, (n, .row true ((cs.drop off).take (len * sz) ++ new)) :: H))
          else if own then some (.sl n 0 sz (len + lenS x) false, n + 1, (n, .row true ((cs.drop off).take (len * sz) ++ new)) :: adel H id) else none
        else none
      | _ => none
    | _ => none
    else none
  | none => none
def evCpy (n : Nat) (H : Heap) (sz : Nat) (d s : V) : Got :=
  match cellsOf H sz s with
  | some new =>
    match d with
    | .nils => some (.i .i64 0, n, H)
    | .sl id off sz' len _ =>
      match aget H id with
      | some (.row true cs) =>
        if sz' = sz ∧ off + len * sz ≤ cs.length ∧ new.all V.one then some (.i .i64 (min (lenS s) len : Nat), n, aput H id (.row true (setAll cs off (new.take (min (lenS s) len * sz))))) else none
      | _ => none
    | _ => none
  | none => none
def evClr (n : Nat) (H : Heap) (sz : Nat) (z : List V) : V → Got
  | .nils => some (.tu [], n, H)
  | .sl id off sz' len _ =>
    if len = 0 then some (.tu [], n, H) else
    match aget H id with
    | some (.row true cs) => if sz' = sz ∧ z.length = sz ∧ off + len * sz ≤ cs.length ∧ z.all V.one then some (.tu [], n, aput H id (.row true (setAll cs off (zrep z len)))) else none
    | _ => none
  | _ => none
def byteOf : V → Option UInt8
  | .i .u8 a => some (UInt8.ofNat a.toNat)
  | _ => none
def bytesOf : List V → Option (List UInt8)
  | [] => some []
  | v :: r => match byteOf v, bytesOf r with | some b, some l => some (b :: l) | _, _ => none
def evB2s (H : Heap) (x : V) : Option V :=
  match cellsOf H 1 x with
  | some cs => (bytesOf cs).map .s
  | none => none
def evNil : V → Option V
  | .p id off => some (.p id off)
  | _ => none
def evExt (i : Nat) : V → Option V
  | .tu xs => xs[i]?
  | _ => none
def keep (n : Nat) (H : Heap) : Option V → Got
  | some v => some (v, n, H)
  | none => none

def evalOp (T : Temps) (n : Nat) (H : Heap) : AOp → Got
  | .mv x => some (x.val T, n, H)
  | .pick c a b => match c.val T with | .b t => some (if t then a.val T else b.val T, n, H) | _ => none
  | .new z => evNew n H z
  | .box x => if (x.val T).known then evNew n H (x.val T).cells else none
  | .build z ps => keep n H ((fillA z (ps.map fun (o, s, x) => (o, s, x.val T))).map .ag)
  | .lit sz len z ps =>
    match fillA z (ps.map fun (i, x) => (i * sz, sz, x.val T)) with
    | some cs => some (.sl n 0 sz len true, n + 1, (n, .row true cs) :: H)
    | none => none
  | .ld agg sz a => evLd n H agg sz (a.val T)
  | .st sz a x => evSt n H sz (a.val T) (x.val T)
  | .bin op x y => keep n H (evBin op (x.val T) (y.val T))
  | .eqs neg ks x y => keep n H (evEqs neg ks (x.val T) (y.val T))
  | .eq1 neg k x y => keep n H (evEq1 neg k (x.val T) (y.val T))
  | .un op x => keep n H (evUn op (x.val T))
  | .conv k x => match x.val T with | .i _ a => some (.i k (k.wrap a), n, H) | _ => none
  | .mkf g first caps => some (.fn g (first.map (·.val T)) (caps.map (·.val T)), n, H)
  | .mks sz bytes z l c => evMks n H sz bytes z (l.val T) (c.val T)
  | .sls sz x lo hi mx => keep n H (evSls sz (x.val T) (lo.map (·.val T)) (hi.map (·.val T)) (mx.map (·.val T)))
  | .sla m sz x lo hi mx => keep n H (evSla H m sz (x.val T) (lo.map (·.val T)) (hi.map (·.val T)) (mx.map (·.val T)))
  | .sstr x lo hi => keep n H (evStr (x.val T) (lo.map (·.val T)) (hi.map (·.val T)))
  | .fa off x => keep n H (evFa off (x.val T))
  | .fld agg off sz x => keep n H (evFld agg off sz (x.val T))
  | .ias sz x i => keep n H (evIas sz (x.val T) (i.val T))
  | .iaa len sz x i => keep n H (evIaa len sz (x.val T) (i.val T))
  | .ixs x i => keep n H (evIxs (x.val T) (i.val T))
  | .blen g x => keep n H (evLen g (x.val T))
  | .bmin xs => keep n H (evFold minI (xs.map (·.val T)))
  | .bmax xs => keep n H (evFold maxI (xs.map (·.val T)))
  | .app sz bytes _ s x => evApp n H sz bytes (s.val T) (x.val T)
  | .cpy sz d s => evCpy n H sz (d.val T) (s.val T)
  | .clr sz z x => evClr n H sz z (x.val T)
  | .call _ _ => none
  | .nilc x => keep n H (evNil (x.val T))
  | .ext x i => keep n H (evExt i (x.val T))
  | .b2s x => keep n H (evB2s H (x.val T))

/-! ### The preparation -/
def oneOf : Value → Option V
  | .bool x => some (.b x)
  | .int k n => some (.i k n)
  | .string s => some (.s s.data.toList)
  | .pointer none => some .nilp
  | .slice none 0 0 => some .nils
  | .nilFunc => some .nilf
  | .nilIface => some .nili
  | _ => none
def oneAll : List Value → Option (List V)
  | [] => some []
  | x :: r => match oneOf x, oneAll r with | some v, some l => some (v :: l) | _, _ => none
def ofConst : Value → Option V
  | .agg cs => (oneAll cs.toList).map .ag
  | .tuple cs => (oneAll cs.toList).map .tu
  | v => oneOf v
def prepX : Operand → Option AX
  | .tmp t => some (.t t)
  | .const v => (ofConst v).map .c
  | .func f => some (.f f)
  | .global _ => none
def prepXs : List Operand → Option (List AX)
  | [] => some []
  | x :: r => match prepX x, prepXs r with | some v, some l => some (v :: l) | _, _ => none
def prepO : Option Operand → Option (Option AX)
  | none => some none
  | some x => (prepX x).map some
def zeroL (P : Program) (t : TypeId) : Option (List V) :=
  match P.info? t with
  | some i => match i.zero with | some z => oneAll z.cells.toList | none => none
  | none => none
def sizeL (P : Program) (t : TypeId) : Option Nat := (P.info? t).map (·.size)
def aggL (P : Program) (t : TypeId) : Option Bool :=
  match P.underlying t with
  | some (.struct _) => some true
  | some (.array _ _) => some true
  | some _ => some false
  | none => none
def prepParts : List (Nat × Operand) → Option (List (Nat × AX))
  | [] => some []
  | (i, x) :: r => match prepX x, prepParts r with | some v, some l => some ((i, v) :: l) | _, _ => none
def placeL (P : Program) (fs : List Field) : List (Nat × AX) → Option (List (Nat × Nat × AX))
  | [] => some []
  | (i, x) :: r =>
    match fs[i]? with
    | some f => match sizeL P f.type, placeL P fs r with | some s, some l => some ((f.offset, s, x) :: l) | _, _ => none
    | none => none
def eqKind (P : Program) (t : TypeId) : Option Nat :=
  match P.underlying t with
  | some .bool => some 0
  | some (.int _) => some 1
  | some .string => some 2
  | _ => none
def eqKinds (P : Program) : List Field → Nat → Option (List Nat)
  | [], _ => some []
  | f :: r, off =>
    if f.offset = off ∧ f.name ≠ "_" then
      match eqKind P f.type, eqKinds P r (off + 1) with
      | some k, some l => some (k :: l)
      | _, _ => none
    else none
def eqStructT (P : Program) (t : TypeId) : Option (List Nat) :=
  match P.underlying t with
  | some (.struct fs) => if !(P.stoodInHeld t) && !(P.eqGuardType P.depth t) then eqKinds P fs.toList 0 else none
  | _ => none
def negOf : BinOp → Option Bool
  | .eql => some false
  | .neq => some true
  | _ => none
def prepBuiltin (P : Program) (b : Builtin) (argTypes : List TypeId) (args : List AX) : Option AOp :=
  match b, argTypes, args with
  | .len, [t], [x] => match P.underlying t with | some .string => some (.blen true x) | some (.slice _) => some (.blen false x) | _ => none
  | .min, _, xs => some (.bmin xs)
  | .max, _, xs => some (.bmax xs)
  | .append, [t, t'], [s, x] =>
    match P.underlying t, P.underlying t' with
    | some (.slice e), some (.slice _) => match P.info? e, zeroL P e with | some i, some z => if 0 < i.size ∧ 0 < i.bytes ∧ z.length = i.size then some (.app i.size i.bytes z s x) else none | _, _ => none
    | _, _ => none
  | .copy, [t, t'], [d, s] =>
    match P.underlying t, P.underlying t' with
    | some (.slice e), some (.slice _) => match sizeL P e with | some sz => if 0 < sz then some (.cpy sz d s) else none | _ => none
    | _, _ => none
  | .clear, [t], [x] =>
    match P.underlying t with
    | some (.slice e) => match sizeL P e, zeroL P e with | some sz, some z => if 0 < sz then some (.clr sz z x) else none | _, _ => none
    | _ => none
  | _, _, _ => none
def prepOp (P : Program) : Op → Option AOp
  | .move x => (prepX x).map .mv
  | .assign x => (prepX x).map .mv
  | .pick c a b => match prepX c, prepX a, prepX b with | some c, some a, some b => some (.pick c a b) | _, _, _ => none
  | .alloc t => (zeroL P t).map .new
  | .box _ x => (prepX x).map .box
  | .build t ps =>
    match P.underlying t, zeroL P t, prepParts ps.toList with
    | some (.struct fs), some z, some l => if fs.toList.all (fun f => (sizeL P f.type).isSome) then (placeL P fs.toList l).map (.build z) else none
    | _, _, _ => none
  | .buildSlice t len ps =>
    match P.underlying t, prepParts ps.toList with
    | some (.slice e), some l =>
      match sizeL P e, zeroL P e with
      | some sz, some z => if len * sz ≤ 2 ^ 24 ∧ z.length = sz ∧ 0 < sz then some (.lit sz len (zrep z len) l) else none
      | _, _ => none
    | _, _ => none
  | .load t a => match aggL P t, sizeL P t, prepX a with | some g, some s, some a => some (.ld g s a) | _, _, _ => none
  | .store t a x => match sizeL P t, prepX a, prepX x with | some s, some a, some x => some (.st s a x) | _, _, _ => none
  | .binOp op t x y _ =>
    match prepX x, prepX y, P.underlying t with
    | some x, some y, some (.int _) => some (.bin op x y)
    | some x, some y, some .string => some (.bin op x y)
    | some x, some y, some .bool => (negOf op).map fun g => .eq1 g 0 x y
    | some x, some y, some (.pointer _) => (negOf op).map fun g => .eq1 g 3 x y
    | some x, some y, some (.slice _) => (negOf op).map fun g => .eq1 g 4 x y
    | some x, some y, some (.func ..) => (negOf op).map fun g => .eq1 g 5 x y
    | some x, some y, some (.struct _) => match negOf op, eqStructT P t with | some g, some ks => some (.eqs g ks x y) | _, _ => none
    | _, _, _ => none
  | .unOp op _ x => (prepX x).map (.un op)
  | .convert src dst x =>
    match P.underlying src, P.underlying dst, prepX x with
    | some (.int _), some (.int k), some x => some (.conv k x)
    | some .string, some .string, some x => some (.sstr x none none)
    | some (.slice e), some .string, some x => match P.underlying e with | some (.int .u8) => some (.b2s x) | _ => none
    | _, _, _ => none
  | .makeFunc (.func g) first caps => match prepXs first.toList, prepXs caps.toList with | some a, some b => some (.mkf g a b) | _, _ => none
  | .makeSlice t l c =>
    match P.underlying t, prepX l, prepX c with
    | some (.slice e), some l, some c => match P.info? e, zeroL P e with | some i, some z => if 0 < i.size ∧ 0 < i.bytes ∧ z.length = i.size then some (.mks i.size i.bytes z l c) else none | _, _ => none
    | _, _, _ => none
  | .slice t x lo hi mx =>
    match P.underlying t, prepX x, prepO lo, prepO hi, prepO mx with
    | some .string, some x, some lo, some hi, some none => some (.sstr x lo hi)
    | some (.slice e), some x, some lo, some hi, some mx => if (mx.isSome → hi.isSome) then (sizeL P e).map fun s => .sls s x lo hi mx else none
    | some (.array n e), some x, some lo, some hi, some mx => if (mx.isSome → hi.isSome) then (sizeL P e).map fun s => .sla n s x lo hi mx else none
    | _, _, _, _, _ => none
  | .fieldAddr t x f =>
    match P.underlying t, prepX x with
    | some (.struct fs), some x => match fs[f]? with | none => none | some fd => match sizeL P fd.type with | some (_ + 1) => some (.fa fd.offset x) | _ => none
    | _, _ => none
  | .field t x f =>
    match P.underlying t, prepX x with
    | some (.struct fs), some x => match fs[f]? with | none => none | some fd => match sizeL P fd.type, aggL P fd.type with | some s, some g => some (.fld g fd.offset s x) | _, _ => none
    | _, _ => none
  | .indexAddr t x i =>
    match P.underlying t, prepX x, prepX i with
    | some (.slice e), some x, some i => (sizeL P e).map fun s => .ias s x i
    | some (.array n e), some x, some i => (sizeL P e).map fun s => .iaa n s x i
    | _, _, _ => none
  | .index t x i =>
    match P.underlying t, prepX x, prepX i with
    | some .string, some x, some i => some (.ixs x i)
    | _, _, _ => none
  | .call c =>
    match c.callee, prepXs c.args.toList with
    | .value f, some l => (prepX f).map fun g => .call g l
    | .builtin b, some l => prepBuiltin P b c.argTypes.toList l
    | _, _ => none
  | .nilCheck x => (prepX x).map .nilc
  | .extract x i => (prepX x).map fun x => .ext x i
  | _ => none
end Go.Proofs.Ytpgelghkjiejlaa

/- The second run: the remaining operations, and the whole of it. -/
import Derived.Test.YtiedaccgagnofaaGreatG
namespace Go.Proofs.YtiedaccgagnofaaGreat
open Go.RowKit

/-- What a computation without memory comes to. -/
def prun {α : Type} (P : Program) : Sem α → Option α
  | .pure a => some a
  | .program k => prun P (k P)
  | .mark _ k => prun P k
  | .choose q k => if q.forced then prun P (k 0) else none
  | _ => none

/-- What an operation of the second run comes to. -/
inductive LNext where
  | value (v : Value)
  | skip
  | defer (d : Deferred)
  | recover
  | enter (f : FuncId) (args : List Value)
  | round (l : Nat) (args : List Value)

/-- What is known of functions and methods, and how far the run goes into them. -/
structure Ctx extends Tab where
  P : Program
  fn : FuncId → Option Func
  meth : TypeId → String → Option FuncId
  spec : FuncId → Option (List Value → LH → Option (Value × LH))
  dspec : FuncId → Bool
  ext : FuncId → Option (List Value → LH → Option (Value × LH))

noncomputable def lindexAgg (C : Tab) (t : TypeId) (x i : Value) : Option Value :=
  match x, i, C.desc t with
  | .agg cs, .int _ n, some (.array len e) =>
    match C.info e, decide (0 ≤ n) && decide (n < (len : Int)) with
    | some (_, s, _), true => lpart C e cs (n.toNat * s)
    | _, _ => none
  | _, _, _ => none

noncomputable def lmakeIface (C : Tab) (t : TypeId) (x : Value) : Option Value :=
  match C.desc t with
  | some (.interface _) => none
  | some _ => some (.iface t x)
  | none => none

noncomputable def lassert (C : Tab) (x : Value) (t : TypeId) (ok : Bool) : Option Value :=
  match x, C.desc t with
  | .iface d v, some (.interface _) => none
  | .iface d v, some _ => match Nat.beq d t, ok with
    | true, true => some (.tuple #[v, .bool true])
    | true, false => some v
    | false, true => match C.info t with
      | some (z, _, _) => some (.tuple #[z, .bool false])
      | none => none
    | false, false => none
  | _, _ => none

noncomputable def lnilCheck (C : Ctx) (x : Value) : Option Value :=
  match x with
  | .pointer (some _) | .iface _ _ => some x
  | .func fn first _ => match fn with
    | .method name => match (first[0]? : Option Value) with
      | some (.iface t _) => match C.meth t name with
        | some _ => some x
        | none => none
      | _ => none
    | _ => some x
  | _ => none

/-- == between values with places: nil, one object. -/
noncomputable def leq (C : Tab) (t : TypeId) (x y : Value) : Option Bool :=
  match C.desc t, x, y with
  | some (.pointer _), .pointer none, .pointer b => some b.isNone
  | some (.pointer _), .pointer (some _), .pointer none => some false
  | some (.pointer e), .pointer (some ⟨i, o, none⟩), .pointer (some ⟨j, q, none⟩) => match C.info e with
    | some (_, n, _) => match Nat.beq n 0, Nat.beq i j with
      | false, true => some (Nat.beq o q)
      | _, _ => none
    | none => none
  | some (.interface _), .nilIface, .iface _ _ => some false
  | some (.interface _), .iface _ _, .nilIface => some false
  | some (.interface _), .iface a _, .iface b _ => match Nat.beq a b with
    | false => some false
    | true => none
  | some (.slice _), .slice none _ _, .slice b _ _ => some b.isNone
  | some (.slice _), .slice (some _) _ _, .slice none _ _ => some false
  | some (.map _ _), .map none, .map b => some b.isNone
  | some (.map _ _), .map (some _), .map none => some false
  | some (.func _ _ _), .nilFunc, .func _ _ _ => some false
  | some (.func _ _ _), .func _ _ _, .nilFunc => some false
  | _, _, _ => none

noncomputable def lmakeMap (H : LH) : Option (Value × LH) :=
  match Nat.blt 0 1 with
  | true => some (.map (some H.next), H.new (.obj (.map #[] 0)))
  | false => none

noncomputable def lmakeSlice (C : Tab) (H : LH) (t : TypeId) (len cap : Value) : Option (Value × LH) :=
  match C.desc t, len, cap with
  | some (.slice e), .int _ l, .int _ c =>
    match C.info e with
    | some (z, n, b) =>
      match decide (0 ≤ l) && decide (l ≤ c) && decide (c ≤ 65536) && Nat.ble b 4096 && Nat.blt 0 n && Nat.blt 0 1 with
      | true => some (.slice (some ⟨H.next, 0, none⟩) l.toNat c.toNat, H.new (.cells ((Array.range (c.toNat * n)).map (z.cells[· % z.cells.size]!)).toList e n))
      | false => none
    | none => none
  | _, _, _ => none

noncomputable def lmapOf (H : LH) (x : Value) : Option (Array MapEntry × Nat) :=
  match x with
  | .map none => some (#[], 0)
  | .map (some id) => match H.at id with
    | some (.obj (.map es c)) => some (es, c)
    | _ => none
  | _ => none
noncomputable def lfind (C : Tab) (kt : TypeId) (k : Value) (es : Array MapEntry) : Option (Option (Nat × Value)) :=
  match C.desc kt with
  | some d => match d with
    | .int _ | .string | .bool => Instr.findNow d k es.toList 0
    | _ => none
  | none => none
noncomputable def llookup (C : Tab) (H : LH) (t : TypeId) (x k : Value) (ok : Bool) : Option Value :=
  match C.desc t with
  | some (.map kt et) =>
    match lmapOf H x with
    | some (es, _) => match lfind C kt k es, C.info et with
      | some (some (_, v)), some _ => some (if ok then .tuple #[v, .bool true] else v)
      | some none, some (z, _, _) => some (if ok then .tuple #[z, .bool false] else z)
      | _, _ => none
    | none => none
  | _ => none
noncomputable def lupdate (C : Tab) (H : LH) (t : TypeId) (x k v : Value) : Option LH :=
  match C.desc t, x with
  | some (.map kt _), .map (some id) =>
    match H.at id, Nat.blt 0 1 && flat k with
    | some (.obj (.map es c)), true => match lfind C kt k es with
      | some (some (i, _)) => some (H.put id (some (.obj (.map (es.modify i fun e => { e with key := k, val := v }) c))))
      | some none => some (H.put id (some (.obj (.map (es.push { key := k, val := v, born := c }) (c + 1)))))
      | none => none
    | _, _ => none
  | _, _ => none
noncomputable def ldelete (C : Tab) (H : LH) (t : TypeId) (x k : Value) : Option LH :=
  match C.desc t, x with
  | some (.map kt _), .map (some id) =>
    match H.at id, Nat.blt 0 1 with
    | some (.obj (.map es c)), true => match lfind C kt k es with
      | some (some (i, _)) => some (H.put id (some (.obj (.map (es.eraseIdxIfInBounds i) c))))
      | some none => some (H.put id (some (.obj (.map es c))))
      | none => none
    | _, _ => none
  | _, _ => none

/-- Going over a map, where no choice is left. -/
noncomputable def lrange (C : Tab) (H : LH) (t : TypeId) (x : Value) : Option (Value × LH) :=
  match C.desc t, Nat.blt 0 1 with
  | some (.map _ _), true => match x with
    | .map none => some (.pointer (some ⟨H.next, 0, none⟩), H.new (.obj (.mapIter none 0 #[] 0)))
    | .map (some id) => match H.at id with
      | some (.obj (.map _ c)) => some (.pointer (some ⟨H.next, 0, none⟩), H.new (.obj (.mapIter (some id) c #[] c)))
      | _ => none
    | _ => none
  | _, _ => none
noncomputable def lnext (H : LH) (x : Value) : Option (Value × LH) :=
  match x with
  | .pointer (some ⟨r, 0, none⟩) => match H.at r with
    | some (.obj (.mapIter none _ _ _)) => some (.tuple #[.bool false], H)
    | some (.obj (.mapIter (some m) since seen last)) => match H.at m, Nat.blt 0 1 with
      | some (.obj (.map es clock)), true =>
        match !seen.isEmpty && !es.isEmpty && es.all (fun e => decide (e.born ≥ last)) with
        | true => none
        | false =>
          match (es.filter fun e => !seen.contains e.born).toList with
          | [] => some (.tuple #[.bool false], H)
          | [e] => match decide (e.born < since) with
            | true => some (.tuple #[.bool true, e.key, e.val], H.put r (some (.obj (.mapIter (some m) since (seen.push e.born) clock))))
            | false => none
          | _ => none
      | _, _ => none
    | _ => none
  | _ => none
noncomputable def lentry (H : LH) (x : Value) : Option Value :=
  match x with
  | .pointer (some ⟨r, 0, none⟩) => match H.at r with
    | some (.obj (.mapIter (some m) _ seen stepped)) => match H.at m, seen.back? with
      | some (.obj (.map es clock)), some stamp => match Nat.beq clock stepped, es.find? (fun e => e.born == stamp) with
        | true, some e => some (.tuple #[e.key, e.val])
        | _, _ => none
      | _, _ => none
    | _ => none
  | _ => none

noncomputable def lcopy (C : Tab) (H : LH) (t : TypeId) (d x : Value) : Option (Value × LH) :=
  match C.desc t, d, llen x with
  | some (.slice e), .slice (some ⟨id, off, none⟩) dl _, some m =>
    match C.info e, H.at id with
    | some (_, size, _), some (.cells c e' s') =>
      match lcells H size (Nat.min m dl) x with
      | some news => match news.all single && Nat.ble (off + news.length) c.length && Nat.blt 0 1 with
        | true => some (goInt (Nat.min m dl), H.put id (some (.cells (splice c off news) e' s')))
        | false => none
      | none => none
    | _, _ => none
  | _, _, _ => none

/-- A slice of bytes as a string. -/
noncomputable def lbytes : List Value → Option (List UInt8)
  | [] => some []
  | .int .u8 b :: l => match lbytes l with
    | some r => some (b.toNat.toUInt8 :: r)
    | none => none
  | _ => none
noncomputable def ltoString (C : Tab) (H : LH) (src dst : TypeId) (x : Value) : Option Value :=
  match C.desc src, C.desc dst, llen x with
  | some (.slice e), some .string, some n => match C.desc e with
    | some (.int .u8) => match x with
      | .slice _ _ _ => match lcells H 1 n x with
        | some l => match lbytes l with
          | some b => some (.string ⟨b.toArray⟩)
          | none => none
        | none => none
      | _ => none
    | _ => none
  | _, _, _ => none
noncomputable def lsliceArr (C : Tab) (t : TypeId) (x : Value) (lo hi mx : Option Value) : Option Value :=
  match C.desc t, x, mx with
  | some (.array n e), .pointer (some ⟨id, off, none⟩), none =>
    match C.info e, lbound hi n n with
    | some (_, s, _), some h => match lbound lo 0 h, Nat.ble h n with
      | some l, true => match Nat.beq n l with
        | true => some (.slice (some ⟨id, off, none⟩) 0 0)
        | false => some (.slice (some ⟨id, off + l * s, none⟩) (h - l) (n - l))
      | _, _ => none
    | _, _ => none
  | _, _, _ => none

/-- Whole numbers, reckoned outright. -/
noncomputable def lwrap (k : IntKind) (r : Int) : Int :=
  match k with
  | .i64 => match decide (-9223372036854775808 ≤ r) && decide (r ≤ 9223372036854775807) with
    | true => r
    | false => k.wrap r
  | .u32 => r % 4294967296
  | .u64 => r % 18446744073709551616
  | .u8 => r % 256
  | k => k.wrap r
/-- Below this, and not below 0, bits stay what they are. -/
noncomputable def lwhole : IntKind → Nat
  | .u8 => 256
  | .u16 => 65536
  | .u32 => 4294967296
  | .u64 => 18446744073709551616
  | .i8 => 128
  | .i16 => 32768
  | .i32 => 2147483648
  | .i64 => 9223372036854775808
noncomputable def lwide : IntKind → Nat
  | .u8 | .i8 => 8
  | .u16 | .i16 => 16
  | .u32 | .i32 => 32
  | .u64 | .i64 => 64
noncomputable def lunsigned : IntKind → Bool
  | .u8 | .u16 | .u32 | .u64 => true
  | _ => false
def sameKind : IntKind → IntKind → Bool
  | .i64, .i64 | .u8, .u8 | .u32, .u32 | .u64, .u64 | .i8, .i8 | .i16, .i16 | .i32, .i32 | .u16, .u16 => true
  | _, _ => false
noncomputable def lbitsAt (f : Nat → Nat → Nat) (k : IntKind) (a b : Int) : Option Value :=
  match a, b with
  | .ofNat x, .ofNat y => match Nat.blt x (lwhole k) && Nat.blt y (lwhole k) with
    | true => some (.int k (.ofNat (f x y)))
    | false => none
  | _, _ => none
noncomputable def lbinAt (op : BinOp) (k : IntKind) (a b : Int) : Option Value :=
  match op with
  | .add => some (.int k (lwrap k (a + b)))
  | .sub => some (.int k (lwrap k (a - b)))
  | .mul => some (.int k (lwrap k (a * b)))
  | .eql => some (.bool (decide (a = b)))
  | .neq => some (.bool (!decide (a = b)))
  | .lss => some (.bool (decide (a < b)))
  | .leq => some (.bool (decide (a ≤ b)))
  | .gtr => some (.bool (decide (b < a)))
  | .geq => some (.bool (decide (b ≤ a)))
  | .and => lbitsAt (· &&& ·) k a b
  | .or => lbitsAt (· ||| ·) k a b
  | .xor => lbitsAt (· ^^^ ·) k a b
  | _ => none
noncomputable def lbin (op : BinOp) (k : IntKind) (a : Int) (k' : IntKind) (b : Int) : Option Value :=
  match sameKind k k' with
  | true => lbinAt op k a b
  | false => none
/-- Shifts of a number not below 0, by at most its width. -/
noncomputable def lshift (op : BinOp) (k : IntKind) (a b : Int) : Option Value :=
  match a, b with
  | .ofNat x, .ofNat n => match Nat.ble n (lwide k) with
    | true => match op with
      | .shr => some (.int k (.ofNat (x / 2 ^ n)))
      | .shl => match Nat.blt (x * 2 ^ n) (lwhole k) with
        | true => some (.int k (.ofNat (x * 2 ^ n)))
        | false => match lunsigned k with
          | true => some (.int k (.ofNat (x * 2 ^ n % lwhole k)))
          | false => none
      | _ => none
    | false => none
  | _, _ => none
noncomputable def lints (op : BinOp) (x y : Value) : Option Value :=
  match x, y with
  | .int k a, .int k' b => match op with
    | .shl | .shr => lshift op k a b
    | _ => lbin op k a k' b
  | _, _ => none

/-- A byte of a string. -/
noncomputable def lbyteAt (s : ByteArray) (i : Int) : Option Value :=
  match i with
  | .ofNat n => match s.data.toList[n]? with
    | some b => some (.int .u8 b.toNat)
    | none => none
  | _ => none

/-- Flat operands: what the program's own operation comes to. -/
noncomputable def lflat (P : Program) (ρ : Operand → Value) (o : Oper) (H : LH) : Option (LNext × LH) :=
  match o.op.operands.toList.all fun x => flat1 (ρ x) with
  | true => match prun P (execOp ρ o) with
    | some (.value v) => match flat1 v with
      | true => some (.value v, H)
      | false => none
    | _ => none
  | false => none

noncomputable def lloopAt (H : LH) (l : Nat) : Option LLoop :=
  match H.at l, Nat.blt 0 1 with
  | some (.loop r), true => some r
  | _, _ => none

noncomputable def lenter (C : Ctx) (H : LH) (f : FuncId) (args : Array Value) : Option (LNext × LH) :=
  match C.ext f with
  | some e => match e args.toList H with
    | some (v, H') => some (.value v, H')
    | none => none
  | none => match C.fn f with
    | some _ => some (.enter f args.toList, H)
    | none => none
noncomputable def lmethod (C : Ctx) (H : LH) (r : Value) (name : String) (args : Array Value) : Option (LNext × LH) :=
  match r with
  | .iface t v => match C.meth t name with
    | some f => lenter C H f (#[v] ++ args)
    | none => none
  | _ => none
noncomputable def lcallv (C : Ctx) (H : LH) (fv : Value) (args : Array Value) : Option (LNext × LH) :=
  match fv with
  | .func (.func f) first captured => lenter C H f (first ++ args ++ captured)
  | .func (.method name) first _ => match (first ++ args)[0]? with
    | some r => lmethod C H r name ((first ++ args).extract 1 (first ++ args).size)
    | none => none
  | .func (.yield l) first captured => match first.size, captured.size with
    | 0, 0 => match lloopAt H l with
      | some r => match Nat.beq args.size r.params.size with
        | true => some (.round l args.toList, H)
        | false => none
      | none => none
    | _, _ => none
  | _ => none

noncomputable def okv (H : LH) (x : Option Value) : Option (LNext × LH) :=
  match x with
  | some r => some (.value r, H)
  | none => none
noncomputable def okvh (x : Option (Value × LH)) : Option (LNext × LH) :=
  match x with
  | some r => some (.value r.1, r.2)
  | none => none
noncomputable def oku (x : Option LH) : Option (LNext × LH) :=
  match x with
  | some H' => some (.skip, H')
  | none => none
/-- Only where a value is without places. -/
noncomputable def ifFlat {β : Type} (v : Value) (x : Option β) : Option β :=
  match flat v with
  | true => x
  | false => none
noncomputable def ifFlat? {β : Type} (v : Option Value) (x : Option β) : Option β :=
  match v with
  | some v => ifFlat v x
  | none => x
noncomputable def lopLen (C : Ctx) (ρ : Operand → Value) (H : LH) (o : Oper) (x : Value) (t : TypeId) : Option (LNext × LH) :=
  match x, C.desc t with
  | .slice _ n _, some (.slice _) => some (.value (goInt n), H)
  | .string b, some .string => some (.value (goInt b.data.toList.length), H)
  | .map _, some (.map _ _) => match lmapOf H x with
    | some (es, _) => some (.value (goInt es.size), H)
    | none => none
  | _, _ => lflat C.P ρ o H
noncomputable def lbuiltin (C : Ctx) (ρ : Operand → Value) (H : LH) (b : Builtin) (c : Call) (o : Oper) : Option (LNext × LH) :=
  match b, c.args.toList.map ρ, c.argTypes.toList with
  | .append, [s, x], [t, t2] => okvh (lappend C.toTab H t t2 s x)
  | .len, [x], [t] => lopLen C ρ H o x t
  | .copy, [d, x], [t, _] => okvh (lcopy C.toTab H t d x)
  | .delete, [m, k], [t, _] => ifFlat k (match ldelete C.toTab H t m k with
    | some H' => some (.value (.tuple #[]), H')
    | none => none)
  | .recover, _, _ => some (.recover, H)
  | _, _, _ => lflat C.P ρ o H

noncomputable def lopPick (ρ : Operand → Value) (H : LH) (c a b : Operand) : Option (LNext × LH) :=
  match ρ c with
  | .bool true => some (.value (ρ a), H)
  | .bool false => some (.value (ρ b), H)
  | _ => none
noncomputable def lopIndex (C : Ctx) (ρ : Operand → Value) (H : LH) (t : TypeId) (x i : Operand) : Option (LNext × LH) :=
  match ρ x with
  | .agg _ => ifFlat (ρ i) (okv H (lindexAgg C.toTab t (ρ x) (ρ i)))
  | .string b => match ρ i, C.desc t with
    | .int _ n, some .string => okv H (lbyteAt b n)
    | _, _ => none
  | _ => none
noncomputable def lopSlice (C : Ctx) (ρ : Operand → Value) (H : LH) (o : Oper) (t : TypeId) (x : Operand) (lo hi mx : Option Operand) : Option (LNext × LH) :=
  match ρ x with
  | .slice _ _ _ => ifFlat? (lo.map ρ) (ifFlat? (hi.map ρ) (ifFlat? (mx.map ρ) (okv H (lslice C.toTab H t (ρ x) (lo.map ρ) (hi.map ρ) (mx.map ρ)))))
  | .pointer _ => ifFlat? (lo.map ρ) (ifFlat? (hi.map ρ) (ifFlat? (mx.map ρ) (okv H (lsliceArr C.toTab t (ρ x) (lo.map ρ) (hi.map ρ) (mx.map ρ)))))
  | _ => lflat C.P ρ o H
noncomputable def lopFunc (ρ : Operand → Value) (H : LH) (fn : Fn) (first captured : Array Operand) : Option (LNext × LH) :=
  match calm fn with
  | true => some (.value (.func fn (first.map ρ) (captured.map ρ)), H)
  | false => none
noncomputable def lopAssert (C : Ctx) (ρ : Operand → Value) (H : LH) (o : Oper) (x : Operand) (t : TypeId) (ok : Bool) : Option (LNext × LH) :=
  match ρ x with
  | .iface _ _ => okv H (lassert C.toTab (ρ x) t ok)
  | _ => lflat C.P ρ o H
noncomputable def lopEq (C : Ctx) (ρ : Operand → Value) (H : LH) (o : Oper) (t : TypeId) (x y : Value) (same : Bool) : Option (LNext × LH) :=
  match leq C.toTab t x y with
  | some b => some (.value (.bool (b == same)), H)
  | none => lflat C.P ρ o H
noncomputable def lopBin2 (C : Ctx) (ρ : Operand → Value) (H : LH) (o : Oper) (op : BinOp) (t : TypeId) (x y : Value) : Option (LNext × LH) :=
  match flat x && flat y with
  | true => lflat C.P ρ o H
  | false => match op with
    | .eql => lopEq C ρ H o t x y true
    | .neq => lopEq C ρ H o t x y false
    | _ => none
noncomputable def lopBin (C : Ctx) (ρ : Operand → Value) (H : LH) (o : Oper) (op : BinOp) (t : TypeId) (x y : Value) : Option (LNext × LH) :=
  match lints op x y with
  | some r => some (.value r, H)
  | none => lopBin2 C ρ H o op t x y
noncomputable def lopConvert (C : Ctx) (ρ : Operand → Value) (H : LH) (o : Oper) (src dst : TypeId) (x : Value) : Option (LNext × LH) :=
  match x with
  | .int _ n => match C.desc src, C.desc dst with
    | some _, some (.int k) => some (.value (.int k (lwrap k n)), H)
    | _, _ => lflat C.P ρ o H
  | .slice (some a) _ _ => match Nat.beq src dst with
    | true => match C.desc dst, H.at a.block with
      | some (.slice e), some (.cells _ _ _) => match C.desc e with
        | some (.int .u8) => some (.value x, H)
        | _ => none
      | _, _ => none
    | false => okv H (ltoString C.toTab H src dst x)
  | .slice none _ _ => okv H (ltoString C.toTab H src dst x)
  | _ => lflat C.P ρ o H
noncomputable def lopUn (C : Ctx) (ρ : Operand → Value) (H : LH) (o : Oper) (op : UnOp) (x : Value) : Option (LNext × LH) :=
  match op, x with
  | .not, .bool b => some (.value (.bool !b), H)
  | _, _ => lflat C.P ρ o H
noncomputable def lopCall (C : Ctx) (ρ : Operand → Value) (H : LH) (o : Oper) (c : Call) : Option (LNext × LH) :=
  match c.callee with
  | .builtin b => lbuiltin C ρ H b c o
  | .value f => lcallv C H (ρ f) (c.args.map ρ)
  | .invoke r name => lmethod C H (ρ r) name (c.args.map ρ)
noncomputable def lopDefer (ρ : Operand → Value) (H : LH) (c : Call) : Option (LNext × LH) :=
  match c.callee with
  | .value f => match ρ f with
    | .func (.func g) first captured => some (.defer { target := .fn (.func g) captured, args := first ++ c.args.map ρ }, H)
    | _ => none
  | _ => none

noncomputable def lop (C : Ctx) (ρ : Operand → Value) (H : LH) (o : Oper) : Option (LNext × LH) :=
  match o.op with
  | .move x => some (.value (ρ x), H)
  | .assign x => some (.value (ρ x), H)
  | .pick c a b => lopPick ρ H c a b
  | .alloc e => okvh (lalloc C.toTab H e)
  | .box e x => okvh (lnew H e (ρ x))
  | .build t parts => okv H (lbuild C.toTab t (parts.toList.map fun p => (p.1, ρ p.2)))
  | .buildSlice t n parts => okvh (lbuildSlice C.toTab H t n (parts.toList.map fun p => (p.1, ρ p.2)))
  | .load t a => okv H (lload C.toTab H t (ρ a))
  | .store t a x => oku (lstore C.toTab H t (ρ a) (ρ x))
  | .nilCheck x => okv H (lnilCheck C (ρ x))
  | .fieldAddr s x f => okv H (lfieldAddr C.toTab s (ρ x) f)
  | .field t x f => okv H (lfield C.toTab t (ρ x) f)
  | .indexAddr t x i => ifFlat (ρ i) (okv H (lindexAddr C.toTab t (ρ x) (ρ i)))
  | .index t x i => lopIndex C ρ H t x i
  | .slice t x lo hi mx => lopSlice C ρ H o t x lo hi mx
  | .extract t i => okv H (lextract (ρ t) i)
  | .makeInterface t x => okv H (lmakeIface C.toTab t (ρ x))
  | .makeFunc fn first captured => lopFunc ρ H fn first captured
  | .typeAssert x _ t ok => lopAssert C ρ H o x t ok
  | .makeMap _ none => okvh (lmakeMap H)
  | .makeSlice t l c => ifFlat (ρ l) (ifFlat (ρ c) (okvh (lmakeSlice C.toTab H t (ρ l) (ρ c))))
  | .lookup t x k ok => ifFlat (ρ k) (okv H (llookup C.toTab H t (ρ x) (ρ k) ok))
  | .range t x => okvh (lrange C.toTab H t (ρ x))
  | .next x false => okvh (lnext H (ρ x))
  | .entry x => okv H (lentry H (ρ x))
  | .mapUpdate t m k x => ifFlat (ρ k) (oku (lupdate C.toTab H t (ρ m) (ρ k) (ρ x)))
  | .binOp op t x y _ => lopBin C ρ H o op t (ρ x) (ρ y)
  | .convert src dst x => lopConvert C ρ H o src dst (ρ x)
  | .unOp op _ x => lopUn C ρ H o op (ρ x)
  | .call c => lopCall C ρ H o c
  | .defer c => lopDefer ρ H c
  | _ => none

/-- The state of an activation. -/
structure LS where
  tmps : PT Value
  defers : List Deferred
  heap : LH

noncomputable def LS.eval (s : LS) : Operand → Value
  | .tmp t => match s.tmps.get t with | some v => v | none => undef
  | .const v => v
  | .global _ => undef
  | .func f => .func (.func f) #[] #[]
noncomputable def LS.put (s : LS) (dst : Option Tmp) (v : Value) : LS :=
  match dst with
  | some d => { s with tmps := s.tmps.set (d + 1) d (some v) }
  | none => s

inductive LExit where
  | normal
  | exit (id : Nat)
  | ret

noncomputable def lwanted (ops : Array Oper) (s : LS) (o : Oper) : Bool :=
  match o.guard with
  | none => true
  | some (j, want) => match (ops[j]?).bind (·.dst) with
    | some t => match s.tmps.get t with
      | some (.bool b) => b == want
      | _ => false
    | none => false

noncomputable def largs : List Value → Nat → PT Value → PT Value
  | [], _, t => t
  | v :: l, i, t => largs l (i + 1) (t.set (i + 1) i (some v))
noncomputable def lparams : List Tmp → List Value → PT Value → PT Value
  | p :: ps, v :: vs, t => lparams ps vs (t.set (p + 1) p (some v))
  | _, _, t => t

noncomputable def lresult (C : Tab) (s : LS) : ResultVar → Option Value
  | .tmp t => some (s.eval (.tmp t))
  | .cell a t => lload C s.heap t (s.eval (.tmp a))
noncomputable def lresults (C : Tab) (s : LS) : List ResultVar → Option (List Value)
  | [] => some []
  | r :: l => match lresult C s r, lresults C s l with
    | some v, some vs => some (v :: vs)
    | _, _ => none

/-- The record of a range over a function, and the mark among the deferred calls. -/
noncomputable def lenterLoop (H : LH) (ro : Option Nat) (tmps : PT Value) (params : Array Tmp) (assign body : Code) : Option (Nat × List Deferred × LH) :=
  match Nat.blt 0 1 with
  | false => none
  | true => match ro with
    | some l => match lloopAt H l with
      | some r => some (H.next, [], H.new (.loop ⟨.ready, none, tmps, params, assign, body, r.defers⟩))
      | none => none
    | none => some (H.next + 1, [{ target := .collected H.next, args := #[] }], (H.new .held).new (.loop ⟨.ready, none, tmps, params, assign, body, H.next⟩))

noncomputable def lexitCode : LExit → Option (Option Code)
  | .normal => some none
  | .ret => some (some .ret)
  | .exit id => some (some (.exit id))

/-- A loop, at most so many rounds. -/
noncomputable def literate (f : LS → Option (LExit × LS)) : Nat → LS → Option (LExit × LS)
  | 0, _ => none
  | n + 1, s => match f s with
    | some (.normal, s') => literate f n s'
    | r => r

abbrev LCall := FuncId → List Value → LH → Option (Value × LH)
abbrev LDCall := FuncId → List Value → LH → Option LH
abbrev LRound := Nat → List Value → LH → Option (Value × LH)

/-- How an activation stands: as a call, as a round of a loop (of this run's number), as a deferred call. -/
inductive LMode where
  | plain
  | round (l : Nat)
  | deferred

/-- One operation that is wanted: its value, the deferred calls, the objects. -/
noncomputable def lop1 (C : Ctx) (call : LCall) (round : LRound) (m : LMode) (o : Oper) (s : LS) : Option (Value × List Deferred × LH) :=
  match lop C s.eval s.heap o with
  | some (.value v, H) => some (v, s.defers, H)
  | some (.skip, H) => some (undef, s.defers, H)
  | some (.defer d, H) => match m with
    | .round _ => none
    | _ => some (undef, d :: s.defers, H)
  | some (.recover, H) => match m with
    | .deferred => some (.nilIface, s.defers, H)
    | _ => none
  | some (.enter f args, H) => match call f args H with
    | some (v, H') => some (v, s.defers, H')
    | none => none
  | some (.round l args, H) => match round l args H with
    | some (v, H') => some (v, s.defers, H')
    | none => none
  | none => none

noncomputable def lops (C : Ctx) (call : LCall) (round : LRound) (m : LMode) (ops : Array Oper) : List Oper → LS → Option LS
  | [], s => some s
  | o :: rest, s =>
    match lwanted ops s o with
    | false => lops C call round m ops rest (s.put o.dst undef)
    | true => match lop1 C call round m o s with
      | some (v, D, H) => lops C call round m ops rest (LS.put ⟨s.tmps, D, H⟩ o.dst v)
      | none => none

/-! ### Regions that draw their order -/
/-- What an operation of such a region was: not wanted; without change; a new object whose place in the order is free; a change (which, the change before it, the new objects that it may see). -/
inductive EKind where
  | skip
  | read
  | float (o : LObj)
  | change (q : Nat) (last : Nat) (fl : List (Nat × LObj)) (D : List Deferred) (H : LH)
structure Ent where
  o : Oper
  mask : Nat
  tmps : PT Value
  val : Value
  kind : EKind
structure PS where
  es : List Ent
  gs : List (List Deferred × LH)
  tmps : PT Value
  defers : List Deferred
  heap : LH
  last : Nat

noncomputable def lbit (m i : Nat) : Bool := Nat.beq (Nat.land (Nat.shiftRight m i) 1) 1
/-- What must be done ahead, by the edges. -/
noncomputable def lbits (es : List Ent) : List Edge → Option Nat
  | [] => some 0
  | e :: l => match Region.binds .any e with
    | false => lbits es l
    | true => match es[e.on]?, lbits es l with
      | some x, some m => some (Nat.lor (Nat.lor (Nat.shiftLeft 1 e.on) x.mask) m)
      | _, _ => none

noncomputable def lbytesEq : List UInt8 → List UInt8 → Bool
  | [], [] => true
  | a :: l, b :: m => Nat.beq a.toNat b.toNat && lbytesEq l m
  | _, _ => false
noncomputable def laddrEq (a b : Addr) : Bool :=
  match a, b with
  | ⟨i, o, none⟩, ⟨j, p, none⟩ => Nat.beq i j && Nat.beq o p
  | _, _ => false
noncomputable def lfloatEq : FloatKind → FloatKind → Bool
  | .f32, .f32 | .f64, .f64 => true
  | _, _ => false
noncomputable def veqs (f : Value → Value → Bool) : List Value → List Value → Bool
  | [], [] => true
  | a :: l, b :: m => f a b && veqs f l m
  | _, _ => false
noncomputable def veq : Nat → Value → Value → Bool
  | 0, _, _ => false
  | n + 1, a, b => match a, b with
    | .bool x, .bool y => x == y
    | .int k x, .int k' y => sameKind k k' && decide (x = y)
    | .string x, .string y => lbytesEq x.data.toList y.data.toList
    | .float k x, .float k' y => lfloatEq k k' && Nat.beq x y
    | .pointer none, .pointer none => true
    | .pointer (some x), .pointer (some y) => laddrEq x y
    | .slice none x y, .slice none x' y' => Nat.beq x x' && Nat.beq y y'
    | .slice (some p) x y, .slice (some p') x' y' => laddrEq p p' && Nat.beq x x' && Nat.beq y y'
    | .map none, .map none => true
    | .map (some x), .map (some y) => Nat.beq x y
    | .nilFunc, .nilFunc => true
    | .nilIface, .nilIface => true
    | .func (.func f) x y, .func (.func g) x' y' => Nat.beq f g && veqs (veq n) x.toList x'.toList && veqs (veq n) y.toList y'.toList
    | .iface t x, .iface u y => Nat.beq t u && veq n x y
    | .agg x, .agg y => veqs (veq n) x.toList y.toList
    | .tuple x, .tuple y => veqs (veq n) x.toList y.toList
    | _, _ => false

/-- An operation's kind: 0 changes nothing, 1 changes, 2 lays a new object and looks at none. -/
noncomputable def lkind (o : Op) : Nat :=
  match o with
  | .alloc _ | .makeMap _ none | .buildSlice _ _ _ => 2
  | .box _ _ | .store _ _ _ | .makeSlice _ _ _ | .range _ _ | .next _ _ | .mapUpdate _ _ _ _ | .defer _ => 1
  | .call c => match c.callee with
    | .builtin b => match b with
      | .append | .copy | .delete | .recover => 1
      | _ => 0
    | _ => 1
  | _ => 0
noncomputable def lfloat (C : Ctx) (ρ : Operand → Value) (o : Op) : Option ((Nat → Value) × LObj) :=
  match o with
  | .alloc e => match C.info e with
    | some (z, _, _) => some (fun id => .pointer (some ⟨id, 0, none⟩), .cells z.cells.toList e 1)
    | none => none
  | .makeMap _ none => some (fun id => .map (some id), .obj (.map #[] 0))
  | .buildSlice t len parts => match C.desc t with
    | some (.slice e) => match C.info e with
      | some (z, n, _) => match Nat.ble (len * n) 65536 && Nat.blt 0 (len * n) with
        | true => match Instr.fill (fun i => some (i * n, n)) ((Array.range (len * n)).map (z.cells[· % z.cells.size]!)) (parts.toList.map fun p => (p.1, ρ p.2)) with
          | some cs => some (fun id => .slice (some ⟨id, 0, none⟩) len len, .cells cs.toList e n)
          | none => none
        | false => none
      | none => none
    | _ => none
  | _ => none

/-- Would an operation that changes nothing say the same over these objects? -/
noncomputable def lsees (C : Ctx) (e : Ent) (H : LH) : Bool :=
  match lop C (LS.eval ⟨e.tmps, [], H⟩) H e.o with
  | some (.value v, _) => veq 20 v e.val
  | _ => false
/-- Two operations, the one ahead of the other in the text: ordered, or apart. -/
noncomputable def lpair (C : Ctx) (ops : Array Oper) (gs : List (List Deferred × LH)) (G : LH) (e : Ent) (j : Nat) (x : Ent) : Bool :=
  match lbit e.mask j with
  | true => true
  | false => match x.o.apart ops e.o with
    | false => false
    | true => match x.kind, e.kind with
      | .change _ _ _ _ _, .change _ _ _ _ _ => false
      | .read, .change _ _ _ _ _ => lsees C x G
      | .change q _ _ _ _, .read => match gs[q]? with
        | some g => lsees C e g.2
        | none => false
      | _, _ => true
noncomputable def lpairs (C : Ctx) (ops : Array Oper) (gs : List (List Deferred × LH)) (G : LH) (e : Ent) : Nat → List Ent → Bool
  | _, [] => true
  | j, x :: l => match lpair C ops gs G e j x with
    | true => lpairs C ops gs G e (j + 1) l
    | false => false

/-- New objects that a change may see now and could not before. -/
noncomputable def lfls (mask : Option Nat) (last : Nat) : Nat → List Ent → List (Nat × LObj)
  | _, [] => []
  | j, x :: l => match x.kind with
    | .float o => match (match mask with | some m => lbit m j | none => true) && !lbit last j with
      | true => (j, o) :: lfls mask last (j + 1) l
      | false => lfls mask last (j + 1) l
    | _ => lfls mask last (j + 1) l
noncomputable def lputs (base : Nat) : List (Nat × LObj) → LH → LH
  | [], H => H
  | (j, o) :: l, H => lputs base l (H.put (base + j) (some o))

noncomputable def ladd (C : Ctx) (ops : Array Oper) (st : PS) (e : Ent) : Option PS :=
  match lpairs C ops st.gs st.heap e 0 st.es with
  | true => some { st with es := st.es ++ [e], tmps := (LS.put ⟨st.tmps, [], st.heap⟩ e.o.dst e.val).tmps }
  | false => none
noncomputable def laddc (C : Ctx) (ops : Array Oper) (st : PS) (e : Ent) (D : List Deferred) (H : LH) : Option PS :=
  match lpairs C ops st.gs H e 0 st.es with
  | true => some { es := st.es ++ [e], gs := st.gs ++ [(D, H)], tmps := (LS.put ⟨st.tmps, [], H⟩ e.o.dst e.val).tmps, defers := D, heap := H, last := e.mask }
  | false => none
noncomputable def lchange (C : Ctx) (call : LCall) (round : LRound) (m : LMode) (ops : Array Oper) (base : Nat) (o : Oper) (st : PS) (mask : Nat) (fl : List (Nat × LObj)) : Option PS :=
  match lop1 C call round m o ⟨st.tmps, st.defers, lputs base fl st.heap⟩ with
  | some (v, D, H) => laddc C ops st ⟨o, mask, st.tmps, v, .change (st.gs.length - 1) st.last fl D H⟩ D H
  | none => none
noncomputable def lstep (C : Ctx) (call : LCall) (round : LRound) (m : LMode) (ops : Array Oper) (base : Nat) (o : Oper) (st : PS) : Option PS :=
  match lbits st.es o.after.toList with
  | none => none
  | some mask => match lwanted ops ⟨st.tmps, [], st.heap⟩ o with
    | false => ladd C ops st ⟨o, mask, st.tmps, undef, .skip⟩
    | true => match lkind o.op with
      | 0 => match lop C (LS.eval ⟨st.tmps, [], st.heap⟩) st.heap o with
        | some (.value v, _) => ladd C ops st ⟨o, mask, st.tmps, v, .read⟩
        | _ => none
      | 1 => lchange C call round m ops base o st mask (lfls (some mask) st.last 0 st.es)
      | _ => match lfloat C (LS.eval ⟨st.tmps, [], st.heap⟩) o.op with
        | some (mk, obj) => ladd C ops st ⟨o, mask, st.tmps, mk (base + st.es.length), .float obj⟩
        | none => none
noncomputable def lplan (C : Ctx) (call : LCall) (round : LRound) (m : LMode) (ops : Array Oper) (base : Nat) : List Oper → PS → Option PS
  | [], st => some st
  | o :: l, st => match lstep C call round m ops base o st with
    | some st' => lplan C call round m ops base l st'
    | none => none
noncomputable def ldraw (C : Ctx) (call : LCall) (round : LRound) (m : LMode) (ops : Array Oper) (s : LS) : Option LS :=
  match Nat.blt 0 1 with
  | false => none
  | true => match lplan C call round m ops s.heap.next ops.toList ⟨[], [(s.defers, ⟨s.heap.objs, s.heap.next + ops.size⟩)], s.tmps, s.defers, ⟨s.heap.objs, s.heap.next + ops.size⟩, 0⟩ with
    | some st => some ⟨st.tmps, st.defers, lputs s.heap.next (lfls none st.last 0 st.es) st.heap⟩
    | none => none

/-- How many rounds a loop may have. -/
noncomputable def lrounds : Nat := 1099511627776

/-- What a loop over a function comes to, its function having ended. -/
noncomputable def lend (l : Nat) (mark : List Deferred) (s : LS) (H' : LH) : Option (LExit × LS) :=
  match lloopAt H' l with
  | some r =>
    match r.state with
    | .busy => none
    | _ => match r.pending with
      | none => some (.normal, { s with heap := H'.put l (some (.loop { r with state := .exhausted })), defers := mark ++ s.defers })
      | some .ret => some (.ret, { s with heap := H'.put l (some (.loop { r with state := .exhausted })), defers := mark ++ s.defers })
      | some (.exit id) => some (.exit id, { s with heap := H'.put l (some (.loop { r with state := .exhausted })), defers := mark ++ s.defers })
      | some _ => none
  | none => none

/-- The record of the loop around, if there is one. -/
noncomputable def LMode.around : LMode → Option Nat
  | .round l => some l
  | _ => none

noncomputable def lcode (C : Ctx) (call : LCall) (round : LRound) (m : LMode) : Code → LS → Option (LExit × LS)
  | .skip, s => some (.normal, s)
  | .label _, s => some (.normal, s)
  | .exit id, s => some (.exit id, s)
  | .ret, s => some (.ret, s)
  | .seq a b, s => match lcode C call round m a s with
    | some (.normal, s') => lcode C call round m b s'
    | r => r
  | .cond x a b, s => match s.eval x with
    | .bool true => lcode C call round m a s
    | .bool false => lcode C call round m b s
    | _ => none
  | .block id b, s => match lcode C call round m b s with
    | some (.exit id', s') => match Nat.beq id' id with
      | true => some (.normal, s')
      | false => some (.exit id', s')
    | r => r
  | .loop b, s => literate (lcode C call round m b) lrounds s
  | .region _ ops false, s => match lops C call round m ops ops.toList s with
    | some s' => some (.normal, s')
    | none => none
  | .region _ ops true, s => match ldraw C call round m ops s with
    | some s' => some (.normal, s')
    | none => none
  | .rangeFunc g params assign body, s =>
    match lenterLoop s.heap m.around s.tmps params assign body, s.eval g with
    | some (l, mark, H), .func (.func f) first captured => match C.ext f, C.fn f with
      | none, some _ => match call f ((first ++ #[Value.func (.yield l) #[] #[]] ++ captured).toList) H with
        | some (_, H') => lend l mark s H'
        | none => none
      | _, _ => none
    | _, _ => none
  | _, _ => none

/-- Code of a deferred call: it may ask for a panic. -/
noncomputable def lcodeD (C : Ctx) (call : LCall) (round : LRound) : Code → LS → Option (LExit × LS)
  | .seq a b, s => match lcodeD C call round a s with
    | some (.normal, s') => lcodeD C call round b s'
    | r => r
  | .cond x a b, s => match s.eval x with
    | .bool true => lcodeD C call round a s
    | .bool false => lcodeD C call round b s
    | _ => none
  | .region _ ops false, s => match lops C call round .deferred ops ops.toList s with
    | some s' => some (.normal, s')
    | none => none
  | .region _ ops true, s => match ldraw C call round .deferred ops s with
    | some s' => some (.normal, s')
    | none => none
  | c, s => lcode C call round .plain c s

noncomputable def ldefers (C : Ctx) (dcall : LDCall) : List Deferred → LH → Option LH
  | [], H => some H
  | d :: ds, H =>
    match d.target with
    | .fn (.func f) captured => match C.ext f, C.fn f with
      | none, some _ => match dcall f ((d.args ++ captured).toList) H with
        | some H' => ldefers C dcall ds H'
        | none => none
      | _, _ => none
    | .collected r => match H.at r, Nat.blt 0 1 with
      | some .held, true => ldefers C dcall ds (H.put r none)
      | _, _ => none
    | _ => none

noncomputable def lround1 (C : Ctx) (call : LCall) (round : LRound) : LRound := fun l args H =>
  match lloopAt H l with
  | some r => match Nat.beq args.length r.params.size with
    | true => match lcode C call round (.round l) r.assign { tmps := lparams r.params.toList args r.tmps, defers := [], heap := H } with
      | some (.normal, s) => match lloopAt s.heap l with
        | some r1 => match r1.state with
          | .ready => match lcode C call round (.round l) r.body { s with heap := s.heap.put l (some (.loop { r1 with state := .busy })) } with
            | some (e, s2) => match lloopAt s2.heap l, lexitCode e with
              | some r2, some jump => some (.bool jump.isNone, s2.heap.put l (some (.loop { r2 with state := if jump.isNone then .ready else .done, pending := jump })))
              | _, _ => none
            | none => none
          | _ => none
        | none => none
      | _ => none
    | false => none
  | none => none

/-- The results as one value. -/
noncomputable def lvalue : List Value → Value
  | [v] => v
  | l => .tuple l.toArray
noncomputable def lcall1 (C : Ctx) (call : LCall) (dcall : LDCall) (round : LRound) : LCall := fun f args H =>
  match C.spec f with
  | some s => s args H
  | none => match C.fn f with
    | some fn => match fn.body with
      | some c => match Nat.ble args.length fn.ntmps with
        | true => match lcode C call round .plain c { tmps := largs args 0 .nil, defers := [], heap := H } with
          | some (.normal, s) | some (.ret, s) => match ldefers C dcall s.defers s.heap with
            | some H' => match lresults C.toTab { s with heap := H' } fn.results.toList with
              | some l => some (lvalue l, H')
              | none => none
            | none => none
          | _ => none
        | false => none
      | none => none
    | none => none
noncomputable def ldcall1 (C : Ctx) (call : LCall) (round : LRound) : LDCall := fun f args H =>
  match C.spec f with
  | some s => match C.dspec f with
    | true => match s args H with
      | some (_, H') => some H'
      | none => none
    | false => none
  | none => match C.fn f with
    | some fn => match fn.body, fn.results.toList with
      | some c, [] => match Nat.ble args.length fn.ntmps with
        | true => match lcodeD C call round c { tmps := largs args 0 .nil, defers := [], heap := H } with
          | some (.normal, s) | some (.ret, s) => match s.defers with
            | [] => some s.heap
            | _ => none
          | _ => none
        | false => none
      | _, _ => none
    | none => none

/-- Calls, deferred calls and rounds, so deep. -/
noncomputable def ldeep (C : Ctx) : Nat → LCall × LDCall × LRound
  | 0 => (fun _ _ _ => none, fun _ _ _ => none, fun _ _ _ => none)
  | n + 1 => match ldeep C n with
    | (call, dcall, round) => (lcall1 C call dcall round, ldcall1 C call round, lround1 C call round)
noncomputable def lcall (C : Ctx) (n : Nat) : LCall := (ldeep C n).1
end Go.Proofs.YtiedaccgagnofaaGreat

import Derived.Test.YtkfpoacloidepaaAbsC
set_option linter.all false
/- Operations that leave memory alone: what they come to. -/
namespace Go.Abs

/-- An operation without an effect on memory, its types resolved. -/
inductive L where
  | mov (x : Operand)
  | pick (c a b : Operand)
  | bin (op : BinOp) (x y : Operand)
  | eqB (neg : Bool) (x y : Operand)                  -- of bools
  | eqN (neg : Bool) (x : Operand)                    -- a slice against nil
  | un (op : UnOp) (x : Operand)
  | ld (agg : Bool) (n : Nat) (x : Operand)
  | nilc (x : Operand)
  | fad (x : Operand) (off : Nat)
  | fld (agg : Bool) (n off : Nat) (x : Operand)
  | ixS (es : Nat) (x i : Operand)
  | ixA (len es : Nat) (x i : Operand)
  | ixStr (x i : Operand)
  | ixV (agg : Bool) (len es : Nat) (x i : Operand)
  | ext (x : Operand) (i : Nat)
  | lenStr (x : Operand)
  | lenSl (x : Operand)
  | lenArr (n : Nat)
  | conv (k : IntKind) (x : Operand)
  | build (zero : List V) (parts : List (Nat × Nat × Operand))
  | mkfn (fn : Fn) (first cap : List Operand)
  | slStr (x : Operand) (lo hi : Option Operand)
  | slSl (es : Nat) (x : Operand) (lo hi : Option Operand)
  | mkif (t : TypeId) (x : Operand)
  | mxm (mx : Bool) (xs : List Operand)
  | lkp (ok : Bool) (k : IntKind) (zero : V) (m x : Operand)     -- in a map whose keys are whole numbers
  | lenMp (m : Operand)
  | eqD (neg : Bool) (offs : List (Nat × Nat)) (x y : Operand)   -- of structs: each field's place and kind (0 number, 1 text, 2 bool)
  | cvBS (x : Operand)                                           -- bytes to text
  | eqZ (kd : Nat) (neg : Bool) (x : Operand)                    -- an address, a map, a function against nil

def V.isInt : V → Bool
  | .a (.int ..) => true
  | _ => false
def V.kindOf : V → IntKind
  | .a (.int k _) => k
  | _ => .i64
def V.num : V → Int
  | .a (.int _ n) => n
  | _ => 0
def V.isBool : V → Bool
  | .a (.bool _) => true
  | _ => false
def V.tru : V → Bool
  | .a (.bool b) => b
  | _ => false
def V.isStr : V → Bool
  | .a (.string _) => true
  | _ => false
def V.txt : V → ByteArray
  | .a (.string s) => s
  | _ => .empty

theorem V.eq_int {x : V} (h : x.isInt = true) : x = .a (.int x.kindOf x.num) := by
  cases x with
  | a v => cases v <;> first | rfl | simp [V.isInt] at h
  | _ => simp [V.isInt] at h
theorem V.eq_bool {x : V} (h : x.isBool = true) : x = .a (.bool x.tru) := by
  cases x with
  | a v => cases v <;> first | rfl | simp [V.isBool] at h
  | _ => simp [V.isBool] at h
theorem V.eq_str {x : V} (h : x.isStr = true) : x = .a (.string x.txt) := by
  cases x with
  | a v => cases v <;> first | rfl | simp [V.isStr] at h
  | _ => simp [V.isStr] at h

theorem RV.of_a {c : Cx} {v u : Value} (h : RV c v (.a u)) : v = u := by cases h; rfl

/-- The whole numbers' operations. -/
def binI (op : BinOp) (k : IntKind) (x y : Int) : Value :=
  match op with
  | .add => .int k (k.wrap (x + y))
  | .sub => .int k (k.wrap (x - y))
  | .mul => .int k (k.wrap (x * y))
  | .quo => .int k (k.wrap (x.tdiv y))
  | .rem => .int k (x.tmod y)
  | .and => .int k (k.wrap (BitVec.ofInt k.bits x &&& BitVec.ofInt k.bits y).toNat)
  | .or => .int k (k.wrap (BitVec.ofInt k.bits x ||| BitVec.ofInt k.bits y).toNat)
  | .xor => .int k (k.wrap (BitVec.ofInt k.bits x ^^^ BitVec.ofInt k.bits y).toNat)
  | .andNot => .int k (k.wrap (BitVec.ofInt k.bits x &&& ~~~(BitVec.ofInt k.bits y)).toNat)
  | .shl => .int k (k.wrap (x * 2 ^ (min y.toNat k.bits)))
  | .shr => .int k (x.fdiv (2 ^ (min y.toNat k.bits)))
  | .eql => .bool (x == y)
  | .neq => .bool (x != y)
  | .lss => .bool (decide (x < y))
  | .leq => .bool (decide (x ≤ y))
  | .gtr => .bool (decide (x > y))
  | .geq => .bool (decide (x ≥ y))

def binIP (op : BinOp) (k k' : IntKind) (y : Int) : Prop :=
  match op with
  | .shl | .shr => 0 ≤ y
  | .quo | .rem => k = k' ∧ y ≠ 0
  | _ => k = k'

def binS (op : BinOp) (x y : ByteArray) : Value :=
  match op with
  | .add => .string (x ++ y)
  | .eql => .bool (x.toList == y.toList)
  | .neq => .bool !(x.toList == y.toList)
  | .lss => .bool (Op.bytesLess x.toList y.toList)
  | .leq => .bool (Op.bytesLess x.toList y.toList || x.toList == y.toList)
  | .gtr => .bool !(Op.bytesLess x.toList y.toList || x.toList == y.toList)
  | .geq => .bool !(Op.bytesLess x.toList y.toList)
  | _ => .bool false

def binSP (op : BinOp) (x y : ByteArray) : Prop :=
  match op with
  | .add => x.size + y.size ≤ 9223372036854775807
  | .eql | .neq | .lss | .leq | .gtr | .geq => True
  | _ => False

def binV (op : BinOp) : V → V → V
  | .a (.int k x), .a (.int _ y) => .a (binI op k x y)
  | .a (.string s), .a (.string t) => .a (binS op s t)
  | _, _ => .any

def binP (op : BinOp) : V → V → Prop
  | .a (.int k _), .a (.int k' y) => binIP op k k' y
  | .a (.string s), .a (.string t) => binSP op s t
  | _, _ => False

theorem eqGuard_int {op : BinOp} {t : TypeId} {x y : Operand} {k k' : IntKind} {a b : Int} {P : Program} {w : World} :
    (eqGuard op t x y (.int k a) (.int k' b)).run P w = .ok () w := by
  unfold eqGuard; split <;> simp

theorem eqGuard_str {op : BinOp} {t : TypeId} {x y : Operand} {a b : ByteArray} {P : Program} {w : World} :
    (eqGuard op t x y (.string a) (.string b)).run P w = .ok () w := by
  unfold eqGuard; split <;> simp

theorem run_binOp_int {P : Program} {w : World} {op : BinOp} {t : TypeId} {k k' : IntKind} {x y : Int} (h : binIP op k k' y) :
    (binOp op t (.int k x) (.int k' y)).run P w = .ok (binI op k x y) w := by
  cases op <;> simp only [binIP] at h <;> first
    | (obtain ⟨rfl, hy⟩ := h; simp [binOp, Op.intDiv, hy, binI]; done)
    | (simp [binOp, Op.shift, binI, show ¬ y < 0 from by omega]; done)
    | (subst h; simp [binOp, Op.intArith, Op.intCmp, Op.intBits, binI]; done)

theorem run_binOp_str {P : Program} {w : World} {op : BinOp} {t : TypeId} {x y : ByteArray} (h : binSP op x y) :
    (binOp op t (.string x) (.string y)).run P w = .ok (binS op x y) w := by
  cases op <;> simp only [binSP] at h <;> first
    | exact h.elim
    | (have h' : ¬ (((x.size + y.size : Nat) : Int) > IntKind.i64.max) := by simp only [IntKind.max, IntKind.signed, IntKind.bits]; omega
       simp only [binOp, Op.stringOp, binS, if_neg h', Sem.run_pure]; done)
    | (simp [binOp, Op.stringOp, binS]; done)

def V.cells : V → List V
  | .agg cs => cs
  | x => [x]

/-- Cells with parts laid over them. -/
def fillV : List V → List (Nat × Nat × V) → List V
  | cs, [] => cs
  | cs, (off, _, x) :: l => fillV (cs.take off ++ x.cells ++ cs.drop (off + x.cells.length)) l

def V.slLen : V → Int
  | .own _ _ _ len _ => len
  | .view _ rows => rows.length
  | _ => 0

def V.nilSl : V → Bool
  | .a (.slice none 0 0) => true
  | _ => false

def O.isMap : O → Bool
  | .map .. => true
  | _ => false

/-- Is it surely one cell's value? -/
def V.one (hp : Heap) : V → Prop
  | .a v => v.oneCell' = true
  | .ptr id tot _ _ => (hp.getD id .dead).isMem = true ∧ (hp.getD id .dead).rows.length = tot
  | .own id _ _ _ tot => (hp.getD id .dead).isMem = true ∧ (hp.getD id .dead).rows.length = tot
  | .mp id => (hp.getD id .dead).isMap = true
  | .any | .agg _ | .tup _ => False
  | _ => True

/-- Is it surely a value of so many cells? -/
def V.sized (hp : Heap) (n : Nat) : V → Prop
  | .agg cs => cs.length = n
  | x => x.one hp ∧ n = 1

/-- Is it a slice of a known length? -/
def okSl (hp : Heap) : V → Prop
  | .own id _ _ _ tot => (hp.getD id .dead).isMem = true ∧ (hp.getD id .dead).rows.length = tot
  | .view _ _ => True
  | .a (.slice none 0 0) => True
  | _ => False

def V.slEs (es : Nat) : V → Prop
  | .own _ e _ _ _ => e = es
  | .view e _ => e = es
  | _ => True

def V.elemAt (i : Nat) : V → V
  | .own id _ off _ tot => .ptr id tot (off + i) 0
  | .view _ rows => .ref (rows.getD i []) 0
  | _ => .any

def V.plus (n : Nat) : V → V
  | .ptr id tot i j => .ptr id tot i (j + n)
  | .ref row j => .ref row (j + n)
  | _ => .any

def V.isAddr : V → Bool
  | .ptr .. | .ref .. => true
  | _ => false

def V.cut (lo hi : Nat) : V → V
  | .own id es off _ tot => .own id es (off + lo) (hi - lo) tot
  | .view es rows => .view es ((rows.drop lo).take (hi - lo))
  | x => x

def optN (st : St) (d : Int) : Option Operand → Int
  | none => d
  | some x => (st.ev x).num
def optP (st : St) : Option Operand → Prop
  | none => True
  | some x => (st.ev x).isInt = true

def mxI (mx : Bool) (x y : Int) : Int := if mx then (if y > x then y else x) else (if y < x then y else x)

def byteAt (s : ByteArray) (i : Nat) : Int := ((s.data.toList.getD i 0).toNat : Int)

/-- A slice's rows. -/
def V.rowsOf (H : Heap) : V → List (List V)
  | .own id _ off len _ => ((H.getD id .dead).rows.drop off).take len
  | .view _ rows => rows
  | _ => []

def O.ents : O → List (V × V)
  | .map _ _ es => es
  | _ => []

/-- What a map holds. -/
def V.entsOf (H : Heap) : V → List (V × V)
  | .mp id => (H.getD id .dead).ents
  | .mview es => es
  | _ => []

def okMp (H : Heap) : V → Prop
  | .mp id => (H.getD id .dead).isMap = true
  | .mview _ => True
  | .a (.map none) => True
  | _ => False

def V.isKey (k : IntKind) : V → Bool
  | .a (.int k' _) => decide (k' = k)
  | _ => false

def getE (es : List (V × V)) (n : Int) : Option V := (es.find? fun e => e.1.num == n).map (·.2)

def isK : Nat → V → V → Bool
  | 0, .a (.int k _), .a (.int k' _) => decide (k = k')
  | 1, .a (.string _), .a (.string _) => true
  | 2, .a (.bool _), .a (.bool _) => true
  | _, _, _ => false

def eqK : V → V → Bool
  | .a (.int _ x), .a (.int _ y) => x == y
  | .a (.string s), .a (.string t) => s.toList == t.toList
  | .a (.bool p), .a (.bool q) => p == q
  | _, _ => false

def V.isByte : V → Bool
  | .a (.int .u8 _) => true
  | _ => false

def bytesOf (rows : List (List V)) : ByteArray := ⟨(rows.map fun r => UInt8.ofNat (r.headD .any).num.toNat).toArray⟩

/-- Is it surely nil (some true), surely not (some false)? 0: an address, 1: a map, 2: a function -/
def V.nilK : Nat → V → Option Bool
  | 0, .a (.pointer none) => some true
  | 1, .a (.map none) => some true
  | 2, .a .nilFunc => some true
  | 0, .ptr .. => some false
  | 0, .ref .. => some false
  | 1, .mview _ => some false
  | 1, .mp _ => some false
  | 2, .fn .. => some false
  | _, _ => none

def okNil (hp : Heap) : V → Prop
  | .fn (.func _) _ _ => True
  | x => okAt hp x

def okZ (hp : Heap) : V → Prop
  | .ptr id tot i j => okAt hp (.ptr id tot i j)
  | .mp id => (hp.getD id .dead).isMap = true
  | _ => True

def L.pre (l : L) (st : St) : Prop :=
  match l with
  | .mov _ | .lenArr _ | .mkfn .. | .mkif .. => True
  | .pick c _ _ => (st.ev c).isBool = true
  | .bin op x y => binP op (st.ev x) (st.ev y)
  | .eqB _ x y => (st.ev x).isBool = true ∧ (st.ev y).isBool = true
  | .eqN _ x => okSl st.hp (st.ev x) ∧ ((st.ev x).nilSl = true ∨ (st.ev x).slLen ≠ 0)
  | .un op x => match op with
    | .neg => (st.ev x).isInt = true
    | .not => (st.ev x).isBool = true
    | _ => False
  | .ld agg n x => ldP st.hp agg n (st.ev x)
  | .nilc x => okNil st.hp (st.ev x)
  | .fad x _ => okAt st.hp (st.ev x)
  | .fld agg n off x => match st.ev x with
    | .agg cs => (if agg then off + n else off + 1) ≤ cs.length
    | _ => False
  | .ixS es x i => okSl st.hp (st.ev x) ∧ (st.ev x).slEs es ∧ (st.ev i).isInt = true ∧ 0 ≤ (st.ev i).num ∧ (st.ev i).num < (st.ev x).slLen
  | .ixA len _ x i => okAt st.hp (st.ev x) ∧ (st.ev i).isInt = true ∧ 0 ≤ (st.ev i).num ∧ (st.ev i).num < len
  | .ixStr x i => (st.ev x).isStr = true ∧ (st.ev i).isInt = true ∧ 0 ≤ (st.ev i).num ∧ (st.ev i).num < (st.ev x).txt.size
  | .ixV agg len es x i => (st.ev i).isInt = true ∧ 0 ≤ (st.ev i).num ∧ (st.ev i).num < len ∧ match st.ev x with
    | .agg cs => (st.ev i).num.toNat * es + (if agg then es else 1) ≤ cs.length
    | _ => False
  | .ext x i => match st.ev x with
    | .tup vs => i < vs.length
    | _ => False
  | .lenStr x => (st.ev x).isStr = true
  | .lenSl x => okSl st.hp (st.ev x)
  | .conv _ x => (st.ev x).isInt = true
  | .build zero parts => ∀ p ∈ parts, (st.ev p.2.2).sized st.hp p.2.1 ∧ p.1 + p.2.1 ≤ zero.length
  | .slStr x lo hi => (st.ev x).isStr = true ∧ optP st lo ∧ optP st hi ∧ 0 ≤ optN st 0 lo ∧ optN st 0 lo ≤ optN st (st.ev x).txt.size hi ∧ optN st (st.ev x).txt.size hi ≤ (st.ev x).txt.size
  | .slSl es x lo hi => okSl st.hp (st.ev x) ∧ (st.ev x).slEs es ∧ optP st lo ∧ optP st hi ∧ 0 ≤ optN st 0 lo ∧ optN st 0 lo ≤ optN st (st.ev x).slLen hi ∧ optN st (st.ev x).slLen hi ≤ (st.ev x).slLen
  | .mxm _ xs => match xs with
    | x :: rest => (st.ev x).isInt = true ∧ ∀ y ∈ rest, (st.ev y).isInt = true
    | [] => False
  | .lkp _ k _ m x => okMp st.hp (st.ev m) ∧ (∀ e ∈ (st.ev m).entsOf st.hp, e.1.isKey k = true) ∧ (st.ev x).isKey k = true
  | .lenMp m => okMp st.hp (st.ev m)
  | .eqD _ offs x y => match st.ev x, st.ev y with
    | .agg cs, .agg ds => ∀ o ∈ offs, isK o.2 (cs.getD o.1 .any) (ds.getD o.1 .any) = true
    | _, _ => False
  | .cvBS x => okSl st.hp (st.ev x) ∧ (st.ev x).slEs 1 ∧ ∀ r ∈ (st.ev x).rowsOf st.hp, (r.headD .any).isByte = true
  | .eqZ kd _ x => ((st.ev x).nilK kd).isSome = true ∧ okZ st.hp (st.ev x)

def L.val (l : L) (st : St) : V :=
  match l with
  | .mov x => st.ev x
  | .pick c a b => if (st.ev c).tru then st.ev a else st.ev b
  | .bin op x y => binV op (st.ev x) (st.ev y)
  | .eqB neg x y => .bool ((st.ev x).tru == (st.ev y).tru ^^ neg)
  | .eqN neg x => .bool ((st.ev x).nilSl ^^ neg)
  | .un op x => match op with
    | .neg => .int (st.ev x).kindOf ((st.ev x).kindOf.wrap (0 - (st.ev x).num))
    | _ => .bool (!(st.ev x).tru)
  | .ld agg n x => ldV st.hp agg n (st.ev x)
  | .nilc x => st.ev x
  | .fad x off => (st.ev x).plus off
  | .fld agg n off x => if agg then .agg (((st.ev x).cells.drop off).take n) else (st.ev x).cells.getD off .any
  | .ixS _ x i => (st.ev x).elemAt (st.ev i).num.toNat
  | .ixA _ es x i => (st.ev x).plus ((st.ev i).num.toNat * es)
  | .ixStr x i => .int .u8 (byteAt (st.ev x).txt (st.ev i).num.toNat)
  | .ixV agg _ es x i => if agg then .agg (((st.ev x).cells.drop ((st.ev i).num.toNat * es)).take es) else (st.ev x).cells.getD ((st.ev i).num.toNat * es) .any
  | .ext x i => match st.ev x with
    | .tup vs => vs.getD i .any
    | _ => .any
  | .lenStr x => .int .i64 (st.ev x).txt.size
  | .lenSl x => .int .i64 (st.ev x).slLen
  | .lenArr n => .int .i64 n
  | .conv k x => .int k (k.wrap (st.ev x).num)
  | .build zero parts => .agg (fillV zero (parts.map fun p => (p.1, p.2.1, st.ev p.2.2)))
  | .mkfn fn first cap => .fn fn (first.map st.ev) (cap.map st.ev)
  | .slStr x lo hi => .str ((st.ev x).txt.extract (optN st 0 lo).toNat (optN st (st.ev x).txt.size hi).toNat)
  | .slSl _ x lo hi => (st.ev x).cut (optN st 0 lo).toNat (optN st (st.ev x).slLen hi).toNat
  | .mkif t x => .ifc t (st.ev x)
  | .mxm mx xs => match xs with
    | x :: rest => .int (st.ev x).kindOf (rest.foldl (fun n y => mxI mx n (st.ev y).num) (st.ev x).num)
    | [] => .any
  | .lkp ok _ zero m x => match getE ((st.ev m).entsOf st.hp) (st.ev x).num with
    | some v => if ok then .tup [v, .bool true] else v
    | none => if ok then .tup [zero, .bool false] else zero
  | .lenMp m => .int .i64 ((st.ev m).entsOf st.hp).length
  | .eqD neg offs x y => .bool ((offs.all fun o => eqK ((st.ev x).cells.getD o.1 .any) ((st.ev y).cells.getD o.1 .any)) ^^ neg)
  | .cvBS x => .str (bytesOf ((st.ev x).rowsOf st.hp))
  | .eqZ kd neg x => .bool (((st.ev x).nilK kd == some true) ^^ neg)

def isNilSl : Operand → Bool
  | .const (.slice none _ _) => true
  | _ => false

def isNilZ : Nat → Operand → Bool
  | 0, .const (.pointer none) => true
  | 1, .const (.map none) => true
  | 2, .const .nilFunc => true
  | _, _ => false

def cmpEqF (P : Program) (f : Field) : Option (Nat × Nat) :=
  if f.name = "_" then none else
  match P.underlying f.type with
  | some (.int _) => (P.info? f.type).bind fun i => if i.size = 1 then some (f.offset, 0) else none
  | some .string => (P.info? f.type).bind fun i => if i.size = 1 then some (f.offset, 1) else none
  | some .bool => (P.info? f.type).bind fun i => if i.size = 1 then some (f.offset, 2) else none
  | _ => none

def cmpBin (P : Program) (op : BinOp) (t : TypeId) (x y : Operand) : Option L :=
  match P.underlying t with
  | some (.int _) => some (.bin op x y)
  | some .string => some (.bin op x y)
  | some .bool => if op = .eql then some (.eqB false x y) else if op = .neq then some (.eqB true x y) else none
  | some (.struct fs) => if P.eqGuardType P.depth t || P.stoodInHeld t then none else
      (fs.toList.mapM fun f => cmpEqF P f).bind fun offs => if op = .eql then some (.eqD false offs x y) else if op = .neq then some (.eqD true offs x y) else none
  | some (.pointer _) => if isNilZ 0 y then (if op = .eql then some (.eqZ 0 false x) else if op = .neq then some (.eqZ 0 true x) else none) else none
  | some (.map _ _) => if isNilZ 1 y then (if op = .eql then some (.eqZ 1 false x) else if op = .neq then some (.eqZ 1 true x) else none) else none
  | some (.func _ _ _) => if isNilZ 2 y then (if op = .eql then some (.eqZ 2 false x) else if op = .neq then some (.eqZ 2 true x) else none) else none
  | some (.slice _) => if isNilSl y then (if op = .eql then some (.eqN false x) else if op = .neq then some (.eqN true x) else none) else none
  | _ => none

def cmpFad (P : Program) (s : TypeId) (x : Operand) (f : Nat) : Option L :=
  match P.underlying s with
  | some (.struct fs) => (fs[f]?).bind fun fd => (P.info? fd.type).bind fun i => if i.size = 0 then none else some (.fad x fd.offset)
  | _ => none

def cmpFld (P : Program) (s : TypeId) (x : Operand) (f : Nat) : Option L :=
  match P.underlying s with
  | some (.struct fs) => (fs[f]?).bind fun fd => (P.info? fd.type).bind fun i => (isAggP P fd.type).bind fun agg => some (.fld agg i.size fd.offset x)
  | _ => none

def cmpIxA (P : Program) (t : TypeId) (x i : Operand) : Option L :=
  match P.underlying t with
  | some (.slice e) => (P.info? e).bind fun inf => some (.ixS inf.size x i)
  | some (.array n e) => (P.info? e).bind fun inf => some (.ixA n inf.size x i)
  | _ => none

def cmpIx (P : Program) (t : TypeId) (x i : Operand) : Option L :=
  match P.underlying t with
  | some .string => some (.ixStr x i)
  | some (.array n e) => (P.info? e).bind fun inf => (isAggP P e).bind fun agg => some (.ixV agg n inf.size x i)
  | _ => none

def cmpConv (P : Program) (s d : TypeId) (x : Operand) : Option L :=
  match P.underlying s, P.underlying d with
  | some (.int _), some (.int k) => some (.conv k x)
  | some (.slice e), some .string => match P.underlying e with
    | some (.int .u8) => (P.info? e).bind fun i => if i.size = 1 then some (.cvBS x) else none
    | _ => none
  | _, _ => none

def cmpLkp (P : Program) (t : TypeId) (x i : Operand) (ok : Bool) : Option L :=
  match P.underlying t with
  | some (.map k e) => match P.underlying k with
    | some (.int kd) => (P.info? e).bind fun inf => inf.zero.bind fun z => match z with
      | .agg vs => if vs.toList.all (·.oneCell') then some (.lkp ok kd (.agg (vs.toList.map .a)) x i) else none
      | z => some (.lkp ok kd (.a z) x i)
    | _ => none
  | _ => none

def cmpBuild (P : Program) (t : TypeId) (parts : List (Nat × Operand)) : Option L :=
  (P.info? t).bind fun i => i.zero.bind fun z => if !(z.cells.toList.all (·.oneCell')) then none else
  match P.underlying t with
  | some (.struct fs) => if !(fs.toList.all fun f => (P.info? f.type).isSome) then none else
      (parts.mapM fun p => (fs[p.1]?).bind fun f => (P.info? f.type).map fun fi => (f.offset, fi.size, p.2)).map (.build (z.cells.toList.map .a))
  | some (.array _ e) => (P.info? e).bind fun ei => some (.build (z.cells.toList.map .a) (parts.map fun p => (p.1 * ei.size, ei.size, p.2)))
  | _ => none

def cmpMkif (P : Program) (t : TypeId) (x : Operand) : Option L :=
  match P.underlying t with
  | some (.interface _) => none
  | some _ => some (.mkif t x)
  | none => none

def cmpSl (P : Program) (t : TypeId) (x : Operand) (lo hi : Option Operand) : Option L :=
  match P.underlying t with
  | some .string => some (.slStr x lo hi)
  | some (.slice e) => (P.info? e).bind fun i => some (.slSl i.size x lo hi)
  | _ => none

def cmpLen (P : Program) (t : TypeId) (x : Operand) : Option L :=
  match P.underlying t with
  | some .string => some (.lenStr x)
  | some (.slice _) => some (.lenSl x)
  | some (.array n _) => some (.lenArr n)
  | some (.map _ _) => some (.lenMp x)
  | _ => none

def cmpBi (P : Program) (b : Builtin) (args : Array Operand) (argTypes : Array TypeId) : Option L :=
  match b with
  | .len => (argTypes[0]?).bind fun t => (args[0]?).bind fun x => cmpLen P t x
  | .max => some (.mxm true args.toList)
  | .min => some (.mxm false args.toList)
  | _ => none

/-- An operation's types, resolved. -/
def cmpL (P : Program) (op : Op) : Option L :=
  match op with
  | .move x => some (.mov x)
  | .assign x => some (.mov x)
  | .pick c a b => some (.pick c a b)
  | .binOp op t x y _ => cmpBin P op t x y
  | .unOp op _ x => if op = .neg then some (.un .neg x) else if op = .not then some (.un .not x) else none
  | .load t x => (P.info? t).bind fun i => (isAggP P t).bind fun agg => some (.ld agg i.size x)
  | .nilCheck x => some (.nilc x)
  | .fieldAddr s x f => cmpFad P s x f
  | .field s x f => cmpFld P s x f
  | .indexAddr t x i => cmpIxA P t x i
  | .index t x i => cmpIx P t x i
  | .extract x i => some (.ext x i)
  | .convert s d x => cmpConv P s d x
  | .build t parts => cmpBuild P t parts.toList
  | .makeFunc fn first cap => some (.mkfn fn first.toList cap.toList)
  | .makeInterface t x => cmpMkif P t x
  | .slice t x lo hi mx => if mx.isNone then cmpSl P t x lo hi else none
  | .lookup t x i ok => cmpLkp P t x i ok
  | .call c => match c.callee with
    | .builtin b => cmpBi P b c.args c.argTypes
    | _ => none
  | _ => none

end Go.Abs

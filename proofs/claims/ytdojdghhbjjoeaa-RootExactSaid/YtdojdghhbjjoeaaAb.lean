/- The abstract walk, second part: abstract states, what an operation does to them, and that it does so. No condition. -/
import Derived.Test.YtdojdghhbjjoeaaAa
import Derived.Lib.ReflectliteSwap
namespace Go.Proofs.Ytdojdghhbjjoeaa
open Go.RowKit

/-- what an own row holds: numbers, or rows of t cells -/
inductive RC where
  | u32 (xs : List Nat)
  | gen (t : Nat) (rows : List (List CV))

def u32C (x : Nat) : CV := .int .u32 (x : Int)
def RC.t : RC → Nat
  | .u32 _ => 1
  | .gen t _ => t
def RC.len : RC → Nat
  | .u32 xs => xs.length
  | .gen _ rows => rows.length
def RC.flat : RC → List CV
  | .u32 xs => xs.map u32C
  | .gen _ rows => rows.flatten
def allLen (n : Nat) : List (List CV) → Prop
  | [] => True
  | r :: rs => r.length = n ∧ allLen n rs
def RC.ok : RC → Prop
  | .u32 xs => ∀ x ∈ xs, x < 4294967296
  | .gen t rows => 0 < t ∧ allLen t rows
/-- the cells at one place of a row -/
def RC.at : RC → Nat → List CV
  | .u32 xs, i => [u32C (xs.getD i 0)]
  | .gen _ rows, i => rows.getD i []
/-- the first n, no longer one's own -/
def RC.takeC : RC → Nat → CV
  | .u32 xs, n => .lim none (xs.take n)
  | .gen t rows, n => .sl none t (rows.take n)
/-- one place laid anew -/
def u32One : List CV → Option Int
  | [.int .u32 v] => some v
  | _ => none
def RC.setC : RC → Nat → List CV → Prop × RC
  | .u32 xs, i, cs => match u32One cs with
    | some v => (0 ≤ v ∧ v < 4294967296, .u32 (xs.set i v.toNat))
    | none => (False, .u32 xs)
  | .gen t rows, i, cs => (cs.length = t, .gen t (rows.set i (cs.map CV.strip)))
/-- a row put behind a row -/
def RC.app : RC → CV → Prop × RC
  | .u32 xs, .lim _ ys => (xs.length + ys.length ≤ 1099511627776, .u32 (xs ++ ys))
  | .gen t rows, .sl _ t' rs => (t' = t ∧ rows.length + rs.length ≤ 1099511627776, .gen t (rows ++ rs))
  | c, .nil => (True, c)
  | c, _ => (False, c)

/-- what is known of a resource: a slot (n, 0), a cell of an own block (n, off + 1), an own row (n, 1) -/
inductive RV where
  | av (a : AV)
  | cv (c : CV)
  | row (c : RC)
  | off

abbrev AS := List (Nat × Nat × RV)

def AS.get : AS → Nat → Nat → Option RV
  | [], _, _ => none
  | (n, k, v) :: s, n', k' => if (n == n' && k == k') = true then some v else AS.get s n' k'

theorem AS.get_cons_self (n k : Nat) (v : RV) (s : AS) : AS.get ((n, k, v) :: s) n k = some v := by simp [AS.get]
theorem AS.get_cons_ne {n k n' k' : Nat} (v : RV) (s : AS) (h : ¬ (n = n' ∧ k = k')) : AS.get ((n, k, v) :: s) n' k' = AS.get s n' k' := by
  simp only [AS.get, Bool.and_eq_true, beq_iff_eq]; rw [if_neg h]

/-- the same, a slot's value laid anew in its place -/
def AS.setv (t : Nat) (v : RV) : AS → AS
  | [] => []
  | (n, k, r) :: s => if (n == t && k == 0) = true then (n, k, v) :: s else (n, k, r) :: AS.setv t v s

theorem AS.setv_eq {t : Nat} {v : RV} : ∀ {s : AS}, s.get t 0 = some v → s.setv t v = s
  | [], h => by simp [AS.get] at h
  | (n, k, r) :: s, h => by
    unfold AS.get at h
    unfold AS.setv
    split at h
    · rename_i hc; cases h; rw [if_pos hc]
    · rename_i hc; rw [if_neg hc, AS.setv_eq h]

structure TI where
  size : Nat
  agg : Bool
  zero : Value
  z1 : A1
  desc : TypeDesc

def A1.cells : A1 → List CV
  | .cel c => [c]
  | .agg l => l

structure TIOk (P : Program) (t : Nat) (ti : TI) : Prop where
  info : ∃ i, P.info? t = some i ∧ i.zero = some ti.zero ∧ i.size = ti.size ∧ i.bytes ≤ 128
  size : ∀ w, (sizeOf t).run P w = .ok ti.size w
  agg : ∀ w, (isAgg t).run P w = .ok ti.agg w
  zero : ∀ w, (zeroValue t).run P w = .ok ti.zero w
  und : P.underlying t = some ti.desc
  z1 : ∀ X w, ti.z1.P X w ti.zero
  z1s : ti.z1.strip = ti.z1
  one : ti.agg = false → ti.size = 1

abbrev Den := List AV → Prop × AV

structure Env where
  N : Nat
  tt : Nat → Option TI
  fn : Nat → Option Den
  /-- which rows are given up before the region n (2 n) and behind it (2 n + 1) -/
  fz : Nat → List Nat

/-- the denotation d is the function's: of values that are as the arguments' knowledge says, the answer is as d says -/
structure Sound (P : Program) (f : Nat) (d : Den) : Prop where
  call : ∀ (args : Array Value) (w : World), (callFunc f args).run P w = .ok (.enter f args) w
  runs : ∀ (avs : List AV) (X : Nat → Nat → Prop) (w : World) (vs : List Value), (d avs).1 → (∀ b o, X b o → b < w.heap.size) → All2 (fun a v => AV.P X w a v) avs vs →
    Calls P f vs.toArray w fun e w' => ∃ v, e = .returned v ∧ (d avs).2.P X w' v ∧ Below w.heap.size w w'
  flat : ∀ avs, (d avs).1 → (d avs).2.strip = (d avs).2

structure EnvOk (P : Program) (E : Env) : Prop where
  tt : ∀ t ti, E.tt t = some ti → TIOk P t ti
  fn : ∀ f d, E.fn f = some d → Sound P f d

/-! what an operation makes of its operands -/

def constCV : Value → Option CV
  | .bool b => some (.bool b)
  | .int k n => some (.int k n)
  | .slice none 0 0 => some .nil
  | _ => none

def AS.ev (s : AS) : Operand → AV
  | .tmp t => match s.get t 0 with
    | some (.av a) => a
    | _ => .any
  | .const v => match constCV v with
    | some c => .cel c
    | none => .any
  | _ => .any

def insOf : Op → List Operand
  | .move x | .assign x | .box _ x | .load _ x | .nilCheck x | .unOp _ _ x | .convert _ _ x | .fieldAddr _ x _ | .field _ x _ | .extract x _ => [x]
  | .pick c a b => [c, a, b]
  | .build _ ps | .buildSlice _ _ ps => ps.toList.map (·.2)
  | .store _ a x => [a, x]
  | .binOp _ _ x y _ => [x, y]
  | .makeSlice _ l c => [l, c]
  | .slice _ x lo hi _ => x :: (lo.toList ++ hi.toList)
  | .indexAddr _ x i => [x, i]
  | .call c => c.args.toList
  | _ => []

def Env.sz (E : Env) (t : Nat) : Nat := match E.tt t with | some ti => ti.size | none => 0
def Env.desc (E : Env) (t : Nat) : TypeDesc := match E.tt t with | some ti => ti.desc | none => .invalid

/-- the keys of n cells from k on -/
def keysFrom (id : Nat) : Nat → Nat → List (Nat × Nat)
  | _, 0 => []
  | k, n + 1 => (id, k) :: keysFrom id (k + 1) n

/-- which cells an operation looks at -/
def needsOf (E : Env) : Op → List AV → List (Nat × Nat)
  | .load t _, [.one (.cel (.ptr id off))] => keysFrom id (off + 1) (E.sz t)
  | .store t _ _, [.one (.cel (.ptr id off)), _] => keysFrom id (off + 1) (E.sz t)
  | .load _ _, [.one (.cel (.rp id _ _))] => [(id, 1)]
  | .store _ _ _, [.one (.cel (.rp id _ _)), _] => [(id, 1)]
  | .call ⟨.builtin .append, _, _⟩, [.one (.cel (.rf id _)), _] => [(id, 1)]
  | _, _ => []

def cvs : List (Option RV) → Option (List CV)
  | [] => some []
  | some (.cv c) :: r => match cvs r with
    | some cs => some (c :: cs)
    | none => none
  | _ => none

def no : Prop × AV := (False, .any)

def ofCells (agg : Bool) (cs : List CV) : AV :=
  match agg, cs with
  | true, cs => .agg cs
  | false, [c] => .cel c
  | false, _ => .any

def idAV : List AV → Prop × AV
  | [v] => (True, v)
  | _ => no

def pickAV : Bool → AV → AV → AV
  | x, .one (.cel (.bool p)), .one (.cel (.bool q)) => .cel (.bool (bif x then p else q))
  | true, a, _ => a
  | false, _, b => b

def pickOp : List AV → Prop × AV
  | [.one (.cel (.bool x)), a, b] => (True, pickAV x a b)
  | _ => no

def loadAV (ti : Option TI) (ins : List AV) (fs : List (Option RV)) : Prop × AV :=
  match ti, ins with
  | some ti, [.one (.cel (.ptr _ _))] => match cvs fs with
    | some cs => (True, ofCells ti.agg cs)
    | none => no
  | some ti, [.one (.cel (.pto cs))] => (ti.size ≤ cs.length, ofCells ti.agg ((cs.take ti.size).map CV.strip))
  | some ti, [.one (.cel (.rp _ t i))] => match fs with
    | [some (.row c)] => (t = c.t ∧ ti.size = c.t ∧ i < c.len, ofCells ti.agg ((c.at i).map CV.strip))
    | _ => no
  | _, _ => no

def nilAV : List AV → Prop × AV
  | [.one (.cel (.ptr id off))] => (True, .cel (.ptr id off))
  | [.one (.cel (.pto cs))] => (True, .cel (.pto cs))
  | _ => no

/-- a number of this kind that has not run over -/
def keepI (k : IntKind) (n : Int) : Prop × CV :=
  match k with
  | .i64 => (-9223372036854775808 ≤ n ∧ n ≤ 9223372036854775807, .int .i64 n)
  | k => (True, .int k (k.wrap n))

def bitsI (op : BinOp) (k : IntKind) (x y : Int) : Int :=
  match op with
  | .and => k.wrap ((BitVec.ofInt k.bits x &&& BitVec.ofInt k.bits y).toNat : Nat)
  | .or => k.wrap ((BitVec.ofInt k.bits x ||| BitVec.ofInt k.bits y).toNat : Nat)
  | .xor => k.wrap ((BitVec.ofInt k.bits x ^^^ BitVec.ofInt k.bits y).toNat : Nat)
  | _ => k.wrap ((BitVec.ofInt k.bits x &&& ~~~(BitVec.ofInt k.bits y)).toNat : Nat)

def binII (op : BinOp) (k : IntKind) (x y : Int) : Prop × CV :=
  match op with
  | .add => keepI k (x + y)
  | .sub => keepI k (x - y)
  | .mul => keepI k (x * y)
  | .quo => (y ≠ 0 ∧ (keepI k (x.tdiv y)).1, (keepI k (x.tdiv y)).2)
  | .rem => (y ≠ 0, .int k (x.tmod y))
  | .and | .or | .xor | .andNot => (True, .int k (bitsI op k x y))
  | .eql => (True, .bool (decide (x = y)))
  | .neq => (True, .bool (!decide (x = y)))
  | .lss => (True, .bool (decide (x < y)))
  | .leq => (True, .bool (decide (x ≤ y)))
  | .gtr => (True, .bool (decide (y < x)))
  | .geq => (True, .bool (decide (y ≤ x)))
  | _ => (False, .any)

def shiftII (op : BinOp) (k : IntKind) (x y : Int) : Prop × CV :=
  match op with
  | .shl => (0 ≤ y, .int k (k.wrap (x * 2 ^ (min y.toNat k.bits))))
  | .shr => (0 ≤ y, .int k (x.fdiv (2 ^ (min y.toNat k.bits))))
  | _ => (False, .any)

def isShift : BinOp → Bool
  | .shl | .shr => true
  | _ => false

def binCV (op : BinOp) (desc : TypeDesc) (x y : CV) : Prop × CV :=
  match x, y with
  | .int k a, .int k' b => if isShift op = true then shiftII op k a b else if k = k' then binII op k a b else (False, .any)
  | .bool a, .bool b => match op with
    | .eql => (desc = .bool, .bool (a == b))
    | .neq => (desc = .bool, .bool (!(a == b)))
    | _ => (False, .any)
  | _, _ => (False, .any)

def binAV (op : BinOp) (desc : TypeDesc) : List AV → Prop × AV
  | [.one (.cel x), .one (.cel y)] => ((binCV op desc x y).1, .cel (binCV op desc x y).2)
  | _ => no

def unAV (op : UnOp) : List AV → Prop × AV
  | [.one (.cel (.bool b))] => match op with
    | .not => (True, .cel (.bool (!b)))
    | _ => no
  | [.one (.cel (.int k n))] => match op with
    | .neg => ((keepI k (0 - n)).1, .cel (keepI k (0 - n)).2)
    | _ => no
  | _ => no

def convAV (s d : TypeDesc) : List AV → Prop × AV
  | [.one (.cel (.int _ n))] => match d with
    | .int k' => (s ≠ .invalid, .cel (.int k' (k'.wrap n)))
    | _ => no
  | _ => no

def fieldAddrAV (E : Env) (desc : TypeDesc) (f : Nat) : List AV → Prop × AV
  | [.one (.cel p)] => match desc with
    | .struct fields => match fields[f]? with
      | some fd => match p with
        | .ptr id off => (E.sz fd.type ≠ 0, .cel (.ptr id (off + fd.offset)))
        | .pto cs => (E.sz fd.type ≠ 0 ∧ fd.offset ≤ cs.length, .cel (.pto (cs.drop fd.offset)))
        | _ => no
      | none => no
    | _ => no
  | _ => no

def fieldAV (E : Env) (desc : TypeDesc) (f : Nat) : List AV → Prop × AV
  | [.one (.agg cs)] => match desc with
    | .struct fields => match fields[f]? with
      | some fd => match E.tt fd.type with
        | some ti => (fd.offset + ti.size ≤ cs.length, ofCells ti.agg ((cs.drop fd.offset).take ti.size))
        | none => no
      | none => no
    | _ => no
  | _ => no

def idxAV (desc : TypeDesc) (E : Env) : List AV → Prop × AV
  | [.one (.cel x), .one (.cel (.int _ i))] => match desc with
    | .slice e => match E.tt e with
      | some te => match x with
        | .sl _ t rows => (te.size = t ∧ 0 ≤ i ∧ i < rows.length, .cel (.pto (rows.getD i.toNat [])))
        | .lim _ xs => (te.size = 1 ∧ 0 ≤ i ∧ i < xs.length, .cel (.pto [.int .u32 ((xs.getD i.toNat 0 : Nat) : Int)]))
        | .rf id n => (0 ≤ i ∧ i < n, .cel (.rp id te.size i.toNat))
        | _ => no
      | none => no
    | _ => no
  | _ => no

def extAV (i : Nat) : List AV → Prop × AV
  | [.tup l] => match l[i]? with
    | some a => (True, .one a)
    | none => no
  | _ => no

/-- cells laid over cells -/
def lay : List CV → Nat → List CV → List CV
  | cs, _, [] => cs
  | cs, o, n :: ns => lay (cs.set o n) (o + 1) ns

def fillCV (place : Nat → Option (Nat × Nat)) (cells : List CV) : List (Nat × AV) → Option (List CV)
  | [] => some cells
  | (i, .one a) :: rest => match place i with
    | none => none
    | some (off, size) => if a.cells.length = size ∧ off + size ≤ cells.length then fillCV place (lay cells off a.cells) rest else none
  | _ => none

def placeOf (E : Env) (fields : Array Field) (i : Nat) : Option (Nat × Nat) :=
  match fields[i]? with
  | some f => match E.tt f.type with
    | some tf => some (f.offset, tf.size)
    | none => none
  | none => none

def buildAV (E : Env) (ti : Option TI) (ixs : List Nat) (ins : List AV) : Prop × AV :=
  match ti with
  | some ti => match ti.desc with
    | .struct fields => match fillCV (placeOf E fields) ti.z1.cells (ixs.zip ins) with
      | some cs => (fields.all (fun f => (E.tt f.type).isSome) = true, .agg cs)
      | none => no
    | _ => no
  | none => no

def rowsOf : List AV → Option (List (List CV))
  | [] => some []
  | .one a :: r => match rowsOf r with
    | some rs => some (a.cells.map CV.strip :: rs)
    | none => none
  | _ => none

def u32sOf : List (List CV) → Option (List Int)
  | [] => some []
  | [.int .u32 x] :: r => match u32sOf r with
    | some xs => some (x :: xs)
    | none => none
  | _ => none

def allU32 : List Int → Prop
  | [] => True
  | x :: xs => (0 ≤ x ∧ x < 4294967296) ∧ allU32 xs

def isU32 : TypeDesc → Bool
  | .int .u32 => true
  | _ => false

def isRange : Nat → List Nat → Bool
  | _, [] => true
  | k, x :: xs => x == k && isRange (k + 1) xs

def buildSliceAV (E : Env) (desc : TypeDesc) (n : Nat) (ixs : List Nat) (ins : List AV) : Prop × AV :=
  match desc with
  | .slice e => match E.tt e with
    | some te => match rowsOf ins with
      | some rows => match isU32 te.desc with
        | true => match u32sOf rows with
          | some xs => (te.size = 1 ∧ (isRange 0 ixs = true ∧ ixs.length = n) ∧ ins.length = n ∧ n ≤ 16777216 ∧ allU32 xs, .cel (.lim none (xs.map Int.toNat)))
          | none => no
        | false => (0 < te.size ∧ (isRange 0 ixs = true ∧ ixs.length = n) ∧ ins.length = n ∧ n * te.size ≤ 16777216 ∧ allLen te.size rows, .cel (.sl none te.size rows))
      | none => no
    | none => no
  | _ => no

def lenAV : List AV → Prop × AV
  | [.one (.cel .nil)] => (True, .cel (.int .i64 0))
  | [.one (.cel (.lim _ xs))] => (True, .cel (.int .i64 xs.length))
  | [.one (.cel (.sl _ _ rows))] => (True, .cel (.int .i64 rows.length))
  | [.one (.cel (.rf _ n))] => (True, .cel (.int .i64 n))
  | _ => no

def isSlice : TypeDesc → Bool
  | .slice _ => true
  | _ => false

def callAV (E : Env) (c : Call) (ins : List AV) : Prop × AV :=
  match c.callee with
  | .value (.func f) => match E.fn f with
    | some d => d (ins.map AV.strip)
    | none => no
  | .builtin .len => match c.argTypes[0]? with
    | some t => (isSlice (E.desc t) = true ∧ (lenAV ins).1, (lenAV ins).2)
    | none => no
  | .builtin .max => match ins with
    | [.one (.cel (.int k x)), .one (.cel (.int _ y))] => (True, .cel (.int k (max x y)))
    | _ => no
  | .builtin .min => match ins with
    | [.one (.cel (.int k x)), .one (.cel (.int _ y))] => (True, .cel (.int k (min x y)))
    | _ => no
  | _ => no

def valOf (E : Env) (op : Op) (ins : List AV) (fs : List (Option RV)) : Prop × AV :=
  match op with
  | .move _ => idAV ins
  | .assign _ => idAV ins
  | .pick _ _ _ => pickOp ins
  | .load t _ => loadAV (E.tt t) ins fs
  | .nilCheck _ => nilAV ins
  | .binOp op t _ _ _ => binAV op (E.desc t) ins
  | .unOp op _ _ => unAV op ins
  | .convert s d _ => convAV (E.desc s) (E.desc d) ins
  | .fieldAddr s _ f => fieldAddrAV E (E.desc s) f ins
  | .field s _ f => fieldAV E (E.desc s) f ins
  | .indexAddr t _ _ => idxAV (E.desc t) E ins
  | .extract _ i => extAV i ins
  | .build t ps => buildAV E (E.tt t) (ps.toList.map (·.1)) ins
  | .buildSlice t n ps => buildSliceAV E (E.desc t) n (ps.toList.map (·.1)) ins
  | .call c => callAV E c ins
  | _ => no

def mkCells (id : Nat) : Nat → List CV → AS
  | _, [] => []
  | k, c :: cs => (id, k, .cv c) :: mkCells id (k + 1) cs

def RV.men (id : Nat) : RV → Bool
  | .av a => a.men id
  | .cv c => c.men id
  | .row _ => false
  | .off => false

/-- nothing in s names the block d -/
def AS.fresh (s : AS) (d : Nat) : Bool := s.all fun r => !(r.2.2.men d) && (r.1 != d || r.2.1 == 0)

/-- a new row of n places, all zero -/
def zeroRC (te : TI) (n : Nat) : Prop × RC :=
  match isU32 te.desc with
  | true => match te.z1 with
    | .cel (.int .u32 0) => (te.size = 1, .u32 (List.replicate n 0))
    | _ => (False, .u32 [])
  | false => (0 < te.size ∧ te.z1.cells.length = te.size, .gen te.size (List.replicate n te.z1.cells))

/-- a row of n places put into slot d, as its own -/
def rowAS (d n : Nat) (c : RC) : AS := [(d, 0, .av (.cel (.rf d n))), (d, 1, .row c)]

def makeAV (E : Env) (t d : Nat) (fresh : Nat → Bool) : List AV → Prop × AS
  | [.one (.cel (.int _ n)), .one (.cel (.int _ m))] => match E.desc t with
    | .slice e => match E.tt e with
      | some te => (d < E.N ∧ fresh d = true ∧ m = n ∧ 0 ≤ n ∧ n ≤ 1099511627776 ∧ (zeroRC te n.toNat).1, rowAS d n.toNat (zeroRC te n.toNat).2)
      | none => (False, [])
    | _ => (False, [])
  | _ => (False, [])

def emptyAV (E : Env) (t d : Nat) (fresh : Nat → Bool) : Prop × AS :=
  match E.desc t with
  | .slice e => match E.tt e with
    | some te => (d < E.N ∧ fresh d = true ∧ (zeroRC te 0).1, rowAS d 0 (zeroRC te 0).2)
    | none => (False, [])
  | _ => (False, [])

/-- what append is told of its types: both are rows of te -/
def appTy (E : Env) (ts : List Nat) : Option TI :=
  match ts with
  | [t, t'] => if (t == t') = true then match E.desc t with
      | .slice e => E.tt e
      | _ => none
    else none
  | _ => none

def appAV (E : Env) (ts : List Nat) (d : Nat) (fresh : Nat → Bool) (ins : List AV) (fs : List (Option RV)) : Prop × AS :=
  match appTy E ts with
  | some te => match ins with
    | [.one (.cel (.rf id n)), .one (.cel x)] => match fs with
      | [some (.row c)] => (d < E.N ∧ fresh d = true ∧ n = c.len ∧ te.size = c.t ∧ (zeroRC te 0).1 ∧ (c.app x).1, (id, 1, .off) :: rowAS d (c.app x).2.len (c.app x).2)
      | _ => (False, [])
    | [.one (.cel .nil), .one (.cel x)] => (d < E.N ∧ fresh d = true ∧ (zeroRC te 0).1 ∧ ((zeroRC te 0).2.app x).1, rowAS d ((zeroRC te 0).2.app x).2.len ((zeroRC te 0).2.app x).2)
    | _ => (False, [])
  | none => (False, [])

def effOf (E : Env) (op : Op) (dst : Option Nat) (fresh : Nat → Bool) (ins : List AV) (fs : List (Option RV)) : Prop × AS :=
  match op, dst with
  | .alloc t, some d => match E.tt t with
    | some ti => (d < E.N ∧ fresh d = true, (d, 0, .av (.cel (.ptr d 0))) :: mkCells d 1 ti.z1.cells)
    | none => (False, [])
  | .box _ _, some d => match ins with
    | [.one a] => (d < E.N ∧ fresh d = true ∧ a.men d = false, (d, 0, .av (.cel (.ptr d 0))) :: mkCells d 1 a.cells)
    | _ => (False, [])
  | .store t _ _, none => match E.tt t, ins with
    | some ti, [.one (.cel (.ptr id off)), .one a] => match cvs fs with
      | some _ => (a.cells.length = ti.size, mkCells id (off + 1) a.cells)
      | none => (False, [])
    | some ti, [.one (.cel (.rp id t' i)), .one a] => match fs with
      | [some (.row c)] => (t' = c.t ∧ ti.size = c.t ∧ i < c.len ∧ (c.setC i a.cells).1, [(id, 1, .row (c.setC i a.cells).2)])
      | _ => (False, [])
    | _, _ => (False, [])
  | .makeSlice t _ _, some d => makeAV E t d fresh ins
  | .buildSlice t 0 ps, some d => (ps = #[] ∧ (emptyAV E t d fresh).1, (emptyAV E t d fresh).2)
  | .call ⟨.builtin .append, _, ts⟩, some d => appAV E ts.toList d fresh ins fs
  | op, some d => (d < E.N ∧ (valOf E op ins fs).1, [(d, 0, .av (valOf E op ins fs).2)])
  | op, none => ((valOf E op ins fs).1, [])

/-- one operation: what it asks of the state, and what it lays over it -/
def actOf (E : Env) (o : Oper) (s : AS) : Prop × AS :=
  let ins := (insOf o.op).map s.ev
  effOf E o.op o.dst s.fresh ins ((needsOf E o.op ins).map fun r => s.get r.1 r.2)

end Go.Proofs.Ytdojdghhbjjoeaa

/- Joined texts: Am, AmSa, AmSb. No conditions but those of each. -/
import Derived.WalkKit
import Derived.KernelRfl
import Derived.Orders
import Derived.Laws.Rows
import Derived.Laws.Append
/-  The abstract machine: a small evaluator for the code of a function, over values and a heap of its own. No conditions: definitions alone. -/
namespace Go.Proofs.Ytknphnmhjmejaaa

/-- Values that hold no address of a variable that may still be written. -/
inductive RV where
  | bool (b : Bool)
  | int (k : IntKind) (n : Int)
  | float (k : FloatKind) (b : Nat)
  | str (s : ByteArray)
  | nilp | nils | nilf | nili | nilm
  | rop (cs : List RV)
  | ros (cs : List RV) (len : Nat)
  | iface (t : TypeId) (x : RV)
  | agg (cs : List RV)
  | tuple (cs : List RV)

/-- Values, addresses of variables among them: an object's number, its stamp, a cell's place. -/
inductive AV where
  | any
  | rv (x : RV)
  | ptr (o ver off : Nat)
  | sl (o ver off len : Nat)
  | func (f : FuncId) (fst cap : List AV)
  | iface (t : TypeId) (x : AV)
  | agg (cs : List AV)
  | tuple (cs : List AV)

structure Ob where
  ver : Nat
  esz : Nat
  cells : List AV
abbrev Hp := List Ob
structure St where
  tmps : List AV
  heap : Hp
inductive AE where
  | normal
  | exit (id : Nat)
  | ret
  | pan (v : AV)
inductive Res where
  | ret (v : RV)
  | pan (v : RV)
inductive ARes where
  | ret (v : AV)
  | pan (v : AV)
inductive Callee where
  | pure (F : List RV → Option Res)
  | gen (G : List AV → Hp → Option (ARes × Hp))
  /-- What 'slices.Backward' hands back: ranged over alone. -/
  | back

abbrev undefA : AV := .rv (.tuple [])
abbrev ai (n : Int) : AV := .rv (.int .i64 n)
abbrev ab (b : Bool) : AV := .rv (.bool b)

def ofVal : Value → AV
  | .bool b => .rv (.bool b)
  | .int k n => .rv (.int k n)
  | .float k b => .rv (.float k b)
  | .string s => .rv (.str s)
  | .pointer none => .rv .nilp
  | .slice none 0 0 => .rv .nils
  | .nilFunc => .rv .nilf
  | .nilIface => .rv .nili
  | .map none => .rv .nilm
  | _ => .any
def toVal : AV → Option Value
  | .rv (.bool b) => some (.bool b)
  | .rv (.int k n) => some (.int k n)
  | .rv (.str s) => some (.string s)
  | .rv .nilp => some (.pointer none)
  | .rv .nils => some (.slice none 0 0)
  | .rv .nilf => some .nilFunc
  | .rv .nili => some .nilIface
  | .rv .nilm => some (.map none)
  | _ => none
noncomputable section
/-- A slot. -/
def tget (l : List AV) (n : Nat) : AV :=
  List.rec (motive := fun _ => Nat → AV) (fun _ => .any) (fun x _ ih n => Nat.rec (motive := fun _ => AV) x (fun m _ => ih m) n) l n
def tset (l : List AV) (n : Nat) (v : AV) : List AV :=
  List.rec (motive := fun _ => Nat → List AV) (fun _ => []) (fun x xs ih n => Nat.rec (motive := fun _ => List AV) (v :: xs) (fun m _ => x :: ih m) n) l n
theorem tget_eq : ∀ (l : List AV) (n : Nat), tget l n = l.getD n .any
  | [], _ => rfl
  | _ :: _, 0 => rfl
  | _ :: l, n + 1 => by
    show tget l n = _
    rw [tget_eq l n]
    simp
theorem tset_eq : ∀ (l : List AV) (n : Nat) (v : AV), tset l n v = l.set n v
  | [], _, _ => rfl
  | _ :: _, 0, _ => rfl
  | x :: l, n + 1, v => by
    show x :: tset l n v = _
    rw [tset_eq l n]
    rfl
def aeval (tmps : List AV) : Operand → AV
  | .tmp t => tget tmps t
  | .const v => ofVal v
  | .global _ => .any
  | .func f => .func f [] []

/-! Numbers that lie one on the other: which definition is opened first goes by how many others it lies on. -/
def h_0 : Nat := 0
def h_1 : Nat := h_0
def h_2 : Nat := h_1
def h_3 : Nat := h_2
def h_4 : Nat := h_3
def h_5 : Nat := h_4
def h_6 : Nat := h_5
def h_7 : Nat := h_6
def h_8 : Nat := h_7
def h_9 : Nat := h_8
def h_10 : Nat := h_9
def h_11 : Nat := h_10
def h_12 : Nat := h_11
def h_13 : Nat := h_12
def h_14 : Nat := h_13
def h_15 : Nat := h_14
def h_16 : Nat := h_15
def h_17 : Nat := h_16
def h_18 : Nat := h_17
def h_19 : Nat := h_18
def h_20 : Nat := h_19
def h_21 : Nat := h_20
def h_22 : Nat := h_21
def h_23 : Nat := h_22
def h_24 : Nat := h_23
def h_25 : Nat := h_24
def h_26 : Nat := h_25
def h_27 : Nat := h_26
def h_28 : Nat := h_27
def h_29 : Nat := h_28
def h_30 : Nat := h_29
def h_31 : Nat := h_30
section
variable {R : Type}
/-- Of two what a bool asks. -/
def bsp (b : Bool) (x y : Option R) : Option R :=
  match b with
  | true => x
  | false => let _t := h_20; y
/-- The same, where the bool is known ahead. -/
def bsq (b : Bool) (x y : Option R) : Option R :=
  match b with
  | true => x
  | false => let _t := h_31; y
def asInt (k : IntKind) (x : AV) (K : Int → Option R) : Option R :=
  match x with
  | .rv (.int k' n) => if k' = k then K n else (let _t := h_31; none)
  | _ => none
def asBool (x : AV) (K : Bool → Option R) : Option R :=
  match x with
  | .rv (.bool b) => K b
  | _ => let _t := h_31; none
/-- The same two, as parts of what is told of a load. -/
def asInt0 (k : IntKind) (x : AV) (K : Int → Option R) : Option R :=
  match x with
  | .rv (.int k' n) => if k' = k then K n else none
  | _ => none
def asBool0 (x : AV) (K : Bool → Option R) : Option R :=
  match x with
  | .rv (.bool b) => K b
  | _ => none
/-- A list's spine first. -/
def fcd (l : List AV) (K : List AV → Option R) : Option R :=
  List.rec (motive := fun _ => (List AV → Option R) → Option R) (fun k => let _t := h_31; k []) (fun x _ ih k => ih fun ys => k (x :: ys)) l K
theorem fcd_eq : ∀ (l : List AV) (K : List AV → Option R), fcd l K = K l
  | [], _ => rfl
  | x :: l, K => by
    show fcd l (fun ys => K (x :: ys)) = _
    rw [fcd_eq l]
def castD (d : Option TypeDesc) (x : AV) (K : AV → Option R) : Option R :=
  match d with
  | some (.int k) => asInt k x fun n => K (.rv (.int k n))
  | some .bool => asBool x fun b => K (.rv (.bool b))
  | _ => K x

def cellAt (h : Hp) (p : AV) (j : Nat) : Option AV :=
  match p with
  | .rv (.rop cs) => (cs[j]?).map .rv
  | .ptr o ver off =>
    match h[o]? with
    | some ob => if ob.ver = ver then ob.cells[off + j]? else none
    | none => none
  | _ => none
def cellsN (h : Hp) (p : AV) : Nat → Nat → Option (List AV)
  | _, 0 => some []
  | j, n + 1 => match cellAt h p j with
    | some x => match cellsN h p (j + 1) n with
      | some l => some (x :: l)
      | none => none
    | none => none
def ldv (h : Hp) (p : AV) (K : AV → Option R) : Option R :=
  match cellAt h p 0 with
  | some x => K x
  | none => none
def ldi (k : IntKind) (h : Hp) (p : AV) (K : Int → Option R) : Option R := ldv h p fun x => asInt0 k x K
def ldb (h : Hp) (p : AV) (K : Bool → Option R) : Option R := ldv h p fun x => asBool0 x K
def ldg (n : Nat) (h : Hp) (p : AV) (K : AV → Option R) : Option R :=
  match cellsN h p 0 n with
  | some l => K (.agg l)
  | none => none

/-- A value's cells, one behind the other. -/
def vcells : AV → Option (List AV)
  | .any => none
  | .rv (.agg cs) => some (cs.map .rv)
  | .agg cs => some cs
  | x => some [x]
def acells : AV → Option (List AV)
  | .rv (.agg cs) => some (cs.map .rv)
  | .agg cs => some cs
  | _ => none
def oneA : AV → Bool
  | .any | .agg _ | .tuple _ | .rv (.agg _) | .rv (.tuple _) => false
  | _ => true
def setAt : List AV → Nat → List AV → List AV
  | l, _, [] => l
  | l, off, c :: cs => setAt (l.set off c) (off + 1) cs
def stv (sz : Nat) (h : Hp) (p v : AV) (K : Hp → Option R) : Option R :=
  match vcells v with
  | none => none
  | some cs =>
    match p with
    | .ptr o ver off =>
      match h[o]? with
      | some ob => if cs.length = sz ∧ ob.ver = ver ∧ off + sz ≤ ob.cells.length ∧ cs.all oneA = true then K (h.set o { ob with cells := setAt ob.cells off cs }) else none
      | none => none
    | _ => none
def nwc (esz : Nat) (cs : Option (List AV)) (h : Hp) (K : AV → Hp → Option R) : Option R :=
  match cs with
  | some l => K (.ptr h.length 0 0) (h ++ [⟨0, esz, l⟩])
  | none => none
def pad (p : AV) (n : Nat) (K : AV → Option R) : Option R :=
  match p with
  | .ptr o ver off => K (.ptr o ver (off + n))
  | .rv (.rop cs) => K (.rv (.rop (cs.drop n)))
  | _ => none
def ixa (esz : Nat) (v : AV) (i : Int) (K : AV → Option R) : Option R :=
  match v with
  | .sl o ver off len => if 0 ≤ i ∧ i < len then K (.ptr o ver (off + i.toNat * esz)) else none
  | .rv (.ros cs len) => if 0 ≤ i ∧ i < len then K (.rv (.rop (cs.drop (i.toNat * esz)))) else none
  | _ => none
def lna (v : AV) (K : Int → Option R) : Option R :=
  match v with
  | .sl _ _ _ len => K len
  | .rv (.ros _ len) => K len
  | .rv .nils => K 0
  | _ => none
def lns (v : AV) (K : Int → Option R) : Option R :=
  match v with
  | .rv (.str s) => K s.size
  | _ => none
def nck (v : AV) (K : AV → Option R) : Option R :=
  match v with
  | .ptr o ver off => K (.ptr o ver off)
  | .rv (.rop cs) => K (.rv (.rop cs))
  | .func f fst cap => K (.func f fst cap)
  | _ => none
def pnc (v : AV) (K : AV → Option R) : Option R :=
  match v with
  | .rv (.iface t x) => K (.rv (.iface t x))
  | .iface t x => K (.iface t x)
  | _ => none
def room : Int := 140737488355328
def zrep (z : List AV) (n : Nat) : List AV := (List.replicate n z).flatten
def mks (esz bytes : Nat) (z : List AV) (h : Hp) (n : Int) (K : AV → Hp → Option R) : Option R :=
  if 0 ≤ n ∧ n ≤ room ∧ bytes * n ≤ room then K (.sl h.length 0 0 n.toNat) (h ++ [⟨0, esz, zrep z n.toNat⟩]) else none
def mkc (esz bytes : Nat) (z : List AV) (h : Hp) (n m : Int) (K : AV → Hp → Option R) : Option R :=
  if 0 ≤ n ∧ n ≤ m ∧ m ≤ room ∧ bytes * m ≤ room then K (.sl h.length 0 0 n.toNat) (h ++ [⟨0, esz, zrep z n.toNat⟩]) else none
/-- The cells of what is appended, and how many elements. -/
def wcells (esz : Nat) (h : Hp) (w : AV) : Option (Nat × List AV) :=
  match w with
  | .rv .nils => some (0, [])
  | .rv (.ros cs len) => if len * esz ≤ cs.length then some (len, (cs.take (len * esz)).map .rv) else none
  | .sl o ver off len =>
    match h[o]? with
    | some ob => if ob.ver = ver ∧ off + len * esz ≤ ob.cells.length then some (len, (ob.cells.drop off).take (len * esz)) else none
    | none => none
  | _ => none
def apn (esz bytes : Nat) (h : Hp) (v w : AV) (K : AV → Hp → Option R) : Option R :=
  match wcells esz h w with
  | none => none
  | some (n, new) =>
    match v with
    | .rv .nils => if n = 0 then K (.rv .nils) h else if (n : Int) ≤ room ∧ bytes * (n : Int) ≤ room ∧ new.all oneA = true then K (.sl h.length 0 0 n) (h ++ [⟨0, esz, new⟩]) else none
    | .sl o ver off len =>
      match h[o]? with
      | some ob =>
        if off = 0 ∧ ob.ver = ver ∧ ob.esz = esz ∧ len * esz ≤ ob.cells.length ∧ ((len + n : Nat) : Int) ≤ room ∧ bytes * ((len + n : Nat) : Int) ≤ room ∧ new.all oneA = true then
          K (.sl o (ver + 1) 0 (len + n)) (h.set o ⟨ver + 1, esz, ob.cells.take (len * esz) ++ new⟩)
        else none
      | none => none
    | _ => none
def liveA (esz : Nat) (h : Hp) (o ver : Nat) : Bool :=
  match h[o]? with
  | some ob => decide (ob.ver = ver ∧ ob.esz = esz)
  | none => false
def slc (esz : Nat) (h : Hp) (v : AV) (lo hi : Option Int) (K : AV → Option R) : Option R :=
  match v with
  | .sl o ver off len =>
    if liveA esz h o ver = true ∧ 0 ≤ lo.getD 0 ∧ lo.getD 0 ≤ hi.getD len ∧ hi.getD len ≤ len then K (.sl o ver (off + (lo.getD 0).toNat * esz) (hi.getD len - lo.getD 0).toNat) else none
  | .rv (.ros cs len) =>
    if 0 ≤ lo.getD 0 ∧ lo.getD 0 ≤ hi.getD len ∧ hi.getD len ≤ len then
      K (.rv (.ros ((cs.drop ((lo.getD 0).toNat * esz)).take ((hi.getD len - lo.getD 0).toNat * esz)) (hi.getD len - lo.getD 0).toNat)) else none
  | .rv .nils => if lo.getD 0 = 0 ∧ hi.getD 0 = 0 then K (.rv .nils) else none
  | _ => none

/-- What a value reads as, all that is written being held still. -/
def toRV (h : Hp) : Nat → AV → Option RV
  | 0, _ => none
  | _ + 1, .rv x => some x
  | n + 1, .sl o ver off len =>
    match h[o]? with
    | some ob => if ob.ver = ver ∧ off + len * ob.esz ≤ ob.cells.length then
        (((ob.cells.drop off).take (len * ob.esz)).mapM (toRV h n)).map fun cs => .ros cs len else none
    | none => none
  | n + 1, .ptr o ver off =>
    match h[o]? with
    | some ob => if ob.ver = ver then ((ob.cells.drop off).mapM (toRV h n)).map .rop else none
    | none => none
  | n + 1, .iface t x => (toRV h n x).map (.iface t)
  | n + 1, .agg cs => (cs.mapM (toRV h n)).map .agg
  | n + 1, .tuple cs => (cs.mapM (toRV h n)).map .tuple
  | _ + 1, _ => none
def depthA : Nat := 12
mutual
/-- Does a value hold no address of what may still be written? -/
def isRV : AV → Bool
  | .rv _ => true
  | .agg cs => allRV cs
  | .tuple cs => allRV cs
  | .iface _ x => isRV x
  | _ => false
def allRV : List AV → Bool
  | [] => true
  | x :: xs => isRV x && allRV xs
end
/-- Numbers, bools, and what is made of them without a slice or an address. -/
def scalR : RV → Bool
  | .bool _ | .int _ _ | .float _ _ | .str _ | .nilp | .nils | .nilf | .nili | .nilm => true
  | _ => false
def flatR : RV → Bool
  | .tuple cs => cs.all scalR
  | .iface _ x => scalR x
  | x => scalR x
def callP (F : List RV → Option Res) (h : Hp) (args : List AV) (K Kp : AV → Option R) : Option R :=
  match args.mapM (toRV h depthA) with
  | some rs => match F rs with
    | some (.ret r) => if args.all isRV = true ∨ flatR r = true then K (.rv r) else none
    | some (.pan r) => if args.all isRV = true ∨ flatR r = true then Kp (.rv r) else none
    | none => none
  | none => none
def callG (G : List AV → Hp → Option (ARes × Hp)) (h : Hp) (args : List AV) (K Kp : AV → Hp → Option R) : Option R :=
  match G args h with
  | some (.ret r, h') => K r h'
  | some (.pan r, h') => Kp r h'
  | none => none
def callC (Γ : FuncId → Option Callee) (f : FuncId) (h : Hp) (args : List AV) (K Kp : AV → Hp → Option R) : Option R :=
  match Γ f with
  | some (.pure F) => callP F h args (fun v => K v h) (fun v => Kp v h)
  | some (.gen G) => callG G h args K Kp
  | _ => none
def callV (Γ : FuncId → Option Callee) (f : AV) (h : Hp) (args : List AV) (K Kp : AV → Hp → Option R) : Option R :=
  match f with
  | .func g fst cap => callC Γ g h (fst ++ args ++ cap) K Kp
  | _ => none

/-- What a computation gives that asks nothing of the world. -/
def purely (P : Program) {α : Type} : Sem α → Option α
  | .pure a => some a
  | .program k => purely P (k P)
  | .mark _ k => purely P k
  | _ => none
/-- Which kind of type has a nil of its own. -/
def nilKind : Option TypeDesc → Nat
  | some (.pointer _) => 1
  | some (.slice _) => 2
  | some (.func ..) => 3
  | some (.interface _) => 4
  | some (.map ..) => 5
  | _ => 0
def nilLike (d : Nat) (x : AV) : Option Bool :=
  match d, x with
  | 1, .rv .nilp | 2, .rv .nils | 3, .rv .nilf | 4, .rv .nili | 5, .rv .nilm => some true
  | 1, .ptr .. | 1, .rv (.rop _) | 2, .sl .. | 2, .rv (.ros ..) | 3, .func .. | 4, .iface .. | 4, .rv (.iface ..) => some false
  | _, _ => none
/-- An operation of two words; of pointers, slices, function and interface values alone whether they are nil. -/
def binA (P : Program) (op : BinOp) (t : TypeId) (x y : Operand) (a b : AV) (K : AV → Option R) : Option R :=
  match toVal a, toVal b with
  | some u, some v => match purely P (do eqGuard op t x y u v; binOp op t u v) with
    | some z => K (ofVal z)
    | none => none
  | _, _ => none
def nilEq (neg : Bool) (d : Nat) (a : AV) (K : Bool → Option R) : Option R :=
  match nilLike d a with
  | some c => K (if neg then !c else c)
  | none => none
def nilConst : Operand → Nat
  | .const (.pointer none) => 1
  | .const (.slice none 0 0) => 2
  | .const .nilFunc => 3
  | .const .nilIface => 4
  | .const (.map none) => 5
  | _ => 0
def wri (k : IntKind) (n : Int) : Int := k.wrap n
/-- Which kinds of an operation are written out. -/
def binK (P : Program) (op : BinOp) (t : TypeId) (x y : Operand) (a b : AV) (K : AV → Option R) : Option R :=
  bsq (Nat.beq (nilConst y) 0)
  (match P.underlying t, op with
  | some (.int k), .quo => asInt k a fun m => asInt k b fun n => if n = 0 then none else K (.rv (.int k (wri k (m.tdiv n))))
  | some (.int k), .rem => asInt k a fun m => asInt k b fun n => if n = 0 then none else K (.rv (.int k (m.tmod n)))
  | some (.int k), .add => asInt k a fun m => asInt k b fun n => K (.rv (.int k (wri k (m + n))))
  | some (.int k), .sub => asInt k a fun m => asInt k b fun n => K (.rv (.int k (wri k (m - n))))
  | some (.int k), .mul => asInt k a fun m => asInt k b fun n => K (.rv (.int k (wri k (m * n))))
  | some (.int k), .eql => asInt k a fun m => asInt k b fun n => K (ab (m == n))
  | some (.int k), .neq => asInt k a fun m => asInt k b fun n => K (ab (m != n))
  | some (.int k), .lss => asInt k a fun m => asInt k b fun n => K (ab (decide (m < n)))
  | some (.int k), .leq => asInt k a fun m => asInt k b fun n => K (ab (decide (m ≤ n)))
  | some (.int k), .gtr => asInt k a fun m => asInt k b fun n => K (ab (decide (m > n)))
  | some (.int k), .geq => asInt k a fun m => asInt k b fun n => K (ab (decide (m ≥ n)))
  | some .bool, .eql => asBool a fun m => asBool b fun n => K (ab (m == n))
  | some .bool, .neq => asBool a fun m => asBool b fun n => K (ab (!(m == n)))
  | _, _ => binA P op t x y a b K)
  (bsq (Nat.beq (nilConst y) (nilKind (P.underlying t)))
    (match op with
    | .eql => nilEq false (nilKind (P.underlying t)) a fun c => K (ab c)
    | .neq => nilEq true (nilKind (P.underlying t)) a fun c => K (ab c)
    | _ => none) none)
def unK (P : Program) (op : UnOp) (a : AV) (K : AV → Option R) : Option R :=
  match op with
  | .not => asBool a fun b => K (ab (!b))
  | _ => match toVal a with
    | some u => match purely P (Op.unary op u) with
      | some z => K (ofVal z)
      | none => none
    | none => none
def cvK (P : Program) (s d : TypeId) (a : AV) (K : AV → Option R) : Option R :=
  match P.underlying s, P.underlying d with
  | some (.int k), some (.int k') => asInt k a fun n => K (.rv (.int k' (wri k' n)))
  | _, _ => none
def fieldOff (P : Program) (t : TypeId) (i : Nat) : Option (Nat × TypeId) :=
  match P.underlying t with
  | some (.struct fs) => match fs[i]? with
    | some f => some (f.offset, f.type)
    | none => none
  | _ => none
def isAggD : Option TypeDesc → Bool
  | some (.struct _) | some (.array ..) => true
  | _ => false
def elemSz (P : Program) (t : TypeId) : Option (Nat × Nat × TypeId) :=
  match P.underlying t with
  | some (.slice e) => match P.info? e with
    | some i => some (i.size, i.bytes, e)
    | none => none
  | _ => none
def zeroA (P : Program) (t : TypeId) : Option (List AV) :=
  match P.info? t with
  | some i => match i.zero with
    | some z => some (z.cells.toList.map ofVal)
    | none => none
  | none => none
/-- An element type's zero value, if it has as many cells as it must. -/
def zeroE (P : Program) (e : TypeId) (sz : Nat) : Option (List AV) :=
  match zeroA P e with
  | some z => bsq (Nat.beq z.length sz && Nat.ble 1 sz) (some z) none
  | none => none
def zero1 (P : Program) (t : TypeId) : Option AV :=
  match P.info? t with
  | some i => match i.zero with
    | some (.agg _) => none
    | some z => some (ofVal z)
    | none => none
  | none => none
def fillA : List AV → List (Option (Nat × Nat) × AV) → Option (List AV)
  | cells, [] => some cells
  | cells, (pl, v) :: rest =>
    match pl with
    | none => none
    | some (off, size) => match vcells v with
      | none => none
      | some cs => if cs.length = size ∧ off + size ≤ cells.length then fillA (setAt cells off cs) rest else none
def bld (z : List AV) (parts : List (Option (Nat × Nat) × AV)) (K : AV → Option R) : Option R :=
  match fillA z parts with
  | some cs => K (.agg cs)
  | none => none
def bsl (sz len : Nat) (z : List AV) (parts : List (Option (Nat × Nat) × AV)) (h : Hp) (K : AV → Hp → Option R) : Option R :=
  match fillA (zrep z len) parts with
  | some cs => K (.sl h.length 0 0 len) (h ++ [⟨0, sz, cs⟩])
  | none => none
def sameOp : Operand → Operand → Bool
  | .tmp a, .tmp b => Nat.beq a b
  | _, _ => false
def fldA (n off : Nat) (single : Bool) (x : AV) (K : AV → Option R) : Option R :=
  match acells x with
  | none => none
  | some cs => if off + n ≤ cs.length then (if single then match cs[off]? with | some c => K c | none => none else K (.agg ((cs.drop off).take n))) else none
def xtr (x : AV) (i : Nat) (K : AV → Option R) : Option R :=
  match x with
  | .tuple cs => match cs[i]? with | some c => K c | none => none
  | .rv (.tuple cs) => match cs[i]? with | some c => K (.rv c) | none => none
  | _ => none
def mkI (t : TypeId) (x : AV) : AV :=
  match x with
  | .rv r => .rv (.iface t r)
  | x => .iface t x
def tasA (t : TypeId) (z : Option AV) (x : AV) (K : AV → Option R) : Option R :=
  match x with
  | .rv (.iface u r) => if u = t then K (.tuple [.rv r, ab true]) else match z with
    | some c => K (.tuple [c, ab false])
    | _ => none
  | _ => none

variable (P : Program) (Γ : FuncId → Option Callee)
def callO (type : TypeId) (c : Call) (ev : Operand → AV) (h : Hp) (K Kp : AV → Hp → Option R) : Option R :=
  match c.callee with
  | .value f => callV Γ (ev f) h (c.args.toList.map ev) (fun v h => castD (P.underlying type) v fun v => K v h) Kp
  | .invoke .. => none
  | .builtin .len => match c.args.toList, c.argTypes.toList with
    | [x], [t] => match P.underlying t with
      | some (.slice _) => lna (ev x) fun n => K (ai n) h
      | some .string => lns (ev x) fun n => K (ai n) h
      | _ => none
    | _, _ => none
  | .builtin .append => match c.args.toList, c.argTypes.toList with
    | [x, y], [t, u] => match elemSz P t, P.underlying u with
      | some (sz, bytes, e), some (.slice _) => bsq (zeroE P e sz).isSome (apn sz bytes h (ev x) (ev y) K) none
      | _, _ => none
    | _, _ => none
  | _ => none
def aop (o : Oper) (σ : St) (K Kp : AV → Hp → Option R) : Option R :=
  let ev := aeval σ.tmps
  let h := σ.heap
  match o.op with
  | .move x | .assign x => K (ev x) h
  | .pick c a b => asBool (ev c) fun t => bsp t (K (ev a) h) (K (ev b) h)
  | .alloc t => nwc 1 (zeroA P t) h K
  | .box _ x => nwc 1 (vcells (ev x)) h K
  | .build t parts =>
    match P.underlying t, zeroA P t with
    | some (.struct fs), some z =>
      bsq (fs.toList.all fun f => (P.info? f.type).isSome) (bld z (parts.toList.map fun p => ((fs[p.1]?).map fun f => (f.offset, P.cellsOf f.type), ev p.2)) fun v => K v h) none
    | _, _ => none
  | .buildSlice t len parts =>
    match elemSz P t with
    | some (sz, _, e) => match zeroE P e sz with
      | some z =>
        bsq (Nat.ble (len * sz) 16777216) (bsl sz len z (parts.toList.map fun p => (some (p.1 * sz, sz), ev p.2)) h K) none
      | none => none
    | none => none
  | .load t a =>
    match P.underlying t with
    | none => none
    | some (.struct _) => bsq (Nat.beq (P.cellsOf t) 0) none (ldg (P.cellsOf t) h (ev a) fun v => K v h)
    | some (.array ..) => bsq (Nat.beq (P.cellsOf t) 0) none (ldg (P.cellsOf t) h (ev a) fun v => K v h)
    | some (.int k) => ldi k h (ev a) fun n => K (.rv (.int k n)) h
    | some .bool => ldb h (ev a) fun b => K (ab b) h
    | some _ => ldv h (ev a) fun v => K v h
  | .store t a x => bsq (P.info? t).isSome (stv (P.cellsOf t) h (ev a) (ev x) fun h => K undefA h) none
  | .nilCheck x => nck (ev x) fun v => K v h
  | .binOp op t x y _ => binK P op t x y (ev x) (ev y) fun v => K v h
  | .unOp op _ x => unK P op (ev x) fun v => K v h
  | .convert s d x => cvK P s d (ev x) fun v => K v h
  | .makeInterface t x => match P.underlying t with
    | some (.interface _) => none
    | some _ => K (mkI t (ev x)) h
    | none => none
  | .makeFunc (.func f) first cap => K (.func f (first.toList.map ev) (cap.toList.map ev)) h
  | .makeSlice t a b => match elemSz P t with
    | some (sz, bytes, e) => match zeroE P e sz with
      | some z => bsq (sameOp a b) (asInt .i64 (ev a) fun n => mks sz bytes z h n K) (asInt .i64 (ev a) fun n => asInt .i64 (ev b) fun m => mkc sz bytes z h n m K)
      | none => none
    | none => none
  | .slice t x lo hi none => match elemSz P t with
    | some (sz, _, _) => match lo, hi with
      | none, none => slc sz h (ev x) none none fun v => K v h
      | some l, none => asInt .i64 (ev l) fun l => slc sz h (ev x) (some l) none fun v => K v h
      | none, some u => asInt .i64 (ev u) fun u => slc sz h (ev x) none (some u) fun v => K v h
      | some l, some u => asInt .i64 (ev l) fun l => asInt .i64 (ev u) fun u => slc sz h (ev x) (some l) (some u) fun v => K v h
    | none => none
  | .fieldAddr t x i => match fieldOff P t i with
    | some (off, ft) => bsq (Nat.beq (P.cellsOf ft) 0) none (pad (ev x) off fun v => K v h)
    | none => none
  | .field t x i => match fieldOff P t i with
    | some (off, ft) => bsq (P.underlying ft).isSome (fldA (P.cellsOf ft) off (!isAggD (P.underlying ft)) (ev x) fun v => castD (P.underlying ft) v fun v => K v h) none
    | none => none
  | .indexAddr t x i => match elemSz P t with
    | some (sz, _, _) => asInt .i64 (ev i) fun i => ixa sz (ev x) i fun v => K v h
    | none => none
  | .typeAssert x _ t true => match P.underlying t with
    | some (.interface _) => none
    | some _ => tasA t (zero1 P t) (ev x) fun v => K v h
    | none => none
  | .extract x i => xtr (ev x) i fun v => castD (P.underlying o.type) v fun v => K v h
  | .call c => callO P Γ o.type c ev h K Kp
  | .panic x => pnc (ev x) fun v => Kp v h
  | _ => none
/-- The same, of slots that are told one by one. -/
def aopE (o : Oper) (ev : Operand → AV) (h : Hp) (K Kp : AV → Hp → Option R) : Option R :=
  match o.op with
  | .move x | .assign x => K (ev x) h
  | .pick c a b => asBool (ev c) fun t => bsp t (K (ev a) h) (K (ev b) h)
  | .alloc t => nwc 1 (zeroA P t) h K
  | .box _ x => nwc 1 (vcells (ev x)) h K
  | .build t parts =>
    match P.underlying t, zeroA P t with
    | some (.struct fs), some z =>
      bsq (fs.toList.all fun f => (P.info? f.type).isSome) (bld z (parts.toList.map fun p => ((fs[p.1]?).map fun f => (f.offset, P.cellsOf f.type), ev p.2)) fun v => K v h) none
    | _, _ => none
  | .buildSlice t len parts =>
    match elemSz P t with
    | some (sz, _, e) => match zeroE P e sz with
      | some z =>
        bsq (Nat.ble (len * sz) 16777216) (bsl sz len z (parts.toList.map fun p => (some (p.1 * sz, sz), ev p.2)) h K) none
      | none => none
    | none => none
  | .load t a =>
    match P.underlying t with
    | none => none
    | some (.struct _) => bsq (Nat.beq (P.cellsOf t) 0) none (ldg (P.cellsOf t) h (ev a) fun v => K v h)
    | some (.array ..) => bsq (Nat.beq (P.cellsOf t) 0) none (ldg (P.cellsOf t) h (ev a) fun v => K v h)
    | some (.int k) => ldi k h (ev a) fun n => K (.rv (.int k n)) h
    | some .bool => ldb h (ev a) fun b => K (ab b) h
    | some _ => ldv h (ev a) fun v => K v h
  | .store t a x => bsq (P.info? t).isSome (stv (P.cellsOf t) h (ev a) (ev x) fun h => K undefA h) none
  | .nilCheck x => nck (ev x) fun v => K v h
  | .binOp op t x y _ => binK P op t x y (ev x) (ev y) fun v => K v h
  | .unOp op _ x => unK P op (ev x) fun v => K v h
  | .convert s d x => cvK P s d (ev x) fun v => K v h
  | .makeInterface t x => match P.underlying t with
    | some (.interface _) => none
    | some _ => K (mkI t (ev x)) h
    | none => none
  | .makeFunc (.func f) first cap => K (.func f (first.toList.map ev) (cap.toList.map ev)) h
  | .makeSlice t a b => match elemSz P t with
    | some (sz, bytes, e) => match zeroE P e sz with
      | some z => bsq (sameOp a b) (asInt .i64 (ev a) fun n => mks sz bytes z h n K) (asInt .i64 (ev a) fun n => asInt .i64 (ev b) fun m => mkc sz bytes z h n m K)
      | none => none
    | none => none
  | .slice t x lo hi none => match elemSz P t with
    | some (sz, _, _) => match lo, hi with
      | none, none => slc sz h (ev x) none none fun v => K v h
      | some l, none => asInt .i64 (ev l) fun l => slc sz h (ev x) (some l) none fun v => K v h
      | none, some u => asInt .i64 (ev u) fun u => slc sz h (ev x) none (some u) fun v => K v h
      | some l, some u => asInt .i64 (ev l) fun l => asInt .i64 (ev u) fun u => slc sz h (ev x) (some l) (some u) fun v => K v h
    | none => none
  | .fieldAddr t x i => match fieldOff P t i with
    | some (off, ft) => bsq (Nat.beq (P.cellsOf ft) 0) none (pad (ev x) off fun v => K v h)
    | none => none
  | .field t x i => match fieldOff P t i with
    | some (off, ft) => bsq (P.underlying ft).isSome (fldA (P.cellsOf ft) off (!isAggD (P.underlying ft)) (ev x) fun v => castD (P.underlying ft) v fun v => K v h) none
    | none => none
  | .indexAddr t x i => match elemSz P t with
    | some (sz, _, _) => asInt .i64 (ev i) fun i => ixa sz (ev x) i fun v => K v h
    | none => none
  | .typeAssert x _ t true => match P.underlying t with
    | some (.interface _) => none
    | some _ => tasA t (zero1 P t) (ev x) fun v => K v h
    | none => none
  | .extract x i => xtr (ev x) i fun v => castD (P.underlying o.type) v fun v => K v h
  | .call c => callO P Γ o.type c ev h K Kp
  | .panic x => pnc (ev x) fun v => Kp v h
  | _ => none
theorem aopE_eq (o : Oper) (ts : List AV) (h : Hp) (K Kp : AV → Hp → Option R) : aopE P Γ o (aeval ts) h K Kp = aop P Γ o ⟨ts, h⟩ K Kp := rfl
def putA (d : Option Tmp) (v : AV) (tmps : List AV) : List AV :=
  match d with
  | some d => tset tmps d v
  | none => tmps
/-- Has each operation but the last one another behind it that waits for it? -/
def depOk (all : List Oper) : Bool := (List.range (all.length - 1)).all fun i => (List.range all.length).any fun j => Nat.blt i j && match all[j]? with
  | some oj => oj.after.any fun e => Region.binds .any e && e.on == i
  | none => false
/-- May no panic come here? -/
def drl (dr e : Bool) (all : List Oper) : Bool :=
  match dr with
  | false => let _t := h_31; false
  | true => match e with
    | false => true
    | true => !(depOk all)
def aops (ops : Array Oper) (dr : Bool) : List Nat → St → (AE → St → Option R) → Option R
  | [], σ, K => K .normal σ
  | i :: is, σ, K =>
    match ops[i]? with
    | none => aops ops dr is σ K
    | some o =>
      match o.guard with
      | none => aop P Γ o σ (fun v h => fcd (putA o.dst v σ.tmps) fun ts => aops ops dr is ⟨ts, h⟩ K) (fun v h => bsq (drl dr is.isEmpty ops.toList) none (K (.pan v) ⟨σ.tmps, h⟩))
      | some (j, want) =>
        match (ops[j]?).bind (·.dst) with
        | none => none
        | some d =>
          match tget σ.tmps d with
          | .rv (.bool b) =>
            bsp b
              (fcd (tset σ.tmps d (ab true)) fun us => match want with
                | true => aop P Γ o ⟨us, σ.heap⟩ (fun v h => fcd (putA o.dst v us) fun ts => aops ops dr is ⟨ts, h⟩ K) (fun v h => bsq (drl dr is.isEmpty ops.toList) none (K (.pan v) ⟨us, h⟩))
                | false => fcd (putA o.dst undefA us) fun ts => aops ops dr is ⟨ts, σ.heap⟩ K)
              (fcd (tset σ.tmps d (ab false)) fun us => match want with
                | true => fcd (putA o.dst undefA us) fun ts => aops ops dr is ⟨ts, σ.heap⟩ K
                | false => aop P Γ o ⟨us, σ.heap⟩ (fun v h => fcd (putA o.dst v us) fun ts => aops ops dr is ⟨ts, h⟩ K) (fun v h => bsq (drl dr is.isEmpty ops.toList) none (K (.pan v) ⟨us, h⟩)))
          | .rv (.tuple []) => fcd (putA o.dst undefA σ.tmps) fun ts => aops ops dr is ⟨ts, σ.heap⟩ K
          | _ => none

def lget (l : List Oper) (n : Nat) : Option Oper :=
  List.rec (motive := fun _ => Nat → Option Oper) (fun _ => none) (fun x _ ih n => Nat.rec (motive := fun _ => Option Oper) (some x) (fun m _ => ih m) n) l n
theorem lget_eq : ∀ (l : List Oper) (n : Nat), lget l n = l[n]?
  | [], _ => rfl
  | _ :: _, 0 => rfl
  | _ :: l, n + 1 => by
    show lget l n = _
    rw [lget_eq l n]
    simp
/-- The same as 'aops', along the list itself. -/
abbrev Cont' (R : Type) := AE → St → Option R
def aopsL (all : List Oper) (dr : Bool) (l : List Oper) : St → (AE → St → Option R) → Option R :=
  List.rec (motive := fun _ => St → (AE → St → Option R) → Option R) (fun σ K => K .normal σ)
    (fun o tl ih σ K =>
      match o.guard with
      | none => aop P Γ o σ (fun v h => fcd (putA o.dst v σ.tmps) fun ts => ih ⟨ts, h⟩ K) (fun v h => bsq (drl dr tl.isEmpty all) none (K (.pan v) ⟨σ.tmps, h⟩))
      | some (j, want) =>
        match (lget all j).bind (·.dst) with
        | none => none
        | some d =>
          match tget σ.tmps d with
          | .rv (.bool b) =>
            bsp b
              (fcd (tset σ.tmps d (ab true)) fun us => match want with
                | true => aop P Γ o ⟨us, σ.heap⟩ (fun v h => fcd (putA o.dst v us) fun ts => ih ⟨ts, h⟩ K) (fun v h => bsq (drl dr tl.isEmpty all) none (K (.pan v) ⟨us, h⟩))
                | false => fcd (putA o.dst undefA us) fun ts => ih ⟨ts, σ.heap⟩ K)
              (fcd (tset σ.tmps d (ab false)) fun us => match want with
                | true => fcd (putA o.dst undefA us) fun ts => ih ⟨ts, σ.heap⟩ K
                | false => aop P Γ o ⟨us, σ.heap⟩ (fun v h => fcd (putA o.dst v us) fun ts => ih ⟨ts, h⟩ K) (fun v h => bsq (drl dr tl.isEmpty all) none (K (.pan v) ⟨us, h⟩)))
          | .rv (.tuple []) => fcd (putA o.dst undefA σ.tmps) fun ts => ih ⟨ts, σ.heap⟩ K
          | _ => none) l
theorem aopsL_cons (all : List Oper) (dr : Bool) (o : Oper) (l : List Oper) (σ : St) (K : AE → St → Option R) : aopsL P Γ all dr (o :: l) σ K =
      match o.guard with
      | none => aop P Γ o σ (fun v h => fcd (putA o.dst v σ.tmps) fun ts => aopsL P Γ all dr l ⟨ts, h⟩ K) (fun v h => bsq (drl dr l.isEmpty all) none (K (.pan v) ⟨σ.tmps, h⟩))
      | some (j, want) =>
        match (lget all j).bind (·.dst) with
        | none => none
        | some d =>
          match tget σ.tmps d with
          | .rv (.bool b) =>
            bsp b
              (fcd (tset σ.tmps d (ab true)) fun us => match want with
                | true => aop P Γ o ⟨us, σ.heap⟩ (fun v h => fcd (putA o.dst v us) fun ts => aopsL P Γ all dr l ⟨ts, h⟩ K) (fun v h => bsq (drl dr l.isEmpty all) none (K (.pan v) ⟨us, h⟩))
                | false => fcd (putA o.dst undefA us) fun ts => aopsL P Γ all dr l ⟨ts, σ.heap⟩ K)
              (fcd (tset σ.tmps d (ab false)) fun us => match want with
                | true => fcd (putA o.dst undefA us) fun ts => aopsL P Γ all dr l ⟨ts, σ.heap⟩ K
                | false => aop P Γ o ⟨us, σ.heap⟩ (fun v h => fcd (putA o.dst v us) fun ts => aopsL P Γ all dr l ⟨ts, h⟩ K) (fun v h => bsq (drl dr l.isEmpty all) none (K (.pan v) ⟨us, h⟩)))
          | .rv (.tuple []) => fcd (putA o.dst undefA σ.tmps) fun ts => aopsL P Γ all dr l ⟨ts, σ.heap⟩ K
          | _ => none := rfl
theorem aopsL_eq (ops : Array Oper) (dr : Bool) : ∀ (l : List Oper) (k : Nat), ops.toList.drop k = l → ∀ (σ : St) (K : AE → St → Option R), aopsL P Γ ops.toList dr l σ K = aops P Γ ops dr (List.range' k l.length) σ K
  | [], k, _, σ, K => rfl
  | o :: l, k, hk, σ, K => by
    have ho : ops[k]? = some o := by
      have := congrArg (fun x => x[0]?) hk
      simpa using this
    have ih := aopsL_eq ops dr l (k + 1) (by
      have := congrArg List.tail hk
      simpa using this)
    have hem : (List.range' (k + 1) l.length).isEmpty = l.isEmpty := by cases l <;> rfl
    rw [aopsL_cons, List.length_cons, List.range'_succ]
    simp only [aops, ho, lget_eq, ih, Array.getElem?_toList, hem]
/-! ### The same, with what is written beside the list -/
abbrev Env := List (Nat × AV)
def envV (env : Env) (t : Nat) (v : AV) : AV := List.rec (motive := fun _ => AV) v (fun x _ ih => bif Nat.beq x.1 t then x.2 else ih) env
def envA (env : Env) (l : List AV) : Nat → List AV := List.rec (motive := fun _ => Nat → List AV) (fun _ => []) (fun v _ ih i => envV env i v :: ih (Nat.succ i)) l
def evE (env : Env) (ts : List AV) : Operand → AV
  | .tmp t => envV env t (tget ts t)
  | .const v => ofVal v
  | .global _ => .any
  | .func f => .func f [] []
def pushE (d : Option Tmp) (v : AV) (env : Env) : Env :=
  match d with
  | some d => (d, v) :: env
  | none => env
def dOk (l : List Oper) (n : Nat) : Bool := l.all fun o => match o.dst with
  | some d => Nat.blt d n
  | none => true
def aopsE (all : List Oper) (dr : Bool) (l : List Oper) : Env → List AV → Hp → Cont' R → Option R :=
  List.rec (motive := fun _ => Env → List AV → Hp → Cont' R → Option R) (fun env ts h K => K .normal ⟨envA env ts 0, h⟩)
    (fun o tl ih env ts h K =>
      match o.guard with
      | none => aopE P Γ o (evE env ts) h (fun v h => ih (pushE o.dst v env) ts h K) (fun v h => bsq (drl dr tl.isEmpty all) none (K (.pan v) ⟨envA env ts 0, h⟩))
      | some (j, want) =>
        match (lget all j).bind (·.dst) with
        | none => none
        | some d =>
          match envV env d (tget ts d) with
          | .rv (.bool b) =>
            bsp b
              (match want with
                | true => aopE P Γ o (evE ((d, ab true) :: env) ts) h (fun v h => ih (pushE o.dst v ((d, ab true) :: env)) ts h K) (fun v h => bsq (drl dr tl.isEmpty all) none (K (.pan v) ⟨envA ((d, ab true) :: env) ts 0, h⟩))
                | false => ih (pushE o.dst undefA ((d, ab true) :: env)) ts h K)
              (match want with
                | true => ih (pushE o.dst undefA ((d, ab false) :: env)) ts h K
                | false => aopE P Γ o (evE ((d, ab false) :: env) ts) h (fun v h => ih (pushE o.dst v ((d, ab false) :: env)) ts h K) (fun v h => bsq (drl dr tl.isEmpty all) none (K (.pan v) ⟨envA ((d, ab false) :: env) ts 0, h⟩)))
          | .rv (.tuple []) => ih (pushE o.dst undefA env) ts h K
          | _ => none) l
theorem envA_get (env : Env) : ∀ (l : List AV) (i t : Nat), (envA env l i)[t]? = (l[t]?).map (envV env (i + t))
  | [], _, _ => rfl
  | v :: l, i, 0 => rfl
  | v :: l, i, t + 1 => by
    show (envA env l (Nat.succ i))[t]? = _
    rw [envA_get env l (Nat.succ i) t, List.getElem?_cons_succ, show Nat.succ i + t = i + (t + 1) by omega]
theorem envV_out {env : Env} {n t : Nat} (h : ∀ x ∈ env, x.1 < n) (ht : n ≤ t) (v : AV) : envV env t v = v := by
  induction env with
  | nil => rfl
  | cons x env ih =>
    show (bif Nat.beq x.1 t then x.2 else envV env t v) = v
    have h1 := h x (by simp)
    have : Nat.beq x.1 t = false := by
      cases e : Nat.beq x.1 t with
      | false => rfl
      | true => have := Nat.eq_of_beq_eq_true e; omega
    rw [this]
    exact ih fun y hy => h y (by simp [hy])
theorem tget_envA {env : Env} {ts : List AV} (h : ∀ x ∈ env, x.1 < ts.length) (t : Nat) : tget (envA env ts 0) t = envV env t (tget ts t) := by
  rw [tget_eq, tget_eq, List.getD_eq_getElem?_getD, List.getD_eq_getElem?_getD, envA_get, Nat.zero_add]
  cases e : ts[t]? with
  | some v => rfl
  | none => rw [envV_out h (by simpa using e)]; rfl
theorem evE_eq {env : Env} {ts : List AV} (h : ∀ x ∈ env, x.1 < ts.length) : evE env ts = aeval (envA env ts 0) := by
  funext x
  cases x with
  | tmp t => exact (tget_envA h t).symm
  | _ => rfl
theorem tset_envA (env : Env) (ts : List AV) (d : Nat) (v : AV) : tset (envA env ts 0) d v = envA ((d, v) :: env) ts 0 := by
  rw [tset_eq]
  apply List.ext_getElem?
  intro i
  rw [List.getElem?_set, envA_get, envA_get, Nat.zero_add]
  have hlen : (envA env ts 0).length = ts.length := by
    have : ∀ (l : List AV) (i : Nat), (envA env l i).length = l.length := by
      intro l
      induction l with
      | nil => intro i; rfl
      | cons v l ih => intro i; show (envA env l (Nat.succ i)).length + 1 = _; rw [ih]; rfl
    exact this ts 0
  have hv : ∀ u, envV ((d, v) :: env) i u = bif Nat.beq d i then v else envV env i u := fun u => rfl
  by_cases e : d = i
  · subst e
    rw [if_pos rfl, hlen]
    cases hd : ts[d]? with
    | some u =>
      have := (List.getElem?_eq_some_iff.1 hd).1
      rw [if_pos this, Option.map_some, hv, Nat.beq_refl]
      rfl
    | none =>
      have : ts.length ≤ d := by simpa using hd
      rw [if_neg (by omega)]
      rfl
  · have : Nat.beq d i = false := by
      cases h : Nat.beq d i with
      | false => rfl
      | true => exact absurd (Nat.eq_of_beq_eq_true h) e
    rw [if_neg e]
    cases hd : ts[i]? with
    | some u => rw [Option.map_some, Option.map_some, hv, this]; rfl
    | none => rfl
theorem putA_envA (env : Env) (ts : List AV) (d : Option Tmp) (v : AV) : putA d v (envA env ts 0) = envA (pushE d v env) ts 0 := by
  cases d with
  | none => rfl
  | some d => exact tset_envA env ts d v
theorem pushE_lt {env : Env} {n : Nat} {d : Option Tmp} {v : AV} (h : ∀ x ∈ env, x.1 < n) (hd : ∀ t, d = some t → t < n) : ∀ x ∈ pushE d v env, x.1 < n := by
  cases d with
  | none => exact h
  | some d =>
    intro x hx
    rcases List.mem_cons.1 hx with rfl | hx
    · exact hd d rfl
    · exact h x hx
theorem dOk_spec {l : List Oper} {n : Nat} (h : dOk l n = true) {o : Oper} (ho : o ∈ l) : ∀ t, o.dst = some t → t < n := by
  intro t ht
  have := List.all_eq_true.1 h o ho
  rw [ht] at this
  simpa using this
theorem aopsE_eq (all : List Oper) (dr : Bool) {n : Nat} (hall : dOk all n = true) : ∀ (l : List Oper) (env : Env) (ts : List AV) (h : Hp) (K : Cont' R), (∀ o ∈ l, o ∈ all) → ts.length = n → (∀ x ∈ env, x.1 < n) → aopsE P Γ all dr l env ts h K = aopsL P Γ all dr l ⟨envA env ts 0, h⟩ K
  | [], env, ts, h, K, _, _, _ => rfl
  | o :: l, env, ts, h, K, hl, hts, he => by
    have ih := fun env ts h K => aopsE_eq all dr hall l env ts h K (fun o ho => hl o (by simp [ho]))
    have hod := dOk_spec hall (hl o (by simp))
    have hgd : ∀ (j d : Nat), (lget all j).bind (·.dst) = some d → d < n := by
      intro j d hj
      rw [lget_eq] at hj
      cases hx : all[j]? with
      | none => rw [hx] at hj; cases hj
      | some x =>
        rw [hx, Option.bind_some] at hj
        exact dOk_spec hall (List.mem_of_getElem? hx) d hj
    have hev : ∀ env : Env, (∀ x ∈ env, x.1 < n) → evE env ts = aeval (envA env ts 0) := fun env he => evE_eq (by rw [hts]; exact he)
    rw [aopsL_cons]
    show (match o.guard with
      | none => aopE P Γ o (evE env ts) h (fun v h => aopsE P Γ all dr l (pushE o.dst v env) ts h K) (fun v h => bsq (drl dr l.isEmpty all) none (K (.pan v) ⟨envA env ts 0, h⟩))
      | some (j, want) =>
        match (lget all j).bind (·.dst) with
        | none => none
        | some d =>
          match envV env d (tget ts d) with
          | .rv (.bool b) =>
            bsp b
              (match want with
                | true => aopE P Γ o (evE ((d, ab true) :: env) ts) h (fun v h => aopsE P Γ all dr l (pushE o.dst v ((d, ab true) :: env)) ts h K) (fun v h => bsq (drl dr l.isEmpty all) none (K (.pan v) ⟨envA ((d, ab true) :: env) ts 0, h⟩))
                | false => aopsE P Γ all dr l (pushE o.dst undefA ((d, ab true) :: env)) ts h K)
              (match want with
                | true => aopsE P Γ all dr l (pushE o.dst undefA ((d, ab false) :: env)) ts h K
                | false => aopE P Γ o (evE ((d, ab false) :: env) ts) h (fun v h => aopsE P Γ all dr l (pushE o.dst v ((d, ab false) :: env)) ts h K) (fun v h => bsq (drl dr l.isEmpty all) none (K (.pan v) ⟨envA ((d, ab false) :: env) ts 0, h⟩)))
          | .rv (.tuple []) => aopsE P Γ all dr l (pushE o.dst undefA env) ts h K
          | _ => none) = _
    cases hg : o.guard with
    | none =>
      simp only [fcd_eq, putA_envA]
      rw [hev env he, aopE_eq]
      congr 1
      funext v h
      exact ih _ ts h K hts (pushE_lt he hod)
    | some g =>
      obtain ⟨j, want⟩ := g
      simp only
      cases hj : (lget all j).bind (·.dst) with
      | none => rfl
      | some d =>
        have hd := hgd j d hj
        simp only [tget_envA (env := env) (ts := ts) (by rw [hts]; exact he), fcd_eq, tset_envA, putA_envA]
        have cons : ∀ b : Bool, ∀ x ∈ ((d, ab b) :: env : Env), x.1 < n := fun b x hx => by
          rcases List.mem_cons.1 hx with rfl | hx
          · exact hd
          · exact he x hx
        have t1 : ∀ b : Bool, ∀ v h, aopsE P Γ all dr l (pushE o.dst v ((d, ab b) :: env)) ts h K = aopsL P Γ all dr l ⟨envA (pushE o.dst v ((d, ab b) :: env)) ts 0, h⟩ K := fun b v h => ih _ ts h K hts (pushE_lt (cons b) hod)
        have t2 : ∀ v h, aopsE P Γ all dr l (pushE o.dst v env) ts h K = aopsL P Γ all dr l ⟨envA (pushE o.dst v env) ts 0, h⟩ K := fun v h => ih _ ts h K hts (pushE_lt he hod)
        simp only [t1, t2, hev _ (cons true), hev _ (cons false), aopE_eq]
/-- Which slots are kept where a piece of code is come to, by its place. -/
abbrev Ann := List (Nat × List Nat)
def keepA (keep : List Nat) : Nat → List AV → List AV
  | _, [] => []
  | i, v :: vs => bif keep.contains i then v :: keepA keep (i + 1) vs else .any :: keepA keep (i + 1) vs
def hasA (ann : Ann) (pos : Nat) : Bool := ann.any fun x => Nat.beq x.1 pos
def clrA (ann : Ann) (pos : Nat) (σ : St) : St :=
  match ann.find? (fun x => Nat.beq x.1 pos) with
  | some x => ⟨keepA x.2 0 σ.tmps, σ.heap⟩
  | none => σ
mutual
def belA (n : Nat) : AV → Bool
  | .ptr o _ _ => decide (o < n)
  | .sl o _ _ _ => decide (o < n)
  | .func _ fst cap => belL n fst && belL n cap
  | .iface _ x => belA n x
  | .agg cs => belL n cs
  | .tuple cs => belL n cs
  | _ => true
def belL (n : Nat) : List AV → Bool
  | [] => true
  | x :: xs => belA n x && belL n xs
end
def trm (n : Nat) (tmps : List AV) (h : Hp) (K : Hp → Option R) : Option R :=
  if belL n tmps = true ∧ (h.take n).all (fun ob => belL n ob.cells) = true then K (h.take n) else none
abbrev Cont (R : Type) := AE → St → Option R
/-- A place that has a name. -/
def pnt (f : St → Cont R → Option R) (σ : St) (K : Cont R) : Option R := f σ K
def seqK (f : St → Cont R → Option R) (mk : Bool) (cl : St → St) (K : Cont R) : Cont R := fun e σ =>
  match e with
  | .normal => bsq mk (pnt f (cl σ) K) (f σ K)
  | .exit i => K (.exit i) σ
  | .ret => K .ret σ
  | .pan v => K (.pan v) σ
def blkK (id : Nat) (K : Cont R) : Cont R := fun e σ =>
  match e with
  | .normal => K .normal σ
  | .exit i => bsq (Nat.beq i id) (K .normal σ) (K (.exit i) σ)
  | .ret => K .ret σ
  | .pan v => K (.pan v) σ
/-- What stands behind a loop's round: 'f', the loop itself, once more. -/
def itK (f : St → Cont R → Option R) (cl : St → St) (tr : Bool) (n0 : Nat) (K : Cont R) : Cont R := fun e σ =>
  match e with
  | .normal => bsq tr (trm n0 (cl σ).tmps σ.heap fun h => f ⟨(cl σ).tmps, h⟩ K) (f (cl σ) K)
  | .exit i => K (.exit i) σ
  | .ret => K .ret σ
  | .pan v => K (.pan v) σ
/-- The same. -/
def itL (f : St → Cont R → Option R) (cl : St → St) (tr : Bool) (n0 : Nat) (K : Cont R) : Cont R := fun e σ =>
  match e with
  | .normal => match tr with
    | true => trm n0 (cl σ).tmps σ.heap fun h => f ⟨(cl σ).tmps, h⟩ K
    | false => f (cl σ) K
  | .exit i => K (.exit i) σ
  | .ret => K .ret σ
  | .pan v => K (.pan v) σ
def aloop (body : St → Cont R → Option R) (cl : St → St) (tr : Bool) (n0 : Nat) (n : Nat) : St → Cont R → Option R :=
  Nat.rec (motive := fun _ => St → Cont R → Option R) (fun _ _ => none) (fun _ ih σ K => body σ (itL ih cl tr n0 K)) n
/-- May the operations of a region be done in any order? -/
def calm : Op → Nat
  | .move _ | .assign _ | .pick .. | .nilCheck _ | .binOp .. | .unOp .. | .convert .. | .makeInterface .. | .makeFunc .. | .fieldAddr .. | .field .. | .indexAddr .. | .typeAssert .. | .extract .. | .build .. => 0
  | .call { callee := .builtin .len, .. } => 0
  | .load .. | .slice .. => 1
  | .call { callee := .value (.func _), .. } => 2
  | _ => 3
def calmO (Γ : FuncId → Option Callee) (o : Op) : Nat :=
  match o with
  | .call { callee := .value (.func f), .. } => match Γ f with
    | some (.pure _) => 1
    | _ => 3
  | o => calm o
def calmPair (a b : Nat) : Bool := a == 0 || b == 0 || (a == 1 && b == 1)
def calmAt (ops : Array Oper) (listed : Array Bool) (i : Nat) : Bool :=
  match ops[i]? with
  | none => false
  | some oi => (List.range ops.size).all fun j => j == i || listed.getD j true || match ops[j]? with
      | some oj => oj.after.any (fun e => Region.binds .any e && e.on == i) || calmPair (calmO Γ oi.op) (calmO Γ oj.op)
      | none => true
def calmFrom (ops : Array Oper) : Nat → Nat → Array Bool → Bool
  | 0, _, _ => true
  | fuel + 1, k, listed => calmAt Γ ops listed k && calmFrom ops fuel (k + 1) (listed.setIfInBounds k true)
def drawOk (ops : Array Oper) : Bool := Region.lexB .any ops && calmFrom Γ ops ops.size 0 (Array.replicate ops.size false)
/-- The same, asked in one pass along the list. -/
def dqPair (c : Oper → Oper → Bool) (ops : Array Oper) (oi oj : Oper) (i : Nat) : Bool := oj.after.toList.any (fun e => Region.binds .any e && Nat.beq e.on i) || (oi.apart ops oj && c oi oj)
def dqL (c : Oper → Oper → Bool) (ops : Array Oper) (l : List Oper) : List (Nat × Oper) → Nat → Bool :=
  List.rec (motive := fun _ => List (Nat × Oper) → Nat → Bool) (fun _ _ => true)
    (fun o _ ih pre j => (o.after.toList.all fun e => !Region.binds .any e || Nat.blt e.on j) && (pre.all (fun x => dqPair c ops x.2 o x.1) && ih ((j, o) :: pre) (Nat.succ j))) l
def lexQ (ops : Array Oper) : Bool := Region.noSelect ops && dqL (fun _ _ => true) ops ops.toList [] 0
def drawQ (ops : Array Oper) : Bool := Region.noSelect ops && dqL (fun oi oj => calmPair (calmO Γ oi.op) (calmO Γ oj.op)) ops ops.toList [] 0

/-- Holds a piece of code no range over a function? -/
def noR (c : Code) : Bool :=
  Code.rec (motive := fun _ => Bool) true (fun _ _ _ => true) (fun _ _ a b => a && b) (fun _ _ _ a b => a && b) (fun _ _ a => a) (fun _ a => a) (fun _ _ _ _ _ _ => false) (fun _ => true) (fun _ a => a) (fun _ => true) (fun _ => true) true (fun _ => true) c
/-- A range over what 'slices.Backward' hands back. -/
def rfA (v : AV) (K : AV → Option R) : Option R :=
  match v with
  | .func f [] [p] => match Γ f with
    | some .back => K p
    | _ => none
  | _ => none
def bkn (v : AV) (K : Nat → Option R) : Option R := lna v fun n => if n ≤ room then K n.toNat else none
def bkK (f : Hp → Cont R → Option R) (K : Cont R) : Cont R := fun e σ =>
  match e with
  | .normal => f σ.heap K
  | _ => none
/-- Behind the assignments of a round: its body. -/
def asgK (f : St → Cont R → Option R) (mk : Bool) (cl : St → St) (K : Cont R) : Cont R := fun e σ =>
  match e with
  | .normal => bsq mk (pnt f (cl σ) K) (f σ K)
  | _ => none
def bkl (f : St → Cont R → Option R) (p : AV) (i j : Nat) (ts : List AV) (n : Nat) : Hp → Cont R → Option R :=
  Nat.rec (motive := fun _ => Hp → Cont R → Option R) (fun h K => K .normal ⟨ts, h⟩)
    (fun m ih h K => ldv h p fun s => ixa 1 s m fun q => ldi .i64 h q fun x => fcd (tset (tset ts i (ai m)) j (ai x)) fun us => f ⟨us, h⟩ (bkK ih K)) n
def prm (ps : Array Tmp) (K : Nat → Nat → Option R) : Option R :=
  match ps.toList with
  | [i, j] => K i j
  | _ => none
/-! ### Regions in any order in which loads and what writes do not wait for each other -/
def isW (o : Oper) : Bool := Nat.ble 2 (calmO Γ o.op)
/-- What each operation comes behind, as bits. -/
def ancM (acc : List Nat) (o : Oper) : Nat := o.after.toList.foldr (fun e m => bif Region.binds .any e then 2 ^ e.on ||| (acc.getD e.on 0 ||| m) else m) 0
def ancs (l : List Oper) : List Nat := l.foldl (fun acc o => acc ++ [ancM acc o]) []
def ordT (an : List Nat) (i j : Nat) : Bool := Nat.testBit (an.getD j 0) i
def isL (o : Oper) : Bool := match o.op with | .load .. => true | _ => false
def wPair (an : List Nat) (i : Nat) (oi : Oper) (j : Nat) : Bool := i == j || ordT an i j || ordT an j i || (!(isW Γ oi) && (calmO Γ oi.op == 0 || isL oi))
def wOk (ops : Array Oper) (an : List Nat) : Bool := lexQ ops && ops.toList.all (fun o => o.guard.isNone) && (List.range ops.size).all fun j => match lget ops.toList j with
  | none => false
  | some oj => !(isW Γ oj) || (List.range ops.size).all fun i => match lget ops.toList i with
    | none => false
    | some oi => wPair Γ an i oi j
open Classical in
/-- Reads a place the same elsewhere? -/
def sv1 (h : Hp) (p v : AV) (K : Option R) : Option R := if cellAt h p 0 = some v then K else none
open Classical in
def svg (n : Nat) (h : Hp) (p v : AV) (K : Option R) : Option R := if ∃ l, cellsN h p 0 n = some l ∧ v = .agg l then K else none
def sld (t : TypeId) (h : Hp) (p v : AV) (K : Option R) : Option R :=
  match P.underlying t with
  | some (.struct _) => svg (P.cellsOf t) h p v K
  | some (.array ..) => svg (P.cellsOf t) h p v K
  | _ => sv1 h p v K
abbrev Pend := List (Nat × TypeId × AV × AV)
def ckP (an : List Nat) (j : Nat) (h : Hp) (pend : Pend) (K : Option R) : Option R :=
  List.rec (motive := fun _ => Option R) K (fun x _ ih => bsq (ordT an x.1 j) ih (sld P x.2.1 h x.2.2.1 x.2.2.2 ih)) pend
def ckH (an : List Nat) (i : Nat) (t : TypeId) (p v : AV) (hs : List (Nat × Hp)) (K : Option R) : Option R :=
  List.rec (motive := fun _ => Option R) K (fun x _ ih => bsq (ordT an x.1 i) ih (sld P t x.2 p v ih)) hs
def aopsW (all : List Oper) (an : List Nat) (l : List Oper) : Nat → Pend → List (Nat × Hp) → St → Cont R → Option R :=
  List.rec (motive := fun _ => Nat → Pend → List (Nat × Hp) → St → Cont R → Option R) (fun _ _ _ σ K => K .normal σ)
    (fun o tl ih i pend hs σ K => aop P Γ o σ
      (fun v h => fcd (putA o.dst v σ.tmps) fun ts => bsq (isW Γ o)
        (ckP P an i h pend (ih (i + 1) pend (hs ++ [(i, σ.heap)]) ⟨ts, h⟩ K))
        (match o.op with
          | .load t x => ckH P an i t (aeval σ.tmps x) v hs (ih (i + 1) (pend ++ [(i, t, aeval σ.tmps x, v)]) hs ⟨ts, h⟩ K)
          | _ => ih (i + 1) pend hs ⟨ts, h⟩ K))
      (fun v h => bsq (drl true tl.isEmpty all) none (K (.pan v) ⟨σ.tmps, h⟩))) l
def regW (ops : Array Oper) (σ : St) (K : Cont R) : Option R := bsq (wOk Γ ops (ancs ops.toList)) (aopsW P Γ ops.toList (ancs ops.toList) ops.toList 0 [] [] σ K) none
/-! ### Regions in which new slices do not wait for each other -/
def isF (o : Oper) : Bool := match o.op with | .makeSlice _ a b => sameOp a b | _ => false
def erl (o : Oper) : Bool := isF o || (calmO Γ o.op == 0 || isL o)
def qOf (l : List Oper) : Nat := List.rec (motive := fun _ => Nat) 0 (fun o _ ih => bif erl Γ o then ih + 1 else 0) l
def fOk (ops : Array Oper) (an : List Nat) : Bool := lexQ ops && ops.toList.all (fun o => o.guard.isNone) && (List.range ops.size).all fun j => Nat.blt j (qOf Γ ops.toList) || (List.range j).all fun i => ordT an i j
def nmK (K : Cont R) : Cont R := fun e σ => match e with
  | .normal => K .normal σ
  | _ => none
def regF (ops : Array Oper) (σ : St) (K : Cont R) : Option R := bsq (fOk Γ ops (ancs ops.toList)) (aopsL P Γ ops.toList true ops.toList σ (nmK K)) none
theorem regF_eq (ops : Array Oper) (σ : St) (K : Cont R) : regF P Γ ops σ K = bsq (fOk Γ ops (ancs ops.toList)) (aops P Γ ops true (List.range ops.size) σ (nmK K)) none := by
  unfold regF
  have h := fun dr => aopsL_eq P Γ ops dr ops.toList 0 rfl σ (nmK K)
  rw [h, List.range_eq_range']
  rfl
variable (ann : Ann) (trims : List Nat) (k : Nat)
def trimOf (pos : Nat) : Bool := trims.any fun x => Nat.beq x pos
def regA (ops : Array Oper) (draw : Bool) (σ : St) (K : Cont R) : Option R :=
  bsq draw (bsq (drawQ Γ ops) (bsq (dOk ops.toList σ.tmps.length) (aopsE P Γ ops.toList true ops.toList [] σ.tmps σ.heap K) none) (bsq (wOk Γ ops (ancs ops.toList)) (regW P Γ ops σ K) (regF P Γ ops σ K))) (aopsL P Γ ops.toList false ops.toList σ K)
theorem regA_eq (ops : Array Oper) (draw : Bool) (σ : St) (K : Cont R) : regA P Γ ops draw σ K = bsq draw (bsq (drawQ Γ ops) (bsq (dOk ops.toList σ.tmps.length) (aops P Γ ops true (List.range ops.size) σ K) none) (bsq (wOk Γ ops (ancs ops.toList)) (regW P Γ ops σ K) (regF P Γ ops σ K))) (aops P Γ ops false (List.range ops.size) σ K) := by
  unfold regA
  have h := fun dr => aopsL_eq P Γ ops dr ops.toList 0 rfl σ K
  have h2 : bsq (dOk ops.toList σ.tmps.length) (aopsE P Γ ops.toList true ops.toList [] σ.tmps σ.heap K) none = bsq (dOk ops.toList σ.tmps.length) (aopsL P Γ ops.toList true ops.toList σ K) none := by
    cases hd : dOk ops.toList σ.tmps.length with
    | false => rfl
    | true =>
      rw [aopsE_eq P Γ ops.toList true hd ops.toList [] σ.tmps σ.heap K (fun o ho => ho) rfl (by simp)]
      have : envA [] σ.tmps 0 = σ.tmps := by
        apply List.ext_getElem?
        intro i
        rw [envA_get]
        cases σ.tmps[i]? <;> rfl
      rw [this]
  rw [h2, h, h, List.range_eq_range']
  rfl
/-- A piece of code, at its place in the function's. -/
def acode (c : Code) : Nat → St → Cont R → Option R :=
  Code.rec (motive := fun _ => Nat → St → Cont R → Option R)
    (fun _ σ K => K .normal σ)
    (fun _ ops draw _ σ K => regA P Γ ops draw σ K)
    (fun _ _ fa fb pos σ K => fa (2 * pos) σ (seqK (fb (2 * pos + 1)) (hasA ann (2 * pos + 1)) (clrA ann (2 * pos + 1)) K))
    (fun c _ _ fa fb pos σ K => asBool (aeval σ.tmps c) fun t => bsp t (fa (2 * pos) σ K) (fb (2 * pos + 1) σ K))
    (fun id _ fc pos σ K => fc (2 * pos) σ (blkK id K))
    (fun _ fc pos σ K => aloop (fc (2 * pos)) (clrA ann (2 * pos)) (trimOf trims (2 * pos)) σ.heap.length k (clrA ann (2 * pos) σ) K)
    (fun g ps a b fa fb pos σ K => rfA Γ (aeval σ.tmps g) fun p => prm ps fun i j => bsq (noR a && noR b)
      (ldv σ.heap p fun s => bkn s fun m => bkl (fun σ K => fa (2 * pos) σ (asgK (fb (2 * pos + 1)) (hasA ann (2 * pos + 1)) (clrA ann (2 * pos + 1)) K)) p i j (clrA ann pos σ).tmps m σ.heap K) none)
    (fun id _ σ K => K (.exit id) σ)
    (fun _ _ _ _ _ => none)
    (fun _ _ _ _ => none)
    (fun _ _ _ _ => none)
    (fun _ σ K => K .ret σ)
    (fun _ _ _ _ => none)
    c
end
def cdAt : List Bool → Code → Code
  | [], c => c
  | false :: p, .seq a _ => cdAt p a
  | true :: p, .seq _ b => cdAt p b
  | false :: p, .cond _ a _ => cdAt p a
  | true :: p, .cond _ _ b => cdAt p b
  | _ :: p, .block _ c => cdAt p c
  | _ :: p, .loop c => cdAt p c
  | false :: p, .rangeFunc _ _ a _ => cdAt p a
  | true :: p, .rangeFunc _ _ _ b => cdAt p b
  | _, c => c
/-- A place's way from the top, out of its number's digits. -/
def pathGo : Nat → Nat → List Bool → List Bool
  | 0, _, acc => acc
  | fuel + 1, n, acc => bif Nat.ble n 1 then acc else pathGo fuel (n / 2) (Nat.beq (n % 2) 1 :: acc)
def pathOf (pos : Nat) : List Bool := pathGo 200 pos []
/-- Slots of which nothing is known, ahead of others. -/
def an : Nat → List AV → List AV
  | 0, l => l
  | n + 1, l => .any :: an n l
def bodyOf (fn : Func) : Code := fn.body.getD .skip
def finR (o : Option AV) (h : Hp) : Option (ARes × Hp) :=
  match o with
  | some v => some (.ret v, h)
  | none => none
def resA (P : Program) (tmps : List AV) (h : Hp) (r : ResultVar) : Option AV :=
  match r with
  | .tmp t => some (tget tmps t)
  | .cell t ty => match P.underlying ty with
    | some (.struct _) => bsq (Nat.beq (P.cellsOf ty) 0) none ((cellsN h (tget tmps t) 0 (P.cellsOf ty)).map .agg)
    | some (.array ..) => none
    | some _ => cellAt h (tget tmps t) 0
    | none => none
def two (x y : Option AV) : Option AV :=
  match x, y with
  | some a, some b => some (.tuple [a, b])
  | _, _ => none
def three (x y z : Option AV) : Option AV :=
  match x, y, z with
  | some a, some b, some c => some (.tuple [a, b, c])
  | _, _, _ => none
def resOf (P : Program) (fn : Func) (tmps : List AV) (h : Hp) : Option AV :=
  match fn.results.toList with
  | [] => some undefA
  | [r] => resA P tmps h r
  | [r, s] => two (resA P tmps h r) (resA P tmps h s)
  | [r, s, t] => three (resA P tmps h r) (resA P tmps h s) (resA P tmps h t)
  | _ => none
def finA (P : Program) (fn : Func) (e : AE) (σ : St) : Option (ARes × Hp) :=
  match e with
  | .normal | .ret => finR (resOf P fn σ.tmps σ.heap) σ.heap
  | .pan v => some (.pan v, σ.heap)
  | .exit _ => none
def fnA (P : Program) (Γ : FuncId → Option Callee) (ann : Ann) (trims : List Nat) (k : Nat) (fn : Func) (args : List AV) (h : Hp) : Option (ARes × Hp) :=
  bsq (Nat.ble args.length fn.ntmps) (acode P Γ ann trims k (bodyOf fn) 1 ⟨args ++ List.replicate (fn.ntmps - args.length) undefA, h⟩ (finA P fn)) none
/-- A function's answer to values held still: nothing that was there is written. -/
def pureR (o : Option (ARes × Hp)) : Option Res :=
  match o with
  | some (.ret v, h) => (toRV h depthA v).map .ret
  | some (.pan v, h) => (toRV h depthA v).map .pan
  | none => none
end
/-- More rounds, and more calls within calls, than there ever are. -/
def big : Nat := 4611686018427387904
end Go.Proofs.Ytknphnmhjmejaaa
/-  The abstract machine's values and heap against the model's: definitions, and what they bear. No conditions. -/
namespace Go.Proofs.Ytknphnmhjmejaaa
set_option linter.unusedVariables false

structure JE where
  b : Nat
  n : Nat
  esz : Nat
abbrev Jm := Nat → Nat → Option JE
abbrev Mm := Addr → Option Value

mutual
def VR (M : Mm) : RV → Value → Prop
  | .bool b, v => v = .bool b
  | .int k n, v => v = .int k n
  | .float k b, v => v = .float k b
  | .str s, v => v = .string s
  | .nilp, v => v = .pointer none
  | .nils, v => v = .slice none 0 0
  | .nilf, v => v = .nilFunc
  | .nili, v => v = .nilIface
  | .nilm, v => v = .map none
  | .rop cs, v => ∃ a, v = .pointer (some a) ∧ VRs M cs (fun i => M (a.add i))
  | .ros cs len, v => ∃ a cap, v = .slice (some a) len cap ∧ len ≤ cap ∧ VRs M cs (fun i => M (a.add i))
  | .iface t x, v => ∃ u, v = .iface t u ∧ VR M x u
  | .agg cs, v => ∃ vs : Array Value, v = .agg vs ∧ vs.size = cs.length ∧ VRs M cs (fun i => vs[i]?)
  | .tuple cs, v => ∃ vs : Array Value, v = .tuple vs ∧ vs.size = cs.length ∧ VRs M cs (fun i => vs[i]?)
def VRs (M : Mm) : List RV → (Nat → Option Value) → Prop
  | [], _ => True
  | x :: cs, f => (∃ v, f 0 = some v ∧ VR M x v) ∧ VRs M cs (fun i => f (i + 1))
end
mutual
def V (J : Jm) (M : Mm) : AV → Value → Prop
  | .any, _ => True
  | .rv x, v => VR M x v
  | .ptr o ver off, v => ∃ e, J o ver = some e ∧ v = .pointer (some ⟨e.b, off, none⟩)
  | .sl o ver off len, v => ∃ e, J o ver = some e ∧ ∃ a cap, v = .slice (some a) len cap ∧ len ≤ cap ∧ (cap = 0 ∨ (a = ⟨e.b, off, none⟩ ∧ off + cap * e.esz ≤ e.n))
  | .func f fs cs, v => ∃ us vs : Array Value, v = .func (.func f) us vs ∧ (us.size = fs.length ∧ Vs J M fs (fun i => us[i]?)) ∧ vs.size = cs.length ∧ Vs J M cs (fun i => vs[i]?)
  | .iface t x, v => ∃ u, v = .iface t u ∧ V J M x u
  | .agg cs, v => ∃ vs : Array Value, v = .agg vs ∧ vs.size = cs.length ∧ Vs J M cs (fun i => vs[i]?)
  | .tuple cs, v => ∃ vs : Array Value, v = .tuple vs ∧ vs.size = cs.length ∧ Vs J M cs (fun i => vs[i]?)
def Vs (J : Jm) (M : Mm) : List AV → (Nat → Option Value) → Prop
  | [], _ => True
  | x :: cs, f => (∃ v, f 0 = some v ∧ V J M x v) ∧ Vs J M cs (fun i => f (i + 1))
end

theorem VRs_iff {M : Mm} : ∀ {cs : List RV} {f : Nat → Option Value}, VRs M cs f ↔ ∀ i x, cs[i]? = some x → ∃ v, f i = some v ∧ VR M x v
  | [], f => by simp [VRs]
  | x :: cs, f => by
    simp only [VRs, VRs_iff (cs := cs)]
    constructor
    · rintro ⟨h0, h⟩ i y hy
      cases i with
      | zero => simp at hy; subst hy; exact h0
      | succ i => exact h i y (by simpa using hy)
    · intro h
      exact ⟨h 0 x rfl, fun i y hy => h (i + 1) y (by simpa using hy)⟩
theorem Vs_iff {J : Jm} {M : Mm} : ∀ {cs : List AV} {f : Nat → Option Value}, Vs J M cs f ↔ ∀ i x, cs[i]? = some x → ∃ v, f i = some v ∧ V J M x v
  | [], f => by simp [Vs]
  | x :: cs, f => by
    simp only [Vs, Vs_iff (cs := cs)]
    constructor
    · rintro ⟨h0, h⟩ i y hy
      cases i with
      | zero => simp at hy; subst hy; exact h0
      | succ i => exact h i y (by simpa using hy)
    · intro h
      exact ⟨h 0 x rfl, fun i y hy => h (i + 1) y (by simpa using hy)⟩

def MLe (M M' : Mm) : Prop := ∀ a v, M a = some v → M' a = some v
def JLe (J J' : Jm) : Prop := ∀ o r e, J o r = some e → J' o r = some e
theorem MLe.refl (M : Mm) : MLe M M := fun _ _ h => h
theorem MLe.trans {A B C : Mm} (h : MLe A B) (k : MLe B C) : MLe A C := fun a v x => k a v (h a v x)
theorem JLe.refl (J : Jm) : JLe J J := fun _ _ _ h => h
theorem JLe.trans {A B C : Jm} (h : JLe A B) (k : JLe B C) : JLe A C := fun a v e x => k a v e (h a v e x)

mutual
theorem VR_mono {M M' : Mm} (h : MLe M M') : ∀ (x : RV) (v : Value), VR M x v → VR M' x v
  | .bool _, _, k => by simpa only [VR] using k
  | .int _ _, _, k => by simpa only [VR] using k
  | .float _ _, _, k => by simpa only [VR] using k
  | .str _, _, k => by simpa only [VR] using k
  | .nilp, _, k => by simpa only [VR] using k
  | .nils, _, k => by simpa only [VR] using k
  | .nilf, _, k => by simpa only [VR] using k
  | .nili, _, k => by simpa only [VR] using k
  | .nilm, _, k => by simpa only [VR] using k
  | .rop cs, v, k => by
    simp only [VR] at k ⊢
    obtain ⟨a, e, r⟩ := k
    exact ⟨a, e, VRs_mono h cs _ _ (fun i v hv => h _ _ hv) r⟩
  | .ros cs len, v, k => by
    simp only [VR] at k ⊢
    obtain ⟨a, cap, e, l, r⟩ := k
    exact ⟨a, cap, e, l, VRs_mono h cs _ _ (fun i v hv => h _ _ hv) r⟩
  | .iface t x, v, k => by
    simp only [VR] at k ⊢
    obtain ⟨u, e, r⟩ := k
    exact ⟨u, e, VR_mono h x u r⟩
  | .agg cs, v, k => by
    simp only [VR] at k ⊢
    obtain ⟨vs, e, l, r⟩ := k
    exact ⟨vs, e, l, VRs_mono h cs _ _ (fun i v hv => hv) r⟩
  | .tuple cs, v, k => by
    simp only [VR] at k ⊢
    obtain ⟨vs, e, l, r⟩ := k
    exact ⟨vs, e, l, VRs_mono h cs _ _ (fun i v hv => hv) r⟩
theorem VRs_mono {M M' : Mm} (h : MLe M M') : ∀ (cs : List RV) (f f' : Nat → Option Value), (∀ i v, f i = some v → f' i = some v) → VRs M cs f → VRs M' cs f'
  | [], _, _, _, _ => by simp [VRs]
  | x :: cs, f, f', hf, k => by
    simp only [VRs] at k ⊢
    obtain ⟨⟨v, h0, hv⟩, r⟩ := k
    exact ⟨⟨v, hf _ _ h0, VR_mono h x v hv⟩, VRs_mono h cs _ _ (fun i v hv => hf _ _ hv) r⟩
end
mutual
theorem V_mono {J J' : Jm} {M M' : Mm} (hJ : JLe J J') (h : MLe M M') : ∀ (x : AV) (v : Value), V J M x v → V J' M' x v
  | .any, _, _ => by simp [V]
  | .rv x, v, k => by simp only [V] at k ⊢; exact VR_mono h x v k
  | .ptr o r off, v, k => by
    simp only [V] at k ⊢
    obtain ⟨e, he, hv⟩ := k
    exact ⟨e, hJ _ _ _ he, hv⟩
  | .sl o r off len, v, k => by
    simp only [V] at k ⊢
    obtain ⟨e, he, hv⟩ := k
    exact ⟨e, hJ _ _ _ he, hv⟩
  | .func f fs cs, v, k => by
    simp only [V] at k ⊢
    obtain ⟨us, vs, e, ⟨l1, r1⟩, l, r⟩ := k
    exact ⟨us, vs, e, ⟨l1, Vs_mono hJ h fs _ _ (fun i v hv => hv) r1⟩, l, Vs_mono hJ h cs _ _ (fun i v hv => hv) r⟩
  | .iface t x, v, k => by
    simp only [V] at k ⊢
    obtain ⟨u, e, r⟩ := k
    exact ⟨u, e, V_mono hJ h x u r⟩
  | .agg cs, v, k => by
    simp only [V] at k ⊢
    obtain ⟨vs, e, l, r⟩ := k
    exact ⟨vs, e, l, Vs_mono hJ h cs _ _ (fun i v hv => hv) r⟩
  | .tuple cs, v, k => by
    simp only [V] at k ⊢
    obtain ⟨vs, e, l, r⟩ := k
    exact ⟨vs, e, l, Vs_mono hJ h cs _ _ (fun i v hv => hv) r⟩
theorem Vs_mono {J J' : Jm} {M M' : Mm} (hJ : JLe J J') (h : MLe M M') : ∀ (cs : List AV) (f f' : Nat → Option Value), (∀ i v, f i = some v → f' i = some v) → Vs J M cs f → Vs J' M' cs f'
  | [], _, _, _, _ => by simp [Vs]
  | x :: cs, f, f', hf, k => by
    simp only [Vs] at k ⊢
    obtain ⟨⟨v, h0, hv⟩, r⟩ := k
    exact ⟨⟨v, hf _ _ h0, V_mono hJ h x v hv⟩, Vs_mono hJ h cs _ _ (fun i v hv => hf _ _ hv) r⟩
end
/-- What names no object from n on stands by the smaller map. -/
def cutJ (n : Nat) (J : Jm) : Jm := fun o r => if o < n then J o r else none
mutual
theorem V_cut {J : Jm} {M : Mm} (n : Nat) : ∀ (x : AV) (v : Value), belA n x = true → V J M x v → V (cutJ n J) M x v
  | .any, _, _, _ => by simp [V]
  | .rv x, v, _, k => by simpa only [V] using k
  | .ptr o r off, v, b, k => by
    simp only [belA, decide_eq_true_eq] at b
    simp only [V] at k ⊢
    obtain ⟨e, he, hv⟩ := k
    exact ⟨e, by simp [cutJ, b, he], hv⟩
  | .sl o r off len, v, b, k => by
    simp only [belA, decide_eq_true_eq] at b
    simp only [V] at k ⊢
    obtain ⟨e, he, hv⟩ := k
    exact ⟨e, by simp [cutJ, b, he], hv⟩
  | .func f fs cs, v, b, k => by
    simp only [belA, Bool.and_eq_true] at b
    simp only [V] at k ⊢
    obtain ⟨us, vs, e, ⟨l1, r1⟩, l, r⟩ := k
    exact ⟨us, vs, e, ⟨l1, Vs_cut n fs _ b.1 r1⟩, l, Vs_cut n cs _ b.2 r⟩
  | .iface t x, v, b, k => by
    simp only [belA] at b
    simp only [V] at k ⊢
    obtain ⟨u, e, r⟩ := k
    exact ⟨u, e, V_cut n x u b r⟩
  | .agg cs, v, b, k => by
    simp only [belA] at b
    simp only [V] at k ⊢
    obtain ⟨vs, e, l, r⟩ := k
    exact ⟨vs, e, l, Vs_cut n cs _ b r⟩
  | .tuple cs, v, b, k => by
    simp only [belA] at b
    simp only [V] at k ⊢
    obtain ⟨vs, e, l, r⟩ := k
    exact ⟨vs, e, l, Vs_cut n cs _ b r⟩
theorem Vs_cut {J : Jm} {M : Mm} (n : Nat) : ∀ (cs : List AV) (f : Nat → Option Value), belL n cs = true → Vs J M cs f → Vs (cutJ n J) M cs f
  | [], _, _, _ => by simp [Vs]
  | x :: cs, f, b, k => by
    simp only [belL, Bool.and_eq_true] at b
    simp only [Vs] at k ⊢
    obtain ⟨⟨v, h0, hv⟩, r⟩ := k
    exact ⟨⟨v, h0, V_cut n x v b.1 hv⟩, Vs_cut n cs _ b.2 r⟩
end

/-- The heap: each object lies in a block of its own, none of which is held still. -/
structure HR (J : Jm) (M : Mm) (h : Hp) (w : World) : Prop where
  ob0 : ∀ o ob, h[o]? = some ob → (∀ r, J o r = none) ∨ ∃ e c t, J o ob.ver = some e ∧ e.esz = ob.esz ∧ w.heap[e.b]? = some (.cells c t (0, 0)) ∧ c.size = e.n ∧ Vs J M ob.cells (fun i => c[i]?)
  key : ∀ o r e, J o r = some e → ∃ ob, h[o]? = some ob ∧ r ≤ ob.ver
  inj : ∀ o1 o2 ob1 ob2 e1 e2, h[o1]? = some ob1 → h[o2]? = some ob2 → J o1 ob1.ver = some e1 → J o2 ob2.ver = some e2 → e1.b = e2.b → o1 = o2
  im : ∀ a v, M a = some v → w.cell? a = some v
  sep : ∀ a v o ob e, M a = some v → h[o]? = some ob → J o ob.ver = some e → a.block ≠ e.b
theorem HR.ob {J M h w} (r : HR J M h w) (o : Nat) (ob : Ob) (ho : h[o]? = some ob) {q : Nat} {e0 : JE} (hJ : J o q = some e0) : ∃ e c t, J o ob.ver = some e ∧ e.esz = ob.esz ∧ w.heap[e.b]? = some (.cells c t (0, 0)) ∧ c.size = e.n ∧ Vs J M ob.cells (fun i => c[i]?) := by
  rcases r.ob0 o ob ho with hd | k
  · rw [hd] at hJ; cases hJ
  · exact k
def owned (J : Jm) (h : Hp) (b : Nat) : Prop := ∃ o ob e, h[o]? = some ob ∧ J o ob.ver = some e ∧ e.b = b
/-- Outside some blocks nothing that was there has turned. -/
structure Fr (Own : Nat → Prop) (w w' : World) : Prop where
  os : w'.os = w.os
  tape : w'.tape = w.tape
  output : w'.output = w.output
  size : w.heap.size ≤ w'.heap.size
  block : ∀ b, b < w.heap.size → ¬ Own b → w'.heap[b]? = w.heap[b]?
theorem Fr.refl (Own : Nat → Prop) (w : World) : Fr Own w w := ⟨rfl, rfl, rfl, Nat.le_refl _, fun _ _ _ => rfl⟩
theorem Fr.drew {Own : Nat → Prop} (w : World) : Fr Own w w.drew := ⟨rfl, rfl, rfl, Nat.le_refl _, fun _ _ _ => rfl⟩
/-- From one state to the next: maps grow, the frame. -/
structure Stp (J : Jm) (M : Mm) (h : Hp) (w : World) (J' : Jm) (M' : Mm) (h' : Hp) (w' : World) : Prop where
  jle : JLe J J'
  mle : MLe M M'
  hr : HR J' M' h' w'
  len : h.length ≤ h'.length
  fr : Fr (owned J h) w w'
  mnew : ∀ a v, M' a = some v → M a = some v ∨ owned J h a.block ∨ w.heap.size ≤ a.block
  onew : ∀ b, owned J' h' b → owned J h b ∨ w.heap.size ≤ b
  jfr : ∀ o q e, J' o q = some e → h.length ≤ o ∨ ∃ q0 e0, J o q0 = some e0
theorem Stp.refl {J : Jm} {M : Mm} {h : Hp} {w : World} (r : HR J M h w) : Stp J M h w J M h w :=
  ⟨JLe.refl J, MLe.refl M, r, Nat.le_refl _, Fr.refl _ w, fun _ _ k => .inl k, fun _ k => .inl k, fun _ _ _ k => .inr ⟨_, _, k⟩⟩
theorem Stp.trans {J M h w J' M' h' w' J2 M2 h2 w2} (a : Stp J M h w J' M' h' w') (b : Stp J' M' h' w' J2 M2 h2 w2) : Stp J M h w J2 M2 h2 w2 where
  jle := a.jle.trans b.jle
  mle := a.mle.trans b.mle
  hr := b.hr
  len := Nat.le_trans a.len b.len
  fr := by
    refine ⟨b.fr.os.trans a.fr.os, b.fr.tape.trans a.fr.tape, b.fr.output.trans a.fr.output, Nat.le_trans a.fr.size b.fr.size, fun c hc ho => ?_⟩
    rw [b.fr.block c (Nat.lt_of_lt_of_le hc a.fr.size) (fun k => ?_), a.fr.block c hc ho]
    rcases a.onew c k with k | k
    · exact ho k
    · omega
  mnew := by
    intro x v k
    rcases b.mnew x v k with k | k | k
    · exact a.mnew x v k
    · rcases a.onew _ k with k | k
      · exact .inr (.inl k)
      · exact .inr (.inr k)
    · exact .inr (.inr (Nat.le_trans a.fr.size k))
  onew := by
    intro c k
    rcases b.onew c k with k | k
    · exact a.onew c k
    · exact .inr (Nat.le_trans a.fr.size k)
  jfr := by
    intro o q e k
    rcases b.jfr o q e k with k | ⟨q0, e0, k⟩
    · exact .inl (Nat.le_trans a.len k)
    · exact a.jfr o q0 e0 k
theorem HR.drew {J M h w} (r : HR J M h w) : HR J M h w.drew := ⟨r.ob0, r.key, r.inj, r.im, r.sep⟩
theorem Stp.drew {J M h w} (r : HR J M h w) : Stp J M h w J M h w.drew :=
  ⟨JLe.refl J, MLe.refl M, r.drew, Nat.le_refl _, Fr.drew w, fun _ _ k => .inl k, fun _ k => .inl k, fun _ _ _ k => .inr ⟨_, _, k⟩⟩

/-! ### A new object -/
theorem heap_new (w : World) (o : Obj) : (w.alloc o).heap[w.heap.size]? = some o := by
  show (w.heap.push o)[w.heap.size]? = _
  simp
theorem heap_old (w : World) (o : Obj) {i : Nat} (h : i < w.heap.size) : (w.alloc o).heap[i]? = w.heap[i]? := by
  show (w.heap.push o)[i]? = _
  rw [Array.getElem?_push, if_neg (by omega)]
theorem lt_of_cells {w : World} {b : Nat} {o : Obj} (h : w.heap[b]? = some o) : b < w.heap.size := (Array.getElem?_eq_some_iff.1 h).1
theorem owned_lt {J M h w} (r : HR J M h w) {b : Nat} (k : owned J h b) : b < w.heap.size := by
  obtain ⟨o, ob, e, ho, he, rfl⟩ := k
  obtain ⟨e', c, t, he', _, hb, _⟩ := r.ob o ob ho he
  rw [he] at he'
  cases he'
  exact lt_of_cells hb
def newJ (J : Jm) (h : Hp) (e : JE) : Jm := fun o r => if o = h.length ∧ r = 0 then some e else J o r
theorem newJ_le {J M h w} (r : HR J M h w) (e : JE) : JLe J (newJ J h e) := by
  intro o v e' k
  unfold newJ
  rw [if_neg]
  · exact k
  · rintro ⟨rfl, _⟩
    obtain ⟨ob, hb, _⟩ := r.key _ _ _ k
    simp at hb
theorem HR.push {J M h w} (r : HR J M h w) (esz : Nat) (l : List AV) (c : Array Value) (t : TypeId) (hl : Vs J M l (fun i => c[i]?)) :
    Stp J M h w (newJ J h ⟨w.heap.size, c.size, esz⟩) M (h ++ [⟨0, esz, l⟩]) (w.alloc (.cells c t)) := by
  have hle := newJ_le r ⟨w.heap.size, c.size, esz⟩
  have old : ∀ o ob, (h ++ [(⟨0, esz, l⟩ : Ob)])[o]? = some ob → (o < h.length ∧ h[o]? = some ob) ∨ (o = h.length ∧ ob = ⟨0, esz, l⟩) := by
    intro o ob ho
    rcases Nat.lt_or_ge o h.length with hlt | hge
    · exact .inl ⟨hlt, by rwa [List.getElem?_append_left hlt] at ho⟩
    · rw [List.getElem?_append_right hge] at ho
      rcases Nat.eq_or_lt_of_le hge with he | hgt
      · subst he; simp at ho; exact .inr ⟨rfl, ho.symm⟩
      · rw [List.getElem?_eq_none (by simp; omega)] at ho; cases ho
  have jold : ∀ o ob, h[o]? = some ob → newJ J h ⟨w.heap.size, c.size, esz⟩ o ob.ver = J o ob.ver := by
    intro o ob ho
    unfold newJ
    rw [if_neg]
    rintro ⟨rfl, _⟩
    simp at ho
  have jnew : newJ J h ⟨w.heap.size, c.size, esz⟩ h.length 0 = some ⟨w.heap.size, c.size, esz⟩ := by simp [newJ]
  have hr : HR (newJ J h ⟨w.heap.size, c.size, esz⟩) M (h ++ [⟨0, esz, l⟩]) (w.alloc (.cells c t)) := by
    refine ⟨?_, ?_, ?_, ?_, ?_⟩
    · intro o ob ho
      rcases old o ob ho with ⟨hlt, ho⟩ | ⟨rfl, rfl⟩
      · rcases r.ob0 o ob ho with hd | ⟨e, c', t', he, hs, hb, hn, hv⟩
        · exact .inl fun q => by
            unfold newJ
            rw [if_neg (fun k => by omega)]
            exact hd q
        exact .inr ⟨e, c', t', by rw [jold o ob ho]; exact he, hs, by rw [heap_old _ _ (lt_of_cells hb)]; exact hb, hn, Vs_mono hle (MLe.refl M) _ _ _ (fun _ _ k => k) hv⟩
      · exact .inr ⟨_, c, t, jnew, rfl, heap_new _ _, rfl, Vs_mono hle (MLe.refl M) _ _ _ (fun _ _ k => k) hl⟩
    · intro o v e k
      unfold newJ at k
      split at k
      · rename_i hc
        obtain ⟨rfl, rfl⟩ := hc
        exact ⟨⟨0, esz, l⟩, by simp, Nat.le_refl _⟩
      · obtain ⟨ob, hb, hv⟩ := r.key _ _ _ k
        exact ⟨ob, by rw [List.getElem?_append_left (List.getElem?_eq_some_iff.1 hb).1]; exact hb, hv⟩
    · intro o1 o2 ob1 ob2 e1 e2 h1 h2 k1 k2 hb
      rcases old _ _ h1 with ⟨_, h1⟩ | ⟨rfl, rfl⟩ <;> rcases old _ _ h2 with ⟨_, h2⟩ | ⟨rfl, rfl⟩
      · rw [jold _ _ h1] at k1
        rw [jold _ _ h2] at k2
        exact r.inj _ _ _ _ _ _ h1 h2 k1 k2 hb
      · rw [jold _ _ h1] at k1
        rw [jnew] at k2
        cases k2
        have := owned_lt r ⟨_, _, _, h1, k1, rfl⟩
        simp only at hb
        omega
      · rw [jold _ _ h2] at k2
        rw [jnew] at k1
        cases k1
        have := owned_lt r ⟨_, _, _, h2, k2, rfl⟩
        simp only at hb
        omega
      · rfl
    · intro a v k
      have := r.im a v k
      rw [World.cell?_alloc_lt _ _ _ (World.block_lt_of_cell? _ _ this)]
      exact this
    · intro a v o ob e k ho he
      rcases old _ _ ho with ⟨_, ho⟩ | ⟨rfl, rfl⟩
      · rw [jold _ _ ho] at he
        exact r.sep _ _ _ _ _ k ho he
      · rw [jnew] at he
        cases he
        have := World.block_lt_of_cell? _ _ (r.im a v k)
        simp only
        omega
  refine ⟨hle, MLe.refl M, hr, by simp, ⟨rfl, rfl, rfl, by simp, fun b hb _ => heap_old _ _ hb⟩, fun _ _ k => .inl k, ?_, fun o q e k => ?_⟩
  case refine_2 =>
    unfold newJ at k
    split at k
    · exact .inl (by omega)
    · exact .inr ⟨_, _, k⟩
  rintro b ⟨o, ob, e, ho, he, rfl⟩
  rcases old _ _ ho with ⟨_, ho⟩ | ⟨rfl, rfl⟩
  · rw [jold _ _ ho] at he
    exact .inl ⟨o, ob, e, ho, he, rfl⟩
  · rw [jnew] at he
    cases he
    exact .inr (Nat.le_refl _)

/-! ### Reading -/
theorem cell_of_cells {w : World} {b : Nat} {c : Array Value} {t : TypeId} {f : Nat × Nat} (h : w.heap[b]? = some (.cells c t f)) (i : Nat) : w.cell? ⟨b, i, none⟩ = c[i]? := by
  simp [World.cell?, h]
/-- The address of a pointer's j-th cell. -/
def addrOf (v : Value) (j : Nat) : Option Addr :=
  match v with
  | .pointer (some a) => some (a.add j)
  | _ => none
theorem add_none (b off j : Nat) : (⟨b, off, none⟩ : Addr).add j = ⟨b, off + j, none⟩ := by
  unfold Addr.add; split <;> simp_all
theorem add_add (a : Addr) (i j : Nat) : (a.add i).add j = a.add (i + j) := by
  unfold Addr.add
  by_cases hi : i = 0 <;> by_cases hj : j = 0 <;> simp [hi, hj, Nat.add_assoc]
theorem cellAt_sound {J M h w} (r : HR J M h w) {p : AV} {u : Value} (hp : V J M p u) {j : Nat} {x : AV} (hx : cellAt h p j = some x) :
    ∃ a v, u = .pointer (some a) ∧ w.cell? (a.add j) = some v ∧ V J M x v := by
  cases p with
  | ptr o ver off =>
    simp only [cellAt] at hx
    cases ho : h[o]? with
    | none => rw [ho] at hx; cases hx
    | some ob =>
      rw [ho] at hx
      simp only at hx
      split at hx
      · rename_i hv
        subst hv
        simp only [V] at hp
        obtain ⟨e, he, rfl⟩ := hp
        obtain ⟨e', c, t, he', _, hb, hn, hvs⟩ := r.ob o ob ho he
        rw [he] at he'
        cases he'
        obtain ⟨v, hv, hV⟩ := Vs_iff.1 hvs _ _ hx
        exact ⟨_, v, rfl, by rw [add_none, cell_of_cells hb]; exact hv, hV⟩
      · cases hx
  | rv y =>
    cases y with
    | rop cs =>
      simp only [cellAt, Option.map_eq_some_iff] at hx
      obtain ⟨y, hy, rfl⟩ := hx
      simp only [V, VR] at hp
      obtain ⟨a, rfl, hs⟩ := hp
      obtain ⟨v, hv, hV⟩ := VRs_iff.1 hs _ _ hy
      exact ⟨a, v, rfl, r.im _ _ hv, by simpa only [V] using hV⟩
    | _ => simp [cellAt] at hx
  | _ => simp [cellAt] at hx
theorem cellsN_sound {J M h w} (r : HR J M h w) {p : AV} {u : Value} (hp : V J M p u) : ∀ (n j : Nat) (l : List AV), cellsN h p j n = some l → (n = 0 ∨ ∃ a, u = .pointer (some a)) ∧ l.length = n ∧ ∀ a, u = .pointer (some a) →
    ∃ vs : List Value, vs.length = n ∧ (∀ i v, vs[i]? = some v → w.cell? (a.add (j + i)) = some v) ∧ Vs J M l (fun i => vs[i]?)
  | 0, j, l, k => by
    simp only [cellsN, Option.some.injEq] at k
    subst k
    exact ⟨.inl rfl, rfl, fun a _ => ⟨[], rfl, by simp, by simp [Vs]⟩⟩
  | n + 1, j, l, k => by
    simp only [cellsN] at k
    cases hx : cellAt h p j with
    | none => rw [hx] at k; cases k
    | some x =>
      rw [hx] at k
      simp only at k
      cases hl : cellsN h p (j + 1) n with
      | none => rw [hl] at k; cases k
      | some l' =>
        rw [hl] at k
        simp only [Option.some.injEq] at k
        subst k
        obtain ⟨a, v, hu, hc, hV⟩ := cellAt_sound r hp hx
        obtain ⟨_, hlen, hrest⟩ := cellsN_sound r hp n (j + 1) l' hl
        refine ⟨.inr ⟨a, hu⟩, by simp [hlen], fun a' ha' => ?_⟩
        rw [hu] at ha'
        cases ha'
        obtain ⟨vs, hvl, hvc, hvV⟩ := hrest a hu
        refine ⟨v :: vs, by simp [hvl], ?_, ?_⟩
        · intro i x hi
          cases i with
          | zero => simp at hi; subst hi; exact hc
          | succ i => have := hvc i x (by simpa using hi); rwa [show j + (i + 1) = j + 1 + i by omega]
        · simp only [Vs]
          exact ⟨⟨v, rfl, hV⟩, by simpa using hvV⟩
theorem vcells_sound {J M} {x : AV} {v : Value} (hV : V J M x v) {l : List AV} (hl : vcells x = some l) : v.cells.size = l.length ∧ Vs J M l (fun i => v.cells[i]?) := by
  have one : ∀ (y : AV) (u : Value), V J M y u → (∀ cs, u ≠ .agg cs) → u.cells.size = 1 ∧ Vs J M [y] (fun i => u.cells[i]?) := by
    intro y u hy hne
    have : u.cells = #[u] := by cases u <;> first | rfl | exact absurd rfl (hne _)
    rw [this]
    exact ⟨rfl, by simp only [Vs]; exact ⟨⟨u, rfl, hy⟩, trivial⟩⟩
  cases x with
  | any => simp [vcells] at hl
  | agg cs =>
    simp only [vcells, Option.some.injEq] at hl
    subst hl
    simp only [V] at hV
    obtain ⟨vs, rfl, hs, hv⟩ := hV
    exact ⟨hs, hv⟩
  | rv y =>
    cases y with
    | agg cs =>
      simp only [vcells, Option.some.injEq] at hl
      subst hl
      simp only [V, VR] at hV
      obtain ⟨vs, rfl, hs, hv⟩ := hV
      refine ⟨by simp [Value.cells, hs], Vs_iff.2 fun i z hz => ?_⟩
      rw [List.getElem?_map, Option.map_eq_some_iff] at hz
      obtain ⟨y, hy, rfl⟩ := hz
      obtain ⟨u, hu, hU⟩ := VRs_iff.1 hv _ _ hy
      exact ⟨u, hu, by simpa only [V] using hU⟩
    | _ =>
      simp only [vcells, Option.some.injEq] at hl
      subst hl
      refine one _ _ hV fun cs e => ?_
      subst e
      simp [V, VR] at hV
  | _ =>
    simp only [vcells, Option.some.injEq] at hl
    subst hl
    refine one _ _ hV fun cs e => ?_
    subst e
    simp [V] at hV
theorem V_ofVal {J M} (v : Value) : V J M (ofVal v) v := by
  unfold ofVal
  split <;> simp [V, VR]
theorem V_toVal {J M} {x : AV} {u v : Value} (hx : toVal x = some u) (hV : V J M x v) : v = u := by
  unfold toVal at hx
  split at hx <;> simp only [Option.some.injEq, reduceCtorEq] at hx <;> subst hx <;> simpa [V, VR] using hV
end Go.Proofs.Ytknphnmhjmejaaa
/-  The abstract machine's operations against the model's. No conditions. -/
namespace Go.Proofs.Ytknphnmhjmejaaa
set_option linter.unusedVariables false

section inv
variable {R : Type}
theorem asInt_inv {k : IntKind} {x : AV} {K : Int → Option R} {r : R} (h : asInt k x K = some r) : ∃ n, x = .rv (.int k n) ∧ K n = some r := by
  unfold asInt at h
  split at h
  · split at h
    · rename_i e; subst e; exact ⟨_, rfl, h⟩
    · cases h
  · cases h
theorem asBool_inv {x : AV} {K : Bool → Option R} {r : R} (h : asBool x K = some r) : ∃ b, x = .rv (.bool b) ∧ K b = some r := by
  unfold asBool at h
  split at h
  · exact ⟨_, rfl, h⟩
  · cases h
theorem bsq_inv {b : Bool} {x y : Option R} {r : R} (h : bsq b x y = some r) : (b = true ∧ x = some r) ∨ (b = false ∧ y = some r) := by
  cases b
  · exact .inr ⟨rfl, h⟩
  · exact .inl ⟨rfl, h⟩
theorem asInt0_eq (k : IntKind) (x : AV) (K : Int → Option R) : asInt0 k x K = asInt k x K := rfl
theorem asBool0_eq (x : AV) (K : Bool → Option R) : asBool0 x K = asBool x K := rfl
theorem bsp_inv {b : Bool} {x y : Option R} {r : R} (h : bsp b x y = some r) : (b = true ∧ x = some r) ∨ (b = false ∧ y = some r) := by
  cases b
  · exact .inr ⟨rfl, h⟩
  · exact .inl ⟨rfl, h⟩
theorem castD_inv {d : Option TypeDesc} {x : AV} {K : AV → Option R} {r : R} (h : castD d x K = some r) : K x = some r := by
  unfold castD at h
  split at h
  · obtain ⟨n, rfl, hk⟩ := asInt_inv h; exact hk
  · obtain ⟨n, rfl, hk⟩ := asBool_inv h; exact hk
  · exact h
theorem ldv_inv {h : Hp} {p : AV} {K : AV → Option R} {r : R} (k : ldv h p K = some r) : ∃ x, cellAt h p 0 = some x ∧ K x = some r := by
  unfold ldv at k
  split at k
  · exact ⟨_, ‹_›, k⟩
  · cases k
end inv

/-- An operation's own word: whatever stands for the state, it yields what stands for v, and leaves what stands for the new heap. -/
def OpRes (P : Program) (o : Oper) (ts : List AV) (h : Hp) (v : AV) (h' : Hp) : Prop :=
  ∀ J M w (a : Act), HR J M h w → a.tmps.size = ts.length → Vs J M ts (fun i => a.tmps[i]?) →
    ∀ (next : Act → World → Prop) (Q : Exit → Act → World → Prop), (∀ J' M' w' u, Stp J M h w J' M' h' w' → V J' M' v u → next (a.put o.dst u) w') → o.wp P a w next Q
def OpPan (P : Program) (o : Oper) (ts : List AV) (h : Hp) (v : AV) (h' : Hp) : Prop :=
  ∀ J M w (a : Act), HR J M h w → a.tmps.size = ts.length → Vs J M ts (fun i => a.tmps[i]?) →
    ∀ (next : Act → World → Prop) (Q : Exit → Act → World → Prop), (∀ J' M' w' u, Stp J M h w J' M' h' w' → V J' M' v u → Q (.panic [{ v := u, recovered := false }]) a w') → o.wp P a w next Q
theorem wp_val {P : Program} {o : Oper} {a : Act} {w w' : World} {u : Value} {next : Act → World → Prop} {Q : Exit → Act → World → Prop}
    (h : (execOp a.eval o).run P w = .ok (.value u) w') (k : next (a.put o.dst u) w') : o.wp P a w next Q := by
  unfold Oper.wp; rw [h]; exact k
theorem wp_skp {P : Program} {o : Oper} {a : Act} {w w' : World} {next : Act → World → Prop} {Q : Exit → Act → World → Prop}
    (h : (execOp a.eval o).run P w = .ok .skip w') (k : next (a.put o.dst undef) w') : o.wp P a w next Q := by
  unfold Oper.wp; rw [h]; exact k
theorem eval_rel {J M} {ts : List AV} {a : Act} (hs : a.tmps.size = ts.length) (hv : Vs J M ts (fun i => a.tmps[i]?)) (x : Operand) : V J M (aeval ts x) (a.eval x) := by
  cases x with
  | tmp t =>
    simp only [aeval, Act.eval, tget_eq, List.getD_eq_getElem?_getD]
    cases ht : ts[t]? with
    | none => simp [V]
    | some y =>
      obtain ⟨v, hv', hV⟩ := Vs_iff.1 hv _ _ ht
      simp only [Option.getD_some, Array.getD_eq_getD_getElem?, hv']
      exact hV
  | const v => exact V_ofVal v
  | global g => simp [aeval, V]
  | func f => simp only [aeval, Act.eval, V]; exact ⟨#[], #[], rfl, ⟨rfl, by simp [Vs]⟩, rfl, by simp [Vs]⟩
theorem Vs_map {J M} {ts : List AV} {a : Act} (hs : a.tmps.size = ts.length) (hv : Vs J M ts (fun i => a.tmps[i]?)) (l : List Operand) :
    Vs J M (l.map (aeval ts)) (fun i => (l.map a.eval)[i]?) := by
  refine Vs_iff.2 fun i x hx => ?_
  rw [List.getElem?_map, Option.map_eq_some_iff] at hx
  obtain ⟨y, hy, rfl⟩ := hx
  exact ⟨a.eval y, by simp [hy], eval_rel hs hv y⟩

section ops
variable {P : Program} {Γ : FuncId → Option Callee} {R : Type} {o : Oper} {ts : List AV} {h : Hp} {K Kp : AV → Hp → Option R} {r : R}

/-- What changes nothing and gives a value. -/
theorem OpRes.still {v : AV} (H : ∀ J M w (a : Act), HR J M h w → a.tmps.size = ts.length → Vs J M ts (fun i => a.tmps[i]?) → ∃ u, (execOp a.eval o).run P w = .ok (.value u) w ∧ V J M v u) :
    OpRes P o ts h v h := by
  intro J M w a hr hs hv next Q hn
  obtain ⟨u, hu, hV⟩ := H J M w a hr hs hv
  exact wp_val hu (hn J M w u (Stp.refl hr) hV)
theorem snd_move {x : Operand} (ho : o.op = .move x) : OpRes P o ts h (aeval ts x) h :=
  OpRes.still fun J M w a hr hs hv => ⟨a.eval x, by simp [execOp, ho], eval_rel hs hv x⟩
theorem snd_assign {x : Operand} (ho : o.op = .assign x) : OpRes P o ts h (aeval ts x) h :=
  OpRes.still fun J M w a hr hs hv => ⟨a.eval x, by simp [execOp, ho], eval_rel hs hv x⟩
theorem snd_pick {c x y : Operand} {b : Bool} (ho : o.op = .pick c x y) (hc : aeval ts c = .rv (.bool b)) : OpRes P o ts h (if b then aeval ts x else aeval ts y) h := by
  refine OpRes.still fun J M w a hr hs hv => ?_
  have hb := eval_rel hs hv c
  rw [hc] at hb
  simp only [V, VR] at hb
  refine ⟨if b then a.eval x else a.eval y, by simp [execOp, ho, hb, Go.asBool], ?_⟩
  cases b
  · exact eval_rel hs hv y
  · exact eval_rel hs hv x
/-- A new variable. -/
theorem OpRes.new {esz : Nat} {l : List AV} {g : AV} (hg : g = .ptr h.length 0 0 ∨ ∃ n, g = .sl h.length 0 0 n)
    (H : ∀ J M w (a : Act), HR J M h w → a.tmps.size = ts.length → Vs J M ts (fun i => a.tmps[i]?) →
      ∃ c t, Vs J M l (fun i => c[i]?) ∧ ((g = .ptr h.length 0 0 ∧ (execOp a.eval o).run P w = .ok (.value (.pointer (some ⟨w.heap.size, 0, none⟩))) (w.alloc (.cells c t))) ∨
        ∃ n m, g = .sl h.length 0 0 n ∧ n ≤ m ∧ m * esz ≤ c.size ∧ (execOp a.eval o).run P w = .ok (.value (.slice (some ⟨w.heap.size, 0, none⟩) n m)) (w.alloc (.cells c t)))) :
    OpRes P o ts h g (h ++ [⟨0, esz, l⟩]) := by
  intro J M w a hr hs hv next Q hn
  obtain ⟨c, t, hl, hx⟩ := H J M w a hr hs hv
  have st := HR.push hr esz l c t hl
  rcases hx with ⟨rfl, hrun⟩ | ⟨n, m, rfl, hnm, hsz, hrun⟩
  · exact wp_val hrun (hn _ _ _ _ st (by simp only [V]; exact ⟨⟨w.heap.size, c.size, esz⟩, by simp [newJ], rfl⟩))
  · exact wp_val hrun (hn _ _ _ _ st (by simp only [V]; exact ⟨⟨w.heap.size, c.size, esz⟩, by simp [newJ], _, m, rfl, hnm, .inr ⟨rfl, by simpa using hsz⟩⟩))
theorem zeroA_inv {t : TypeId} {l : List AV} (hz : zeroA P t = some l) : ∃ i z, P.info? t = some i ∧ i.zero = some z ∧ l = z.cells.toList.map ofVal := by
  unfold zeroA at hz
  split at hz
  · split at hz
    · simp only [Option.some.injEq] at hz
      exact ⟨_, _, ‹_›, ‹_›, hz.symm⟩
    · cases hz
  · cases hz
theorem run_zeroValue {t : TypeId} {i : TypeInfo} {z : Value} (hi : P.info? t = some i) (hz : i.zero = some z) (w : World) : (zeroValue t).run P w = .ok z w := by
  simp [zeroValue, typeInfo, hi, hz]
theorem Vs_zero {J M} (c : Array Value) : Vs J M (c.toList.map ofVal) (fun i => c[i]?) := by
  refine Vs_iff.2 fun i x hx => ?_
  rw [List.getElem?_map, Option.map_eq_some_iff] at hx
  obtain ⟨y, hy, rfl⟩ := hx
  exact ⟨y, by simpa using hy, V_ofVal y⟩
theorem snd_alloc {t : TypeId} {l : List AV} (ho : o.op = .alloc t) (hz : zeroA P t = some l) : OpRes P o ts h (.ptr h.length 0 0) (h ++ [⟨0, 1, l⟩]) := by
  obtain ⟨i, z, hi, hzz, rfl⟩ := zeroA_inv hz
  refine OpRes.new (.inl rfl) fun J M w a hr hs hv => ⟨z.cells, t, Vs_zero _, .inl ⟨rfl, ?_⟩⟩
  simp [execOp, ho, Instr.alloc, run_zeroValue hi hzz, newVar, newRow]
theorem snd_box {t : TypeId} {x : Operand} {l : List AV} (ho : o.op = .box t x) (hl : vcells (aeval ts x) = some l) : OpRes P o ts h (.ptr h.length 0 0) (h ++ [⟨0, 1, l⟩]) := by
  refine OpRes.new (.inl rfl) fun J M w a hr hs hv => ⟨(a.eval x).cells, t, (vcells_sound (eval_rel hs hv x) hl).2, .inl ⟨rfl, ?_⟩⟩
  simp [execOp, ho, Instr.box, newVar, newRow]
theorem isAgg_run {t : TypeId} {d : TypeDesc} (hd : P.underlying t = some d) (w : World) : (isAgg t).run P w = .ok (isAggD (some d)) w := by
  unfold isAgg
  simp only [Sem.run_bind]
  have : (underlying t).run P w = .ok d w := by simp [underlying, hd]
  rw [this]
  cases d <;> simp [isAggD]
theorem sizeOf_run {t : TypeId} {i : TypeInfo} (hi : P.info? t = some i) (w : World) : (sizeOf t).run P w = .ok i.size w := by simp [sizeOf, typeInfo, hi]
theorem info_of_underlying {t : TypeId} {d : TypeDesc} (hd : P.underlying t = some d) : ∃ i, P.info? t = some i := by
  unfold Program.underlying at hd
  cases hi : P.info? t with
  | none => rw [hi] at hd; cases hd
  | some i => exact ⟨i, rfl⟩
theorem cellsOf_eq {t : TypeId} {i : TypeInfo} (hi : P.info? t = some i) : P.cellsOf t = i.size := by simp [Program.cellsOf, hi]
theorem underlying_run {t : TypeId} {d : TypeDesc} (hd : P.underlying t = some d) (w : World) : (underlying t).run P w = .ok d w := by simp [underlying, hd]
theorem loadVar_one {t : TypeId} {d : TypeDesc} (hd : P.underlying t = some d) (ha : isAggD (some d) = false) {ad : Addr} {w : World} {v : Value} (hc : w.cell? ad = some v) :
    (loadVar t ad).run P w = .ok v w := by
  simp [loadVar, isAgg_run hd, ha, hc]
theorem loadVar_agg {t : TypeId} {d : TypeDesc} (hd : P.underlying t = some d) (ha : isAggD (some d) = true) {ad : Addr} {w : World} {vs : List Value} (hn : vs.length = P.cellsOf t)
    (hc : ∀ i v, vs[i]? = some v → w.cell? (ad.add i) = some v) : (loadVar t ad).run P w = .ok (.agg vs.toArray) w := by
  obtain ⟨i, hi⟩ := info_of_underlying hd
  rw [cellsOf_eq hi] at hn
  simp only [loadVar, Sem.run_bind, isAgg_run hd, Result.andThen_ok, ha, if_true, sizeOf_run hi]
  rw [← hn, run_loadCells_list w ad vs hc]
  simp
theorem add_zero (a : Addr) : a.add 0 = a := by simp [Addr.add]
theorem snd_load1 {t : TypeId} {x : Operand} {d : TypeDesc} {v : AV} (ho : o.op = .load t x) (hd : P.underlying t = some d) (ha : isAggD (some d) = false) (hx : cellAt h (aeval ts x) 0 = some v) :
    OpRes P o ts h v h := by
  refine OpRes.still fun J M w a hr hs hv => ?_
  obtain ⟨ad, u, hu, hc, hV⟩ := cellAt_sound hr (eval_rel hs hv x) hx
  rw [add_zero] at hc
  exact ⟨u, by simp [execOp, ho, Instr.loadAt, hu, Instr.sureAddr, loadVar_one hd ha hc], hV⟩
theorem snd_loadg {t : TypeId} {x : Operand} {d : TypeDesc} {l : List AV} (ho : o.op = .load t x) (hd : P.underlying t = some d) (ha : isAggD (some d) = true) (hn : P.cellsOf t ≠ 0)
    (hx : cellsN h (aeval ts x) 0 (P.cellsOf t) = some l) : OpRes P o ts h (.agg l) h := by
  refine OpRes.still fun J M w a hr hs hv => ?_
  obtain ⟨h0, hlen, H⟩ := cellsN_sound hr (eval_rel hs hv x) _ _ _ hx
  obtain ⟨ad, hu⟩ := h0.resolve_left hn
  obtain ⟨vs, hvl, hvc, hvV⟩ := H ad hu
  refine ⟨.agg vs.toArray, by simp [execOp, ho, Instr.loadAt, hu, Instr.sureAddr, loadVar_agg hd ha hvl (fun i v hi => by simpa using hvc i v hi)], ?_⟩
  simp only [V]
  exact ⟨_, rfl, by simp [hvl, hlen], by simpa using hvV⟩

/-! ### Writing -/
theorem setAt_length : ∀ (cs l : List AV) (off : Nat), (setAt l off cs).length = l.length
  | [], l, off => rfl
  | c :: cs, l, off => by simp only [setAt]; rw [setAt_length cs]; simp
theorem oneA_sound {J M} {x : AV} {v : Value} (hx : oneA x = true) (hV : V J M x v) : v.oneCell' = true := by
  cases x with
  | rv y => cases y <;> simp [oneA] at hx <;> simp only [V, VR] at hV <;> (try subst hV) <;> (try rfl) <;> (first | (obtain ⟨_, rfl, _⟩ := hV; rfl) | (obtain ⟨_, _, rfl, _⟩ := hV; rfl))
  | ptr => simp only [V] at hV; obtain ⟨_, _, rfl⟩ := hV; rfl
  | sl => simp only [V] at hV; obtain ⟨_, _, _, _, rfl, _⟩ := hV; rfl
  | func => simp only [V] at hV; obtain ⟨_, _, rfl, _⟩ := hV; rfl
  | iface => simp only [V] at hV; obtain ⟨_, rfl, _⟩ := hV; rfl
  | any => simp [oneA] at hx
  | agg => simp [oneA] at hx
  | tuple => simp [oneA] at hx
/-- An object is given other cells, in the same block, or (its stamp turned) in a new one. -/
theorem HR.put {J M h w} (r : HR J M h w) {o : Nat} {ob : Ob} {e : JE} (ho : h[o]? = some ob) (he : J o ob.ver = some e) {cells' : List AV} {c' : Array Value} {t : TypeId} {w' : World}
    (hw : w'.heap[e.b]? = some (.cells c' t (0, 0))) (hn : c'.size = e.n) (hl : Vs J M cells' (fun i => c'[i]?)) (hfr : Fr (fun b => b = e.b) w w') :
    Stp J M h w J M (h.set o { ob with cells := cells' }) w' := by
  have hlt := (List.getElem?_eq_some_iff.1 ho).1
  have cases' : ∀ o2 ob2, (h.set o { ob with cells := cells' })[o2]? = some ob2 → (o2 = o ∧ ob2 = { ob with cells := cells' }) ∨ (o2 ≠ o ∧ h[o2]? = some ob2) := by
    intro o2 ob2 h2
    rw [List.getElem?_set] at h2
    split at h2
    · rename_i e
      subst e
      simp only [Option.some.injEq] at h2
      exact .inl ⟨rfl, h2.symm⟩
    · rename_i hne; exact .inr ⟨fun e => hne e.symm, h2⟩
  have elt := owned_lt r ⟨o, ob, e, ho, he, rfl⟩
  have hr : HR J M (h.set o { ob with cells := cells' }) w' := by
    refine ⟨?_, ?_, ?_, ?_, ?_⟩
    · intro o2 ob2 h2
      rcases cases' o2 ob2 h2 with ⟨rfl, rfl⟩ | ⟨hne, h2⟩
      · obtain ⟨e', c0, t0, he', hs, _⟩ := r.ob o2 ob ho he
        rw [he] at he'; cases he'
        exact .inr ⟨e, c', t, he, hs, hw, hn, hl⟩
      · rcases r.ob0 o2 ob2 h2 with hd | ⟨e2, c2, t2, he2, hs2, hb2, hn2, hv2⟩
        · exact .inl hd
        refine .inr ⟨e2, c2, t2, he2, hs2, ?_, hn2, hv2⟩
        rw [hfr.block _ (lt_of_cells hb2) (fun hb => hne (r.inj _ _ _ _ _ _ h2 ho he2 he hb))]
        exact hb2
    · intro o2 v2 e2 k
      obtain ⟨ob2, hb2, hle⟩ := r.key _ _ _ k
      by_cases hne : o2 = o
      · subst hne
        rw [ho] at hb2; cases hb2
        exact ⟨{ ob with cells := cells' }, by simp [hlt], hle⟩
      · exact ⟨ob2, by rw [List.getElem?_set, if_neg (fun e => hne e.symm)]; exact hb2, hle⟩
    · intro o1 o2 ob1 ob2 e1 e2 h1 h2 k1 k2 hb
      have f1 : ∃ b1, h[o1]? = some b1 ∧ b1.ver = ob1.ver := by
        rcases cases' _ _ h1 with ⟨rfl, rfl⟩ | ⟨_, h1⟩
        · exact ⟨ob, ho, rfl⟩
        · exact ⟨ob1, h1, rfl⟩
      have f2 : ∃ b2, h[o2]? = some b2 ∧ b2.ver = ob2.ver := by
        rcases cases' _ _ h2 with ⟨rfl, rfl⟩ | ⟨_, h2⟩
        · exact ⟨ob, ho, rfl⟩
        · exact ⟨ob2, h2, rfl⟩
      obtain ⟨b1, g1, v1⟩ := f1
      obtain ⟨b2, g2, v2⟩ := f2
      exact r.inj _ _ _ _ _ _ g1 g2 (by rw [v1]; exact k1) (by rw [v2]; exact k2) hb
    · intro ad v k
      have hc := r.im ad v k
      have hb := World.block_lt_of_cell? _ _ hc
      rw [World.cell?_of_block (w := w) (hfr.block ad.block hb (fun e' => r.sep ad v o ob e k ho he e'))]
      exact hc
    · intro ad v o2 ob2 e2 k h2 k2
      rcases cases' _ _ h2 with ⟨rfl, rfl⟩ | ⟨_, h2⟩
      · rw [he] at k2; cases k2; exact r.sep ad v o2 ob e k ho he
      · exact r.sep _ _ _ _ _ k h2 k2
  have own : ∀ b, owned J (h.set o { ob with cells := cells' }) b → owned J h b := by
    rintro b ⟨o2, ob2, e2, h2, k2, rfl⟩
    rcases cases' _ _ h2 with ⟨rfl, rfl⟩ | ⟨_, h2⟩
    · exact ⟨o2, ob, e2, ho, k2, rfl⟩
    · exact ⟨o2, ob2, e2, h2, k2, rfl⟩
  refine ⟨JLe.refl J, MLe.refl M, hr, by simp, ⟨hfr.os, hfr.tape, hfr.output, hfr.size, fun b hb hno => hfr.block b hb (fun e' => hno ⟨o, ob, e, ho, he, e'.symm⟩)⟩, fun _ _ k => .inl k, fun b k => .inl (own b k), fun _ _ _ k => .inr ⟨_, _, k⟩⟩
/-- Cells stored one behind the other into a block of one's own. -/
theorem run_stores {J M} {b : Nat} {t : TypeId} : ∀ (vs : List Value) (cs : List AV) (off i : Nat) (l : List AV) (c : Array Value) (w : World), w.heap[b]? = some (.cells c t (0, 0)) → vs.length = cs.length →
    Vs J M cs (fun i => vs[i]?) → (∀ x, x ∈ cs → oneA x = true) → off + i + cs.length ≤ l.length → Vs J M l (fun i => c[i]?) →
    ∃ c' w', (storeCells ⟨b, off, none⟩ vs i).run P w = .ok () w' ∧ w'.heap[b]? = some (.cells c' t (0, 0)) ∧ c'.size = c.size ∧ Vs J M (setAt l (off + i) cs) (fun i => c'[i]?) ∧ Fr (fun x => x = b) w w'
  | [], cs, off, i, l, c, w, hw, hlen, _, _, _, hl => by
    cases cs with
    | nil => exact ⟨c, w, by simp [storeCells], hw, rfl, by simpa [setAt] using hl, Fr.refl _ w⟩
    | cons => simp at hlen
  | v :: vs, cs, off, i, l, c, w, hw, hlen, hcs, hone, hle, hl => by
    cases cs with
    | nil => simp at hlen
    | cons x cs =>
      simp only [Vs] at hcs
      obtain ⟨⟨v0, hv0, hV0⟩, hrest⟩ := hcs
      simp only [List.getElem?_cons_zero, Option.some.injEq] at hv0
      subst hv0
      have hlt : off + i < l.length := by simp at hle; omega
      have hc : off + i < c.size := by
        obtain ⟨u, hu, _⟩ := Vs_iff.1 hl (off + i) l[off + i] (List.getElem?_eq_getElem hlt)
        exact (Array.getElem?_eq_some_iff.1 hu).1
      have hcell : w.cell? ⟨b, off + i, none⟩ = some c[off + i] := by rw [cell_of_cells hw]; simp [hc]
      have hfz : w.frozen? ⟨b, off + i, none⟩ = false := frozen_of_row w b _ c t hw
      have hw1 : (w.setCell ⟨b, off + i, none⟩ v).heap[b]? = some (.cells (c.setIfInBounds (off + i) v) t (0, 0)) := heap_setCell_same w b _ c t v hw
      have hV1 : Vs J M (l.set (off + i) x) (fun j => (c.setIfInBounds (off + i) v)[j]?) := by
        refine Vs_iff.2 fun j y hy => ?_
        rw [List.getElem?_set] at hy
        by_cases hj : off + i = j
        · subst hj
          rw [if_pos rfl, if_pos hlt] at hy
          cases hy
          exact ⟨v, by simp [hc], hV0⟩
        · rw [if_neg hj] at hy
          obtain ⟨u, hu, hU⟩ := Vs_iff.1 hl _ _ hy
          exact ⟨u, by rw [Array.getElem?_setIfInBounds_ne hj]; exact hu, hU⟩
      obtain ⟨c', w', hrun, hw', hsz, hV', hfr'⟩ := run_stores (J := J) (M := M) (t := t) vs cs off (i + 1) (l.set (off + i) x) _ _ hw1 (by simpa using hlen) (by simpa using hrest)
        (fun y hy => hone y (List.mem_cons_of_mem _ hy)) (by simp at hle ⊢; omega) hV1
      refine ⟨c', w', ?_, hw', by rw [hsz]; simp, by simpa only [setAt, Nat.add_assoc] using hV', ?_⟩
      · simp only [storeCells, Sem.run_bind, add_none, run_store P w _ v .plain (oneA_sound (hone x (List.mem_cons_self ..)) hV0), hcell, hfz]
        simpa using hrun
      · refine ⟨hfr'.os, hfr'.tape, hfr'.output, by have := hfr'.size; simp at this; exact this, fun k hk hne => ?_⟩
        rw [hfr'.block k (by simpa using hk) hne]
        exact heap_setCell_other w _ k v hne
theorem snd_store {t : TypeId} {x y : Operand} {K' : Hp → Option R} (ho : o.op = .store t x y) (hi : (P.info? t).isSome = true) (hk : stv (P.cellsOf t) h (aeval ts x) (aeval ts y) K' = some r) :
    ∃ h', K' h' = some r ∧ OpRes P o ts h undefA h' := by
  unfold stv at hk
  split at hk
  · cases hk
  rename_i cs hcs
  split at hk
  case h_2 => cases hk
  rename_i ob ver off hx
  split at hk
  case h_2 => cases hk
  rename_i obj hob
  split at hk
  case isFalse => cases hk
  rename_i hc
  obtain ⟨hlen, hver, hoff, hone⟩ := hc
  refine ⟨_, hk, ?_⟩
  intro J M w a hr hs hv next Q hn
  have hX := eval_rel hs hv x
  rw [hx] at hX
  simp only [V] at hX
  obtain ⟨e, he, hax⟩ := hX
  obtain ⟨hys, hyV⟩ := vcells_sound (eval_rel hs hv y) hcs
  obtain ⟨e', c, tt, he', hes, hb, hn', hcv⟩ := hr.ob _ _ hob he
  rw [hver, he] at he'
  cases he'
  obtain ⟨c', w', hrun, hw', hsz, hV', hfr⟩ := run_stores (P := P) (J := J) (M := M) (a.eval y).cells.toList cs off 0 obj.cells c w hb (by simp [hys]) (by simpa using hyV)
    (fun z hz => List.all_eq_true.1 hone z hz) (by omega) hcv
  obtain ⟨inf, hinf⟩ := Option.isSome_iff_exists.1 hi
  rw [cellsOf_eq hinf] at hlen
  refine wp_skp (w' := w') ?_ (hn J M w' undef (HR.put hr hob (by rw [hver]; exact he) hw' (by rw [hsz, hn']) (by simpa using hV') hfr) (by simp [V, VR, undef, VRs]))
  simp only [execOp, ho, Instr.storeAt, hax, Instr.sureAddr, storeVar, Sem.run_bind, Sem.run_pure, Result.andThen_ok, sizeOf_run hinf]
  have hne : ¬ ((a.eval y).cells.size ≠ inf.size) := by rw [hys, hlen]; simp
  simp only [hne, if_false, hrun, Result.andThen_ok]

/-! ### Operations that read slots alone -/
theorem snd_nilCheck {x : Operand} {K' : AV → Option R} (ho : o.op = .nilCheck x) (hk : nck (aeval ts x) K' = some r) : ∃ v, K' v = some r ∧ OpRes P o ts h v h := by
  have key : ∀ v, aeval ts x = v → K' v = some r → (∀ J M u, V J M v u → (∃ ad, u = .pointer (some ad)) ∨ ∃ f us vs, u = .func (.func f) us vs) → ∃ v, K' v = some r ∧ OpRes P o ts h v h := by
    intro v hv hkv hu
    refine ⟨v, hkv, OpRes.still fun J M w a hr hs hvs => ⟨a.eval x, ?_, by rw [← hv]; exact eval_rel hs hvs x⟩⟩
    have hx := eval_rel hs hvs x
    rw [hv] at hx
    rcases hu J M _ hx with ⟨ad, e⟩ | ⟨f, us, vs, e⟩ <;> simp [execOp, ho, e]
  unfold nck at hk
  split at hk
  · exact key _ ‹_› hk fun J M u hV => by simp only [V] at hV; obtain ⟨e, _, rfl⟩ := hV; exact .inl ⟨_, rfl⟩
  · exact key _ ‹_› hk fun J M u hV => by simp only [V, VR] at hV; obtain ⟨e, rfl, _⟩ := hV; exact .inl ⟨_, rfl⟩
  · exact key _ ‹_› hk fun J M u hV => by simp only [V] at hV; obtain ⟨us, vs, rfl, _⟩ := hV; exact .inr ⟨_, _, _, rfl⟩
  · cases hk
theorem purely_run {α : Type} : ∀ (s : Sem α) (x : α) (w : World), purely P s = some x → s.run P w = .ok x w
  | .pure a, x, w, k => by simp only [purely, Option.some.injEq] at k; subst k; rfl
  | .program f, x, w, k => by simp only [purely] at k; exact purely_run (f P) x w k
  | .mark _ f, x, w, k => by simp only [purely] at k; exact purely_run f x w k
  | .load .., x, w, k | .store .., x, w, k | .new .., x, w, k | .shape .., x, w, k | .freeze .., x, w, k | .frozen .., x, w, k | .getObj .., x, w, k | .setObj .., x, w, k | .choose .., x, w, k | .sys .., x, w, k | .halt .., x, w, k => by simp [purely] at k
theorem snd_binA {op : BinOp} {t : TypeId} {x y : Operand} {t2 : TypeId} {K' : AV → Option R} (ho : o.op = .binOp op t x y t2) (hk : binA P op t x y (aeval ts x) (aeval ts y) K' = some r) :
    ∃ v, K' v = some r ∧ OpRes P o ts h v h := by
  unfold binA at hk
  split at hk
  case h_2 => cases hk
  rename_i u v hu hv
  split at hk
  case h_2 => cases hk
  rename_i z hz
  refine ⟨_, hk, OpRes.still fun J M w a hr hs hvs => ⟨z, ?_, V_ofVal z⟩⟩
  rw [← V_toVal hu (eval_rel hs hvs x), ← V_toVal hv (eval_rel hs hvs y)] at hz
  have := purely_run _ _ w hz
  simp only [Sem.run_bind] at this
  simp only [execOp, ho, Sem.run_bind, Sem.run_pure]
  revert this
  generalize (eqGuard op t x y (a.eval x) (a.eval y)).run P w = e1
  cases e1 with
  | ok _ w1 => intro this; simp only [Result.andThen_ok] at this ⊢; rw [this]; rfl
  | halt _ _ => intro this; simp at this
theorem V_int {J M} {k : IntKind} {n : Int} {v : Value} (hV : V J M (.rv (.int k n)) v) : v = .int k n := by simpa only [V, VR] using hV
theorem V_bool {J M} {b : Bool} {v : Value} (hV : V J M (.rv (.bool b)) v) : v = .bool b := by simpa only [V, VR] using hV
theorem V_int' {J M} (k : IntKind) (n : Int) : V J M (.rv (.int k n)) (.int k n) := by simp only [V, VR]
theorem V_bool' {J M} (b : Bool) : V J M (.rv (.bool b)) (.bool b) := by simp only [V, VR]
theorem eqGuard_int (op : BinOp) (t : TypeId) (x y : Operand) (k k' : IntKind) (m n : Int) (w : World) : (eqGuard op t x y (.int k m) (.int k' n)).run P w = .ok () w := by
  unfold eqGuard; split <;> simp
theorem eqGuard_bool (op : BinOp) (t : TypeId) (x y : Operand) (m n : Bool) (w : World) : (eqGuard op t x y (.bool m) (.bool n)).run P w = .ok () w := by
  unfold eqGuard; split <;> simp
theorem snd_int {op : BinOp} {t : TypeId} {x y : Operand} {t2 : TypeId} {k : IntKind} {m n : Int} {u : Value} {v : AV} (ho : o.op = .binOp op t x y t2)
    (hx : aeval ts x = .rv (.int k m)) (hy : aeval ts y = .rv (.int k n)) (hrun : ∀ w, (Go.binOp op t (.int k m) (.int k n)).run P w = .ok u w) (hv : ∀ J M, V J M v u) : OpRes P o ts h v h := by
  refine OpRes.still fun J M w a hr hs hvs => ⟨u, ?_, hv J M⟩
  have h1 := eval_rel hs hvs x
  have h2 := eval_rel hs hvs y
  rw [hx] at h1
  rw [hy] at h2
  simp only [execOp, ho, V_int h1, V_int h2, Sem.run_bind, eqGuard_int, Result.andThen_ok, hrun, Sem.run_pure]
theorem snd_bool {op : BinOp} {t : TypeId} {x y : Operand} {t2 : TypeId} {m n : Bool} {u : Value} {v : AV} (ho : o.op = .binOp op t x y t2)
    (hx : aeval ts x = .rv (.bool m)) (hy : aeval ts y = .rv (.bool n)) (hrun : ∀ w, (Go.binOp op t (.bool m) (.bool n)).run P w = .ok u w) (hv : ∀ J M, V J M v u) : OpRes P o ts h v h := by
  refine OpRes.still fun J M w a hr hs hvs => ⟨u, ?_, hv J M⟩
  have h1 := eval_rel hs hvs x
  have h2 := eval_rel hs hvs y
  rw [hx] at h1
  rw [hy] at h2
  simp only [execOp, ho, V_bool h1, V_bool h2, Sem.run_bind, eqGuard_bool, Result.andThen_ok, hrun, Sem.run_pure]
end ops
end Go.Proofs.Ytknphnmhjmejaaa

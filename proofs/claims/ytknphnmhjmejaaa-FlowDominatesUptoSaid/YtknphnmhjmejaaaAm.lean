/-  The abstract machine: a small evaluator for the code of a function, over values and a heap of its own. No conditions: definitions alone. -/
import Derived.WalkKit
import Derived.KernelRfl
import Derived.Orders
namespace Go.Proofs.Ytknphnmhjmejaaa

/-- Values that hold no address of a variable that may still be written. -/
inductive RV where
  | bool (b : Bool)
  | int (k : IntKind) (n : Int)
  | float (k : FloatKind) (b : Nat)
  | str (s : ByteArray)
  | nilp | nils | nilf | nili | nilm
  | rop (cs : List RV)
  | ros (cs : List RV) (len : Nat)
  | iface (t : TypeId) (x : RV)
  | agg (cs : List RV)
  | tuple (cs : List RV)

/-- Values, addresses of variables among them: an object's number, its stamp, a cell's place. -/
inductive AV where
  | any
  | rv (x : RV)
  | ptr (o ver off : Nat)
  | sl (o ver off len : Nat)
  | func (f : FuncId) (fst cap : List AV)
  | iface (t : TypeId) (x : AV)
  | agg (cs : List AV)
  | tuple (cs : List AV)

structure Ob where
  ver : Nat
  esz : Nat
  cells : List AV
abbrev Hp := List Ob
structure St where
  tmps : List AV
  heap : Hp
inductive AE where
  | normal
  | exit (id : Nat)
  | ret
  | pan (v : AV)
inductive Res where
  | ret (v : RV)
  | pan (v : RV)
inductive ARes where
  | ret (v : AV)
  | pan (v : AV)
inductive Callee where
  | pure (F : List RV → Option Res)
  | gen (G : List AV → Hp → Option (ARes × Hp))
  /-- What 'slices.Backward' hands back: ranged over alone. -/
  | back

abbrev undefA : AV := .rv (.tuple [])
abbrev ai (n : Int) : AV := .rv (.int .i64 n)
abbrev ab (b : Bool) : AV := .rv (.bool b)

def ofVal : Value → AV
  | .bool b => .rv (.bool b)
  | .int k n => .rv (.int k n)
  | .float k b => .rv (.float k b)
  | .string s => .rv (.str s)
  | .pointer none => .rv .nilp
  | .slice none 0 0 => .rv .nils
  | .nilFunc => .rv .nilf
  | .nilIface => .rv .nili
  | .map none => .rv .nilm
  | _ => .any
def toVal : AV → Option Value
  | .rv (.bool b) => some (.bool b)
  | .rv (.int k n) => some (.int k n)
  | .rv (.str s) => some (.string s)
  | .rv .nilp => some (.pointer none)
  | .rv .nils => some (.slice none 0 0)
  | .rv .nilf => some .nilFunc
  | .rv .nili => some .nilIface
  | .rv .nilm => some (.map none)
  | _ => none
noncomputable section
/-- A slot. -/
def tget (l : List AV) (n : Nat) : AV :=
  List.rec (motive := fun _ => Nat → AV) (fun _ => .any) (fun x _ ih n => Nat.rec (motive := fun _ => AV) x (fun m _ => ih m) n) l n
def tset (l : List AV) (n : Nat) (v : AV) : List AV :=
  List.rec (motive := fun _ => Nat → List AV) (fun _ => []) (fun x xs ih n => Nat.rec (motive := fun _ => List AV) (v :: xs) (fun m _ => x :: ih m) n) l n
theorem tget_eq : ∀ (l : List AV) (n : Nat), tget l n = l.getD n .any
  | [], _ => rfl
  | _ :: _, 0 => rfl
  | _ :: l, n + 1 => by
    show tget l n = _
    rw [tget_eq l n]
    simp
theorem tset_eq : ∀ (l : List AV) (n : Nat) (v : AV), tset l n v = l.set n v
  | [], _, _ => rfl
  | _ :: _, 0, _ => rfl
  | x :: l, n + 1, v => by
    show x :: tset l n v = _
    rw [tset_eq l n]
    rfl
def aeval (tmps : List AV) : Operand → AV
  | .tmp t => tget tmps t
  | .const v => ofVal v
  | .global _ => .any
  | .func f => .func f [] []

/-! Numbers that lie one on the other: which definition is opened first goes by how many others it lies on. -/
def h_0 : Nat := 0
def h_1 : Nat := h_0
def h_2 : Nat := h_1
def h_3 : Nat := h_2
def h_4 : Nat := h_3
def h_5 : Nat := h_4
def h_6 : Nat := h_5
def h_7 : Nat := h_6
def h_8 : Nat := h_7
def h_9 : Nat := h_8
def h_10 : Nat := h_9
def h_11 : Nat := h_10
def h_12 : Nat := h_11
def h_13 : Nat := h_12
def h_14 : Nat := h_13
def h_15 : Nat := h_14
def h_16 : Nat := h_15
def h_17 : Nat := h_16
def h_18 : Nat := h_17
def h_19 : Nat := h_18
def h_20 : Nat := h_19
def h_21 : Nat := h_20
def h_22 : Nat := h_21
def h_23 : Nat := h_22
def h_24 : Nat := h_23
def h_25 : Nat := h_24
def h_26 : Nat := h_25
def h_27 : Nat := h_26
def h_28 : Nat := h_27
def h_29 : Nat := h_28
def h_30 : Nat := h_29
def h_31 : Nat := h_30
section
variable {R : Type}
/-- Of two what a bool asks. -/
def bsp (b : Bool) (x y : Option R) : Option R :=
  match b with
  | true => x
  | false => let _t := h_20; y
/-- The same, where the bool is known ahead. -/
def bsq (b : Bool) (x y : Option R) : Option R :=
  match b with
  | true => x
  | false => let _t := h_31; y
def asInt (k : IntKind) (x : AV) (K : Int → Option R) : Option R :=
  match x with
  | .rv (.int k' n) => if k' = k then K n else (let _t := h_31; none)
  | _ => none
def asBool (x : AV) (K : Bool → Option R) : Option R :=
  match x with
  | .rv (.bool b) => K b
  | _ => let _t := h_31; none
/-- The same two, as parts of what is told of a load. -/
def asInt0 (k : IntKind) (x : AV) (K : Int → Option R) : Option R :=
  match x with
  | .rv (.int k' n) => if k' = k then K n else none
  | _ => none
def asBool0 (x : AV) (K : Bool → Option R) : Option R :=
  match x with
  | .rv (.bool b) => K b
  | _ => none
/-- A list's spine first. -/
def fcd (l : List AV) (K : List AV → Option R) : Option R :=
  List.rec (motive := fun _ => (List AV → Option R) → Option R) (fun k => let _t := h_31; k []) (fun x _ ih k => ih fun ys => k (x :: ys)) l K
theorem fcd_eq : ∀ (l : List AV) (K : List AV → Option R), fcd l K = K l
  | [], _ => rfl
  | x :: l, K => by
    show fcd l (fun ys => K (x :: ys)) = _
    rw [fcd_eq l]
def castD (d : Option TypeDesc) (x : AV) (K : AV → Option R) : Option R :=
  match d with
  | some (.int k) => asInt k x fun n => K (.rv (.int k n))
  | some .bool => asBool x fun b => K (.rv (.bool b))
  | _ => K x

def cellAt (h : Hp) (p : AV) (j : Nat) : Option AV :=
  match p with
  | .rv (.rop cs) => (cs[j]?).map .rv
  | .ptr o ver off =>
    match h[o]? with
    | some ob => if ob.ver = ver then ob.cells[off + j]? else none
    | none => none
  | _ => none
def cellsN (h : Hp) (p : AV) : Nat → Nat → Option (List AV)
  | _, 0 => some []
  | j, n + 1 => match cellAt h p j with
    | some x => match cellsN h p (j + 1) n with
      | some l => some (x :: l)
      | none => none
    | none => none
def ldv (h : Hp) (p : AV) (K : AV → Option R) : Option R :=
  match cellAt h p 0 with
  | some x => K x
  | none => none
def ldi (k : IntKind) (h : Hp) (p : AV) (K : Int → Option R) : Option R := ldv h p fun x => asInt0 k x K
def ldb (h : Hp) (p : AV) (K : Bool → Option R) : Option R := ldv h p fun x => asBool0 x K
def ldg (n : Nat) (h : Hp) (p : AV) (K : AV → Option R) : Option R :=
  match cellsN h p 0 n with
  | some l => K (.agg l)
  | none => none

/-- A value's cells, one behind the other. -/
def vcells : AV → Option (List AV)
  | .any => none
  | .rv (.agg cs) => some (cs.map .rv)
  | .agg cs => some cs
  | x => some [x]
def acells : AV → Option (List AV)
  | .rv (.agg cs) => some (cs.map .rv)
  | .agg cs => some cs
  | _ => none
def oneA : AV → Bool
  | .any | .agg _ | .tuple _ | .rv (.agg _) | .rv (.tuple _) => false
  | _ => true
def setAt : List AV → Nat → List AV → List AV
  | l, _, [] => l
  | l, off, c :: cs => setAt (l.set off c) (off + 1) cs
def stv (sz : Nat) (h : Hp) (p v : AV) (K : Hp → Option R) : Option R :=
  match vcells v with
  | none => none
  | some cs =>
    match p with
    | .ptr o ver off =>
      match h[o]? with
      | some ob => if cs.length = sz ∧ ob.ver = ver ∧ off + sz ≤ ob.cells.length ∧ cs.all oneA = true then K (h.set o { ob with cells := setAt ob.cells off cs }) else none
      | none => none
    | _ => none
def nwc (esz : Nat) (cs : Option (List AV)) (h : Hp) (K : AV → Hp → Option R) : Option R :=
  match cs with
  | some l => K (.ptr h.length 0 0) (h ++ [⟨0, esz, l⟩])
  | none => none
def pad (p : AV) (n : Nat) (K : AV → Option R) : Option R :=
  match p with
  | .ptr o ver off => K (.ptr o ver (off + n))
  | .rv (.rop cs) => K (.rv (.rop (cs.drop n)))
  | _ => none
def ixa (esz : Nat) (v : AV) (i : Int) (K : AV → Option R) : Option R :=
  match v with
  | .sl o ver off len => if 0 ≤ i ∧ i < len then K (.ptr o ver (off + i.toNat * esz)) else none
  | .rv (.ros cs len) => if 0 ≤ i ∧ i < len then K (.rv (.rop (cs.drop (i.toNat * esz)))) else none
  | _ => none
def lna (v : AV) (K : Int → Option R) : Option R :=
  match v with
  | .sl _ _ _ len => K len
  | .rv (.ros _ len) => K len
  | .rv .nils => K 0
  | _ => none
def lns (v : AV) (K : Int → Option R) : Option R :=
  match v with
  | .rv (.str s) => K s.size
  | _ => none
def nck (v : AV) (K : AV → Option R) : Option R :=
  match v with
  | .ptr o ver off => K (.ptr o ver off)
  | .rv (.rop cs) => K (.rv (.rop cs))
  | .func f fst cap => K (.func f fst cap)
  | _ => none
def pnc (v : AV) (K : AV → Option R) : Option R :=
  match v with
  | .rv (.iface t x) => K (.rv (.iface t x))
  | .iface t x => K (.iface t x)
  | _ => none
def room : Int := 140737488355328
def zrep (z : List AV) (n : Nat) : List AV := (List.replicate n z).flatten
def mks (esz bytes : Nat) (z : List AV) (h : Hp) (n : Int) (K : AV → Hp → Option R) : Option R :=
  if 0 ≤ n ∧ n ≤ room ∧ bytes * n ≤ room then K (.sl h.length 0 0 n.toNat) (h ++ [⟨0, esz, zrep z n.toNat⟩]) else none
def mkc (esz bytes : Nat) (z : List AV) (h : Hp) (n m : Int) (K : AV → Hp → Option R) : Option R :=
  if 0 ≤ n ∧ n ≤ m ∧ m ≤ room ∧ bytes * m ≤ room then K (.sl h.length 0 0 n.toNat) (h ++ [⟨0, esz, zrep z n.toNat⟩]) else none
/-- The cells of what is appended, and how many elements. -/
def wcells (esz : Nat) (h : Hp) (w : AV) : Option (Nat × List AV) :=
  match w with
  | .rv .nils => some (0, [])
  | .rv (.ros cs len) => if len * esz ≤ cs.length then some (len, (cs.take (len * esz)).map .rv) else none
  | .sl o ver off len =>
    match h[o]? with
    | some ob => if ob.ver = ver ∧ off + len * esz ≤ ob.cells.length then some (len, (ob.cells.drop off).take (len * esz)) else none
    | none => none
  | _ => none
def apn (esz bytes : Nat) (h : Hp) (v w : AV) (K : AV → Hp → Option R) : Option R :=
  match wcells esz h w with
  | none => none
  | some (n, new) =>
    match v with
    | .rv .nils => if n = 0 then K (.rv .nils) h else if (n : Int) ≤ room ∧ bytes * (n : Int) ≤ room ∧ new.all oneA = true then K (.sl h.length 0 0 n) (h ++ [⟨0, esz, new⟩]) else none
    | .sl o ver off len =>
      match h[o]? with
      | some ob =>
        if off = 0 ∧ ob.ver = ver ∧ ob.esz = esz ∧ len * esz ≤ ob.cells.length ∧ ((len + n : Nat) : Int) ≤ room ∧ bytes * ((len + n : Nat) : Int) ≤ room ∧ new.all oneA = true then
          K (.sl o (ver + 1) 0 (len + n)) (h.set o ⟨ver + 1, esz, ob.cells.take (len * esz) ++ new⟩)
        else none
      | none => none
    | _ => none
def liveA (esz : Nat) (h : Hp) (o ver : Nat) : Bool :=
  match h[o]? with
  | some ob => decide (ob.ver = ver ∧ ob.esz = esz)
  | none => false
def slc (esz : Nat) (h : Hp) (v : AV) (lo hi : Option Int) (K : AV → Option R) : Option R :=
  match v with
  | .sl o ver off len =>
    if liveA esz h o ver = true ∧ 0 ≤ lo.getD 0 ∧ lo.getD 0 ≤ hi.getD len ∧ hi.getD len ≤ len then K (.sl o ver (off + (lo.getD 0).toNat * esz) (hi.getD len - lo.getD 0).toNat) else none
  | .rv (.ros cs len) =>
    if 0 ≤ lo.getD 0 ∧ lo.getD 0 ≤ hi.getD len ∧ hi.getD len ≤ len then
      K (.rv (.ros ((cs.drop ((lo.getD 0).toNat * esz)).take ((hi.getD len - lo.getD 0).toNat * esz)) (hi.getD len - lo.getD 0).toNat)) else none
  | .rv .nils => if lo.getD 0 = 0 ∧ hi.getD 0 = 0 then K (.rv .nils) else none
  | _ => none

/-- What a value reads as, all that is written being held still. -/
def toRV (h : Hp) : Nat → AV → Option RV
  | 0, _ => none
  | _ + 1, .rv x => some x
  | n + 1, .sl o ver off len =>
    match h[o]? with
    | some ob => if ob.ver = ver ∧ off + len * ob.esz ≤ ob.cells.length then
        (((ob.cells.drop off).take (len * ob.esz)).mapM (toRV h n)).map fun cs => .ros cs len else none
    | none => none
  | n + 1, .ptr o ver off =>
    match h[o]? with
    | some ob => if ob.ver = ver then ((ob.cells.drop off).mapM (toRV h n)).map .rop else none
    | none => none
  | n + 1, .iface t x => (toRV h n x).map (.iface t)
  | n + 1, .agg cs => (cs.mapM (toRV h n)).map .agg
  | n + 1, .tuple cs => (cs.mapM (toRV h n)).map .tuple
  | _ + 1, _ => none
def depthA : Nat := 12
mutual
/-- Does a value hold no address of what may still be written? -/
def isRV : AV → Bool
  | .rv _ => true
  | .agg cs => allRV cs
  | .tuple cs => allRV cs
  | .iface _ x => isRV x
  | _ => false
def allRV : List AV → Bool
  | [] => true
  | x :: xs => isRV x && allRV xs
end
/-- Numbers, bools, and what is made of them without a slice or an address. -/
def scalR : RV → Bool
  | .bool _ | .int _ _ | .float _ _ | .str _ | .nilp | .nils | .nilf | .nili | .nilm => true
  | _ => false
def flatR : RV → Bool
  | .tuple cs => cs.all scalR
  | .iface _ x => scalR x
  | x => scalR x
def callP (F : List RV → Option Res) (h : Hp) (args : List AV) (K Kp : AV → Option R) : Option R :=
  match args.mapM (toRV h depthA) with
  | some rs => match F rs with
    | some (.ret r) => if args.all isRV = true ∨ flatR r = true then K (.rv r) else none
    | some (.pan r) => if args.all isRV = true ∨ flatR r = true then Kp (.rv r) else none
    | none => none
  | none => none
def callG (G : List AV → Hp → Option (ARes × Hp)) (h : Hp) (args : List AV) (K Kp : AV → Hp → Option R) : Option R :=
  match G args h with
  | some (.ret r, h') => K r h'
  | some (.pan r, h') => Kp r h'
  | none => none
def callC (Γ : FuncId → Option Callee) (f : FuncId) (h : Hp) (args : List AV) (K Kp : AV → Hp → Option R) : Option R :=
  match Γ f with
  | some (.pure F) => callP F h args (fun v => K v h) (fun v => Kp v h)
  | some (.gen G) => callG G h args K Kp
  | _ => none
def callV (Γ : FuncId → Option Callee) (f : AV) (h : Hp) (args : List AV) (K Kp : AV → Hp → Option R) : Option R :=
  match f with
  | .func g fst cap => callC Γ g h (fst ++ args ++ cap) K Kp
  | _ => none

/-- What a computation gives that asks nothing of the world. -/
def purely (P : Program) {α : Type} : Sem α → Option α
  | .pure a => some a
  | .program k => purely P (k P)
  | .mark _ k => purely P k
  | _ => none
/-- Which kind of type has a nil of its own. -/
def nilKind : Option TypeDesc → Nat
  | some (.pointer _) => 1
  | some (.slice _) => 2
  | some (.func ..) => 3
  | some (.interface _) => 4
  | some (.map ..) => 5
  | _ => 0
def nilLike (d : Nat) (x : AV) : Option Bool :=
  match d, x with
  | 1, .rv .nilp | 2, .rv .nils | 3, .rv .nilf | 4, .rv .nili | 5, .rv .nilm => some true
  | 1, .ptr .. | 1, .rv (.rop _) | 2, .sl .. | 2, .rv (.ros ..) | 3, .func .. | 4, .iface .. | 4, .rv (.iface ..) => some false
  | _, _ => none
/-- An operation of two words; of pointers, slices, function and interface values alone whether they are nil. -/
def binA (P : Program) (op : BinOp) (t : TypeId) (x y : Operand) (a b : AV) (K : AV → Option R) : Option R :=
  match toVal a, toVal b with
  | some u, some v => match purely P (do eqGuard op t x y u v; binOp op t u v) with
    | some z => K (ofVal z)
    | none => none
  | _, _ => none
def nilEq (neg : Bool) (d : Nat) (a : AV) (K : Bool → Option R) : Option R :=
  match nilLike d a with
  | some c => K (if neg then !c else c)
  | none => none
def nilConst : Operand → Nat
  | .const (.pointer none) => 1
  | .const (.slice none 0 0) => 2
  | .const .nilFunc => 3
  | .const .nilIface => 4
  | .const (.map none) => 5
  | _ => 0
def wri (k : IntKind) (n : Int) : Int := k.wrap n
/-- Which kinds of an operation are written out. -/
def binK (P : Program) (op : BinOp) (t : TypeId) (x y : Operand) (a b : AV) (K : AV → Option R) : Option R :=
  bsq (Nat.beq (nilConst y) 0)
  (match P.underlying t, op with
  | some (.int k), .quo => asInt k a fun m => asInt k b fun n => if n = 0 then none else K (.rv (.int k (wri k (m.tdiv n))))
  | some (.int k), .rem => asInt k a fun m => asInt k b fun n => if n = 0 then none else K (.rv (.int k (m.tmod n)))
  | some (.int k), .add => asInt k a fun m => asInt k b fun n => K (.rv (.int k (wri k (m + n))))
  | some (.int k), .sub => asInt k a fun m => asInt k b fun n => K (.rv (.int k (wri k (m - n))))
  | some (.int k), .mul => asInt k a fun m => asInt k b fun n => K (.rv (.int k (wri k (m * n))))
  | some (.int k), .eql => asInt k a fun m => asInt k b fun n => K (ab (m == n))
  | some (.int k), .neq => asInt k a fun m => asInt k b fun n => K (ab (m != n))
  | some (.int k), .lss => asInt k a fun m => asInt k b fun n => K (ab (decide (m < n)))
  | some (.int k), .leq => asInt k a fun m => asInt k b fun n => K (ab (decide (m ≤ n)))
  | some (.int k), .gtr => asInt k a fun m => asInt k b fun n => K (ab (decide (m > n)))
  | some (.int k), .geq => asInt k a fun m => asInt k b fun n => K (ab (decide (m ≥ n)))
  | some .bool, .eql => asBool a fun m => asBool b fun n => K (ab (m == n))
  | some .bool, .neq => asBool a fun m => asBool b fun n => K (ab (!(m == n)))
  | _, _ => binA P op t x y a b K)
  (bsq (Nat.beq (nilConst y) (nilKind (P.underlying t)))
    (match op with
    | .eql => nilEq false (nilKind (P.underlying t)) a fun c => K (ab c)
    | .neq => nilEq true (nilKind (P.underlying t)) a fun c => K (ab c)
    | _ => none) none)
def unK (P : Program) (op : UnOp) (a : AV) (K : AV → Option R) : Option R :=
  match op with
  | .not => asBool a fun b => K (ab (!b))
  | _ => match toVal a with
    | some u => match purely P (Op.unary op u) with
      | some z => K (ofVal z)
      | none => none
    | none => none
def cvK (P : Program) (s d : TypeId) (a : AV) (K : AV → Option R) : Option R :=
  match P.underlying s, P.underlying d with
  | some (.int k), some (.int k') => asInt k a fun n => K (.rv (.int k' (wri k' n)))
  | _, _ => none
def fieldOff (P : Program) (t : TypeId) (i : Nat) : Option (Nat × TypeId) :=
  match P.underlying t with
  | some (.struct fs) => match fs[i]? with
    | some f => some (f.offset, f.type)
    | none => none
  | _ => none
def isAggD : Option TypeDesc → Bool
  | some (.struct _) | some (.array ..) => true
  | _ => false
def elemSz (P : Program) (t : TypeId) : Option (Nat × Nat × TypeId) :=
  match P.underlying t with
  | some (.slice e) => match P.info? e with
    | some i => some (i.size, i.bytes, e)
    | none => none
  | _ => none
def zeroA (P : Program) (t : TypeId) : Option (List AV) :=
  match P.info? t with
  | some i => match i.zero with
    | some z => some (z.cells.toList.map ofVal)
    | none => none
  | none => none
/-- An element type's zero value, if it has as many cells as it must. -/
def zeroE (P : Program) (e : TypeId) (sz : Nat) : Option (List AV) :=
  match zeroA P e with
  | some z => bsq (Nat.beq z.length sz && Nat.ble 1 sz) (some z) none
  | none => none
def zero1 (P : Program) (t : TypeId) : Option AV :=
  match P.info? t with
  | some i => match i.zero with
    | some (.agg _) => none
    | some z => some (ofVal z)
    | none => none
  | none => none
def fillA : List AV → List (Option (Nat × Nat) × AV) → Option (List AV)
  | cells, [] => some cells
  | cells, (pl, v) :: rest =>
    match pl with
    | none => none
    | some (off, size) => match vcells v with
      | none => none
      | some cs => if cs.length = size ∧ off + size ≤ cells.length then fillA (setAt cells off cs) rest else none
def bld (z : List AV) (parts : List (Option (Nat × Nat) × AV)) (K : AV → Option R) : Option R :=
  match fillA z parts with
  | some cs => K (.agg cs)
  | none => none
def bsl (sz len : Nat) (z : List AV) (parts : List (Option (Nat × Nat) × AV)) (h : Hp) (K : AV → Hp → Option R) : Option R :=
  match fillA (zrep z len) parts with
  | some cs => K (.sl h.length 0 0 len) (h ++ [⟨0, sz, cs⟩])
  | none => none
def sameOp : Operand → Operand → Bool
  | .tmp a, .tmp b => Nat.beq a b
  | _, _ => false
def fldA (n off : Nat) (single : Bool) (x : AV) (K : AV → Option R) : Option R :=
  match acells x with
  | none => none
  | some cs => if off + n ≤ cs.length then (if single then match cs[off]? with | some c => K c | none => none else K (.agg ((cs.drop off).take n))) else none
def xtr (x : AV) (i : Nat) (K : AV → Option R) : Option R :=
  match x with
  | .tuple cs => match cs[i]? with | some c => K c | none => none
  | .rv (.tuple cs) => match cs[i]? with | some c => K (.rv c) | none => none
  | _ => none
def mkI (t : TypeId) (x : AV) : AV :=
  match x with
  | .rv r => .rv (.iface t r)
  | x => .iface t x
def tasA (t : TypeId) (z : Option AV) (x : AV) (K : AV → Option R) : Option R :=
  match x with
  | .rv (.iface u r) => if u = t then K (.tuple [.rv r, ab true]) else match z with
    | some c => K (.tuple [c, ab false])
    | _ => none
  | _ => none

variable (P : Program) (Γ : FuncId → Option Callee)
def callO (type : TypeId) (c : Call) (ev : Operand → AV) (h : Hp) (K Kp : AV → Hp → Option R) : Option R :=
  match c.callee with
  | .value f => callV Γ (ev f) h (c.args.toList.map ev) (fun v h => castD (P.underlying type) v fun v => K v h) Kp
  | .invoke .. => none
  | .builtin .len => match c.args.toList, c.argTypes.toList with
    | [x], [t] => match P.underlying t with
      | some (.slice _) => lna (ev x) fun n => K (ai n) h
      | some .string => lns (ev x) fun n => K (ai n) h
      | _ => none
    | _, _ => none
  | .builtin .append => match c.args.toList, c.argTypes.toList with
    | [x, y], [t, u] => match elemSz P t, P.underlying u with
      | some (sz, bytes, e), some (.slice _) => bsq (zeroE P e sz).isSome (apn sz bytes h (ev x) (ev y) K) none
      | _, _ => none
    | _, _ => none
  | _ => none
def aop (o : Oper) (σ : St) (K Kp : AV → Hp → Option R) : Option R :=
  let ev := aeval σ.tmps
  let h := σ.heap
  match o.op with
  | .move x | .assign x => K (ev x) h
  | .pick c a b => asBool (ev c) fun t => bsp t (K (ev a) h) (K (ev b) h)
  | .alloc t => nwc 1 (zeroA P t) h K
  | .box _ x => nwc 1 (vcells (ev x)) h K
  | .build t parts =>
    match P.underlying t, zeroA P t with
    | some (.struct fs), some z =>
      bsq (fs.toList.all fun f => (P.info? f.type).isSome) (bld z (parts.toList.map fun p => ((fs[p.1]?).map fun f => (f.offset, P.cellsOf f.type), ev p.2)) fun v => K v h) none
    | _, _ => none
  | .buildSlice t len parts =>
    match elemSz P t with
    | some (sz, _, e) => match zeroE P e sz with
      | some z =>
        bsq (Nat.ble (len * sz) 16777216) (bsl sz len z (parts.toList.map fun p => (some (p.1 * sz, sz), ev p.2)) h K) none
      | none => none
    | none => none
  | .load t a =>
    match P.underlying t with
    | none => none
    | some (.struct _) => bsq (Nat.beq (P.cellsOf t) 0) none (ldg (P.cellsOf t) h (ev a) fun v => K v h)
    | some (.array ..) => bsq (Nat.beq (P.cellsOf t) 0) none (ldg (P.cellsOf t) h (ev a) fun v => K v h)
    | some (.int k) => ldi k h (ev a) fun n => K (.rv (.int k n)) h
    | some .bool => ldb h (ev a) fun b => K (ab b) h
    | some _ => ldv h (ev a) fun v => K v h
  | .store t a x => bsq (P.info? t).isSome (stv (P.cellsOf t) h (ev a) (ev x) fun h => K undefA h) none
  | .nilCheck x => nck (ev x) fun v => K v h
  | .binOp op t x y _ => binK P op t x y (ev x) (ev y) fun v => K v h
  | .unOp op _ x => unK P op (ev x) fun v => K v h
  | .convert s d x => cvK P s d (ev x) fun v => K v h
  | .makeInterface t x => match P.underlying t with
    | some (.interface _) => none
    | some _ => K (mkI t (ev x)) h
    | none => none
  | .makeFunc (.func f) first cap => K (.func f (first.toList.map ev) (cap.toList.map ev)) h
  | .makeSlice t a b => match elemSz P t with
    | some (sz, bytes, e) => match zeroE P e sz with
      | some z => bsq (sameOp a b) (asInt .i64 (ev a) fun n => mks sz bytes z h n K) (asInt .i64 (ev a) fun n => asInt .i64 (ev b) fun m => mkc sz bytes z h n m K)
      | none => none
    | none => none
  | .slice t x lo hi none => match elemSz P t with
    | some (sz, _, _) => match lo, hi with
      | none, none => slc sz h (ev x) none none fun v => K v h
      | some l, none => asInt .i64 (ev l) fun l => slc sz h (ev x) (some l) none fun v => K v h
      | none, some u => asInt .i64 (ev u) fun u => slc sz h (ev x) none (some u) fun v => K v h
      | some l, some u => asInt .i64 (ev l) fun l => asInt .i64 (ev u) fun u => slc sz h (ev x) (some l) (some u) fun v => K v h
    | none => none
  | .fieldAddr t x i => match fieldOff P t i with
    | some (off, ft) => bsq (Nat.beq (P.cellsOf ft) 0) none (pad (ev x) off fun v => K v h)
    | none => none
  | .field t x i => match fieldOff P t i with
    | some (off, ft) => bsq (P.underlying ft).isSome (fldA (P.cellsOf ft) off (!isAggD (P.underlying ft)) (ev x) fun v => castD (P.underlying ft) v fun v => K v h) none
    | none => none
  | .indexAddr t x i => match elemSz P t with
    | some (sz, _, _) => asInt .i64 (ev i) fun i => ixa sz (ev x) i fun v => K v h
    | none => none
  | .typeAssert x _ t true => match P.underlying t with
    | some (.interface _) => none
    | some _ => tasA t (zero1 P t) (ev x) fun v => K v h
    | none => none
  | .extract x i => xtr (ev x) i fun v => castD (P.underlying o.type) v fun v => K v h
  | .call c => callO P Γ o.type c ev h K Kp
  | .panic x => pnc (ev x) fun v => Kp v h
  | _ => none
def putA (d : Option Tmp) (v : AV) (tmps : List AV) : List AV :=
  match d with
  | some d => tset tmps d v
  | none => tmps
/-- Has each operation but the last one another behind it that waits for it? -/
def depOk (all : List Oper) : Bool := (List.range (all.length - 1)).all fun i => (List.range all.length).any fun j => Nat.blt i j && match all[j]? with
  | some oj => oj.after.any fun e => Region.binds .any e && e.on == i
  | none => false
/-- May no panic come here? -/
def drl (dr e : Bool) (all : List Oper) : Bool :=
  match dr with
  | false => let _t := h_31; false
  | true => match e with
    | false => true
    | true => !(depOk all)
def aops (ops : Array Oper) (dr : Bool) : List Nat → St → (AE → St → Option R) → Option R
  | [], σ, K => K .normal σ
  | i :: is, σ, K =>
    match ops[i]? with
    | none => aops ops dr is σ K
    | some o =>
      match o.guard with
      | none => aop P Γ o σ (fun v h => fcd (putA o.dst v σ.tmps) fun ts => aops ops dr is ⟨ts, h⟩ K) (fun v h => bsq (drl dr is.isEmpty ops.toList) none (K (.pan v) ⟨σ.tmps, h⟩))
      | some (j, want) =>
        match (ops[j]?).bind (·.dst) with
        | none => none
        | some d =>
          match tget σ.tmps d with
          | .rv (.bool b) =>
            bsp b
              (fcd (tset σ.tmps d (ab true)) fun us => match want with
                | true => aop P Γ o ⟨us, σ.heap⟩ (fun v h => fcd (putA o.dst v us) fun ts => aops ops dr is ⟨ts, h⟩ K) (fun v h => bsq (drl dr is.isEmpty ops.toList) none (K (.pan v) ⟨us, h⟩))
                | false => fcd (putA o.dst undefA us) fun ts => aops ops dr is ⟨ts, σ.heap⟩ K)
              (fcd (tset σ.tmps d (ab false)) fun us => match want with
                | true => fcd (putA o.dst undefA us) fun ts => aops ops dr is ⟨ts, σ.heap⟩ K
                | false => aop P Γ o ⟨us, σ.heap⟩ (fun v h => fcd (putA o.dst v us) fun ts => aops ops dr is ⟨ts, h⟩ K) (fun v h => bsq (drl dr is.isEmpty ops.toList) none (K (.pan v) ⟨us, h⟩)))
          | .rv (.tuple []) => fcd (putA o.dst undefA σ.tmps) fun ts => aops ops dr is ⟨ts, σ.heap⟩ K
          | _ => none

def lget (l : List Oper) (n : Nat) : Option Oper :=
  List.rec (motive := fun _ => Nat → Option Oper) (fun _ => none) (fun x _ ih n => Nat.rec (motive := fun _ => Option Oper) (some x) (fun m _ => ih m) n) l n
theorem lget_eq : ∀ (l : List Oper) (n : Nat), lget l n = l[n]?
  | [], _ => rfl
  | _ :: _, 0 => rfl
  | _ :: l, n + 1 => by
    show lget l n = _
    rw [lget_eq l n]
    simp
/-- The same as 'aops', along the list itself. -/
def aopsL (all : List Oper) (dr : Bool) (l : List Oper) : St → (AE → St → Option R) → Option R :=
  List.rec (motive := fun _ => St → (AE → St → Option R) → Option R) (fun σ K => K .normal σ)
    (fun o tl ih σ K =>
      match o.guard with
      | none => aop P Γ o σ (fun v h => fcd (putA o.dst v σ.tmps) fun ts => ih ⟨ts, h⟩ K) (fun v h => bsq (drl dr tl.isEmpty all) none (K (.pan v) ⟨σ.tmps, h⟩))
      | some (j, want) =>
        match (lget all j).bind (·.dst) with
        | none => none
        | some d =>
          match tget σ.tmps d with
          | .rv (.bool b) =>
            bsp b
              (fcd (tset σ.tmps d (ab true)) fun us => match want with
                | true => aop P Γ o ⟨us, σ.heap⟩ (fun v h => fcd (putA o.dst v us) fun ts => ih ⟨ts, h⟩ K) (fun v h => bsq (drl dr tl.isEmpty all) none (K (.pan v) ⟨us, h⟩))
                | false => fcd (putA o.dst undefA us) fun ts => ih ⟨ts, σ.heap⟩ K)
              (fcd (tset σ.tmps d (ab false)) fun us => match want with
                | true => fcd (putA o.dst undefA us) fun ts => ih ⟨ts, σ.heap⟩ K
                | false => aop P Γ o ⟨us, σ.heap⟩ (fun v h => fcd (putA o.dst v us) fun ts => ih ⟨ts, h⟩ K) (fun v h => bsq (drl dr tl.isEmpty all) none (K (.pan v) ⟨us, h⟩)))
          | .rv (.tuple []) => fcd (putA o.dst undefA σ.tmps) fun ts => ih ⟨ts, σ.heap⟩ K
          | _ => none) l
theorem aopsL_cons (all : List Oper) (dr : Bool) (o : Oper) (l : List Oper) (σ : St) (K : AE → St → Option R) : aopsL P Γ all dr (o :: l) σ K =
      match o.guard with
      | none => aop P Γ o σ (fun v h => fcd (putA o.dst v σ.tmps) fun ts => aopsL P Γ all dr l ⟨ts, h⟩ K) (fun v h => bsq (drl dr l.isEmpty all) none (K (.pan v) ⟨σ.tmps, h⟩))
      | some (j, want) =>
        match (lget all j).bind (·.dst) with
        | none => none
        | some d =>
          match tget σ.tmps d with
          | .rv (.bool b) =>
            bsp b
              (fcd (tset σ.tmps d (ab true)) fun us => match want with
                | true => aop P Γ o ⟨us, σ.heap⟩ (fun v h => fcd (putA o.dst v us) fun ts => aopsL P Γ all dr l ⟨ts, h⟩ K) (fun v h => bsq (drl dr l.isEmpty all) none (K (.pan v) ⟨us, h⟩))
                | false => fcd (putA o.dst undefA us) fun ts => aopsL P Γ all dr l ⟨ts, σ.heap⟩ K)
              (fcd (tset σ.tmps d (ab false)) fun us => match want with
                | true => fcd (putA o.dst undefA us) fun ts => aopsL P Γ all dr l ⟨ts, σ.heap⟩ K
                | false => aop P Γ o ⟨us, σ.heap⟩ (fun v h => fcd (putA o.dst v us) fun ts => aopsL P Γ all dr l ⟨ts, h⟩ K) (fun v h => bsq (drl dr l.isEmpty all) none (K (.pan v) ⟨us, h⟩)))
          | .rv (.tuple []) => fcd (putA o.dst undefA σ.tmps) fun ts => aopsL P Γ all dr l ⟨ts, σ.heap⟩ K
          | _ => none := rfl
theorem aopsL_eq (ops : Array Oper) (dr : Bool) : ∀ (l : List Oper) (k : Nat), ops.toList.drop k = l → ∀ (σ : St) (K : AE → St → Option R), aopsL P Γ ops.toList dr l σ K = aops P Γ ops dr (List.range' k l.length) σ K
  | [], k, _, σ, K => rfl
  | o :: l, k, hk, σ, K => by
    have ho : ops[k]? = some o := by
      have := congrArg (fun x => x[0]?) hk
      simpa using this
    have ih := aopsL_eq ops dr l (k + 1) (by
      have := congrArg List.tail hk
      simpa using this)
    have hem : (List.range' (k + 1) l.length).isEmpty = l.isEmpty := by cases l <;> rfl
    rw [aopsL_cons, List.length_cons, List.range'_succ]
    simp only [aops, ho, lget_eq, ih, Array.getElem?_toList, hem]
/-- Which slots are kept where a piece of code is come to, by its place. -/
abbrev Ann := List (Nat × List Nat)
def keepA (keep : List Nat) : Nat → List AV → List AV
  | _, [] => []
  | i, v :: vs => bif keep.contains i then v :: keepA keep (i + 1) vs else .any :: keepA keep (i + 1) vs
def hasA (ann : Ann) (pos : Nat) : Bool := ann.any fun x => Nat.beq x.1 pos
def clrA (ann : Ann) (pos : Nat) (σ : St) : St :=
  match ann.find? (fun x => Nat.beq x.1 pos) with
  | some x => ⟨keepA x.2 0 σ.tmps, σ.heap⟩
  | none => σ
mutual
def belA (n : Nat) : AV → Bool
  | .ptr o _ _ => decide (o < n)
  | .sl o _ _ _ => decide (o < n)
  | .func _ fst cap => belL n fst && belL n cap
  | .iface _ x => belA n x
  | .agg cs => belL n cs
  | .tuple cs => belL n cs
  | _ => true
def belL (n : Nat) : List AV → Bool
  | [] => true
  | x :: xs => belA n x && belL n xs
end
def trm (n : Nat) (tmps : List AV) (h : Hp) (K : Hp → Option R) : Option R :=
  if belL n tmps = true ∧ (h.take n).all (fun ob => belL n ob.cells) = true then K (h.take n) else none
abbrev Cont (R : Type) := AE → St → Option R
/-- A place that has a name. -/
def pnt (f : St → Cont R → Option R) (σ : St) (K : Cont R) : Option R := f σ K
def seqK (f : St → Cont R → Option R) (mk : Bool) (cl : St → St) (K : Cont R) : Cont R := fun e σ =>
  match e with
  | .normal => bsq mk (pnt f (cl σ) K) (f σ K)
  | .exit i => K (.exit i) σ
  | .ret => K .ret σ
  | .pan v => K (.pan v) σ
def blkK (id : Nat) (K : Cont R) : Cont R := fun e σ =>
  match e with
  | .normal => K .normal σ
  | .exit i => bsq (Nat.beq i id) (K .normal σ) (K (.exit i) σ)
  | .ret => K .ret σ
  | .pan v => K (.pan v) σ
/-- What stands behind a loop's round: 'f', the loop itself, once more. -/
def itK (f : St → Cont R → Option R) (cl : St → St) (tr : Bool) (n0 : Nat) (K : Cont R) : Cont R := fun e σ =>
  match e with
  | .normal => bsq tr (trm n0 (cl σ).tmps σ.heap fun h => f ⟨(cl σ).tmps, h⟩ K) (f (cl σ) K)
  | .exit i => K (.exit i) σ
  | .ret => K .ret σ
  | .pan v => K (.pan v) σ
/-- The same. -/
def itL (f : St → Cont R → Option R) (cl : St → St) (tr : Bool) (n0 : Nat) (K : Cont R) : Cont R := fun e σ =>
  match e with
  | .normal => match tr with
    | true => trm n0 (cl σ).tmps σ.heap fun h => f ⟨(cl σ).tmps, h⟩ K
    | false => f (cl σ) K
  | .exit i => K (.exit i) σ
  | .ret => K .ret σ
  | .pan v => K (.pan v) σ
def aloop (body : St → Cont R → Option R) (cl : St → St) (tr : Bool) (n0 : Nat) (n : Nat) : St → Cont R → Option R :=
  Nat.rec (motive := fun _ => St → Cont R → Option R) (fun _ _ => none) (fun _ ih σ K => body σ (itL ih cl tr n0 K)) n
/-- May the operations of a region be done in any order? -/
def calm : Op → Nat
  | .move _ | .assign _ | .pick .. | .nilCheck _ | .binOp .. | .unOp .. | .convert .. | .makeInterface .. | .makeFunc .. | .fieldAddr .. | .field .. | .indexAddr .. | .typeAssert .. | .extract .. | .build .. => 0
  | .call { callee := .builtin .len, .. } => 0
  | .load .. | .slice .. => 1
  | .call { callee := .value (.func _), .. } => 2
  | _ => 3
def calmO (Γ : FuncId → Option Callee) (o : Op) : Nat :=
  match o with
  | .call { callee := .value (.func f), .. } => match Γ f with
    | some (.pure _) => 1
    | _ => 3
  | o => calm o
def calmPair (a b : Nat) : Bool := a == 0 || b == 0 || (a == 1 && b == 1)
def calmAt (ops : Array Oper) (listed : Array Bool) (i : Nat) : Bool :=
  match ops[i]? with
  | none => false
  | some oi => (List.range ops.size).all fun j => j == i || listed.getD j true || match ops[j]? with
      | some oj => oj.after.any (fun e => Region.binds .any e && e.on == i) || calmPair (calmO Γ oi.op) (calmO Γ oj.op)
      | none => true
def calmFrom (ops : Array Oper) : Nat → Nat → Array Bool → Bool
  | 0, _, _ => true
  | fuel + 1, k, listed => calmAt Γ ops listed k && calmFrom ops fuel (k + 1) (listed.setIfInBounds k true)
def drawOk (ops : Array Oper) : Bool := Region.lexB .any ops && calmFrom Γ ops ops.size 0 (Array.replicate ops.size false)

/-- Holds a piece of code no range over a function? -/
def noR (c : Code) : Bool :=
  Code.rec (motive := fun _ => Bool) true (fun _ _ _ => true) (fun _ _ a b => a && b) (fun _ _ _ a b => a && b) (fun _ _ a => a) (fun _ a => a) (fun _ _ _ _ _ _ => false) (fun _ => true) (fun _ a => a) (fun _ => true) (fun _ => true) true (fun _ => true) c
/-- A range over what 'slices.Backward' hands back. -/
def rfA (v : AV) (K : AV → Option R) : Option R :=
  match v with
  | .func f [] [p] => match Γ f with
    | some .back => K p
    | _ => none
  | _ => none
def bkn (v : AV) (K : Nat → Option R) : Option R := lna v fun n => if n ≤ room then K n.toNat else none
def bkK (f : Hp → Cont R → Option R) (K : Cont R) : Cont R := fun e σ =>
  match e with
  | .normal => f σ.heap K
  | _ => none
/-- Behind the assignments of a round: its body. -/
def asgK (f : St → Cont R → Option R) (mk : Bool) (cl : St → St) (K : Cont R) : Cont R := fun e σ =>
  match e with
  | .normal => bsq mk (pnt f (cl σ) K) (f σ K)
  | _ => none
def bkl (f : St → Cont R → Option R) (p : AV) (i j : Nat) (ts : List AV) (n : Nat) : Hp → Cont R → Option R :=
  Nat.rec (motive := fun _ => Hp → Cont R → Option R) (fun h K => K .normal ⟨ts, h⟩)
    (fun m ih h K => ldv h p fun s => ixa 1 s m fun q => ldi .i64 h q fun x => fcd (tset (tset ts i (ai m)) j (ai x)) fun us => f ⟨us, h⟩ (bkK ih K)) n
def prm (ps : Array Tmp) (K : Nat → Nat → Option R) : Option R :=
  match ps.toList with
  | [i, j] => K i j
  | _ => none
/-! ### Regions in any order in which loads and what writes do not wait for each other -/
def isW (o : Oper) : Bool := Nat.ble 2 (calmO Γ o.op)
/-- What each operation comes behind, as bits. -/
def ancM (acc : List Nat) (o : Oper) : Nat := o.after.toList.foldr (fun e m => bif Region.binds .any e then 2 ^ e.on ||| (acc.getD e.on 0 ||| m) else m) 0
def ancs (l : List Oper) : List Nat := l.foldl (fun acc o => acc ++ [ancM acc o]) []
def ordT (an : List Nat) (i j : Nat) : Bool := Nat.testBit (an.getD j 0) i
def isL (o : Oper) : Bool := match o.op with | .load .. => true | _ => false
def wPair (an : List Nat) (i : Nat) (oi : Oper) (j : Nat) : Bool := i == j || ordT an i j || ordT an j i || (!(isW Γ oi) && (calmO Γ oi.op == 0 || isL oi))
def wOk (ops : Array Oper) (an : List Nat) : Bool := Region.lexB .any ops && ops.toList.all (fun o => o.guard.isNone) && (List.range ops.size).all fun j => match lget ops.toList j with
  | none => false
  | some oj => !(isW Γ oj) || (List.range ops.size).all fun i => match lget ops.toList i with
    | none => false
    | some oi => wPair Γ an i oi j
open Classical in
/-- Reads a place the same elsewhere? -/
def sv1 (h : Hp) (p v : AV) (K : Option R) : Option R := if cellAt h p 0 = some v then K else none
open Classical in
def svg (n : Nat) (h : Hp) (p v : AV) (K : Option R) : Option R := if ∃ l, cellsN h p 0 n = some l ∧ v = .agg l then K else none
def sld (t : TypeId) (h : Hp) (p v : AV) (K : Option R) : Option R :=
  match P.underlying t with
  | some (.struct _) => svg (P.cellsOf t) h p v K
  | some (.array ..) => svg (P.cellsOf t) h p v K
  | _ => sv1 h p v K
abbrev Pend := List (Nat × TypeId × AV × AV)
def ckP (an : List Nat) (j : Nat) (h : Hp) (pend : Pend) (K : Option R) : Option R :=
  List.rec (motive := fun _ => Option R) K (fun x _ ih => bsq (ordT an x.1 j) ih (sld P x.2.1 h x.2.2.1 x.2.2.2 ih)) pend
def ckH (an : List Nat) (i : Nat) (t : TypeId) (p v : AV) (hs : List (Nat × Hp)) (K : Option R) : Option R :=
  List.rec (motive := fun _ => Option R) K (fun x _ ih => bsq (ordT an x.1 i) ih (sld P t x.2 p v ih)) hs
def aopsW (all : List Oper) (an : List Nat) (l : List Oper) : Nat → Pend → List (Nat × Hp) → St → Cont R → Option R :=
  List.rec (motive := fun _ => Nat → Pend → List (Nat × Hp) → St → Cont R → Option R) (fun _ _ _ σ K => K .normal σ)
    (fun o tl ih i pend hs σ K => aop P Γ o σ
      (fun v h => fcd (putA o.dst v σ.tmps) fun ts => bsq (isW Γ o)
        (ckP P an i h pend (ih (i + 1) pend (hs ++ [(i, σ.heap)]) ⟨ts, h⟩ K))
        (match o.op with
          | .load t x => ckH P an i t (aeval σ.tmps x) v hs (ih (i + 1) (pend ++ [(i, t, aeval σ.tmps x, v)]) hs ⟨ts, h⟩ K)
          | _ => ih (i + 1) pend hs ⟨ts, h⟩ K))
      (fun v h => bsq (drl true tl.isEmpty all) none (K (.pan v) ⟨σ.tmps, h⟩))) l
def regW (ops : Array Oper) (σ : St) (K : Cont R) : Option R := bsq (wOk Γ ops (ancs ops.toList)) (aopsW P Γ ops.toList (ancs ops.toList) ops.toList 0 [] [] σ K) none
variable (ann : Ann) (trims : List Nat) (k : Nat)
def trimOf (pos : Nat) : Bool := trims.any fun x => Nat.beq x pos
def regA (ops : Array Oper) (draw : Bool) (σ : St) (K : Cont R) : Option R :=
  bsq draw (bsq (drawOk Γ ops) (aopsL P Γ ops.toList true ops.toList σ K) (regW P Γ ops σ K)) (aopsL P Γ ops.toList false ops.toList σ K)
theorem regA_eq (ops : Array Oper) (draw : Bool) (σ : St) (K : Cont R) : regA P Γ ops draw σ K = bsq draw (bsq (drawOk Γ ops) (aops P Γ ops true (List.range ops.size) σ K) (regW P Γ ops σ K)) (aops P Γ ops false (List.range ops.size) σ K) := by
  unfold regA
  have h := fun dr => aopsL_eq P Γ ops dr ops.toList 0 rfl σ K
  rw [h, h, List.range_eq_range']
  rfl
/-- A piece of code, at its place in the function's. -/
def acode (c : Code) : Nat → St → Cont R → Option R :=
  Code.rec (motive := fun _ => Nat → St → Cont R → Option R)
    (fun _ σ K => K .normal σ)
    (fun _ ops draw _ σ K => regA P Γ ops draw σ K)
    (fun _ _ fa fb pos σ K => fa (2 * pos) σ (seqK (fb (2 * pos + 1)) (hasA ann (2 * pos + 1)) (clrA ann (2 * pos + 1)) K))
    (fun c _ _ fa fb pos σ K => asBool (aeval σ.tmps c) fun t => bsp t (fa (2 * pos) σ K) (fb (2 * pos + 1) σ K))
    (fun id _ fc pos σ K => fc (2 * pos) σ (blkK id K))
    (fun _ fc pos σ K => aloop (fc (2 * pos)) (clrA ann (2 * pos)) (trimOf trims (2 * pos)) σ.heap.length k (clrA ann (2 * pos) σ) K)
    (fun g ps a b fa fb pos σ K => rfA Γ (aeval σ.tmps g) fun p => prm ps fun i j => bsq (noR a && noR b)
      (ldv σ.heap p fun s => bkn s fun m => bkl (fun σ K => fa (2 * pos) σ (asgK (fb (2 * pos + 1)) (hasA ann (2 * pos + 1)) (clrA ann (2 * pos + 1)) K)) p i j (clrA ann pos σ).tmps m σ.heap K) none)
    (fun id _ σ K => K (.exit id) σ)
    (fun _ _ _ _ _ => none)
    (fun _ _ _ _ => none)
    (fun _ _ _ _ => none)
    (fun _ σ K => K .ret σ)
    (fun _ _ _ _ => none)
    c
end
def cdAt : List Bool → Code → Code
  | [], c => c
  | false :: p, .seq a _ => cdAt p a
  | true :: p, .seq _ b => cdAt p b
  | false :: p, .cond _ a _ => cdAt p a
  | true :: p, .cond _ _ b => cdAt p b
  | _ :: p, .block _ c => cdAt p c
  | _ :: p, .loop c => cdAt p c
  | false :: p, .rangeFunc _ _ a _ => cdAt p a
  | true :: p, .rangeFunc _ _ _ b => cdAt p b
  | _, c => c
/-- A place's way from the top, out of its number's digits. -/
def pathGo : Nat → Nat → List Bool → List Bool
  | 0, _, acc => acc
  | fuel + 1, n, acc => bif Nat.ble n 1 then acc else pathGo fuel (n / 2) (Nat.beq (n % 2) 1 :: acc)
def pathOf (pos : Nat) : List Bool := pathGo 200 pos []
/-- Slots of which nothing is known, ahead of others. -/
def an : Nat → List AV → List AV
  | 0, l => l
  | n + 1, l => .any :: an n l
def bodyOf (fn : Func) : Code := fn.body.getD .skip
def finR (o : Option AV) (h : Hp) : Option (ARes × Hp) :=
  match o with
  | some v => some (.ret v, h)
  | none => none
def resA (P : Program) (tmps : List AV) (h : Hp) (r : ResultVar) : Option AV :=
  match r with
  | .tmp t => some (tget tmps t)
  | .cell t ty => match P.underlying ty with
    | some (.struct _) => bsq (Nat.beq (P.cellsOf ty) 0) none ((cellsN h (tget tmps t) 0 (P.cellsOf ty)).map .agg)
    | some (.array ..) => none
    | some _ => cellAt h (tget tmps t) 0
    | none => none
def two (x y : Option AV) : Option AV :=
  match x, y with
  | some a, some b => some (.tuple [a, b])
  | _, _ => none
def three (x y z : Option AV) : Option AV :=
  match x, y, z with
  | some a, some b, some c => some (.tuple [a, b, c])
  | _, _, _ => none
def resOf (P : Program) (fn : Func) (tmps : List AV) (h : Hp) : Option AV :=
  match fn.results.toList with
  | [] => some undefA
  | [r] => resA P tmps h r
  | [r, s] => two (resA P tmps h r) (resA P tmps h s)
  | [r, s, t] => three (resA P tmps h r) (resA P tmps h s) (resA P tmps h t)
  | _ => none
def finA (P : Program) (fn : Func) (e : AE) (σ : St) : Option (ARes × Hp) :=
  match e with
  | .normal | .ret => finR (resOf P fn σ.tmps σ.heap) σ.heap
  | .pan v => some (.pan v, σ.heap)
  | .exit _ => none
def fnA (P : Program) (Γ : FuncId → Option Callee) (ann : Ann) (trims : List Nat) (k : Nat) (fn : Func) (args : List AV) (h : Hp) : Option (ARes × Hp) :=
  bsq (Nat.ble args.length fn.ntmps) (acode P Γ ann trims k (bodyOf fn) 1 ⟨args ++ List.replicate (fn.ntmps - args.length) undefA, h⟩ (finA P fn)) none
/-- A function's answer to values held still: nothing that was there is written. -/
def pureR (o : Option (ARes × Hp)) : Option Res :=
  match o with
  | some (.ret v, h) => (toRV h depthA v).map .ret
  | some (.pan v, h) => (toRV h depthA v).map .pan
  | none => none
end
/-- More rounds, and more calls within calls, than there ever are. -/
def big : Nat := 4611686018427387904
end Go.Proofs.Ytknphnmhjmejaaa

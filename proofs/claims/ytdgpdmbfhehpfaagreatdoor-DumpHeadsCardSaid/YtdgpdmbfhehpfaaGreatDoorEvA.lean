/-
  An evaluator for runs with given inputs: values with block numbers of their own, memory as a tree. Definitions alone.
-/
import GoSem.Step
import Derived.Orders
import GoSem.ClaimKeys
set_option linter.all false
namespace Go.Proofs.YtdgpdmbfhehpfaaGreatDoor.Ev

inductive Cap where
  | exact (c : Nat)
  | rest (k : Nat)
  deriving Inhabited

inductive AVal where
  | bool (b : Bool)
  | int (k : IntKind) (n : Int)
  | str (s : ByteArray)
  | ptr (b o : Nat)
  | nilp
  | slice (b o len : Nat) (cap : Cap)
  | nils
  | map (b : Nat)
  | nilmap
  | func (fn : Fn) (first captured : List AVal)
  | nilf
  | iface (t : Nat) (v : AVal)
  | nili
  | agg (cs : List AVal)
  | tup (vs : List AVal)
  deriving Inhabited

def AVal.undef : AVal := .tup []

structure AEntry where
  key : AVal
  val : AVal
  born : Nat
  deriving Inhabited

inductive AObj where
  | cells (cs : List AVal) (elem : Nat) (exact wr : Bool)
  | map (es : List AEntry) (clock : Nat)
  | dead
  deriving Inhabited

inductive T (α : Type) where
  | e
  | leaf (k : Nat) (v : α)
  | node (l r : T α)

instance {α} : Inhabited (T α) := ⟨.e⟩

/-! by recursor -/
/-- number i of a list -/
noncomputable def lget (l : List AVal) : Nat → AVal :=
  List.rec (motive := fun _ => Nat → AVal) (fun _ => .undef) (fun a _ ih i => Nat.rec (motive := fun _ => AVal) a (fun j _ => ih j) i) l

/-- the list with number i turned -/
noncomputable def lset (v : AVal) (l : List AVal) : Nat → List AVal :=
  List.rec (motive := fun _ => Nat → List AVal) (fun _ => []) (fun a as ih i => Nat.rec (motive := fun _ => List AVal) (v :: as) (fun j _ => a :: ih j) i) l
/-! till here -/

/-- what stands under number k; i: the bits of k that are left -/
def T.get {α : Type} (k : Nat) : Nat → T α → Nat → Option α
  | _, .leaf k' v, _ => match Nat.beq k' k with | true => some v | false => none
  | d+1, .node l r, i => match Nat.beq (Nat.mod i 2) 0 with | true => get k d l (Nat.div i 2) | false => get k d r (Nat.div i 2)
  | _, _, _ => none

def T.set {α : Type} (k : Nat) (v : α) : Nat → T α → Nat → T α
  | 0, _, _ => .leaf k v
  | d+1, .node l r, i => match Nat.beq (Nat.mod i 2) 0 with | true => .node (set k v d l (Nat.div i 2)) r | false => .node l (set k v d r (Nat.div i 2))
  | d+1, _, i => match Nat.beq (Nat.mod i 2) 0 with | true => .node (set k v d .e (Nat.div i 2)) .e | false => .node .e (set k v d .e (Nat.div i 2))

/-- the same by recursor -/
noncomputable def T.getF {α : Type} (k d : Nat) : T α → Nat → Option α :=
  Nat.rec (motive := fun _ => T α → Nat → Option α)
    (fun t _ => T.casesOn t none (fun k' v => Bool.casesOn (Nat.beq k' k) none (some v)) (fun _ _ => none))
    (fun _ ih t i => T.casesOn t none (fun k' v => Bool.casesOn (Nat.beq k' k) none (some v)) (fun l r => Bool.casesOn (Nat.beq (Nat.mod i 2) 0) (ih r (Nat.div i 2)) (ih l (Nat.div i 2)))) d

noncomputable def T.setF {α : Type} (k : Nat) (v : α) (d : Nat) : T α → Nat → T α :=
  Nat.rec (motive := fun _ => T α → Nat → T α)
    (fun _ _ => .leaf k v)
    (fun _ ih t i => T.casesOn t
      (Bool.casesOn (Nat.beq (Nat.mod i 2) 0) (.node .e (ih .e (Nat.div i 2))) (.node (ih .e (Nat.div i 2)) .e))
      (fun _ _ => Bool.casesOn (Nat.beq (Nat.mod i 2) 0) (.node .e (ih .e (Nat.div i 2))) (.node (ih .e (Nat.div i 2)) .e))
      (fun l r => Bool.casesOn (Nat.beq (Nat.mod i 2) 0) (.node l (ih r (Nat.div i 2))) (.node (ih l (Nat.div i 2)) r))) d

theorem T.getF_eq {α : Type} (k : Nat) : ∀ (d : Nat) (t : T α) (i : Nat), T.getF k d t i = T.get k d t i
  | 0, t, i => by
    cases t with
    | leaf k' v =>
      have e : T.getF k 0 (.leaf k' v : T α) i = Bool.casesOn (Nat.beq k' k) none (some v) := rfl
      rw [e]
      simp only [T.get]
      cases Nat.beq k' k <;> rfl
    | _ => rfl
  | d+1, t, i => by
    cases t with
    | e => rfl
    | leaf k' v =>
      have e : T.getF k (d+1) (.leaf k' v : T α) i = Bool.casesOn (Nat.beq k' k) none (some v) := rfl
      rw [e]
      simp only [T.get]
      cases Nat.beq k' k <;> rfl
    | node l r =>
      have e : T.getF k (d+1) (.node l r) i = Bool.casesOn (Nat.beq (Nat.mod i 2) 0) (T.getF k d r (Nat.div i 2)) (T.getF k d l (Nat.div i 2)) := rfl
      rw [e, T.getF_eq k d, T.getF_eq k d]
      simp only [T.get]
      cases Nat.beq (Nat.mod i 2) 0 <;> rfl

theorem T.setF_eq {α : Type} (k : Nat) (v : α) : ∀ (d : Nat) (t : T α) (i : Nat), T.setF k v d t i = T.set k v d t i
  | 0, t, i => by cases t <;> rfl
  | d+1, t, i => by
    cases t with
    | e =>
      have e : T.setF k v (d+1) (.e : T α) i = Bool.casesOn (Nat.beq (Nat.mod i 2) 0) (.node .e (T.setF k v d .e (Nat.div i 2))) (.node (T.setF k v d .e (Nat.div i 2)) .e) := rfl
      rw [e, T.setF_eq k v d]
      simp only [T.set]
      cases Nat.beq (Nat.mod i 2) 0 <;> rfl
    | leaf k' v' =>
      have e : T.setF k v (d+1) (.leaf k' v' : T α) i = Bool.casesOn (Nat.beq (Nat.mod i 2) 0) (.node .e (T.setF k v d .e (Nat.div i 2))) (.node (T.setF k v d .e (Nat.div i 2)) .e) := rfl
      rw [e, T.setF_eq k v d]
      simp only [T.set]
      cases Nat.beq (Nat.mod i 2) 0 <;> rfl
    | node l r =>
      have e : T.setF k v (d+1) (.node l r) i = Bool.casesOn (Nat.beq (Nat.mod i 2) 0) (.node l (T.setF k v d r (Nat.div i 2))) (.node (T.setF k v d l (Nat.div i 2)) r) := rfl
      rw [e, T.setF_eq k v d, T.setF_eq k v d]
      simp only [T.set]
      cases Nat.beq (Nat.mod i 2) 0 <;> rfl

structure Heap where
  t : T AObj
  next : Nat
  deriving Inhabited

noncomputable def Heap.get (h : Heap) (b : Nat) : Option AObj := T.getF b 16 h.t b
noncomputable def Heap.put (h : Heap) (b : Nat) (o : AObj) : Heap := ⟨T.setF b o 16 h.t b, h.next⟩

structure ADef where
  fn : Fn
  captured : List AVal
  args : List AVal
  deriving Inhabited

inductive ANext where
  | value (v : AVal)
  | skip
  | enter (f : Nat) (args : List AVal)
  | defer (d : ADef)
  | recover

abbrev Out := Option (ANext × Heap)

def out (h : Heap) : Option AVal → Out
  | some v => some (.value v, h)
  | none => none

def ofAtom : Value → Option AVal
  | .bool b => some (.bool b)
  | .int k n => some (.int k n)
  | .string s => some (.str s)
  | .pointer none => some .nilp
  | .slice none 0 0 => some .nils
  | .map none => some .nilmap
  | .nilFunc => some .nilf
  | .nilIface => some .nili
  | _ => none

def ofAtoms : List Value → Option (List AVal)
  | [] => some []
  | v :: vs => (ofAtom v).bind fun a => (ofAtoms vs).bind fun as => some (a :: as)

def ofVal : Value → Option AVal
  | .agg cs => (ofAtoms cs.toList).map .agg
  | .tuple cs => (ofAtoms cs.toList).map .tup
  | .iface t v => (ofAtom v).map (.iface t)
  | v => ofAtom v

/-- in which order the operations of a drawn region are reckoned: those that are taken first, then whatever may come up, branch by branch -/
inductive Plan where
  | stuck
  | done
  | take (i : Nat) (k : Plan)
  | none
  | br (i : Nat) (k rest : Plan)
  deriving Inhabited

/-- the package-level variables that may be named; the functions without a body that hand back what they get; the plans of the drawn regions: function, region -/
structure Prm where
  vars : List Nat
  ids : List Nat
  plans : Nat → Nat → Plan

variable (P : Program) (gs : Prm)

noncomputable def aev (ts : List AVal) : Operand → Option AVal
  | .tmp t => some (lget ts t)
  | .const v => ofVal v
  | .global g => match gs.vars.elem g with | true => some (.ptr g 0) | false => none
  | .func f => some (.func (.func f) [] [])

noncomputable def aevs (ts : List AVal) : List Operand → Option (List AVal)
  | [] => some []
  | x :: xs => (aev gs ts x).bind fun a => (aevs ts xs).bind fun as => some (a :: as)

def AVal.cells : AVal → List AVal
  | .agg cs => cs
  | v => [v]

def tsize (t : Nat) : Option Nat := (P.info? t).map (·.size)
def tbytes (t : Nat) : Option Nat := (P.info? t).map (·.bytes)
def tzero (t : Nat) : Option AVal := ((P.info? t).bind (·.zero)).bind ofVal
def isAgg (t : Nat) : Option Bool := (P.underlying t).map fun | .struct _ | .array _ _ => true | _ => false

/-! ### numbers -/
def ikEq : IntKind → IntKind → Bool
  | .i8, .i8 => true | .i16, .i16 => true | .i32, .i32 => true | .i64, .i64 => true
  | .u8, .u8 => true | .u16, .u16 => true | .u32, .u32 => true | .u64, .u64 => true
  | _, _ => false

def ilt : Int → Int → Bool
  | .ofNat a, .ofNat b => Nat.blt a b
  | .ofNat _, .negSucc _ => false
  | .negSucc _, .ofNat _ => true
  | .negSucc a, .negSucc b => Nat.blt b a

def ieq : Int → Int → Bool
  | .ofNat a, .ofNat b => Nat.beq a b
  | .negSucc a, .negSucc b => Nat.beq a b
  | _, _ => false

def fits : IntKind → Int → Bool
  | .i64, .ofNat a => Nat.blt a 9223372036854775808
  | .i64, .negSucc a => Nat.blt a 9223372036854775808
  | .u64, .ofNat a => Nat.blt a 18446744073709551616
  | .u32, .ofNat a => Nat.blt a 4294967296
  | .u8, .ofNat a => Nat.blt a 256
  | _, _ => false

def awrap (k : IntKind) (n : Int) : Int := match fits k n with | true => n | false => k.wrap n

/-- the bits of two numbers that are not negative -/
def bitsOf (op : BinOp) (k : IntKind) (x y : Int) : Option AVal :=
  match op, x, y, fits k x, fits k y with
  | .and, .ofNat a, .ofNat b, true, true => some (.int k (.ofNat (Nat.land a b)))
  | .or, .ofNat a, .ofNat b, true, true => some (.int k (.ofNat (Nat.lor a b)))
  | .xor, .ofNat a, .ofNat b, true, true => some (.int k (.ofNat (Nat.xor a b)))
  | _, _, _, _, _ => none

def bytesEq : List UInt8 → List UInt8 → Bool
  | [], [] => true
  | a :: as, b :: bs => match Nat.beq a.toNat b.toNat with | true => bytesEq as bs | false => false
  | _, _ => false

def strEq (x y : ByteArray) : Bool := bytesEq x.data.toList y.data.toList

def strOp (op : BinOp) (x y : ByteArray) : Option AVal :=
  match op with
  | .add => match Nat.blt x.size 65536, Nat.blt y.size 65536 with
    | true, true => some (.str ⟨⟨x.data.toList ++ y.data.toList⟩⟩)
    | _, _ => none
  | .eql => some (.bool (strEq x y))
  | .neq => some (.bool !(strEq x y))
  | .lss => some (.bool (Op.bytesLess x.data.toList y.data.toList))
  | _ => none

def intOp (op : BinOp) (k : IntKind) (x y : Int) : Option AVal :=
  match op with
  | .add => some (.int k (awrap k (x + y)))
  | .sub => some (.int k (awrap k (x - y)))
  | .mul => some (.int k (awrap k (x * y)))
  | .quo => match ieq y 0 with | true => none | false => some (.int k (awrap k (x.tdiv y)))
  | .rem => match ieq y 0 with | true => none | false => some (.int k (x.tmod y))
  | .and => bitsOf .and k x y
  | .or => bitsOf .or k x y
  | .xor => bitsOf .xor k x y
  | .eql => some (.bool (ieq x y))
  | .neq => some (.bool !(ieq x y))
  | .lss => some (.bool (ilt x y))
  | .leq => some (.bool !(ilt y x))
  | .gtr => some (.bool (ilt y x))
  | .geq => some (.bool !(ilt x y))
  | _ => none

def shlOp (k : IntKind) (x y : Int) : Option AVal :=
  match x, y with
  | .ofNat a, .ofNat b => match Nat.blt b k.bits with | true => some (.int k (awrap k (.ofNat (Nat.mul a (Nat.pow 2 b))))) | false => none
  | _, _ => none

def shrOp (k : IntKind) (x y : Int) : Option AVal :=
  match x, y with
  | .ofNat a, .ofNat b => match Nat.blt b k.bits with | true => some (.int k (.ofNat (Nat.div a (Nat.pow 2 b)))) | false => none
  | _, _ => none

/-- equality of two structs, cell by cell: whole numbers, strings, truth values -/
def aeqs : List AVal → List AVal → Option Bool
  | [], [] => some true
  | .int k a :: as, .int k' b :: bs => match ikEq k k', ieq a b with | true, true => aeqs as bs | true, false => (aeqs as bs).map fun _ => false | _, _ => none
  | .str a :: as, .str b :: bs => match strEq a b with | true => aeqs as bs | false => (aeqs as bs).map fun _ => false
  | _, _ => none

/-- a whole number: true; a string: false -/
def atomTy (t : Nat) : Option Bool := match P.underlying t with | some (.int _) => some true | some .string => some false | _ => none

def flatF : List Field → Nat → Option (List Bool)
  | [], _ => some []
  | f :: fs, i => (atomTy P f.type).bind fun q => match (f.name != "_") && Nat.beq f.offset i with
    | true => (flatF fs (i+1)).map (q :: ·)
    | false => none

/-- the cells of a struct type or an array type whose parts are whole numbers and strings, one behind the other -/
def keyKinds (t : Nat) : Option (List Bool) :=
  match P.underlying t with
  | some (.struct fs) => match P.stoodInHeld t with | false => flatF P fs.toList 0 | true => none
  | some (.array n e) => match atomTy P e, tsize P e with | some q, some 1 => some (List.replicate n q) | _, _ => none
  | _ => none

def kindsOk : List Bool → List AVal → Bool
  | [], [] => true
  | true :: ks, .int .. :: as => kindsOk ks as
  | false :: ks, .str _ :: as => kindsOk ks as
  | _, _ => false

def eqAgg (t : Nat) (as bs : List AVal) : Option Bool :=
  (keyKinds P t).bind fun ks => match kindsOk ks as with | true => aeqs as bs | false => none

/-- equality with nil, of truth values -/
def eqNil (t : Nat) (a b : AVal) : Option Bool :=
  match P.underlying t, a, b with
  | some .bool, .bool a, .bool b => some (a == b)
  | some (.pointer _), .nilp, .nilp => some true
  | some (.pointer _), .ptr _ _, .nilp => some false
  | some (.pointer _), .nilp, .ptr _ _ => some false
  | some (.slice _), .nils, .nils => some true
  | some (.slice _), .slice .., .nils => some false
  | some (.slice _), .nils, .slice .. => some false
  | some (.map _ _), .nilmap, .nilmap => some true
  | some (.map _ _), .map _, .nilmap => some false
  | some (.map _ _), .nilmap, .map _ => some false
  | some (.func _ _ _), .nilf, .nilf => some true
  | some (.func _ _ _), .func .., .nilf => some false
  | some (.func _ _ _), .nilf, .func .. => some false
  | some (.interface _), .iface .., .nili => some false
  | some (.interface _), .nili, .iface .. => some false
  | _, _, _ => none

def eqOp (neg : Bool) (t : Nat) (a b : AVal) : Option AVal :=
  match a, b with
  | .agg as, .agg bs => match P.eqGuardType P.depth t with
    | false => (eqAgg P t as bs).map fun r => .bool (Bool.xor neg r)
    | true => none
  | a, b => (eqNil P t a b).map fun r => .bool (Bool.xor neg r)

/-- the text that stands beside may be the literal nil -/
def nilOp (neg : Bool) (t : Nat) (x y : Operand) : Option AVal :=
  match P.underlying t, Region.isConst x || Region.isConst y with | some (.interface _), true => some (.bool (!neg)) | _, _ => none

def binA (op : BinOp) (t : Nat) (x y : Operand) (a b : AVal) : Option AVal :=
  match a, b with
  | .int k n, .int k' m => match op with
    | .shl => shlOp k n m
    | .shr => shrOp k n m
    | _ => match ikEq k k' with | true => intOp op k n m | false => none
  | .str s, .str u => strOp op s u
  | .nili, .nili => match op with | .eql => nilOp P false t x y | .neq => nilOp P true t x y | _ => none
  | a, b => match op with | .eql => eqOp P false t a b | .neq => eqOp P true t a b | _ => none

def unA (op : UnOp) (x : AVal) : Option AVal :=
  match op, x with
  | .xor, .int .u32 (.ofNat n) => match Nat.blt n 4294967296 with | true => some (.int .u32 (.ofNat (Nat.xor 4294967295 n))) | false => none
  | .not, .bool b => some (.bool !b)
  | _, _ => none

/-! ### memory -/
noncomputable def rds (h : Heap) (b o n : Nat) : Option (List AVal) :=
  match h.get b with
  | some (.cells cs _ _ _) => match Nat.ble (o + n) cs.length with | true => some ((cs.drop o).take n) | false => none
  | _ => none

noncomputable def rd (h : Heap) (b o : Nat) : Option AVal :=
  match h.get b with
  | some (.cells cs _ _ _) => cs[o]?
  | _ => none

def oneCell : AVal → Bool
  | .agg _ | .tup _ => false
  | _ => true

noncomputable def wrs (h : Heap) (b o : Nat) (vs : List AVal) : Option Heap :=
  match h.get b with
  | some (.cells cs e x true) => match Nat.ble (o + vs.length) cs.length && vs.all oneCell with
    | true => some (h.put b (.cells (cs.take o ++ vs ++ cs.drop (o + vs.length)) e x true))
    | false => none
  | _ => none

noncomputable def loadA (h : Heap) (t : Nat) : AVal → Option AVal
  | .ptr b o => (isAgg P t).bind fun g => match g with
    | true => (tsize P t).bind fun n => (rds h b o n).map .agg
    | false => rd h b o
  | _ => none

noncomputable def storeA (h : Heap) (t : Nat) (a v : AVal) : Out :=
  match a with
  | .ptr b o => (tsize P t).bind fun n => match Nat.beq v.cells.length n with
    | true => (wrs h b o v.cells).map fun h' => (.skip, h')
    | false => none
  | _ => none

def asNat : AVal → Option Nat
  | .int _ (.ofNat n) => some n
  | _ => none

noncomputable def newCells (h : Heap) (nb : Nat) (cs : List AVal) (e : Nat) (x : Bool) (v : AVal) : Out := some (.value v, h.put nb (.cells cs e x true))

noncomputable def allocA (h : Heap) (nb e : Nat) : Out := (tzero P e).bind fun z => newCells h nb z.cells e true (.ptr nb 0)
noncomputable def boxA (h : Heap) (nb e : Nat) (v : AVal) : Out := newCells h nb v.cells e true (.ptr nb 0)

def fill (place : Nat → Option (Nat × Nat)) (cells : List AVal) : List (Nat × AVal) → Option (List AVal)
  | [] => some cells
  | (i, v) :: rest => (place i).bind fun p =>
    match Nat.beq v.cells.length p.2 && Nat.ble (p.1 + p.2) cells.length with
    | true => fill place (cells.take p.1 ++ v.cells ++ cells.drop (p.1 + p.2)) rest
    | false => none

noncomputable def evParts (ts : List AVal) : List (Nat × Operand) → Option (List (Nat × AVal))
  | [] => some []
  | (i, x) :: xs => (aev gs ts x).bind fun a => (evParts ts xs).bind fun as => some ((i, a) :: as)

def fieldPlaces : List Field → Option (List (Nat × Nat))
  | [] => some []
  | f :: fs => (tsize P f.type).bind fun n => (fieldPlaces fs).bind fun r => some ((f.offset, n) :: r)

noncomputable def buildA (ts : List AVal) (t : Nat) (parts : Array (Nat × Operand)) : Option AVal :=
  (tzero P t).bind fun z => (evParts gs ts parts.toList).bind fun ps =>
  match P.underlying t with
  | some (.struct fs) => (fieldPlaces P fs.toList).bind fun pl => (fill (fun i => pl[i]?) z.cells ps).map .agg
  | some (.array _ e) => (tsize P e).bind fun n => (fill (fun i => some (i * n, n)) z.cells ps).map .agg
  | _ => none

/-- n times over -/
def reps : Nat → List AVal → List AVal
  | 0, _ => []
  | n+1, z => z ++ reps n z

def zeroCellsA (e n : Nat) : Option (List AVal) :=
  (tsize P e).bind fun s => match Nat.beq s 0 with
  | true => none
  | false => (tzero P e).bind fun z => match Nat.beq z.cells.length s with | true => some (reps n z.cells) | false => none

noncomputable def buildSliceA (ts : List AVal) (h : Heap) (nb t len : Nat) (parts : Array (Nat × Operand)) : Out :=
  match P.underlying t with
  | some (.slice e) => (tsize P e).bind fun n => match Nat.ble (len * n) 65536 with
    | true => (zeroCellsA P e len).bind fun z => (evParts gs ts parts.toList).bind fun ps =>
      (fill (fun i => some (i * n, n)) z ps).bind fun cs => newCells h nb cs e true (.slice nb 0 len (.exact len))
    | false => none
  | _ => none

noncomputable def makeSliceA (h : Heap) (nb t : Nat) (l c : AVal) : Out :=
  match P.underlying t with
  | some (.slice e) => (asNat l).bind fun l => (asNat c).bind fun c => (tbytes P e).bind fun by_ =>
    match Nat.ble l c && Nat.ble (c * by_) 1048576 && Nat.ble c 1048576 with
    | true => (zeroCellsA P e c).bind fun z => newCells h nb z e true (.slice nb 0 l (.exact c))
    | false => none
  | _ => none

def fieldAddrA (s : Nat) (x : AVal) (f : Nat) : Option AVal :=
  match P.underlying s, x with
  | some (.struct fs), .ptr b o => (fs[f]?).bind fun fd => (tsize P fd.type).bind fun n => match Nat.beq n 0 with | true => none | false => some (.ptr b (o + fd.offset))
  | _, _ => none

def partA (t : Nat) (cs : List AVal) (off : Nat) : Option AVal :=
  (isAgg P t).bind fun g => match g with
  | true => (tsize P t).bind fun n => some (.agg ((cs.drop off).take n))
  | false => cs[off]?

def fieldA (t : Nat) (x : AVal) (f : Nat) : Option AVal :=
  match P.underlying t, x with
  | some (.struct fs), .agg cs => (fs[f]?).bind fun fd => partA P fd.type cs fd.offset
  | _, _ => none

def indexAddrA (t : Nat) (x i : AVal) : Option AVal :=
  (asNat i).bind fun i => match P.underlying t, x with
  | some (.array n e), .ptr b o => (tsize P e).bind fun s => match Nat.blt i n with | true => some (.ptr b (o + i * s)) | false => none
  | some (.slice e), .slice b o len _ => (tsize P e).bind fun s => match Nat.blt i len with | true => some (.ptr b (o + i * s)) | false => none
  | _, _ => none

def indexA (t : Nat) (x i : AVal) : Option AVal :=
  (asNat i).bind fun i => match P.underlying t, x with
  | some .string, .str s => (s.data.toList[i]?).map fun b => .int .u8 (.ofNat b.toNat)
  | _, _ => none

def boundA (v : Option AVal) (y d : Nat) : Option Nat :=
  match v with
  | some v => (asNat v).bind fun i => match Nat.ble i y with | true => some i | false => none
  | none => some d

def boundsA (len cap : Nat) (lo hi : Option AVal) : Option (Nat × Nat) :=
  (boundA hi cap len).bind fun hh => (boundA lo hh 0).map fun l => (l, hh)

noncomputable def optEv (ts : List AVal) : Option Operand → Option (Option AVal)
  | none => some none
  | some x => (aev gs ts x).map some

/-- slicing without a third bound -/
def sliceA (t : Nat) (x : AVal) (lo hi : Option AVal) : Option AVal :=
  match P.underlying t, x with
  | some .string, .str s => (boundsA s.size s.size lo hi).map fun p => .str ⟨⟨(s.data.toList.drop p.1).take (p.2 - p.1)⟩⟩
  | some (.slice e), .slice b o len (.exact c) => (tsize P e).bind fun n => (boundsA len c lo hi).bind fun p =>
    match Nat.beq p.1 c with | true => none | false => some (.slice b (o + p.1 * n) (p.2 - p.1) (.exact (c - p.1)))
  | some (.slice e), .slice b o len (.rest k) => (tsize P e).bind fun n => (boundsA len len lo hi).bind fun p =>
    match Nat.beq p.1 len with | true => none | false => some (.slice b (o + p.1 * n) (p.2 - p.1) (.rest (k + p.1)))
  | some (.array m e), .ptr b o => (tsize P e).bind fun n => (boundsA m m lo hi).bind fun p =>
    match Nat.beq p.1 m with | true => none | false => some (.slice b (o + p.1 * n) (p.2 - p.1) (.exact (m - p.1)))
  | _, _ => none

def u8s (l : List UInt8) : List AVal := l.map fun b => .int .u8 (.ofNat b.toNat)

def bytesOf : List AVal → Option (List UInt8)
  | [] => some []
  | .int .u8 (.ofNat n) :: vs => match Nat.blt n 256 with | true => (bytesOf vs).map (UInt8.ofNat n :: ·) | false => none
  | _ => none

def convP (src dst : Nat) (x : AVal) : Option AVal :=
  match P.underlying src, P.underlying dst, x with
  | some (.int _), some (.int k), .int _ n => some (.int k (awrap k n))
  | some .string, some .string, .str s => some (.str s)
  | _, _, _ => none

noncomputable def convA (h : Heap) (nb src dst : Nat) (x : AVal) : Out :=
  match P.underlying src, P.underlying dst, x with
  | some .string, some (.slice e), .str s => match P.underlying e with
    | some (.int .u8) => match tsize P e with
      | some 1 => some (.value (.slice nb 0 s.size (.rest 0)), h.put nb (.cells (u8s s.data.toList) e false false))
      | _ => none
    | _ => none
  | some (.pointer t), some .unsafePointer, .ptr b o => (tsize P t).bind fun n => (rd h b o).bind fun _ => match Nat.beq n 0 with | true => none | false => some (.value (.ptr b o), h)
  | some .unsafePointer, some (.pointer u), .ptr b o => (tsize P u).bind fun _ => match h.get b with
    | some (.cells cs e true true) => match liesAt P P.depth e (cs.length / P.cellsOf e) o u 1 with | true => some (.value (.ptr b o), h) | false => none
    | _ => none
  | some (.slice e), some .string, .slice b o n _ => match P.underlying e with
    | some (.int .u8) => (rds h b o n).bind fun vs => (bytesOf vs).map fun l => (.value (.str ⟨⟨l⟩⟩), h)
    | _ => none
  | _, _, _ => none

def extractA (i : Nat) : AVal → Option AVal
  | .tup vs => vs[i]?
  | _ => none

def nilCheckA (v : AVal) : Option AVal :=
  match v with
  | .ptr .. | .slice .. | .map _ | .iface .. => some v
  | .func (.func _) _ _ => some v
  | _ => none

def makeIfaceA (t : Nat) (v : AVal) : Option AVal :=
  match P.underlying t with
  | some (.interface _) => none
  | some _ => some (.iface t v)
  | none => none

/-! ### maps -/
def findStr (k : ByteArray) : List AEntry → Nat → Option (Option (Nat × AVal))
  | [], _ => some none
  | e :: es, i => match e.key with
    | .str s => match strEq k s with | true => some (some (i, e.val)) | false => findStr k es (i+1)
    | _ => none

def findInt (k : IntKind) (n : Int) : List AEntry → Nat → Option (Option (Nat × AVal))
  | [], _ => some none
  | e :: es, i => match e.key with
    | .int k' m => match ikEq k k' with
      | true => (match ieq n m with | true => some (some (i, e.val)) | false => findInt k n es (i+1))
      | false => none
    | _ => none

def findAgg (t : Nat) (cs : List AVal) : List AEntry → Nat → Option (Option (Nat × AVal))
  | [], _ => some none
  | e :: es, i => match e.key with
    | .agg ds => (eqAgg P t cs ds).bind fun b => match b with | true => some (some (i, e.val)) | false => findAgg t cs es (i+1)
    | _ => none

/-- where a key stands among the entries: by the key's type -/
def findA (kt : Nat) (k : AVal) (es : List AEntry) : Option (Option (Nat × AVal)) :=
  match P.underlying kt, k with
  | some .string, .str s => findStr s es 0
  | some (.int _), .int i n => findInt i n es 0
  | some (.struct _), .agg cs => match keyKinds P kt with | some ks => (match kindsOk ks cs with | true => findAgg P kt cs es 0 | false => none) | none => none
  | some (.array _ _), .agg cs => match keyKinds P kt with | some ks => (match kindsOk ks cs with | true => findAgg P kt cs es 0 | false => none) | none => none
  | _, _ => none

noncomputable def entriesA (h : Heap) : AVal → Option (List AEntry)
  | .nilmap => some []
  | .map r => match h.get r with | some (.map es _) => some es | _ => none
  | _ => none

noncomputable def lookupA (h : Heap) (t : Nat) (m k : AVal) (ok : Bool) : Option AVal :=
  match P.underlying t with
  | some (.map kt e) => (entriesA h m).bind fun es => (findA P kt k es).bind fun r => match r with
    | some (_, v) => some (match ok with | true => .tup [v, .bool true] | false => v)
    | none => (tzero P e).map fun z => match ok with | true => .tup [z, .bool false] | false => z
  | _ => none

noncomputable def updateA (h : Heap) (t : Nat) (m k v : AVal) : Out :=
  match P.underlying t, m with
  | some (.map kt _), .map r => match h.get r with
    | some (.map es c) => (findA P kt k es).bind fun q => match q with
      | some _ => none
      | none => some (.skip, h.put r (.map (es ++ [⟨k, v, c⟩]) (c + 1)))
    | _ => none
  | _, _ => none

/-! ### the built-in functions -/
def lenA : AVal → Option Nat
  | .str s => some s.size
  | .slice _ _ n _ => some n
  | .nils => some 0
  | _ => none

/-- the length of a map -/
noncomputable def lenB (t : Nat) (h : Heap) (x : AVal) : Option AVal :=
  match P.underlying t, x with
  | some (.map _ _), .nilmap => some (.int .i64 (.ofNat 0))
  | some (.map _ _), .map r => match h.get r with | some (.map es _) => some (.int .i64 (.ofNat es.length)) | _ => none
  | _, _ => none

/-- the cells of n elements of a slice or a string -/
noncomputable def firstCells (h : Heap) (size n : Nat) : AVal → Option (List AVal)
  | .slice b o _ _ => rds h b o (n * size)
  | .nils => match Nat.beq n 0 with | true => some [] | false => none
  | .str s => match Nat.beq size 1 with | true => some ((u8s s.data.toList).take n) | false => none
  | _ => none

/-- a new row behind an append -/
noncomputable def grown (h : Heap) (nb n : Nat) (cs : List AVal) (e : Nat) : Out := some (.value (.slice nb 0 n (.rest 0)), h.put nb (.cells cs e false true))

def noMake (argTypes : Array TypeId) : Bool :=
  match argTypes[1]? with
  | some xt => match P.underlying xt with | some (.slice _) | some .string => true | _ => false
  | none => false

noncomputable def appendA (h : Heap) (nb : Nat) (argTypes : Array TypeId) (s x : AVal) : Out :=
  match (argTypes[0]?).bind P.underlying, noMake P argTypes with
  | some (.slice e), true => (tsize P e).bind fun size => (tbytes P e).bind fun by_ => (lenA x).bind fun n => (firstCells h size n x).bind fun new =>
    (zeroCellsA P e 0).bind fun _ =>
    match s with
    | .nils => match Nat.beq n 0, Nat.ble (n * by_) 1048576 && Nat.ble n 1048576 with
      | true, _ => some (.value .nils, h)
      | false, true => grown h nb n new e
      | _, _ => none
    | .slice b o len (.exact c) => match Nat.ble (len + n) c, Nat.ble ((len + n) * by_) 1048576 && Nat.ble (len + n) 1048576 with
      | true, _ => match Nat.beq n 0 with
        | true => some (.value s, h)
        | false => (wrs h b (o + len * size) new).map fun h' => (.value (.slice b o (len + n) (.exact c)), h')
      | false, true => (rds h b o (len * size)).bind fun old => grown h nb (len + n) (old ++ new) e
      | _, _ => none
    | .slice b 0 len (.rest 0) => match h.get b with
      | some (.cells cs e2 false true) => match Nat.beq e2 e && Nat.beq (len * size) cs.length && Nat.ble ((len + n) * by_) 1048576 && Nat.ble (len + n) 1048576 && Nat.blt 0 n && new.all oneCell with
        | true => grown (h.put b .dead) nb (len + n) (cs ++ new) e
        | false => none
      | _ => none
    | _ => none
  | _, _ => none

noncomputable def copyA (h : Heap) (t : Nat) (d s : AVal) : Out :=
  match P.underlying t with
  | some (.slice e) => (tsize P e).bind fun size => (lenA d).bind fun dl => (lenA s).bind fun sl =>
    (firstCells h size (Nat.min sl dl) s).bind fun cs => match d with
    | .slice b o _ _ => match Nat.beq (Nat.min sl dl) 0 with
      | true => some (.value (.int .i64 0), h)
      | false => (wrs h b o cs).map fun h' => (.value (.int .i64 (.ofNat (Nat.min sl dl))), h')
    | _ => none
  | _ => none

def maxA : AVal → AVal → Option AVal
  | .int k x, .int k' y => match ikEq k k' with | true => some (.int k (match ilt x y with | true => y | false => x)) | false => none
  | _, _ => none

noncomputable def sliceDataA (h : Heap) (x : AVal) : Out :=
  match x with
  | .nils => some (.value .nilp, h)
  | .slice b o (_+1) (.rest _) => some (.value (.ptr b o), h)
  | _ => none

noncomputable def unsafeStringA (h : Heap) (argTypes : List Nat) (x y : AVal) : Out :=
  match argTypes, x, y with
  | [_, _], .nilp, .int .i64 (.ofNat 0) => some (.value (.str ⟨⟨[]⟩⟩), h)
  | [pt, _], .ptr b 0, .int .i64 (.ofNat (n+1)) => match P.underlying pt, h.get b with
    | some (.pointer u), some (.cells cs e x true) => match Nat.beq u e, tsize P e, Nat.blt n 1048576 with
      | true, some 1, true => (rds h b 0 (n+1)).bind fun vs => (bytesOf vs).map fun l => (.value (.str ⟨⟨l⟩⟩), h.put b (.cells cs e x false))
      | _, _, _ => none
    | _, _ => none
  | _, _, _ => none

noncomputable def builtinA (h : Heap) (nb : Nat) (b : Builtin) (argTypes : Array TypeId) : List AVal → Out
  | [] => match b with | .recover => some (.recover, h) | _ => none
  | [x] => match b with
    | .len => (argTypes[0]?).bind fun t => out h (lenB P t h x)
    | .unsafeSliceData => sliceDataA h x
    | _ => none
  | [x, y] => match b with
    | .unsafeString => unsafeStringA P h argTypes.toList x y
    | .append => appendA P h nb argTypes x y
    | .copy => (argTypes[0]?).bind fun t => copyA P h t x y
    | _ => none
  | _ => none

/-- what needs no memory -/
def lenP (t : Nat) (x : AVal) : Option AVal :=
  match P.underlying t, x with
  | some .string, .str s => some (.int .i64 (.ofNat s.size))
  | some (.slice _), .slice _ _ n _ => some (.int .i64 (.ofNat n))
  | some (.slice _), .nils => some (.int .i64 (.ofNat 0))
  | _, _ => none

def builtinP (b : Builtin) (argTypes : Array TypeId) : List AVal → Option AVal
  | [x] => match b with
    | .len => (argTypes[0]?).bind fun t => lenP P t x
    | _ => none
  | [x, y] => match b with
    | .max => maxA x y
    | _ => none
  | _ => none

/-! ### calls -/
noncomputable def enterA (h : Heap) (f : Nat) (args : List AVal) : Out :=
  match P.funcs[f]? with
  | some fn => match fn.body with
    | some _ => some (.enter f args, h)
    | none => match gs.ids.elem f, args with | true, [x] => some (.value x, h) | _, _ => none
  | none => none

noncomputable def fnA (h : Heap) (fn : Fn) (captured args : List AVal) : Out :=
  match fn with
  | .func f => enterA P gs h f (args ++ captured)
  | _ => none

noncomputable def valueA (h : Heap) (args : List AVal) : AVal → Out
  | .func fn first captured => fnA P gs h fn captured (first ++ args)
  | _ => none

/-- a method behind an interface value: the receiver's own, not through a field -/
noncomputable def invokeA (h : Heap) (name : String) (args : List AVal) : AVal → Out
  | .iface t v => match P.info? t with
    | some i => match i.methods.toList.find? (fun m => m.name == name) with
      | some m => match m.func, m.path.size, P.underlying t with
        | some (f, true), 0, some (.pointer _) => enterA P gs h f (v :: args)
        | some (f, false), 0, some (.pointer _) => none
        | some (f, false), 0, some _ => enterA P gs h f (v :: args)
        | _, _, _ => none
      | none => none
    | none => none
  | _ => none

noncomputable def callA (ts : List AVal) (h : Heap) (nb : Nat) (c : Call) : Out :=
  (aevs gs ts c.args.toList).bind fun args => match c.callee with
  | .builtin b => builtinA P h nb b c.argTypes args
  | .invoke r name => (aev gs ts r).bind (invokeA P gs h name args)
  | .value f => (aev gs ts f).bind (valueA P gs h args)

noncomputable def deferA (ts : List AVal) (h : Heap) (c : Call) : Out :=
  (aevs gs ts c.args.toList).bind fun args => match c.callee with
  | .value f => (aev gs ts f).bind fun v => match v with
    | .func fn first captured => some (.defer ⟨fn, captured, first ++ args⟩, h)
    | _ => none
  | _ => none

noncomputable def pickA (ts : List AVal) (a b : Operand) : AVal → Option AVal
  | .bool true => aev gs ts a
  | .bool false => aev gs ts b
  | _ => none

/-- an operation that neither reads nor turns the memory -/
noncomputable def pureA (ts : List AVal) : Op → Option AVal
  | .move x => aev gs ts x
  | .assign x => aev gs ts x
  | .pick c a b => (aev gs ts c).bind (pickA gs ts a b)
  | .build t parts => buildA P gs ts t parts
  | .nilCheck x => (aev gs ts x).bind nilCheckA
  | .binOp op t x y _ => (aev gs ts x).bind fun a => (aev gs ts y).bind (binA P op t x y a)
  | .unOp op _ x => (aev gs ts x).bind (unA op)
  | .makeInterface t x => (aev gs ts x).bind (makeIfaceA P t)
  | .makeFunc fn first captured => (aevs gs ts first.toList).bind fun fs => (aevs gs ts captured.toList).map (.func fn fs)
  | .slice t x lo hi none => (aev gs ts x).bind fun a => (optEv gs ts lo).bind fun lo => (optEv gs ts hi).bind (sliceA P t a lo)
  | .fieldAddr s x f => (aev gs ts x).bind fun a => fieldAddrA P s a f
  | .field t x f => (aev gs ts x).bind fun a => fieldA P t a f
  | .indexAddr t x i => (aev gs ts x).bind fun a => (aev gs ts i).bind (indexAddrA P t a)
  | .index t x i => (aev gs ts x).bind fun a => (aev gs ts i).bind (indexA P t a)
  | .extract t i => (aev gs ts t).bind (extractA i)
  | .convert s d x => (aev gs ts x).bind (convP P s d)
  | .call { callee := .builtin b, args, argTypes } => (aevs gs ts args.toList).bind (builtinP P b argTypes)
  | _ => none

/-- which operations are tried so -/
def isPure : Op → Bool
  | .move _ | .assign _ | .pick .. | .build .. | .nilCheck _ | .binOp .. | .unOp .. | .makeInterface .. | .makeFunc .. | .slice .. | .fieldAddr .. | .field .. | .indexAddr .. | .index .. | .extract .. => true
  | .convert s d _ => match P.underlying s, P.underlying d with | some (.int _), some (.int _) => true | some .string, some .string => true | _, _ => false
  | .call { callee := .builtin b, argTypes, .. } => match b with
    | .len => match (argTypes[0]?).bind P.underlying with | some .string | some (.slice _) => true | _ => false
    | .max => true
    | _ => false
  | _ => false

def isLoad : Op → Bool
  | .load .. => true
  | _ => false

/-- one operation; nb: the number of a block that it may make -/
noncomputable def opA (ts : List AVal) (h : Heap) (nb : Nat) (op : Op) : Out :=
  match isPure P op with
  | true => out h (pureA P gs ts op)
  | false => match op with
    | .alloc e => allocA P h nb e
    | .box e x => (aev gs ts x).bind (boxA h nb e)
    | .buildSlice t len parts => buildSliceA P gs ts h nb t len parts
    | .load t a => out h ((aev gs ts a).bind (loadA P h t))
    | .store t a x => (aev gs ts a).bind fun a => (aev gs ts x).bind (storeA P h t a)
    | .convert s d x => (aev gs ts x).bind (convA P h nb s d)
    | .makeMap _ none => some (.value (.map nb), h.put nb (.map [] 0))
    | .makeSlice t l c => (aev gs ts l).bind fun l => (aev gs ts c).bind (makeSliceA P h nb t l)
    | .lookup t x i ok => out h ((aev gs ts x).bind fun m => (aev gs ts i).bind fun k => lookupA P h t m k ok)
    | .mapUpdate t m k x => (aev gs ts m).bind fun m => (aev gs ts k).bind fun k => (aev gs ts x).bind (updateA P h t m k)
    | .call c => callA P gs ts h nb c
    | .defer c => deferA gs ts h c
    | _ => none

/-- which operations may make a block -/
def makes : Op → Bool
  | .alloc _ | .box .. | .buildSlice .. | .makeMap .. | .makeSlice .. | .convert .. => true
  | .call { callee := .builtin .append, .. } => true
  | _ => false

/-! ### the same, with the operation looked at once (the kernel keeps what a closed term comes to) -/
structure Box (α : Type) where
  f : α

abbrev OpF := List AVal → Heap → Nat → Out

noncomputable def opC (op : Op) : Box OpF :=
  match op with
  | .move x => ⟨fun ts h _ => out h (aev gs ts x)⟩
  | .assign x => ⟨fun ts h _ => out h (aev gs ts x)⟩
  | .nilCheck x => ⟨fun ts h _ => out h ((aev gs ts x).bind nilCheckA)⟩
  | .binOp op t x y _ => ⟨fun ts h _ => out h ((aev gs ts x).bind fun a => (aev gs ts y).bind (binA P op t x y a))⟩
  | .unOp op _ x => ⟨fun ts h _ => out h ((aev gs ts x).bind (unA op))⟩
  | .fieldAddr s x f => ⟨fun ts h _ => out h ((aev gs ts x).bind fun a => fieldAddrA P s a f)⟩
  | .indexAddr t x i => ⟨fun ts h _ => out h ((aev gs ts x).bind fun a => (aev gs ts i).bind (indexAddrA P t a))⟩
  | .index t x i => ⟨fun ts h _ => out h ((aev gs ts x).bind fun a => (aev gs ts i).bind (indexA P t a))⟩
  | .extract t i => ⟨fun ts h _ => out h ((aev gs ts t).bind (extractA i))⟩
  | .load t a => ⟨fun ts h _ => out h ((aev gs ts a).bind (loadA P h t))⟩
  | .store t a x => ⟨fun ts h _ => (aev gs ts a).bind fun a => (aev gs ts x).bind (storeA P h t a)⟩
  | .alloc e => ⟨fun _ h nb => allocA P h nb e⟩
  | .box e x => ⟨fun ts h nb => (aev gs ts x).bind (boxA h nb e)⟩
  | op => ⟨fun ts h nb => opA P gs ts h nb op⟩

theorem opC_eq (ts : List AVal) (h : Heap) (nb : Nat) (op : Op) : (opC P gs op).f ts h nb = opA P gs ts h nb op := by cases op <;> rfl

noncomputable def pureC (op : Op) : Box (List AVal → Option AVal) :=
  match op with
  | .move x => ⟨fun ts => aev gs ts x⟩
  | .assign x => ⟨fun ts => aev gs ts x⟩
  | .nilCheck x => ⟨fun ts => (aev gs ts x).bind nilCheckA⟩
  | .binOp op t x y _ => ⟨fun ts => (aev gs ts x).bind fun a => (aev gs ts y).bind (binA P op t x y a)⟩
  | .fieldAddr s x f => ⟨fun ts => (aev gs ts x).bind fun a => fieldAddrA P s a f⟩
  | .indexAddr t x i => ⟨fun ts => (aev gs ts x).bind fun a => (aev gs ts i).bind (indexAddrA P t a)⟩
  | op => ⟨fun ts => pureA P gs ts op⟩

theorem pureC_eq (ts : List AVal) (op : Op) : (pureC P gs op).f ts = pureA P gs ts op := by cases op <;> rfl

end Go.Proofs.YtdgpdmbfhehpfaaGreatDoor.Ev

/-
  The evaluator: regions, code, calls. Definitions alone.
-/
import Derived.Test.YtdgpdmbfhehpfaaGreatDoorEvA
set_option linter.all false
namespace Go.Proofs.YtdgpdmbfhehpfaaGreatDoor.Ev

inductive AExit where
  | normal
  | exit (id : Nat)
  | ret

structure St where
  ts : List AVal
  ds : List ADef
  h : Heap
  deriving Inhabited

/-- what the level below answers -/
structure Rec where
  code : (Nat → Plan) → Code → St → Option (AExit × St)
  ops : Bool → Array Oper → List Nat → St → Option St
  ph1 : Array Oper → Nat → Heap → List (Nat × Nat × Nat × Nat) → Plan → St → Option St
  call : Nat → List AVal → Heap → Option (AVal × Heap)
  calld : Nat → List AVal → Heap → Option Heap

variable (P : Program) (gs : Prm)

noncomputable def putT (ts : List AVal) (d : Option Nat) (v : AVal) : List AVal :=
  match d with | some d => lset v ts d | none => ts

noncomputable def yieldedA (ops : Array Oper) (ts : List AVal) (j : Nat) : Option Bool :=
  match ((ops[j]?).bind (·.dst)).map (lget ts) with
  | some (.bool b) => some b
  | _ => none

noncomputable def afterOp (r : Rec) (dm : Bool) (d : Option Nat) (st : St) : ANext × Heap → Option St
  | (.value v, h) => some ⟨putT st.ts d v, st.ds, ⟨h.t, st.h.next⟩⟩
  | (.skip, h) => some ⟨putT st.ts d .undef, st.ds, ⟨h.t, st.h.next⟩⟩
  | (.defer x, h) => some ⟨putT st.ts d .undef, x :: st.ds, ⟨h.t, st.h.next⟩⟩
  | (.recover, h) => match dm with | true => some ⟨putT st.ts d .nili, st.ds, ⟨h.t, st.h.next⟩⟩ | false => none
  | (.enter f args, h) => (r.call f args ⟨h.t, st.h.next⟩).map fun p => ⟨putT st.ts d p.1, st.ds, p.2⟩

/-- one operation of a region; nb: the number of a block that it may make, n: the next number behind it -/
noncomputable def doOp (r : Rec) (dm : Bool) (ops : Array Oper) (o : Oper) (nb : Nat) (st : St) : Option St :=
  match Region.wanted o (yieldedA ops st.ts) with
  | true => ((opC P gs o.op).f st.ts st.h nb).bind (afterOp r dm o.dst st)
  | false => some ⟨putT st.ts o.dst .undef, st.ds, st.h⟩

def bump (st : St) : St := ⟨st.ts, st.ds, ⟨st.h.t, Nat.succ st.h.next⟩⟩

noncomputable def opsF (r : Rec) (dm : Bool) (ops : Array Oper) : List Nat → St → Option St
  | [], st => some st
  | i :: is, st => match ops[i]? with
    | none => r.ops dm ops is st
    | some o => (doOp P gs r dm ops o st.h.next (bump st)).bind (r.ops dm ops is)

/-! ### drawn regions -/
def quiet (ph : Bool) (o : Oper) : Bool := isPure P o.op || (ph && isLoad o.op)

/-- does number j wait for number i? (n: how many steps the way has at most) -/
def waits (ops : Array Oper) (i : Nat) : Nat → Nat → Bool
  | 0, _ => false
  | n+1, j => match ops[j]? with
    | some o => o.after.toList.any fun e => Region.binds .any e && (Nat.beq e.on i || waits ops i n e.on)
    | Option.none => false

/-- nobody that waits for i is listed -/
def lateFree (ops : Array Oper) (listed : Array Bool) (i : Nat) : Bool :=
  (List.range ops.size).all fun k => !(listed.getD k false) || !(waits ops i ops.size k)

/-- is it so? ph: nothing but quiet ones has come up so far; rs: what is still to be branched over -/
def valid (ops : Array Oper) : Plan → Bool → Array Bool → List Nat → Bool
  | .stuck, _, _, _ => true
  | .done, _, listed, rs => (match rs with | [] => true | _ => false) && (match Region.ready .any ops listed with | [] => true | _ => false)
  | .take i k, ph, listed, rs => (match rs with | [] => true | _ => false) && (Region.ready .any ops listed).contains i && (match ops[i]? with | some o => quiet P ph o | Option.none => false) &&
      Region.free .any ops listed i && Region.noSelect ops && (!ph || lateFree ops listed i) && valid ops k ph (listed.setIfInBounds i true) []
  | .none, _, _, rs => (match rs with | [] => true | _ => false)
  | .br i k rest, _, listed, rs => (match rs with
      | j :: js => Nat.beq j i && valid ops rest false listed js
      | [] => (match Region.ready .any ops listed with
        | j :: js => Nat.beq j i && valid ops rest false listed js
        | [] => false)) && valid ops k false (listed.setIfInBounds i true) []

/-! equality -/
mutual
def veq : AVal → AVal → Bool
  | .bool a, .bool b => a == b
  | .int k a, .int k' b => ikEq k k' && ieq a b
  | .str a, .str b => strEq a b
  | .ptr b o, .ptr b' o' => Nat.beq b b' && Nat.beq o o'
  | .nilp, .nilp => true
  | .slice b o n (.exact c), .slice b' o' n' (.exact c') => Nat.beq b b' && Nat.beq o o' && Nat.beq n n' && Nat.beq c c'
  | .slice b o n (.rest c), .slice b' o' n' (.rest c') => Nat.beq b b' && Nat.beq o o' && Nat.beq n n' && Nat.beq c c'
  | .nils, .nils => true
  | .map b, .map b' => Nat.beq b b'
  | .nilmap, .nilmap => true
  | .func (.func f) as bs, .func (.func f') as' bs' => Nat.beq f f' && veqs as as' && veqs bs bs'
  | .nilf, .nilf => true
  | .iface t v, .iface t' v' => Nat.beq t t' && veq v v'
  | .nili, .nili => true
  | .agg as, .agg bs => veqs as bs
  | .tup as, .tup bs => veqs as bs
  | _, _ => false
def veqs : List AVal → List AVal → Bool
  | [], [] => true
  | a :: as, b :: bs => veq a b && veqs as bs
  | _, _ => false
end

def eeqs : List AEntry → List AEntry → Bool
  | [], [] => true
  | ⟨k, v, b⟩ :: es, ⟨k', v', b'⟩ :: es' => veq k k' && veq v v' && Nat.beq b b' && eeqs es es'
  | _, _ => false

def oeq : AObj → AObj → Bool
  | .cells cs e x wr, .cells cs' e' x' wr' => veqs cs cs' && Nat.beq e e' && x == x' && wr == wr'
  | .map es c, .map es' c' => eeqs es es' && Nat.beq c c'
  | .dead, .dead => true
  | _, _ => false

def teq : T AObj → T AObj → Bool
  | .e, .e => true
  | .leaf k v, .leaf k' v' => Nat.beq k k' && oeq v v'
  | .node l r, .node l' r' => teq l l' && teq r r'
  | _, _ => false

def steq (a b : St) : Bool := veqs a.ts b.ts && (match a.ds, b.ds with | [], [] => true | _, _ => false) && teq a.h.t b.h.t && Nat.beq a.h.next b.h.next

/-- the cells that were read and for whose reading number j does not wait hold what they held -/
noncomputable def keeps (ops : Array Oper) (h0 h : Heap) (j : Nat) : List (Nat × Nat × Nat × Nat) → Bool
  | [] => true
  | (i, b, o, n) :: ks => (match waits ops i ops.size j with
    | true => true
    | false => match rds h0 b o n, rds h b o n with
      | some cs, some cs' => veqs cs cs'
      | _, _ => false) && keeps ops h0 h j ks

noncomputable def pureOp (ops : Array Oper) (o : Oper) (st : St) : Option St :=
  match Region.wanted o (yieldedA ops st.ts) with
  | true => ((pureC P gs o.op).f st.ts).map fun v => ⟨putT st.ts o.dst v, st.ds, st.h⟩
  | false => some ⟨putT st.ts o.dst .undef, st.ds, st.h⟩

/-- the cells that a load reads -/
def cellsOf (t : Nat) : AVal → Option (Nat × Nat × Nat)
  | .ptr b o => (isAgg P t).bind fun g => match g with
    | true => (tsize P t).map fun n => (b, o, n)
    | false => some (b, o, 1)
  | _ => none

/-- as long as only quiet ones come up: the state, the blocks read, what is left -/
noncomputable def phase0 (ops : Array Oper) : Plan → List (Nat × Nat × Nat × Nat) → St → Option (Plan × List (Nat × Nat × Nat × Nat) × St)
  | .take i k, K, st => match ops[i]? with
    | some o => match isPure P o.op with
      | true => (pureOp P gs ops o st).bind (phase0 ops k K)
      | false => match Region.wanted o (yieldedA ops st.ts), o.op with
        | true, .load t a => (aev gs st.ts a).bind fun p => (cellsOf P t p).bind fun b => (loadA P st.h t p).bind fun v => phase0 ops k ((i, b) :: K) ⟨putT st.ts o.dst v, st.ds, st.h⟩
        | false, _ => phase0 ops k K ⟨putT st.ts o.dst .undef, st.ds, st.h⟩
        | _, _ => none
    | none => none
  | p, K, st => some (p, K, st)

/-- one branch: number i comes up -/
noncomputable def brF (r : Rec) (ops : Array Oper) (base : Nat) (h0 : Heap) (K : List (Nat × Nat × Nat × Nat)) (i : Nat) (k : Plan) (st : St) : Option St :=
  match ops[i]? with
  | some o => (doOp P gs r false ops o (base + i) st).bind fun s1 => match keeps ops h0 s1.h i K with
    | true => r.ph1 ops base h0 K k s1
    | false => none
  | none => none

noncomputable def ph1F (r : Rec) (ops : Array Oper) (base : Nat) (h0 : Heap) (K : List (Nat × Nat × Nat × Nat)) : Plan → St → Option St
  | .done, st => some st
  | .take i k, st => match ops[i]? with
    | some o => match isPure P o.op with
      | true => (pureOp P gs ops o st).bind (r.ph1 ops base h0 K k)
      | false => none
    | none => none
  | .br i k .none, st => brF P gs r ops base h0 K i k st
  | .br i k rest, st => (brF P gs r ops base h0 K i k st).bind fun f => (r.ph1 ops base h0 K rest st).bind fun g => match steq f g with | true => some f | false => none
  | _, _ => none

noncomputable def drawn (r : Rec) (p : Plan) (ops : Array Oper) (st : St) : Option St :=
  (phase0 P gs ops p [] st).bind fun q =>
    r.ph1 ops q.2.2.h.next q.2.2.h q.2.1 q.1 ⟨q.2.2.ts, q.2.2.ds, ⟨q.2.2.h.t, q.2.2.h.next + ops.size⟩⟩

/-! ### code -/
def thenA (f : St → Option (AExit × St)) (x : AExit × St) : Option (AExit × St) := match x with | (.normal, st) => f st | x => some x

def blockA (id : Nat) (x : AExit × St) : AExit × St :=
  match x with
  | (.exit id', st) => match Nat.beq id' id with | true => (.normal, st) | false => (.exit id', st)
  | x => x

noncomputable def condA (r : Rec) (pl : Nat → Plan) (a b : Code) (st : St) : AVal → Option (AExit × St)
  | .bool true => r.code pl a st
  | .bool false => r.code pl b st
  | _ => none

noncomputable def codeF (r : Rec) (pl : Nat → Plan) : Code → St → Option (AExit × St)
  | .skip, st => some (.normal, st)
  | .label _, st => some (.normal, st)
  | .exit id, st => some (.exit id, st)
  | .ret, st => some (.ret, st)
  | .region id ops draw, st => match draw with
    | true => (drawn P gs r (pl id) ops st).map fun st => (.normal, st)
    | false => (r.ops false ops (List.range ops.size) st).map fun st => (.normal, st)
  | .seq a b, st => (r.code pl a st).bind (thenA (r.code pl b))
  | .cond c a b, st => (aev gs st.ts c).bind (condA r pl a b st)
  | .block id c, st => (r.code pl c st).map (blockA id)
  | .loop c, st => (r.code pl c st).bind (thenA (r.code pl (.loop c)))
  | .scope c, st => r.code pl c st
  | _, _ => none

/-- the same, with the code looked at once -/
noncomputable def codeC (c : Code) : Box (Rec → (Nat → Plan) → St → Option (AExit × St)) :=
  match c with
  | .skip => ⟨fun _ _ st => some (.normal, st)⟩
  | .label _ => ⟨fun _ _ st => some (.normal, st)⟩
  | .exit id => ⟨fun _ _ st => some (.exit id, st)⟩
  | .ret => ⟨fun _ _ st => some (.ret, st)⟩
  | .region id ops draw => match draw with
    | true => ⟨fun r pl st => (drawn P gs r (pl id) ops st).map fun st => (.normal, st)⟩
    | false => ⟨fun r _ st => (r.ops false ops (List.range ops.size) st).map fun st => (.normal, st)⟩
  | .seq a b => ⟨fun r pl st => (r.code pl a st).bind (thenA (r.code pl b))⟩
  | .cond c a b => ⟨fun r pl st => (aev gs st.ts c).bind (condA r pl a b st)⟩
  | .block id c => ⟨fun r pl st => (r.code pl c st).map (blockA id)⟩
  | .loop c => ⟨fun r pl st => (r.code pl c st).bind (thenA (r.code pl (.loop c)))⟩
  | .scope c => ⟨fun r pl st => r.code pl c st⟩
  | _ => ⟨fun _ _ _ => none⟩

theorem codeC_eq (r : Rec) (pl : Nat → Plan) (c : Code) (st : St) : (codeC P gs c).f r pl st = codeF P gs r pl c st := by
  cases c <;> first
    | rfl
    | (rename_i d; cases d <;> rfl)

/-- the body of a deferred function: recover may stand in it -/
noncomputable def codeD (r : Rec) (pl : Nat → Plan) : Code → St → Option (AExit × St)
  | .seq a b, st => (codeD r pl a st).bind fun x => match x with | (.normal, st) => codeD r pl b st | x => some x
  | .region id ops draw, st => match draw with
    | true => (drawn P gs r (pl id) ops st).map fun st => (.normal, st)
    | false => (r.ops true ops (List.range ops.size) st).map fun st => (.normal, st)
  | c, st => r.code pl c st

noncomputable def resultsA (h : Heap) (ts : List AVal) : List ResultVar → Option (List AVal)
  | [] => some []
  | .tmp t :: rs => (resultsA h ts rs).map (lget ts t :: ·)
  | .cell a t :: rs => (loadA P h t (lget ts a)).bind fun v => (resultsA h ts rs).map (v :: ·)

def oneOf : List AVal → AVal
  | [v] => v
  | vs => .tup vs

noncomputable def runDefers (r : Rec) : List ADef → Heap → Option Heap
  | [], h => some h
  | d :: ds, h => (fnA P gs h d.fn d.captured d.args).bind fun x => match x with
    | (.enter f args, h) => (r.calld f args h).bind (runDefers r ds)
    | _ => none

def start (fn : Func) (args : List AVal) (h : Heap) : St := ⟨args ++ List.replicate (fn.ntmps - args.length) .undef, [], h⟩

def ended : AExit → Bool
  | .normal | .ret => true
  | .exit _ => false

noncomputable def callF (r : Rec) (f : Nat) (args : List AVal) (h : Heap) : Option (AVal × Heap) :=
  match P.funcs[f]? with
  | some fn => fn.body.bind fun c => (r.code (gs.plans f) c (start fn args h)).bind fun x => match ended x.1 with
    | true => (runDefers P gs r x.2.ds x.2.h).bind fun h => (resultsA P h x.2.ts fn.results.toList).map fun vs => (oneOf vs, h)
    | false => none
  | none => none

noncomputable def callD (r : Rec) (f : Nat) (args : List AVal) (h : Heap) : Option Heap :=
  match P.funcs[f]? with
  | some fn => fn.body.bind fun c => (codeD P gs r (gs.plans f) c (start fn args h)).bind fun x => match ended x.1, x.2.ds with
    | true, [] => (resultsA P x.2.h x.2.ts fn.results.toList).map fun _ => x.2.h
    | _, _ => none
  | none => none

def level0 : Rec := ⟨fun _ _ _ => none, fun _ _ _ _ => none, fun _ _ _ _ _ _ => none, fun _ _ _ => none, fun _ _ _ => none⟩

noncomputable def levelF (r : Rec) : Rec := ⟨fun pl c st => (codeC P gs c).f r pl st, opsF P gs r, ph1F P gs r, callF P gs r, callD P gs r⟩

noncomputable def level (n : Nat) : Rec := Nat.rec level0 (fun _ r => levelF P gs r) n

end Go.Proofs.YtdgpdmbfhehpfaaGreatDoor.Ev

/- Lib 1: a nicer semantics of one function's body ('W'), by environments instead of frames, with regions that draw their order brought back to the order of the text; sound for 'Code.wp'. -/
import Derived.Orders
import Derived.Tactics
import Derived.KernelRfl
import Derived.Laws.Sem
import Derived.Laws.World
import Derived.Still
namespace Go.Proofs.YtlbihkgfejgefaaDoor.L
open Go

abbrev Env := Nat → Value
abbrev VK := Value → World → Prop
abbrev PK := List PanicEntry → World → Prop

def ev (ρ : Env) : Operand → Value
  | .tmp t => ρ t
  | .const v => v
  | .global g => .pointer (some ⟨g, 0, none⟩)
  | .func f => .func (.func f) #[] #[]

def pt (ρ : Env) (d : Option Tmp) (v : Value) : Env :=
  match d with
  | some d => fun t => bif Nat.beq t d then v else ρ t
  | none => ρ

def inMask (m t : Nat) : Bool := Nat.beq (Nat.land (Nat.shiftRight m t) 1) 1

def ovr (ρ : Env) (m : Nat) (f : Env) : Env := fun t => bif inMask m t then f t else ρ t

def noP : PK := fun _ _ => False

/-- what may follow an operation's run -/
def fin (P : Program) (K : VK) (Kp : PK) : Result Next → Prop
  | .ok (.value v) w => K v w
  | .ok .skip w => K undef w
  | .ok (.enter f args) w => Calls P f args w fun
      | .returned v, w' => K v w'
      | .panicked c, w' => Kp c w'
      | .outgrown, _ => False
  | .ok (.row r args) w => Rows P r args w fun v w' => K v w'
  | .halt (.panic v) w => Kp [{ v, recovered := false }] w
  | _ => False

def shp : Value → Nat
  | .int .. => 1
  | .string _ => 2
  | .bool _ => 3
  | .slice .. => 4
  | _ => 0

def isB (v : Value) (want : Bool) : Bool := match v with | .bool b => b == want | _ => false

def oG (b : Bool) (run : VK → Prop) (K : VK) (w : World) : Prop := match b with | true => run K | false => K undef w
def oD (b : Bool) (X : Prop) : Prop := match b with | true => X | false => False
def oCond (v : Value) (a b : Prop) : Prop := match v with | .bool true => a | .bool false => b | _ => False

def plainV : Value → Bool
  | .int .. | .string _ | .bool _ => true
  | _ => false
def plainA : Value → Bool
  | .agg cs => cs.toList.all plainV
  | _ => false
def nilP : Value → Bool
  | .pointer none => true
  | _ => false
def isP : Value → Bool
  | .pointer _ => true
  | _ => false
def twin (x y : Value) : Bool := (shp x == 1 && shp y == 1) || (shp x == 2 && shp y == 2) || (shp x == 3 && shp y == 3) || (plainA x && plainA y)

/-- 0: neither looks at the world nor turns it; 1: a load; 3: a new block; 2: anything else -/
def cls (o : Oper) : Nat :=
  match o.op with
  | .move _ | .assign _ | .pick .. | .fieldAddr .. | .indexAddr .. | .slice .. | .field .. | .extract .. | .makeFunc .. | .binOp .. | .index .. => 0
  | .nilCheck _ => 0
  | .build .. => 0
  | .load .. => 1
  | .alloc _ | .box .. | .buildSlice .. => 3
  | .call c => match c.callee with
    | .builtin .len | .builtin .cap | .builtin .min | .builtin .max => 0
    | _ => 2
  | _ => 2

def ptrish (v : Value) : Bool := match v with | .pointer _ => true | .func (.func _) _ _ => true | .map _ => true | _ => false

/-- the field is there, and is not of size 0 -/
def fieldSized (P : Program) (s f : Nat) : Bool :=
  match P.underlying s with
  | some (.struct fs) => match fs[f]? with
    | some fl => match P.info? fl.type with
      | some i => !(Nat.beq i.size 0)
      | none => false
    | none => false
  | _ => false

def lenOk : List Value → Bool
  | [x] => shp x == 2 || shp x == 4
  | _ => false
def intsOk (l : List Value) : Bool := l.all fun x => shp x == 1

/-- in a drawn region an operation's behaviour is its run, under a condition on its operands alone -/
def condOk (P : Program) (e : Operand → Value) (o : Oper) : Bool :=
  match o.op with
  | .binOp _ _ x y _ => twin (e x) (e y)
  | .nilCheck x => ptrish (e x)
  | .fieldAddr s _ f => fieldSized P s f
  | .call c => match c.callee with
    | .builtin .len | .builtin .cap => lenOk (c.args.toList.map e)
    | .builtin .min | .builtin .max => intsOk (c.args.toList.map e)
    | _ => true
  | _ => true

/-- w1 holds all the cells that w holds -/
def Ext (w w1 : World) : Prop := ∀ p x, w.cell? p = some x → w1.cell? p = some x

/-- a load of cells that stand there -/
def oLD (P : Program) (t : TypeId) (a : Value) (w : World) (K : VK) : Prop :=
  ∃ v, (∀ w1, Ext w w1 → (Instr.loadAt t a).run P w1 = .ok v w1) ∧ K v w
/-- a load of what no operation of the region turns -/
def oHL (P : Program) (S : World → Prop) (t : TypeId) (a : Value) (w : World) (K : VK) : Prop :=
  ∃ v, (∀ w1, S w1 → (Instr.loadAt t a).run P w1 = .ok v w1) ∧ K v w

def oneOp' (P : Program) (Kp : PK) (dr : Bool) (e : Operand → Value) (o : Oper) (w : World) (K : VK) : Prop :=
  match dr with
  | false => fin P K Kp ((execOp e o).run P w)
  | true => match o.op with
    | .load t a => oLD P t (e a) w K
    | _ => oD (condOk P e o) (fin P K Kp ((execOp e o).run P w))

section words
variable (P : Program)
abbrev NV (s : Sem Value) (Kp : PK) (w : World) (K : VK) : Prop := fin P K Kp ((do pure (Next.value (← s)) : Sem Next).run P w)
abbrev NU (s : Sem Unit) (Kp : PK) (w : World) (K : VK) : Prop := fin P K Kp ((do s; pure Next.skip : Sem Next).run P w)

@[irreducible] def oLoad (t : TypeId) (a : Value) (Kp : PK) (w : World) (K : VK) : Prop := NV P (Instr.loadAt t a) Kp w K
@[irreducible] def oStore (t : TypeId) (a x : Value) (Kp : PK) (w : World) (K : VK) : Prop := NU P (Instr.storeAt t a x) Kp w K
@[irreducible] def oFA (s : TypeId) (x : Value) (f : Nat) (Kp : PK) (w : World) (K : VK) : Prop := NV P (Instr.fieldAt s x f) Kp w K
@[irreducible] def oIA (t : TypeId) (x i : Value) (Kp : PK) (w : World) (K : VK) : Prop := NV P (Instr.indexAt t x i) Kp w K
@[irreducible] def oIX (t : TypeId) (x i : Value) (Kp : PK) (w : World) (K : VK) : Prop := NV P (Instr.index t x i) Kp w K
@[irreducible] def oSL (t : TypeId) (x : Value) (lo hi mx : Option Value) (Kp : PK) (w : World) (K : VK) : Prop := NV P (Instr.sliceAt t x lo hi mx) Kp w K
@[irreducible] def oFD (t : TypeId) (x : Value) (f : Nat) (Kp : PK) (w : World) (K : VK) : Prop := NV P (Instr.field t x f) Kp w K
@[irreducible] def oEX (x : Value) (i : Nat) (Kp : PK) (w : World) (K : VK) : Prop := NV P (Instr.extract x i) Kp w K
@[irreducible] def oBin (op : BinOp) (t : TypeId) (ox oy : Operand) (x y : Value) (Kp : PK) (w : World) (K : VK) : Prop := NV P (do eqGuard op t ox oy x y; binOp op t x y) Kp w K
@[irreducible] def oUn (op : UnOp) (x : Value) (Kp : PK) (w : World) (K : VK) : Prop := NV P (Op.unary op x) Kp w K
@[irreducible] def oCV (s d : TypeId) (x : Value) (Kp : PK) (w : World) (K : VK) : Prop := NV P (convert s d x) Kp w K
@[irreducible] def oMI (t : TypeId) (x : Value) (Kp : PK) (w : World) (K : VK) : Prop := NV P (Instr.makeInterface t x) Kp w K
@[irreducible] def oPick (c a b : Value) (Kp : PK) (w : World) (K : VK) : Prop := fin P K Kp ((do pure (Next.value (if ← asBool c then a else b)) : Sem Next).run P w)
@[irreducible] def oAlloc (t : TypeId) (Kp : PK) (w : World) (K : VK) : Prop := NV P (Instr.alloc t true (.tuple #[])) Kp w K
@[irreducible] def oBox (t : TypeId) (x : Value) (Kp : PK) (w : World) (K : VK) : Prop := NV P (Instr.box t x) Kp w K
@[irreducible] def oBuild (t : TypeId) (ps : List (Nat × Value)) (Kp : PK) (w : World) (K : VK) : Prop := NV P (Instr.build t ps.toArray) Kp w K
@[irreducible] def oBuildS (t : TypeId) (n : Nat) (ps : List (Nat × Value)) (Kp : PK) (w : World) (K : VK) : Prop := NV P (Instr.buildSlice t n ps.toArray) Kp w K
@[irreducible] def oMM (t : TypeId) (r : Option Value) (Kp : PK) (w : World) (K : VK) : Prop := NV P (Instr.makeMap t r) Kp w K
@[irreducible] def oMS (t : TypeId) (l c : Value) (Kp : PK) (w : World) (K : VK) : Prop := NV P (Instr.makeSlice t l c) Kp w K
@[irreducible] def oLK (t : TypeId) (m k : Value) (ok : Bool) (Kp : PK) (w : World) (K : VK) : Prop := NV P (Instr.lookup t m k ok) Kp w K
@[irreducible] def oMU (t : TypeId) (m k x : Value) (Kp : PK) (w : World) (K : VK) : Prop := NU P (Instr.mapUpdate t m k x) Kp w K
@[irreducible] def oME (t : TypeId) (m k : Value) (Kp : PK) (w : World) (K : VK) : Prop := NV P (Instr.mapEntry t m k) Kp w K
@[irreducible] def oES (t : TypeId) (m s x : Value) (Kp : PK) (w : World) (K : VK) : Prop := NU P (Instr.entryStore t m s x) Kp w K
@[irreducible] def oRange (t : TypeId) (x : Value) (Kp : PK) (w : World) (K : VK) : Prop := NV P (Instr.range t x) Kp w K
@[irreducible] def oNext (it : Value) (s : Bool) (t : TypeId) (Kp : PK) (w : World) (K : VK) : Prop := NV P (Instr.next it s t) Kp w K
@[irreducible] def oEntry (it : Value) (Kp : PK) (w : World) (K : VK) : Prop := NV P (Instr.entry it) Kp w K
@[irreducible] def oTA (x : Value) (t a : TypeId) (ok : Bool) (Kp : PK) (w : World) (K : VK) : Prop := NV P (Instr.typeAssert x t a ok) Kp w K
@[irreducible] def oPanic (x : Value) (Kp : PK) (w : World) (K : VK) : Prop := NV P (Instr.panic x) Kp w K
@[irreducible] def oS2A (t : TypeId) (x : Value) (Kp : PK) (w : World) (K : VK) : Prop := NV P (Instr.arrayAt t x) Kp w K
@[irreducible] def oNil (x : Value) (Kp : PK) (w : World) (K : VK) : Prop := fin P K Kp ((execOp (fun _ => x) ⟨none, .nilCheck (.tmp 0), 0, "", #[], none⟩).run P w)
@[irreducible] def oBI (b : Builtin) (ts : Array TypeId) (t : TypeId) (cs : List Bool) (args : List Value) (Kp : PK) (w : World) (K : VK) : Prop := fin P K Kp ((builtin b ts t cs.toArray args.toArray).run P w)
@[irreducible] def oCall (f : FuncId) (args : List Value) (Kp : PK) (w : World) (K : VK) : Prop := fin P K Kp ((callFunc f args.toArray).run P w)
@[irreducible] def oCallV (v : Value) (args : List Value) (Kp : PK) (w : World) (K : VK) : Prop := fin P K Kp ((do let d ← Deferred.ofValue v args.toArray; invoke d.target d.args).run P w)
@[irreducible] def oInv (r : Value) (name : String) (args : List Value) (Kp : PK) (w : World) (K : VK) : Prop := fin P K Kp ((invoke (.fn (.method name) #[]) (#[r] ++ args.toArray)).run P w)
end words

def isC : Operand → Bool
  | .const _ => true
  | _ => false

def oOther (P : Program) (Kp : PK) (dr : Bool) (e : Operand → Value) (o : Oper) (w : World) (K : VK) : Prop := oneOp' P Kp dr e o w K

/-- an operation, by its word; copies are made at once -/
def oneOp (P : Program) (Kp : PK) (dr : Bool) (e : Operand → Value) (o : Oper) (w : World) (K : VK) : Prop :=
  match o.op with
  | .move x => K (e x) w
  | .assign x => K (e x) w
  | .makeFunc fn a b => K (.func fn (a.toList.map e).toArray (b.toList.map e).toArray) w
  | .load t a => match dr with | true => oLD P t (e a) w K | false => oLoad P t (e a) Kp w K
  | .store t a x => oStore P t (e a) (e x) Kp w K
  | .fieldAddr s x f => match dr with | true => oD (fieldSized P s f) (oFA P s (e x) f Kp w K) | false => oFA P s (e x) f Kp w K
  | .indexAddr t x i => oIA P t (e x) (e i) Kp w K
  | .index t x i => oIX P t (e x) (e i) Kp w K
  | .slice t x lo hi mx => oSL P t (e x) (lo.map e) (hi.map e) (mx.map e) Kp w K
  | .field t x f => oFD P t (e x) f Kp w K
  | .extract x i => oEX P (e x) i Kp w K
  | .binOp op t x y _ => match dr with | true => oD (twin (e x) (e y)) (oBin P op t x y (e x) (e y) Kp w K) | false => oBin P op t x y (e x) (e y) Kp w K
  | .unOp op _ x => oUn P op (e x) Kp w K
  | .convert s d x => oCV P s d (e x) Kp w K
  | .makeInterface t x => oMI P t (e x) Kp w K
  | .pick c a b => oPick P (e c) (e a) (e b) Kp w K
  | .alloc t => oAlloc P t Kp w K
  | .box t x => oBox P t (e x) Kp w K
  | .build t ps => oBuild P t (ps.toList.map fun p => (p.1, e p.2)) Kp w K
  | .buildSlice t n ps => oBuildS P t n (ps.toList.map fun p => (p.1, e p.2)) Kp w K
  | .makeMap t r => oMM P t (r.map e) Kp w K
  | .makeSlice t l c => oMS P t (e l) (e c) Kp w K
  | .lookup t m k ok => oLK P t (e m) (e k) ok Kp w K
  | .mapUpdate t m k x => oMU P t (e m) (e k) (e x) Kp w K
  | .insert t m k x => oMU P t (e m) (e k) (e x) Kp w K
  | .mapEntry t m k => oME P t (e m) (e k) Kp w K
  | .entryStore t m s x => oES P t (e m) (e s) (e x) Kp w K
  | .range t x => oRange P t (e x) Kp w K
  | .next it s => oNext P (e it) s o.type Kp w K
  | .entry it => oEntry P (e it) Kp w K
  | .typeAssert x t a ok => oTA P (e x) t a ok Kp w K
  | .panic x => oPanic P (e x) Kp w K
  | .sliceToArrayPointer t x => oS2A P t (e x) Kp w K
  | .nilCheck x => match dr with | true => oD (ptrish (e x)) (oNil P (e x) Kp w K) | false => oNil P (e x) Kp w K
  | .call c => match c.callee with
    | .builtin b => match dr with
      | true => match b with
        | .len | .cap => oD (lenOk (c.args.toList.map e)) (oBI P b c.argTypes o.type (c.args.toList.map isC) (c.args.toList.map e) Kp w K)
        | .min | .max => oD (intsOk (c.args.toList.map e)) (oBI P b c.argTypes o.type (c.args.toList.map isC) (c.args.toList.map e) Kp w K)
        | _ => oBI P b c.argTypes o.type (c.args.toList.map isC) (c.args.toList.map e) Kp w K
      | false => oBI P b c.argTypes o.type (c.args.toList.map isC) (c.args.toList.map e) Kp w K
    | .value f => match f with
      | .func g => oCall P g (c.args.toList.map e) Kp w K
      | _ => oCallV P (e f) (c.args.toList.map e) Kp w K
    | .invoke r m => oInv P (e r) m (c.args.toList.map e) Kp w K
  | _ => oOther P Kp dr e o w K

theorem map_toList_toArray {α β : Type} (f : α → β) (a : Array α) : (a.toList.map f).toArray = a.map f := by
  cases a; simp

theorem oneOp_eq (P : Program) (Kp : PK) (dr : Bool) (e : Operand → Value) (he : ∀ f, e (.func f) = .func (.func f) #[] #[]) (o : Oper) (w : World) (K : VK) : oneOp P Kp dr e o w K = oneOp' P Kp dr e o w K := by
  obtain ⟨dst, op, ty, pos, after, guard⟩ := o
  cases op
  case call c =>
    obtain ⟨callee, args, ats⟩ := c
    have hm : ∀ (a : Array Operand), (a.toList.map e).toArray = a.map e := map_toList_toArray e
    cases callee with
    | builtin b =>
      have hc : (args.toList.map isC).toArray = args.map (fun | .const _ => true | _ => false) := by
        rw [map_toList_toArray]; first | rfl | (congr 1; funext x; cases x <;> rfl)
      cases dr <;> cases b <;> (simp only [oneOp, oneOp', condOk, oD, oBI, hm, hc, execOp, resolve, pure_bind]; try rfl)
    | value f =>
      cases f
      case func g => cases dr <;> (rw [oneOp]; simp only [oneOp', condOk, oD]; simp [oCall, map_toList_toArray, execOp, resolve, he, Deferred.ofValue, invoke, -List.map_toArray]; try (rw [hm]))
      all_goals cases dr <;> simp only [oneOp, oneOp', condOk, oD, oCallV, hm, execOp, resolve]
    | invoke r m => cases dr <;> (simp only [oneOp, oneOp', condOk, oD, oInv, hm, execOp, resolve, pure_bind])
  case build t ps =>
    have : (ps.toList.map fun p => (p.1, e p.2)).toArray = ps.map (fun (i, x) => (i, e x)) := by rw [map_toList_toArray]
    cases dr <;> (simp only [oneOp, oneOp', condOk, oD, oBuild, this]; rfl)
  case buildSlice t n ps =>
    have : (ps.toList.map fun p => (p.1, e p.2)).toArray = ps.map (fun (i, x) => (i, e x)) := by rw [map_toList_toArray]
    cases dr <;> (simp only [oneOp, oneOp', condOk, oD, oBuildS, this]; rfl)
  case makeFunc fn a b =>
    cases dr <;> (simp only [oneOp, oneOp', condOk, oD, map_toList_toArray]; rfl)
  case nilCheck x => cases dr <;> (simp only [oneOp, oneOp', condOk, oD, oNil]; rfl)
  all_goals
    cases dr <;> (simp only [oneOp, oneOp', condOk, oD, oOther, oLoad, oStore, oFA, oIA, oIX, oSL, oFD, oEX, oBin, oUn, oCV, oMI, oPick, oAlloc, oBox, oMM, oMS, oLK, oMU, oME, oES, oRange, oNext, oEntry, oTA, oPanic, oS2A]; try rfl)

theorem ev_func (ρ : Env) : ∀ f, ev ρ (.func f) = .func (.func f) #[] #[] := fun _ => rfl

def Wlist (P : Program) (ops : Array Oper) (Kn : Env → World → Prop) (Kp : PK) (dr : Bool) : List Oper → Env → World → Prop
  | [], ρ, w => Kn ρ w
  | o :: rest, ρ, w =>
    match o.guard with
    | none => oneOp P Kp dr (ev ρ) o w fun v w' => Wlist P ops Kn Kp dr rest (pt ρ o.dst v) w'
    | some (j, want) =>
      match ((ops[j]? : Option Oper)).bind (fun o => o.dst) with
      | some t => oG (isB (ρ t) want) (fun K => oneOp P Kp dr (ev ρ) o w K) (fun v w' => Wlist P ops Kn Kp dr rest (pt ρ o.dst v) w') w
      | none => False

/-! ### the order of a region -/
def maskOf (acc : List Nat) (o : Oper) : Nat :=
  o.after.toList.foldl (fun s e => bif Region.binds .any e then s ||| (1 <<< e.on) ||| acc.getD e.on 0 else s) 0

def masksGo : List Oper → List Nat → List Nat
  | [], acc => acc
  | o :: l, acc => masksGo l (acc ++ [maskOf acc o])

/-- 'k n', with 'n' worked out first -/
def force {α : Type} (n : Nat) (k : Nat → α) : α := match n with | 0 => k 0 | m + 1 => k (m + 1)
theorem force_eq {α : Type} (n : Nat) (k : Nat → α) : force n k = k n := by cases n <;> rfl

/-- the masks so far, the last first; each worked out as it is laid -/
def lookR (acc : List Nat) (k : Nat) (i : Nat) : Nat := bif Nat.ble (i + 1) k then acc.getD (k - 1 - i) 0 else 0
def maskF (acc : List Nat) (k : Nat) (o : Oper) : Nat :=
  o.after.toList.foldl (fun s e => bif Region.binds .any e then s ||| (1 <<< e.on) ||| lookR acc k e.on else s) 0
def masksF : List Oper → Nat → List Nat → List Nat
  | [], _, acc => acc
  | o :: l, k, acc => force (maskF acc k o) fun m => masksF l (k + 1) (m :: acc)

def edgesOk : List Oper → Nat → Bool
  | [], _ => true
  | o :: l, k => o.after.toList.all (fun e => !Region.binds .any e || e.on < k) && edgesOk l (k + 1)

def plainOp (o : Oper) : Bool := match o.op with | .select .. | .defer _ | .go _ | .recv .. | .send .. => false | _ => true

def pairOk (hd : Bool) (ops : Array Oper) (look : Nat → Nat) (i : Nat) (oi : Oper) (j : Nat) (oj : Oper) : Bool :=
  inMask (look j) i || (oi.apart ops oj && (cls oi == 0 || cls oj == 0 || match hd with | true => cls oi == 1 || cls oj == 1 | false => cls oi == 1 && (cls oj == 1 || cls oj == 3)))

def rowOk (hd : Bool) (ops : Array Oper) (look : Nat → Nat) (i : Nat) (oi : Oper) : List Oper → Nat → Bool
  | [], _ => true
  | oj :: l, j => pairOk hd ops look i oi j oj && rowOk hd ops look i oi l (j + 1)

def pairsOk (hd : Bool) (ops : Array Oper) (look : Nat → Nat) : List Oper → Nat → Bool
  | [], _ => true
  | o :: l, i => rowOk hd ops look i o l (i + 1) && pairsOk hd ops look l (i + 1)

def orderOk (hd : Bool) (ops : Array Oper) : Bool :=
  ops.toList.all plainOp && edgesOk ops.toList 0 && pairsOk hd ops (lookR (masksF ops.toList 0 []) ops.size) ops.toList 0

/-- all loads come ahead of it -/
def loadsIn (m : Nat) : List Oper → Nat → Bool
  | [], _ => true
  | o :: l, j => (match o.op with | .load .. => inMask m j | _ => true) && loadsIn m l (j + 1)
def lateO (ops : Array Oper) (o : Oper) : Bool := loadsIn (maskF (masksF ops.toList 0 []) ops.size o) ops.toList 0

/-- an operation of a region in which what the loads read stays as it is ('S') -/
def oneOpH (P : Program) (ops : Array Oper) (S : World → Prop) (e : Operand → Value) (o : Oper) (w : World) (K : VK) : Prop :=
  match o.op with
  | .load t a => oHL P S t (e a) w K
  | _ => match Nat.beq (cls o) 0 with
    | true => oneOp P noP true e o w K
    | false => match lateO ops o with
      | true => oneOp P noP true e o w K
      | false => oneOp P noP true e o w fun v w' => S w' ∧ K v w'

def WlistH (P : Program) (ops : Array Oper) (Kn : Env → World → Prop) (S : World → Prop) : List Oper → Env → World → Prop
  | [], ρ, w => Kn ρ w
  | o :: rest, ρ, w =>
    match o.guard with
    | none => oneOpH P ops S (ev ρ) o w fun v w' => WlistH P ops Kn S rest (pt ρ o.dst v) w'
    | some (j, want) =>
      match ((ops[j]? : Option Oper)).bind (fun o => o.dst) with
      | some t => oG (isB (ρ t) want) (fun K => oneOpH P ops S (ev ρ) o w K) (fun v w' => WlistH P ops Kn S rest (pt ρ o.dst v) w') w
      | none => False

/-! ### a region of which several orders are walked -/
inductive Tr where
  | nil
  | one (i : Nat) (t : Tr)
  | alt (i : Nat) (t : Tr) (r : Tr)

def readyB (m i : Nat) (o : Oper) : Bool := !(inMask m i) && o.after.toList.all (fun e => !Region.binds .any e || inMask m e.on)
def freeRow (ops : Array Oper) (look : Nat → Nat) (m i : Nat) (oi : Oper) : List Oper → Nat → Bool
  | [], _ => true
  | oj :: l, j => (inMask m j || Nat.beq j i || inMask (look j) i || (oi.apart ops oj && (cls oi == 0 || cls oj == 0 || cls oi == 1 || cls oj == 1))) && freeRow ops look m i oi l (j + 1)
def isHead (j : Nat) : Tr → Bool
  | .nil => false
  | .one i _ => Nat.beq i j
  | .alt i _ r => Nat.beq i j || isHead j r
def coverRow (m : Nat) (t : Tr) : List Oper → Nat → Bool
  | [], _ => true
  | o :: l, j => (!(readyB m j o) || isHead j t) && coverRow m t l (j + 1)
def fullRow (m : Nat) : List Oper → Nat → Bool
  | [], _ => true
  | _ :: l, j => inMask m j && fullRow m l (j + 1)

def okT (ops : Array Oper) (look : Nat → Nat) : Tr → Bool → Nat → Nat → Bool
  | .nil, f, n, m => !f && Nat.beq n 0 && fullRow m ops.toList 0
  | .one i t, f, n, m => match n, ops[i]? with
    | n' + 1, some o => readyB m i o && (f || freeRow ops look m i o ops.toList 0) && okT ops look t false n' (m ||| (1 <<< i))
    | _, _ => false
  | .alt i t r, f, n, m => match n, ops[i]? with
    | n' + 1, some o => (f || coverRow m (.alt i t r) ops.toList 0) && readyB m i o && okT ops look t false n' (m ||| (1 <<< i)) && okT ops look r true n m
    | _, _ => false

def trOk (ops : Array Oper) (t : Tr) : Bool :=
  ops.toList.all plainOp && edgesOk ops.toList 0 && okT ops (lookR (masksF ops.toList 0 []) ops.size) t false ops.size 0

def oAnd (A B : Prop) : Prop := A ∧ B

def stepT (P : Program) (ops : Array Oper) (S : World → Prop) (o : Oper) (ρ : Env) (w : World) (next : Env → World → Prop) : Prop :=
  match o.guard with
  | none => oneOpH P ops S (ev ρ) o w fun v w' => next (pt ρ o.dst v) w'
  | some (j, want) =>
    match ((ops[j]? : Option Oper)).bind (fun o => o.dst) with
    | some t => oG (isB (ρ t) want) (fun K => oneOpH P ops S (ev ρ) o w K) (fun v w' => next (pt ρ o.dst v) w') w
    | none => False

def WT (P : Program) (ops : Array Oper) (Kn : Env → World → Prop) (S : World → Prop) : Tr → Env → World → Prop
  | .nil, ρ, w => Kn ρ w
  | .one i t, ρ, w => match ops[i]? with
    | some o => stepT P ops S o ρ w fun ρ' w' => WT P ops Kn S t ρ' w'
    | none => False
  | .alt i t r, ρ, w => match ops[i]? with
    | some o => oAnd (stepT P ops S o ρ w fun ρ' w' => WT P ops Kn S t ρ' w') (WT P ops Kn S r ρ w)
    | none => False

/-! ### a region of which no operation turns the world -/
def oS (run : VK → Prop) (w : World) (K : VK) : Prop := ∃ v, run (fun v' w' => v' = v ∧ w' = w) ∧ K v w

def WlistS (P : Program) (ops : Array Oper) (Kn : Env → World → Prop) : List Oper → Env → World → Prop
  | [], ρ, w => Kn ρ w
  | o :: rest, ρ, w =>
    match o.guard with
    | none => oS (fun K => oneOp P noP false (ev ρ) o w K) w fun v w' => WlistS P ops Kn rest (pt ρ o.dst v) w'
    | some (j, want) =>
      match ((ops[j]? : Option Oper)).bind (fun o => o.dst) with
      | some t => oG (isB (ρ t) want) (fun K => oS (fun K => oneOp P noP false (ev ρ) o w K) w K) (fun v w' => WlistS P ops Kn rest (pt ρ o.dst v) w') w
      | none => False

def rowA (ops : Array Oper) (look : Nat → Nat) (i : Nat) (oi : Oper) : List Oper → Nat → Bool
  | [], _ => true
  | oj :: l, j => (inMask (look j) i || oi.apart ops oj) && rowA ops look i oi l (j + 1)
def pairsA (ops : Array Oper) (look : Nat → Nat) : List Oper → Nat → Bool
  | [], _ => true
  | o :: l, i => rowA ops look i o l (i + 1) && pairsA ops look l (i + 1)
def quietOp (o : Oper) : Bool := plainOp o && (Nat.beq (cls o) 0 || Nat.beq (cls o) 1) && (match o.op with | .nilCheck _ => false | _ => true)
def stillOk (ops : Array Oper) : Bool :=
  ops.toList.all quietOp && edgesOk ops.toList 0 && pairsA ops (lookR (masksF ops.toList 0 []) ops.size) ops.toList 0
def elemN (k : Nat) : List Nat → Bool
  | [] => false
  | a :: l => Nat.beq a k || elemN k l

/-! ### the code -/
structure Ann where
  loops : List (Nat × List Nat × Nat)
  cuts : List (Nat × List Nat × Nat)
  forks : List (Nat × Tr)
  stills : List Nat

def lkT : List (Nat × Tr) → Nat → Option Tr
  | [], _ => none
  | (a, b) :: r, k => bif Nat.beq a k then some b else lkT r k

def lk : List (Nat × List Nat × Nat) → Nat → Option (List Nat × Nat)
  | [], _ => none
  | (a, b) :: r, k => bif Nat.beq a k then some b else lk r k

def firstId : Code → Option Nat
  | .region id _ _ => some id
  | .seq a b => match firstId a with | some k => some k | none => firstId b
  | .cond _ a b => match firstId a with | some k => some k | none => firstId b
  | .block _ b => firstId b
  | .loop b => firstId b
  | _ => none

def writes : Code → List Nat
  | .region _ ops _ => ops.toList.filterMap (·.dst)
  | .seq a b => writes a ++ writes b
  | .cond _ a b => writes a ++ writes b
  | .block _ b => writes b
  | .loop b => writes b
  | _ => []

def writesIn (m : Nat) : Code → Bool
  | .region _ ops _ => ops.toList.all fun o => match o.dst with | some d => inMask m d | none => true
  | .seq a b => writesIn m a && writesIn m b
  | .cond _ a b => writesIn m a && writesIn m b
  | .block _ b => writesIn m b
  | .loop b => writesIn m b
  | _ => true

def slotsOk (n : Nat) : Code → Bool
  | .region _ ops _ => ops.toList.all fun o => match o.dst with | some d => decide (d < n) | none => true
  | .seq a b => slotsOk n a && slotsOk n b
  | .cond _ a b => slotsOk n a && slotsOk n b
  | .block _ b => slotsOk n b
  | .loop b => slotsOk n b
  | _ => true

def lkO (l : List (Nat × List Nat × Nat)) : Option Nat → Option (List Nat × Nat)
  | some k => lk l k
  | none => none

def W (P : Program) (an : Ann) (Kp : PK) : Code → (Exit → Env → World → Prop) → Env → World → Prop
  | .skip, Q, ρ, w => Q .normal ρ w
  | .region id ops draw, Q, ρ, w =>
    match draw with
    | false => Wlist P ops (Q .normal) Kp false ops.toList ρ w
    | true => match lkT an.forks id with
      | some t => match trOk ops t with
        | true => ∃ S : World → Prop, S w.drew ∧ WT P ops (Q .normal) S t ρ w.drew
        | false => False
      | none => match elemN id an.stills with
       | true => match stillOk ops with
        | true => WlistS P ops (Q .normal) ops.toList ρ w.drew
        | false => False
       | false => match orderOk false ops with
        | true => Wlist P ops (Q .normal) noP true ops.toList ρ w.drew
        | false => match orderOk true ops with
          | true => ∃ S : World → Prop, S w.drew ∧ WlistH P ops (Q .normal) S ops.toList ρ w.drew
          | false => False
  | .seq x y, Q, ρ, w =>
    match lkO an.cuts (firstId y) with
    | none => W P an Kp x (fun e => match e with | .normal => W P an Kp y Q | e => Q e) ρ w
    | some (S', m) => match writesIn m x with
      | true => ∃ M : List Value → World → Prop,
        W P an Kp x (fun e ρ' w' => match e with | .normal => M (S'.map ρ') w' | e => Q e ρ' w') ρ w ∧
        ∀ (f : Env) w', M (S'.map f) w' → W P an Kp y Q (ovr ρ m f) w'
      | false => False
  | .cond c x y, Q, ρ, w => oCond (ev ρ c) (W P an Kp x Q ρ w) (W P an Kp y Q ρ w)
  | .block id b, Q, ρ, w => W P an Kp b (fun e ρ w => match e with
      | .exit id' => bif Nat.beq id' id then Q .normal ρ w else Q (.exit id') ρ w
      | e => Q e ρ w) ρ w
  | .loop b, Q, ρ, w =>
    match lkO an.loops (firstId b) with
    | none => False
    | some (S', m) => match writesIn m b with
      | true => ∃ (J : List Value → World → Prop) (μ : List Value → World → Nat), J (S'.map ρ) w ∧
        ∀ (f : Env) w1, J (S'.map f) w1 → W P an Kp b (fun e ρ' w' => match e with
          | .normal => J (S'.map ρ') w' ∧ μ (S'.map ρ') w' < μ (S'.map f) w1
          | e => Q e ρ' w') (ovr ρ m f) w1
      | false => False
  | .exit id, Q, ρ, w => Q (.exit id) ρ w
  | .ret, Q, ρ, w => Q .ret ρ w
  | .label _, Q, ρ, w => Q .normal ρ w
  | _, _, _, _ => False

/-! ### soundness -/
theorem nbeq_ne {s t : Nat} (h : s ≠ t) : Nat.beq s t = false := by
  cases hb : Nat.beq s t with
  | false => rfl
  | true => exact absurd (Nat.eq_of_beq_eq_true hb) h

structure Rel (n : Nat) (a : Act) (ρ : Env) : Prop where
  size : a.tmps.size = n
  defers : a.defers = []
  get : ∀ t, a.tmps.getD t undef = ρ t

theorem Rel.eval {n : Nat} {a : Act} {ρ : Env} (h : Rel n a ρ) : a.eval = ev ρ := by
  funext x; cases x <;> simp only [Act.eval, ev]; exact h.get _

theorem Rel.put {n : Nat} {a : Act} {ρ : Env} (h : Rel n a ρ) (d : Option Tmp) (hd : ∀ t, d = some t → t < n) (v : Value) : Rel n (a.put d v) (pt ρ d v) := by
  cases d with
  | none => exact h
  | some t =>
    have ht := hd t rfl
    refine ⟨by simp [Act.put, h.size], h.defers, fun s => ?_⟩
    have := h.get s
    simp only [Act.put, pt]
    by_cases hs : s = t
    · subst hs
      simp [h.size, ht]
    · have hb : Nat.beq s t = false := nbeq_ne hs
      rw [hb, cond_false, ← this]
      have : t ≠ s := fun h => hs h.symm
      simp [Array.getElem?_setIfInBounds_ne this]

def post (n : Nat) (Kp : PK) (Q : Exit → Env → World → Prop) : Exit → Act → World → Prop
  | .panic c, a, w => a.defers = [] ∧ Kp c w
  | .outgrown, _, _ => False
  | e, a, w => ∃ ρ, Rel n a ρ ∧ Q e ρ w

theorem nat_beq_self (t : Nat) : Nat.beq t t = true := by simp

theorem writesIn_spec {m : Nat} : ∀ (c : Code), writesIn m c = true → ∀ t, t ∈ writes c → inMask m t = true := by
  intro c
  induction c with
  | region id ops draw =>
    intro h t ht
    obtain ⟨o, ho, hd⟩ := List.mem_filterMap.1 ht
    have := List.all_eq_true.1 h o ho
    rw [hd] at this; exact this
  | seq a b iha ihb =>
    intro h t ht
    simp only [writesIn, Bool.and_eq_true] at h
    rcases List.mem_append.1 ht with h1 | h1
    · exact iha h.1 t h1
    · exact ihb h.2 t h1
  | cond _ a b iha ihb =>
    intro h t ht
    simp only [writesIn, Bool.and_eq_true] at h
    rcases List.mem_append.1 ht with h1 | h1
    · exact iha h.1 t h1
    · exact ihb h.2 t h1
  | block _ b ih => intro h t ht; exact ih h t ht
  | loop b ih => intro h t ht; exact ih h t ht
  | _ => intro _ t ht; cases ht

theorem ovr_self {ρ ρ' : Env} {c : Code} {m : Nat} (hm : writesIn m c = true) (h : ∀ t, t ∉ writes c → ρ' t = ρ t) : ovr ρ m ρ' = ρ' := by
  funext t
  unfold ovr
  cases hi : inMask m t with
  | true => rfl
  | false => exact (h t (fun hc => by rw [writesIn_spec c hm t hc] at hi; cases hi)).symm

theorem post_normal {n : Nat} {Kp : PK} {Q : Exit → Env → World → Prop} {a : Act} {w : World} {ρ : Env} (h : Rel n a ρ) (q : Q .normal ρ w) : post n Kp Q .normal a w := ⟨ρ, h, q⟩

section list
variable {P : Program} {n : Nat} {Kp : PK} {Q : Exit → Env → World → Prop} {ops : Array Oper}

/-- one operation's run, in the frame -/
theorem upon_of_fin {a : Act} {o : Oper} {K : VK} {next : Act → World → Prop} {Q' : Exit → Act → World → Prop}
    (hn : ∀ v w, K v w → next (a.put o.dst v) w) (hp : ∀ c w, Kp c w → Q' (.panic c) a w) :
    ∀ (r : Result Next), fin P K Kp r → o.upon P a next Q' r := by
  intro r h
  cases r with
  | ok x w =>
    cases x <;> simp only [fin] at h <;> simp only [Oper.upon]
    case value v => exact hn _ _ h
    case skip => exact hn _ _ h
    case enter f args =>
      refine Calls.mono h fun e w' he => ?_
      cases e with
      | returned v => exact hn _ _ he
      | panicked c => exact hp _ _ he
      | outgrown => exact he.elim
    case row r args => exact Rows.mono h fun v w' he => hn _ _ he
  | halt x w =>
    cases x <;> simp only [fin] at h <;> simp only [Oper.upon]
    case panic v => exact hp _ _ h

theorem wanted_none {o : Oper} (hg : o.guard = none) (y : Nat → Option Bool) : Region.wanted o y = true := by simp [Region.wanted, hg]

theorem wanted_some {a : Act} {ρ : Env} {o : Oper} {j t : Nat} {want : Bool} (hr : Rel n a ρ) (hg : o.guard = some (j, want)) (hd : ((ops[j]? : Option Oper)).bind (fun o => o.dst) = some t) (ht : t < n) :
    Region.wanted o (yielded ops a.tmps) = isB (ρ t) want := by
  simp only [Region.wanted, hg, yielded, hd, Option.bind_some]
  have h := hr.get t
  have hs : t < a.tmps.size := by rw [hr.size]; exact ht
  simp [hs] at h
  simp only [Array.getElem?_eq_getElem hs, isB, h]
  cases ρ t <;> simp

def dstsOk (n : Nat) (ops : Array Oper) : Prop := ∀ (j t : Nat), ((ops[j]? : Option Oper)).bind (fun o => o.dst) = some t → t < n


/-- a list of operations in the order of the text -/
theorem Wlist_sound (hd : dstsOk n ops) {ws : List Nat} : ∀ (l : List Oper) (ρ0 : Env), (∀ o ∈ l, ∃ j : Nat, ops[j]? = some o) → (∀ o ∈ l, ∀ t, o.dst = some t → t ∈ ws) → ∀ (ρ : Env) (w : World) (a : Act), Rel n a ρ → (∀ t, t ∉ ws → ρ t = ρ0 t) →
    Wlist P ops (Q .normal) Kp false l ρ w → wpList P ops (post n Kp fun e ρ' w' => (∀ t, t ∉ ws → ρ' t = ρ0 t) ∧ Q e ρ' w') l a w := by
  intro l ρ0
  induction l with
  | nil => intro _ _ ρ w a hr ha h; exact ⟨ρ, hr, ha, h⟩
  | cons o l ih =>
    intro hm hw ρ w a hr ha h
    have ih' := ih (fun o' h' => hm o' (List.mem_cons_of_mem _ h')) (fun o' h' => hw o' (List.mem_cons_of_mem _ h'))
    obtain ⟨jo, hjo⟩ := hm o (List.mem_cons_self ..)
    have hdo : ∀ t, o.dst = some t → t < n := fun t ht => hd jo t (by simp [hjo, ht])
    have next : ∀ v w', Wlist P ops (Q .normal) Kp false l (pt ρ o.dst v) w' → wpList P ops (post n Kp fun e ρ' w' => (∀ t, t ∉ ws → ρ' t = ρ0 t) ∧ Q e ρ' w') l (a.put o.dst v) w' := by
      intro v w' h'
      refine ih' _ _ _ (hr.put _ hdo v) (fun t ht => ?_) h'
      cases hdd : o.dst with
      | none => exact ha t ht
      | some d =>
        have : t ≠ d := fun e => ht (e ▸ hw o (List.mem_cons_self ..) d hdd)
        simp only [pt, nbeq_ne this, cond_false]; exact ha t ht
    have pan : ∀ c w', Kp c w' → post n Kp (fun e ρ' w' => (∀ t, t ∉ ws → ρ' t = ρ0 t) ∧ Q e ρ' w') (.panic c) a w' := fun c w' hc => ⟨hr.defers, hc⟩
    unfold wpList
    unfold Wlist at h
    simp only [oneOp_eq P Kp false _ (ev_func _), oneOp'] at h
    cases hg : o.guard with
    | none =>
      simp only [hg] at h
      rw [if_pos (wanted_none hg _)]
      refine .inl ?_
      unfold Oper.wp
      rw [hr.eval]
      exact upon_of_fin next pan _ h
    | some g =>
      obtain ⟨j, want⟩ := g
      simp only [hg] at h
      cases hj : ((ops[j]? : Option Oper)).bind (fun o => o.dst) with
      | none => simp only [hj] at h
      | some t =>
        simp only [hj] at h
        rw [wanted_some hr hg hj (hd j t hj)]
        cases hb : isB (ρ t) want with
        | true =>
          simp only [hb, oG] at h
          rw [if_pos rfl]
          refine .inl ?_
          unfold Oper.wp
          rw [hr.eval]
          exact upon_of_fin next pan _ h
        | false =>
          simp only [hb, oG] at h
          rw [if_neg (by simp)]
          exact next _ _ h
end list

end Go.Proofs.YtlbihkgfejgefaaDoor.L

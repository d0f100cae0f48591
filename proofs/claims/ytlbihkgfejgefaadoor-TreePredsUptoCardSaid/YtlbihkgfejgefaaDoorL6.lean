/- Lib 6: rules of the words at values that are known. -/
import Derived.Test.YtlbihkgfejgefaaDoorL5
import Derived.IntWalk
namespace Go.Proofs.YtlbihkgfejgefaaDoor.L
open Go
set_option linter.unusedVariables false

/-! ### what the types say (instances are printed by the mill) -/
def fieldOff (P : Program) (s f : Nat) : Option Nat :=
  match P.underlying s with
  | some (.struct fs) => match fs[f]? with
    | some fl => match P.info? fl.type with
      | some i => bif Nat.beq i.size 0 then none else some fl.offset
      | none => none
    | none => none
  | _ => none
class FieldOff (P : Program) (s f : Nat) (off : outParam Nat) : Prop where h : fieldOff P s f = some off

def isScalar (P : Program) (t : Nat) : Bool :=
  match P.underlying t with
  | some (.struct _) | some (.array ..) => false
  | some _ => true
  | none => false
class Scalar (P : Program) (t : Nat) : Prop where
  h : isScalar P t = true
  s : (P.info? t).map (·.size) = some 1

def aggSize (P : Program) (t : Nat) : Option Nat :=
  match P.underlying t with
  | some (.struct _) | some (.array ..) => (P.info? t).map (·.size)
  | _ => none
class AggN (P : Program) (t : Nat) (n : outParam Nat) : Prop where h : aggSize P t = some n

def sliceInfo (P : Program) (t : Nat) : Option (Nat × Nat × Nat) :=
  match P.underlying t with
  | some (.slice e) => (P.info? e).map fun i => (e, i.size, i.bytes)
  | _ => none
class SliceT (P : Program) (t : Nat) (e sz bytes : outParam Nat) : Prop where h : sliceInfo P t = some (e, sz, bytes)

def isStr (P : Program) (t : Nat) : Bool := match P.underlying t with | some .string => true | _ => false
class StrT (P : Program) (t : Nat) : Prop where h : isStr P t = true

def zeroOf (P : Program) (t : Nat) : Option Value := (P.info? t).bind (·.zero)
class ZeroT (P : Program) (t : Nat) (z : outParam Value) : Prop where h : zeroOf P t = some z

def intOf? (P : Program) (t : Nat) : Option IntKind := match P.underlying t with | some (.int k) => some k | _ => none
class IntT (P : Program) (t : Nat) (k : outParam IntKind) : Prop where h : intOf? P t = some k
def arrInfo (P : Program) (t : Nat) : Option (Nat × Nat × Nat) :=
  match P.underlying t with
  | some (.array n e) => (P.info? e).map fun i => (n, e, i.size)
  | _ => none
class ArrT (P : Program) (t : Nat) (n e sz : outParam Nat) : Prop where h : arrInfo P t = some (n, e, sz)
def mapInfo (P : Program) (t : Nat) : Option (Nat × Nat) := match P.underlying t with | some (.map k e) => some (k, e) | _ => none
class MapT (P : Program) (t : Nat) (k e : outParam Nat) : Prop where h : mapInfo P t = some (k, e)
def ptrInfo (P : Program) (t : Nat) : Option (Nat × Nat) :=
  match P.underlying t with
  | some (.pointer e) => (P.info? e).map fun i => (e, i.size)
  | _ => none
class PtrT (P : Program) (t : Nat) (e sz : outParam Nat) : Prop where h : ptrInfo P t = some (e, sz)

/-- a call of the function enters its body -/
class EntT (P : Program) (f : Nat) : Prop where h : ∀ args w, (callFunc f args).run P w = .ok (.enter f args) w

theorem entT_of {P : Program} {f : Nat} {fn : Func} (hf : P.funcs[f]? = some fn) (hb : fn.body.isNone = false) (hn : (fn.name == "runtime.NumGoroutine") = false) : EntT P f := by
  refine ⟨fun args w => ?_⟩
  unfold callFunc
  simp only [Sem.run_bind, run_program, Result.andThen_ok, hf, hn, hb, Bool.false_eq_true, if_false, Sem.run_pure]

/-! ### runs -/
section runs
variable {P : Program} {w : World}
theorem run_und {t : Nat} {d : TypeDesc} (h : P.underlying t = some d) : (Go.underlying t).run P w = .ok d w := by
  unfold Go.underlying; simp [h]
theorem run_info {t : Nat} {i : TypeInfo} (h : P.info? t = some i) : (Go.typeInfo t).run P w = .ok i w := by
  unfold Go.typeInfo; simp [h]
theorem run_size {t : Nat} {i : TypeInfo} (h : P.info? t = some i) : (Go.sizeOf t).run P w = .ok i.size w := by
  unfold Go.sizeOf; rw [Sem.run_bind, run_info h]; rfl

theorem add_ad (b o n : Nat) : (⟨b, o, none⟩ : Addr).add n = ⟨b, o + n, none⟩ := by
  unfold Addr.add
  split
  · rename_i h; subst h; rfl
  · rfl

theorem run_fieldAt {s f off : Nat} (h : fieldOff P s f = some off) (b o : Nat) : (Instr.fieldAt s (.pointer (some ⟨b, o, none⟩)) f).run P w = .ok (.pointer (some ⟨b, o + off, none⟩)) w := by
  unfold fieldOff at h
  split at h <;> (try (cases h; done))
  rename_i fs hfs
  split at h <;> (try (cases h; done))
  rename_i fl hfl
  split at h <;> (try (cases h; done))
  rename_i i hi
  cases hb : Nat.beq i.size 0 with
  | true => rw [hb] at h; cases h
  | false =>
    rw [hb] at h
    have hne : i.size ≠ 0 := fun h0 => by rw [h0] at hb; simp at hb
    cases h
    unfold Instr.fieldAt Go.fieldPlace Instr.sureAddr
    simp only [Sem.run_bind, run_und hfs, Result.andThen_ok, hfl, Sem.run_pure, run_size hi, if_neg hne, add_ad]

theorem run_isAgg_false {t : Nat} (h : isScalar P t = true) : (Go.isAgg t).run P w = .ok false w := by
  unfold isScalar at h
  unfold Go.isAgg
  cases hu : P.underlying t with
  | none => rw [hu] at h; cases h
  | some d => rw [hu] at h; cases d <;> first | (cases h; done) | simp [run_und hu]

theorem run_load_scalar {t : Nat} (h : isScalar P t = true) {a : Addr} {v : Value} (hc : w.cell? a = some v) : (Instr.loadAt t (.pointer (some a))).run P w = .ok v w := by
  unfold Instr.loadAt Instr.sureAddr Go.loadVar
  simp only [Sem.run_bind, Sem.run_pure, Result.andThen_ok, run_isAgg_false h, Bool.false_eq_true, if_false, run_load, hc]

theorem aggSize_spec {t n : Nat} (h : aggSize P t = some n) : (∀ w, (Go.isAgg t).run P w = .ok true w) ∧ ∃ i, P.info? t = some i ∧ i.size = n := by
  unfold aggSize at h
  unfold Go.isAgg
  cases hu : P.underlying t with
  | none => rw [hu] at h; cases h
  | some d =>
    rw [hu] at h
    cases d <;> (try (cases h; done)) <;>
      (refine ⟨fun w => by simp [run_und hu], ?_⟩; cases hi : P.info? t with
        | none => rw [hi] at h; cases h
        | some i => rw [hi] at h; exact ⟨i, rfl, by simpa using h⟩)

theorem run_loadCells (b : Nat) : ∀ (cs : List Value) (o i : Nat) (acc : Array Value), (∀ j (h : j < cs.length), w.cell? ⟨b, o + (i + j), none⟩ = some cs[j]) →
    (Go.loadCellsFrom ⟨b, o, none⟩ i cs.length acc).run P w = .ok (acc ++ cs.toArray) w := by
  intro cs
  induction cs with
  | nil => intro o i acc _; simp [Go.loadCellsFrom]
  | cons c cs ih =>
    intro o i acc h
    have h0 := h 0 (by simp)
    simp only [Nat.add_zero, List.getElem_cons_zero] at h0
    simp only [List.length_cons, Go.loadCellsFrom, Sem.run_bind, run_load, add_ad, h0, Result.andThen_ok]
    rw [ih o (i + 1) (acc.push c) (fun j hj => by have := h (j + 1) (by simp; omega); rw [show i + 1 + j = i + (j + 1) by omega]; simpa using this)]
    simp

theorem run_load_agg {t n : Nat} (h : aggSize P t = some n) {b o : Nat} {cs : List Value} (hl : cs.length = n) (hc : ∀ j (h : j < cs.length), w.cell? ⟨b, o + j, none⟩ = some cs[j]) :
    (Instr.loadAt t (.pointer (some ⟨b, o, none⟩))).run P w = .ok (.agg cs.toArray) w := by
  obtain ⟨ha, i, hi, hs⟩ := aggSize_spec h
  unfold Instr.loadAt Instr.sureAddr Go.loadVar Go.loadCells
  have hlen : i.size = cs.length := by rw [hs, hl]
  simp only [Sem.run_bind, Sem.run_pure, Result.andThen_ok, ha, if_true, run_size hi, hlen]
  rw [run_loadCells b cs o 0 #[] (fun j hj => by simpa using hc j hj)]
  simp
end runs

/-! ### the rules -/
section rules
variable {P : Program} {Kp : PK} {w : World} {K : VK}

theorem rFA {s f off b o : Nat} [h : FieldOff P s f off] (hk : K (.pointer (some ⟨b, o + off, none⟩)) w) : oFA P s (.pointer (some ⟨b, o, none⟩)) f Kp w K := by
  unfold oFA; simp only [NV, Sem.run_bind, run_fieldAt h.h, Result.andThen_ok, Sem.run_pure, fin]; exact hk

theorem rLoad {t : Nat} [h : Scalar P t] {a : Addr} {v : Value} (hc : w.cell? a = some v) (hk : K v w) : oLoad P t (.pointer (some a)) Kp w K := by
  unfold oLoad; simp only [NV, Sem.run_bind, run_load_scalar h.h hc, Result.andThen_ok, Sem.run_pure, fin]; exact hk

theorem rLoadN {t n b o : Nat} [h : AggN P t n] (cs : List Value) (hl : cs.length = n) (hc : ∀ j (h : j < cs.length), w.cell? ⟨b, o + j, none⟩ = some cs[j]) (hk : K (.agg cs.toArray) w) :
    oLoad P t (.pointer (some ⟨b, o, none⟩)) Kp w K := by
  unfold oLoad; simp only [NV, Sem.run_bind, run_load_agg h.h hl hc, Result.andThen_ok, Sem.run_pure, fin]; exact hk

theorem rLD {t : Nat} [h : Scalar P t] {a : Addr} {v : Value} (hc : w.cell? a = some v) (hk : K v w) : oLD P t (.pointer (some a)) w K :=
  ⟨v, fun _ h1 => run_load_scalar h.h (h1 a v hc), hk⟩

theorem rLDN {t n b o : Nat} [h : AggN P t n] (cs : List Value) (hl : cs.length = n) (hc : ∀ j (h : j < cs.length), w.cell? ⟨b, o + j, none⟩ = some cs[j]) (hk : K (.agg cs.toArray) w) :
    oLD P t (.pointer (some ⟨b, o, none⟩)) w K :=
  ⟨_, fun _ h1 => run_load_agg h.h hl (fun j hj => h1 _ _ (hc j hj)), hk⟩

theorem rNil {a : Addr} (hk : K (.pointer (some a)) w) : oNil P (.pointer (some a)) Kp w K := by
  unfold oNil; exact hk

theorem rD {b : Bool} {X : Prop} (hb : b = true) (h : X) : oD b X := by subst hb; exact h

theorem rCall {f : Nat} [h : EntT P f] {args : List Value} {R : VK} (hc : Calls P f args.toArray w (callR R noP)) (hk : ∀ v w', R v w' → K v w') : oCall P f args Kp w K := by
  unfold oCall
  rw [h.h]
  simp only [fin]
  exact Calls.mono hc fun e w' he => by
    cases e with
    | returned v => exact hk v w' he
    | panicked c => exact he.elim
    | outgrown => exact he.elim

theorem rTrue {A B : Prop} (h : A) : oCond (.bool true) A B := h
theorem rFalse {A B : Prop} (h : B) : oCond (.bool false) A B := h
theorem rCond {c : Prop} [Decidable c] {A B : Prop} (h1 : c → A) (h2 : ¬ c → B) : oCond (.bool (decide c)) A B := by
  by_cases h : c
  · rw [decide_eq_true h]; exact h1 h
  · rw [decide_eq_false h]; exact h2 h
theorem rCondB {b : Bool} {A B : Prop} (h1 : b = true → A) (h2 : b = false → B) : oCond (.bool b) A B := by
  cases b
  · exact h2 rfl
  · exact h1 rfl

theorem rBin_of {op : BinOp} {t : Nat} {ox oy : Operand} {x y v : Value} (h : (do eqGuard op t ox oy x y; binOp op t x y : Sem Value).run P w = .ok v w) (hk : K v w) : oBin P op t ox oy x y Kp w K := by
  unfold oBin; simp only [NV]; rw [Sem.run_bind, h]; exact hk

theorem rAdd {t : Nat} {ox oy : Operand} {a b : Int} (h1 : -9223372036854775808 ≤ a + b) (h2 : a + b ≤ 9223372036854775807) (hk : K (.int .i64 (a + b)) w) : oBin P .add t ox oy (.int .i64 a) (.int .i64 b) Kp w K := by
  refine rBin_of ?_ hk
  simp [eqGuard, binOp, Op.intArith, IntWalk.i64_in _ ⟨h1, h2⟩]
theorem rSub {t : Nat} {ox oy : Operand} {a b : Int} (h1 : -9223372036854775808 ≤ a - b) (h2 : a - b ≤ 9223372036854775807) (hk : K (.int .i64 (a - b)) w) : oBin P .sub t ox oy (.int .i64 a) (.int .i64 b) Kp w K := by
  refine rBin_of ?_ hk
  simp [eqGuard, binOp, Op.intArith, IntWalk.i64_in _ ⟨h1, h2⟩]
theorem rLss {t : Nat} {ox oy : Operand} {k : IntKind} {a b : Int} (hk : K (.bool (decide (a < b))) w) : oBin P .lss t ox oy (.int k a) (.int k b) Kp w K := by
  refine rBin_of ?_ hk; simp [eqGuard, binOp, Op.intCmp]
theorem rLeq {t : Nat} {ox oy : Operand} {k : IntKind} {a b : Int} (hk : K (.bool (decide (a ≤ b))) w) : oBin P .leq t ox oy (.int k a) (.int k b) Kp w K := by
  refine rBin_of ?_ hk; simp [eqGuard, binOp, Op.intCmp]
theorem rGtr {t : Nat} {ox oy : Operand} {k : IntKind} {a b : Int} (hk : K (.bool (decide (b < a))) w) : oBin P .gtr t ox oy (.int k a) (.int k b) Kp w K := by
  refine rBin_of ?_ hk; simp [eqGuard, binOp, Op.intCmp]
theorem rGeq {t : Nat} {ox oy : Operand} {k : IntKind} {a b : Int} (hk : K (.bool (decide (b ≤ a))) w) : oBin P .geq t ox oy (.int k a) (.int k b) Kp w K := by
  refine rBin_of ?_ hk; simp [eqGuard, binOp, Op.intCmp]
theorem rEql {t : Nat} {ox oy : Operand} {k : IntKind} {a b : Int} (hk : K (.bool (decide (a = b))) w) : oBin P .eql t ox oy (.int k a) (.int k b) Kp w K := by
  refine rBin_of ?_ hk; simp [eqGuard, binOp, Op.intCmp]; rfl
theorem rNeq {t : Nat} {ox oy : Operand} {k : IntKind} {a b : Int} (hk : K (.bool (decide (a ≠ b))) w) : oBin P .neq t ox oy (.int k a) (.int k b) Kp w K := by
  refine rBin_of ?_ hk; simp [eqGuard, binOp, Op.intCmp, bne]; rfl
theorem rNot {b : Bool} (hk : K (.bool !b) w) : oUn P .not (.bool b) Kp w K := by
  unfold oUn; exact hk

theorem rG1 {run : VK → Prop} (h : run K) : oG true run K w := h
theorem rG0 {run : VK → Prop} (h : K undef w) : oG false run K w := h

theorem rPickT {a b : Value} (hk : K a w) : oPick P (.bool true) a b Kp w K := by unfold oPick; exact hk
theorem rPickF {a b : Value} (hk : K b w) : oPick P (.bool false) a b Kp w K := by unfold oPick; exact hk

theorem sliceInfo_spec {t e sz by_ : Nat} (h : sliceInfo P t = some (e, sz, by_)) : P.underlying t = some (.slice e) ∧ ∃ i, P.info? e = some i ∧ i.size = sz ∧ i.bytes = by_ := by
  unfold sliceInfo at h
  cases hu : P.underlying t with
  | none => rw [hu] at h; cases h
  | some d =>
    rw [hu] at h
    cases d <;> (try (cases h; done))
    case slice e' =>
      cases hi : P.info? e' with
      | none => simp [hi] at h
      | some i => simp [hi] at h; obtain ⟨rfl, h1, h2⟩ := h; exact ⟨rfl, i, hi, h1, h2⟩

theorem rLen {rt t e sz by_ : Nat} {cs : List Bool} [h : SliceT P t e sz by_] {A : Option Addr} {n c : Nat} (hk : K (.int .i64 n) w) : oBI P .len #[t] rt cs [.slice A n c] Kp w K := by
  obtain ⟨hu, _⟩ := sliceInfo_spec h.h
  unfold oBI builtin Builtin.len_
  simp only [List.getElem?_toArray, List.getElem?_cons_zero, Sem.run_bind, run_und hu, Result.andThen_ok]
  exact hk

theorem rIA {t e sz by_ : Nat} [h : SliceT P t e sz by_] {b o n c : Nat} {k : IntKind} {i : Int} (h0 : 0 ≤ i) (h1 : i < n) (hk : K (.pointer (some ⟨b, o + i.toNat * sz, none⟩)) w) :
    oIA P t (.slice (some ⟨b, o, none⟩) n c) (.int k i) Kp w K := by
  obtain ⟨hu, inf, hi, hs, _⟩ := sliceInfo_spec h.h
  unfold oIA
  simp only [NV, Instr.indexAt, asIntOf, Sem.run_bind, Sem.run_pure, Result.andThen_ok, run_und hu, h0, h1, and_self, if_true, run_size hi, hs, add_ad]
  exact hk

/-! ### loops -/
theorem rLoop0 {w : World} {body : Env → (List Value → World → Prop) → World → Prop} (J : World → Prop) (μ : World → Nat) (h0 : J w)
    (hr : ∀ (f : Env) w (ag : List Value → World → Prop), (∀ w', J w' → μ w' < μ w → ag [] w') → J w → body f ag w) : nLoop [] [] w body :=
  ⟨fun _ w => J w, fun _ w => μ w, h0, fun f w h => hr f w _ (fun w' h1 h2 => ⟨h1, h2⟩) h⟩

theorem rLoop1 {s : Nat} {v : Value} {w : World} {body : Env → (List Value → World → Prop) → World → Prop} (J : Value → World → Prop) (μ : Value → World → Nat) (h0 : J v w)
    (hr : ∀ (f : Env) w (ag : List Value → World → Prop), (∀ y w', J y w' → μ y w' < μ (f s) w → ag [y] w') → J (f s) w → body f ag w) : nLoop [s] [v] w body :=
  ⟨fun l w => J (l.getD 0 undef) w, fun l w => μ (l.getD 0 undef) w, h0, fun f w h => hr f w _ (fun y w' h1 h2 => ⟨h1, h2⟩) h⟩

theorem rLoop2 {s t : Nat} {v u : Value} {w : World} {body : Env → (List Value → World → Prop) → World → Prop} (J : Value → Value → World → Prop) (μ : Value → Value → World → Nat) (h0 : J v u w)
    (hr : ∀ (f : Env) w (ag : List Value → World → Prop), (∀ y z w', J y z w' → μ y z w' < μ (f s) (f t) w → ag [y, z] w') → J (f s) (f t) w → body f ag w) : nLoop [s, t] [v, u] w body :=
  ⟨fun l w => J (l.getD 0 undef) (l.getD 1 undef) w, fun l w => μ (l.getD 0 undef) (l.getD 1 undef) w, h0, fun f w h => hr f w _ (fun y z w' h1 h2 => ⟨h1, h2⟩) h⟩

theorem rLoop3 {s t r : Nat} {v u x : Value} {w : World} {body : Env → (List Value → World → Prop) → World → Prop} (J : Value → Value → Value → World → Prop) (μ : Value → Value → Value → World → Nat) (h0 : J v u x w)
    (hr : ∀ (f : Env) w (ag : List Value → World → Prop), (∀ y z q w', J y z q w' → μ y z q w' < μ (f s) (f t) (f r) w → ag [y, z, q] w') → J (f s) (f t) (f r) w → body f ag w) : nLoop [s, t, r] [v, u, x] w body :=
  ⟨fun l w => J (l.getD 0 undef) (l.getD 1 undef) (l.getD 2 undef) w, fun l w => μ (l.getD 0 undef) (l.getD 1 undef) (l.getD 2 undef) w, h0, fun f w h => hr f w _ (fun y z q w' h1 h2 => ⟨h1, h2⟩) h⟩

theorem rLoop4 {s t r q : Nat} {v u x y : Value} {w : World} {body : Env → (List Value → World → Prop) → World → Prop} (J : Value → Value → Value → Value → World → Prop) (μ : Value → Value → Value → Value → World → Nat) (h0 : J v u x y w)
    (hr : ∀ (f : Env) w (ag : List Value → World → Prop), (∀ a b c d w', J a b c d w' → μ a b c d w' < μ (f s) (f t) (f r) (f q) w → ag [a, b, c, d] w') → J (f s) (f t) (f r) (f q) w → body f ag w) : nLoop [s, t, r, q] [v, u, x, y] w body :=
  ⟨fun l w => J (l.getD 0 undef) (l.getD 1 undef) (l.getD 2 undef) (l.getD 3 undef) w, fun l w => μ (l.getD 0 undef) (l.getD 1 undef) (l.getD 2 undef) (l.getD 3 undef) w, h0, fun f w h => hr f w _ (fun a b c d w' h1 h2 => ⟨h1, h2⟩) h⟩

/-! ### worlds -/
/-- the same memory; draws may have been made -/
structure Same (w w' : World) : Prop where
  heap : w'.heap = w.heap
  tape : w'.tape = w.tape
  os : w'.os = w.os
  output : w'.output = w.output
theorem Same.refl (w : World) : Same w w := ⟨rfl, rfl, rfl, rfl⟩
theorem Same.trans {w w1 w2 : World} (h : Same w w1) (h' : Same w1 w2) : Same w w2 :=
  ⟨h'.heap.trans h.heap, h'.tape.trans h.tape, h'.os.trans h.os, h'.output.trans h.output⟩
theorem Same.drew {w w1 : World} (h : Same w w1) : Same w w1.drew := ⟨h.heap, h.tape, h.os, h.output⟩
theorem Same.cell {w w1 : World} (h : Same w w1) (a : Addr) : w1.cell? a = w.cell? a := by
  unfold World.cell?; rw [h.heap]

end rules
end Go.Proofs.YtlbihkgfejgefaaDoor.L

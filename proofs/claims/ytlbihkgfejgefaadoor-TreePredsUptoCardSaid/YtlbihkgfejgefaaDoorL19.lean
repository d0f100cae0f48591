/- Lib 19: tests that part in two; texts indexed; function values called; the table of powers. -/
import Derived.Test.YtlbihkgfejgefaaDoorL18
import Derived.Lib.LaidTab
import Derived.Shelf.Strconv.Itoa3
namespace Go.Proofs.YtlbihkgfejgefaaDoor.L
open Go Go.RowKit
set_option linter.unusedVariables false

section
variable {P : Program} {Kp : PK} {K : VK} {c : World} {I : CM} {F : Hp} {As : List HP} {w : World}

theorem kSplit {p : Prop} [Decidable p] {X : Value → Prop} (h1 : p → X (.bool true)) (h2 : ¬ p → X (.bool false)) : X (.bool (decide p)) := by
  by_cases h : p
  · rw [decide_eq_true h]; exact h1 h
  · rw [decide_eq_false h]; exact h2 h
theorem cLss {t : Nat} {ox oy : Operand} {k : IntKind} {a b : Int} (h1 : a < b → K (.bool true) w) (h2 : ¬ a < b → K (.bool false) w) : oBin P .lss t ox oy (.int k a) (.int k b) Kp w K := rLss (kSplit (X := fun v => K v w) h1 h2)
theorem cLeq {t : Nat} {ox oy : Operand} {k : IntKind} {a b : Int} (h1 : a ≤ b → K (.bool true) w) (h2 : ¬ a ≤ b → K (.bool false) w) : oBin P .leq t ox oy (.int k a) (.int k b) Kp w K := rLeq (kSplit (X := fun v => K v w) h1 h2)
theorem cGtr {t : Nat} {ox oy : Operand} {k : IntKind} {a b : Int} (h1 : b < a → K (.bool true) w) (h2 : ¬ b < a → K (.bool false) w) : oBin P .gtr t ox oy (.int k a) (.int k b) Kp w K := rGtr (kSplit (X := fun v => K v w) h1 h2)
theorem cGeq {t : Nat} {ox oy : Operand} {k : IntKind} {a b : Int} (h1 : b ≤ a → K (.bool true) w) (h2 : ¬ b ≤ a → K (.bool false) w) : oBin P .geq t ox oy (.int k a) (.int k b) Kp w K := rGeq (kSplit (X := fun v => K v w) h1 h2)
theorem cEql {t : Nat} {ox oy : Operand} {k : IntKind} {a b : Int} (h1 : a = b → K (.bool true) w) (h2 : ¬ a = b → K (.bool false) w) : oBin P .eql t ox oy (.int k a) (.int k b) Kp w K := rEql (kSplit (X := fun v => K v w) h1 h2)
theorem cNeq {t : Nat} {ox oy : Operand} {k : IntKind} {a b : Int} (h1 : a ≠ b → K (.bool true) w) (h2 : ¬ a ≠ b → K (.bool false) w) : oBin P .neq t ox oy (.int k a) (.int k b) Kp w K := rNeq (kSplit (X := fun v => K v w) h1 h2)
theorem cEqlS {t : Nat} {ox oy : Operand} {a b : ByteArray} (h1 : a = b → K (.bool true) w) (h2 : ¬ a = b → K (.bool false) w) : oBin P .eql t ox oy (.string a) (.string b) Kp w K := rEqlS (kSplit (X := fun v => K v w) h1 h2)
/-- a truth value, parted -/
theorem cB {X : Value → Prop} (b : Bool) (h1 : b = true → X (.bool true)) (h2 : b = false → X (.bool false)) : X (.bool b) := by cases b; exact h2 rfl; exact h1 rfl
theorem rNotT (hk : K (.bool false) w) : oUn P .not (.bool true) Kp w K := rNot hk
theorem rNotF (hk : K (.bool true) w) : oUn P .not (.bool false) Kp w K := rNot hk

theorem rIXS {t : Nat} [h : StrT P t] {s : ByteArray} {k : IntKind} {i : Int} (h0 : 0 ≤ i) (h1 : i.toNat < s.size) (hk : K (.int .u8 ((s[i.toNat]'h1).toNat : Int)) w) : oIX P t (.string s) (.int k i) Kp w K := by
  obtain ⟨j, rfl⟩ : ∃ j : Nat, i = j := ⟨i.toNat, by omega⟩
  have hj : j < s.size := by simpa using h1
  have hu := strT_spec h.h
  unfold oIX
  have hr : (Instr.index t (.string s) (.int k j)).run P w = .ok (.int .u8 ((s[j]'hj).toNat : Int)) w := by
    have e : s[j]? = some s[j] := by simp [hj]
    simp [Instr.index, asIntOf, run_und hu, run_underlying hu, e]
  simp only [NV, Sem.run_bind, hr, Result.andThen_ok, Sem.run_pure]
  exact hk

theorem rCallF {f : Nat} [h : EntT P f] {pre caps : Array Value} {args : List Value} {R : VK} (hc : Calls P f (pre ++ args.toArray ++ caps) w (callR R noP)) (hk : ∀ v w', R v w' → K v w') : oCallV P (.func (.func f) pre caps) args Kp w K := by
  unfold oCallV
  simp only [Deferred.ofValue, invoke, Sem.run_bind, Sem.run_pure, Result.andThen_ok, h.h]
  simp only [fin]
  exact Calls.mono hc fun e w' he => by
    cases e with
    | returned v => exact hk v w' he
    | panicked c => exact he.elim
    | outgrown => exact he.elim

theorem rAnd8 {t : Nat} {ox oy : Operand} {x y : UInt8} (hk : K (.int .u8 ((x &&& y).toNat : Int)) w) : oBin P .and t ox oy (.int .u8 (x.toNat : Int)) (.int .u8 (y.toNat : Int)) Kp w K := by
  refine rBin_of ?_ hk
  have e : IntKind.u8.wrap ((BitVec.ofInt 8 (x.toNat : Int) &&& BitVec.ofInt 8 (y.toNat : Int)).toNat : Int) = ((x &&& y).toNat : Int) := by
    have h1 : BitVec.ofInt 8 (x.toNat : Int) = x.toBitVec := by apply BitVec.eq_of_toNat_eq; simp
    have h2 : BitVec.ofInt 8 (y.toNat : Int) = y.toBitVec := by apply BitVec.eq_of_toNat_eq; simp
    rw [h1, h2]
    have h3 : (x.toBitVec &&& y.toBitVec).toNat = (x &&& y).toNat := rfl
    rw [h3]
    have := (x &&& y).toNat_lt
    generalize (x &&& y).toNat = m at this ⊢
    simp [IntKind.wrap, IntKind.bits, IntKind.signed]; omega
  simp only [eqGuard, binOp, Op.intBits, Sem.run_bind, Sem.run_pure, Bool.not_true, Bool.not_false, if_true, Result.andThen_ok, ne_eq, not_true_eq_false, if_false]
  rw [← e]; rfl

/-- a table of the library's, in the frame -/
def TabF (P : Program) (name : String) (k : IntKind) (zs : List Int) (F : Hp) : Prop := ∃ g E fr, P.globalNamed name = some g ∧ F g = some (.cells (zs.map fun z => Value.int k z).toArray E fr)
theorem TabF.mono {name : String} {k : IntKind} {zs : List Int} {F F' : Hp} (h : TabF P name k zs F) (hF : ∀ b x, F b = some x → F' b = some x) : TabF P name k zs F' := by
  obtain ⟨g, E, fr, h1, h2⟩ := h; exact ⟨g, E, fr, h1, hF _ _ h2⟩
theorem TabF.is {name : String} {k : IntKind} {zs : List Int} (h : TabF P name k zs F) (hs : St c I F As w) : Lib.TabIs P w name k zs := by
  obtain ⟨g, E, fr, h1, h2⟩ := h
  have := hs.frame g _ h2
  simp [Lib.TabIs, World.var?, h1, this]
theorem TabF.of {name : String} {k : IntKind} {zs : List Int} (h : Lib.TabIs P w name k zs) (hF : ∀ b x, w.heap[b]? = some x → F b = some x) : TabF P name k zs F := by
  unfold Lib.TabIs World.var? at h
  obtain ⟨g, h1, h2⟩ := Option.bind_eq_some_iff.1 h
  cases hg : w.heap[g]? with
  | none => simp [hg] at h2
  | some x =>
    cases x <;> simp [hg] at h2
    case cells cs E fr => subst h2; exact ⟨g, E, fr, h1, hF _ _ hg⟩

theorem Mod.growN (w : World) (k : Nat) (os : Array Obj) : Mod [] w (Go.Sort.grow (w.drewN k) os) := by
  refine ⟨rfl, rfl, rfl, by simp [Go.Sort.grow, World.drewN], fun i hi _ => ?_⟩
  simp [Go.Sort.grow, World.drewN, Array.getElem?_append_left, hi]
end
end Go.Proofs.YtlbihkgfejgefaaDoor.L
